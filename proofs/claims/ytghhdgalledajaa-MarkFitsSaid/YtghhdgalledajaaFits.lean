/- glosslaw1.MarkFits: for every six numbers and every text, in whatever memory: it returns true. No condition. -/
import Derived.Test.YtghhdgalledajaaFitsA
import Derived.Test.YtghhdgalledajaaFitsB1
import Derived.Test.YtghhdgalledajaaFitsB2
import Derived.Test.YtghhdgalledajaaFitsB3
import Derived.Test.YtghhdgalledajaaFitsC1
import Derived.Test.YtghhdgalledajaaFitsC2
import Derived.Test.YtghhdgalledajaaFitsC3
import Derived.Test.YtghhdgalledajaaRows
import Derived.ProofKit
import Derived.OpenShut
import Derived.ShutString
namespace Go.Proofs.Ytghhdgalledajaa.markFits
open Go.ChangeShapes Go.WideShapes Go.ChangeAt Go.RowKit
open Go.ChangeMaps (open_string shut_string)
open markTells (within_bd)
set_option linter.unusedVariables false
set_option linter.unusedSimpArgs false

theorem wf_bd {a : Int} (w : (Lit.int .i64 a).wf = true) : -9223372036854775808 ≤ a ∧ a ≤ 9223372036854775807 := by
  simp only [Lit.wf] at w
  rw [show IntKind.i64.min = -9223372036854775808 from rfl, show IntKind.i64.max = 9223372036854775807 from rfl] at w
  simpa using w

theorem walk (a0 : Int) (a1 : Int) (a2 : Int) (a3 : Int) (a4 : Int) (a5 : Int) (t : ByteArray) (w0 : (Lit.int .i64 a0).wf = true) (w1 : (Lit.int .i64 a1).wf = true) (w2 : (Lit.int .i64 a2).wf = true) (w3 : (Lit.int .i64 a3).wf = true) (w4 : (Lit.int .i64 a4).wf = true) (w5 : (Lit.int .i64 a5).wf = true) (w6 : t.size ≤ maxLen) (w : World) :
    Calls Try.prog 7 #[.int .i64 a0, .int .i64 a1, .int .i64 a2, .int .i64 a3, .int .i64 a4, .int .i64 a5, .string t] w fun e w' => e = .returned (.bool true) ∧ Grown w w' := by
  have hz : t.size ≤ 9223372036854775807 := by unfold maxLen at w6; omega
  have b0 := within_bd a0 0 50 (by decide)
  have W0 := Lib.hid (fun w => within_any a0 0 50 (wf_bd w0) (by decide) w)
  have b1 := within_bd a1 0 50 (by decide)
  have W1 := Lib.hid (fun w => within_any a1 0 50 (wf_bd w1) (by decide) w)
  have b2 := within_bd a2 0 50 (by decide)
  have W2 := Lib.hid (fun w => within_any a2 0 50 (wf_bd w2) (by decide) w)
  have b3 := within_bd a3 0 50 (by decide)
  have W3 := Lib.hid (fun w => within_any a3 0 50 (wf_bd w3) (by decide) w)
  have b4 := within_bd a4 0 50 (by decide)
  have W4 := Lib.hid (fun w => within_any a4 0 50 (wf_bd w4) (by decide) w)
  have b5 := within_bd a5 0 50 (by decide)
  have W5 := Lib.hid (fun w => within_any a5 0 50 (wf_bd w5) (by decide) w)
  generalize within a0 0 50 = x0 at *
  generalize within a1 0 50 = x1 at *
  generalize within a2 0 50 = x2 at *
  generalize within a3 0 50 = x3 at *
  generalize within a4 0 50 = x4 at *
  generalize within a5 0 50 = x5 at *
  by_cases hA : x0 ≤ x2 ∧ x1 ≤ x3
  case neg =>
    rcases Nat.lt_or_ge 20 t.size with hs | hs
    · exact coreAS a0 a1 a2 a3 a4 a5 _ _ _ _ _ _ t ByteArray.empty w b0.1 b0.2 b1.1 b1.2 b2.1 b2.2 b3.1 b3.2 b4.1 b4.2 b5.1 b5.2 W0 W1 W2 W3 W4 W5 hs hz hA
    · exact coreAT a0 a1 a2 a3 a4 a5 _ _ _ _ _ _ t ByteArray.empty w b0.1 b0.2 b1.1 b1.2 b2.1 b2.2 b3.1 b3.2 b4.1 b4.2 b5.1 b5.2 W0 W1 W2 W3 W4 W5 hs hz hA
  case pos =>
    have ho : (x0 < x2 ∧ x1 ≤ x3) ∨ (x0 = x2 ∧ x1 < x3) ∨ (x0 = x2 ∧ x1 = x3) := by omega
    by_cases hB : x2 ≤ x4 ∧ x3 ≤ x5
    · rcases ho with ho | ho | ho
      · rcases Nat.lt_or_ge 20 t.size with hs | hs
        · exact coreC1S a0 a1 a2 a3 a4 a5 _ _ _ _ _ _ t ByteArray.empty w b0.1 b0.2 b1.1 b1.2 b2.1 b2.2 b3.1 b3.2 b4.1 b4.2 b5.1 b5.2 W0 W1 W2 W3 W4 W5 hs hz ⟨ho.1, ho.2, hB⟩
        · exact coreC1T a0 a1 a2 a3 a4 a5 _ _ _ _ _ _ t ByteArray.empty w b0.1 b0.2 b1.1 b1.2 b2.1 b2.2 b3.1 b3.2 b4.1 b4.2 b5.1 b5.2 W0 W1 W2 W3 W4 W5 hs hz ⟨ho.1, ho.2, hB⟩
      · rcases Nat.lt_or_ge 20 t.size with hs | hs
        · exact coreC2S a0 a1 a2 a3 a4 a5 _ _ _ _ _ _ t ByteArray.empty w b0.1 b0.2 b1.1 b1.2 b2.1 b2.2 b3.1 b3.2 b4.1 b4.2 b5.1 b5.2 W0 W1 W2 W3 W4 W5 hs hz ⟨ho.1, ho.2, hB⟩
        · exact coreC2T a0 a1 a2 a3 a4 a5 _ _ _ _ _ _ t ByteArray.empty w b0.1 b0.2 b1.1 b1.2 b2.1 b2.2 b3.1 b3.2 b4.1 b4.2 b5.1 b5.2 W0 W1 W2 W3 W4 W5 hs hz ⟨ho.1, ho.2, hB⟩
      · rcases Nat.lt_or_ge 20 t.size with hs | hs
        · exact coreC3S a0 a1 a2 a3 a4 a5 _ _ _ _ _ _ t ByteArray.empty w b0.1 b0.2 b1.1 b1.2 b2.1 b2.2 b3.1 b3.2 b4.1 b4.2 b5.1 b5.2 W0 W1 W2 W3 W4 W5 hs hz ⟨ho.1, ho.2, hB⟩
        · exact coreC3T a0 a1 a2 a3 a4 a5 _ _ _ _ _ _ t ByteArray.empty w b0.1 b0.2 b1.1 b1.2 b2.1 b2.2 b3.1 b3.2 b4.1 b4.2 b5.1 b5.2 W0 W1 W2 W3 W4 W5 hs hz ⟨ho.1, ho.2, hB⟩
    · rcases ho with ho | ho | ho
      · rcases Nat.lt_or_ge 20 t.size with hs | hs
        · exact coreB1S a0 a1 a2 a3 a4 a5 _ _ _ _ _ _ t ByteArray.empty w b0.1 b0.2 b1.1 b1.2 b2.1 b2.2 b3.1 b3.2 b4.1 b4.2 b5.1 b5.2 W0 W1 W2 W3 W4 W5 hs hz ⟨ho.1, ho.2, hB⟩
        · exact coreB1T a0 a1 a2 a3 a4 a5 _ _ _ _ _ _ t ByteArray.empty w b0.1 b0.2 b1.1 b1.2 b2.1 b2.2 b3.1 b3.2 b4.1 b4.2 b5.1 b5.2 W0 W1 W2 W3 W4 W5 hs hz ⟨ho.1, ho.2, hB⟩
      · rcases Nat.lt_or_ge 20 t.size with hs | hs
        · exact coreB2S a0 a1 a2 a3 a4 a5 _ _ _ _ _ _ t ByteArray.empty w b0.1 b0.2 b1.1 b1.2 b2.1 b2.2 b3.1 b3.2 b4.1 b4.2 b5.1 b5.2 W0 W1 W2 W3 W4 W5 hs hz ⟨ho.1, ho.2, hB⟩
        · exact coreB2T a0 a1 a2 a3 a4 a5 _ _ _ _ _ _ t ByteArray.empty w b0.1 b0.2 b1.1 b1.2 b2.1 b2.2 b3.1 b3.2 b4.1 b4.2 b5.1 b5.2 W0 W1 W2 W3 W4 W5 hs hz ⟨ho.1, ho.2, hB⟩
      · rcases Nat.lt_or_ge 20 t.size with hs | hs
        · exact coreB3S a0 a1 a2 a3 a4 a5 _ _ _ _ _ _ t ByteArray.empty w b0.1 b0.2 b1.1 b1.2 b2.1 b2.2 b3.1 b3.2 b4.1 b4.2 b5.1 b5.2 W0 W1 W2 W3 W4 W5 hs hz ⟨ho.1, ho.2, hB⟩
        · exact coreB3T a0 a1 a2 a3 a4 a5 _ _ _ _ _ _ t ByteArray.empty w b0.1 b0.2 b1.1 b1.2 b2.1 b2.2 b3.1 b3.2 b4.1 b4.2 b5.1 b5.2 W0 W1 W2 W3 W4 W5 hs hz ⟨ho.1, ho.2, hB⟩
theorem own : ownKnob Try.prog.godebug = none := by kernel_rfl

/-! ### THE ROW's STEP: WRITTEN OUT: LEAVE IT -/
set_option maxRecDepth 100000 in
theorem lifted (os : Os) (started : os.Started) (H : Type) (enc : TypeId × Value → H) :
    ReturnsInHanded {} Try.checked os 7 .any (Rows.markFitsSpec.pre6 enc Try.prog Try.f7 Rows.markFitsRow.domain false) (Rows.markFitsSpec.post enc Try.prog Try.f7 false true false false) := by
  refine returnsInHanded_of_change (C := Try.checked) own started (by kernel_rfl) Try.func7
    (ChangeSpec.witness6 (enc := enc) (C := Try.checked) false ⟨#[], #[.int .i64 0, .int .i64 0, .int .i64 0, .int .i64 0, .int .i64 0, .int .i64 0, .string ByteArray.empty], []⟩ 8 (by kernel_rfl) (by kernel_rfl) (by kernel_rfl) (by kernel_rfl)) ?_
  intro W base args ds gs before hval0 hW hcnd _
  have hval : ∀ (j : Nat) t v, Try.f7.params[j]? = some t → args[j]? = some v → Value.okWide Try.prog W .any base t v := hval0
  have hW' := hW
  obtain ⟨p, q, hA0, hV, rfl, hfz, hnd⟩ := hW
  have hA : DataW.TrodAll enc Try.prog W 0 (fun _ => true) true Try.f7.params.toList args.toList ds p := hA0
  rw [Try.params7] at hA hval
  obtain ⟨v0, vs0, d0, ds0, p0, q0, hargs, rfl, rfl, h0, r0⟩ := trodAll_cons hA
  obtain ⟨v1, vs1, d1, ds1, p1, q1, rfl, rfl, rfl, h1, r1⟩ := trodAll_cons r0
  obtain ⟨v2, vs2, d2, ds2, p2, q2, rfl, rfl, rfl, h2, r2⟩ := trodAll_cons r1
  obtain ⟨v3, vs3, d3, ds3, p3, q3, rfl, rfl, rfl, h3, r3⟩ := trodAll_cons r2
  obtain ⟨v4, vs4, d4, ds4, p4, q4, rfl, rfl, rfl, h4, r4⟩ := trodAll_cons r3
  obtain ⟨v5, vs5, d5, ds5, p5, q5, rfl, rfl, rfl, h5, r5⟩ := trodAll_cons r4
  obtain ⟨v6, vs6, d6, ds6, p6, q6, rfl, rfl, rfl, h6, r6⟩ := trodAll_cons r5
  obtain ⟨rfl, rfl, rfl⟩ := trodAll_nil r6
  obtain rfl : args = #[v0, v1, v2, v3, v4, v5, v6] := by cases args; simp_all
  obtain ⟨rfl, rfl⟩ := trodVars_none hV
  obtain ⟨a0, rfl, rfl, rfl, w0⟩ := open_int Try.underlying3 (hval 0 3 v0 rfl rfl) h0
  obtain ⟨a1, rfl, rfl, rfl, w1⟩ := open_int Try.underlying3 (hval 1 3 v1 rfl rfl) h1
  obtain ⟨a2, rfl, rfl, rfl, w2⟩ := open_int Try.underlying3 (hval 2 3 v2 rfl rfl) h2
  obtain ⟨a3, rfl, rfl, rfl, w3⟩ := open_int Try.underlying3 (hval 3 3 v3 rfl rfl) h3
  obtain ⟨a4, rfl, rfl, rfl, w4⟩ := open_int Try.underlying3 (hval 4 3 v4 rfl rfl) h4
  obtain ⟨a5, rfl, rfl, rfl, w5⟩ := open_int Try.underlying3 (hval 5 3 v5 rfl rfl) h5
  obtain ⟨a6, rfl, rfl, rfl, w6⟩ := open_string Try.underlying9 (hval 6 9 v6 rfl rfl) h6
  clear hA0 hval0
  simp only [List.append_nil] at hW'
  refine (walk a0 a1 a2 a3 a4 a5 a6 w0 w1 w2 w3 w4 w5 w6 W).mono fun e W' ⟨he, hg⟩ => ?_
  subst he
  exact ⟨_, rfl, post_of_same (pa := []) (pv := []) hW' (fun _ _ _ => (trodAll_cons_mk (shut_bool Try.underlying4 _) trodAll_mk0)) (fun sp _ => (trodAll_cons_mk (shut_int Try.underlying3 w0) (trodAll_cons_mk (shut_int Try.underlying3 w1) (trodAll_cons_mk (shut_int Try.underlying3 w2) (trodAll_cons_mk (shut_int Try.underlying3 w3) (trodAll_cons_mk (shut_int Try.underlying3 w4) (trodAll_cons_mk (shut_int Try.underlying3 w5) (trodAll_cons_mk (shut_string Try.underlying9 w6) trodAll_mk0)))))))) (fun _ _ => rfl) rfl
    (hg.frame _) hg.2.1 (ok_one (by kernel_rfl) rfl (okWide_bool_mk Try.underlying4 _))⟩

theorem over : Rows.markFitsRow.holds Try.pinned (OpenSpec.ofChange Rows.markFitsSpec) :=
  OpenClaim.holds_of_wide 7 Try.f7 rfl rfl rfl rfl rfl rfl rfl ⟨rfl, rfl, rfl, rfl, rfl⟩ rfl rfl rfl rfl rfl (by kernel_rfl) Try.func7 (by kernel_rfl)
    (of_decide_eq_true (by kernel_rfl)) (by unfold Func.isWrapper; first | (rw [if_pos (by decide +kernel)]; kernel_rfl) | (rw [if_neg (by decide +kernel)]; exact ⟨rfl, rfl⟩))
    (fun os started H enc _ => lifted os started H enc)

/-- ████ THE STATEMENT ████ -/
theorem proved : Rows.MarkFitsSaid :=
  over
end Go.Proofs.Ytghhdgalledajaa.markFits
