/- glosslaw12.PickLines: in whatever memory, at whatever order, whatever is handed in: it returns true. No condition: what the row lists is not read. -/
import Derived.Test.YtpoegfkajdbplaaMk
import Derived.Test.YtpoegfkajdbplaaMg
import Derived.Test.YtpoegfkajdbplaaRows
import Derived.ProofKit
import Derived.OpenShut
import Derived.LaidMore
import Derived.ChangeOld
import Derived.Lay
import Derived.SevenTiedAt
import Derived.Stop.Joined
namespace Go.Proofs.Ytpoegfkajdbplaa.pickLines
open Go.ChangeShapes Go.WideShapes Go.ChangeAt Go.RowKit Go.Dm Go.Dm.Sx
set_option linter.unusedVariables false
set_option linter.unusedSimpArgs false

theorem walk {w : World} {args : List Value} {xs : List V} (hv : VReps (ghost0 w) w [] xs args) (hf : ArgsF Try.prog 400 Try.f10.params.toList xs) : Calls Try.prog 10 args.toArray w fun e w' => e = .returned (.bool true) ∧ Below w.heap.size w w' := by
  rw [Try.params10] at hf
  obtain ⟨x, hx⟩ := argsM_ok (U := Un) (ins := [.ty (.int .i64), .ty (.int .i64), .ty (.int .i64), .ty .bool]) (by kernel_rfl) hf
  refine law_true (f := 10) (fn := Try.f10) (c := Try.f10.body.get (by rfl)) Try.func10 rfl rfl (((plines_all x xs hx trivial []).mono fun r σ' h => ?_)) hv
  obtain ⟨⟨vs, ⟨v, vr, rfl, hd, rfl⟩, rfl⟩, _⟩ := h
  obtain ⟨f, rfl, h1⟩ := hd
  rw [FD.bool h1]

theorem own : ownKnob Try.prog.godebug = none := by kernel_rfl

set_option maxRecDepth 100000 in
theorem lifted (os : Os) (started : os.Started) (H : Type) (enc : TypeId × Value → H) :
    ReturnsInHanded {} Try.checked os 10 .any (Rows.pickLinesSpec.pre6 enc Try.prog Try.f10 Rows.pickLinesRow.domain false) (Rows.pickLinesSpec.post enc Try.prog Try.f10 false true false false) := by
  refine returnsInHanded_of_change (C := Try.checked) own started (by kernel_rfl) Try.func10
    (ChangeSpec.witness6 (enc := enc) (C := Try.checked) false ⟨#[], #[.int .i64 0, .int .i64 0, .int .i64 0, .bool false], []⟩ 8 (by kernel_rfl) (by kernel_rfl) (by kernel_rfl) (by kernel_rfl)) ?_
  intro W base args ds gs before hval0 hW hcnd _
  have hval : ∀ (j : Nat) t v, Try.f10.params[j]? = some t → args[j]? = some v → Value.okWide Try.prog W .any base t v := hval0
  have hW' := hW
  obtain ⟨p, q, hA0, hV, rfl, hfz, hnd⟩ := hW
  have hA : DataW.TrodAll enc Try.prog W 0 (fun _ => true) true Try.f10.params.toList args.toList ds p := hA0
  obtain ⟨xs, hx, hf⟩ := args_in (n := 400) (by rw [Try.params10]; kernel_rfl) (fun j t v h1 h2 => hval j t v (by simpa using h1) (by simpa using h2)) hA
  obtain ⟨rfl, rfl⟩ := trodVars_none hV
  have hA1 := hA
  rw [Try.params10] at hA1
  obtain ⟨d1, d2, d3, d4, rfl⟩ : ∃ d1 d2 d3 d4, ds = [d1, d2, d3, d4] := by
    obtain ⟨_, _, _, ds1, _, _, _, e1, _, _, hA1⟩ := trodAll_cons hA1
    obtain ⟨_, _, _, ds2, _, _, _, e2, _, _, hA1⟩ := trodAll_cons hA1
    obtain ⟨_, _, _, ds3, _, _, _, e3, _, _, hA1⟩ := trodAll_cons hA1
    obtain ⟨_, _, _, ds4, _, _, _, e4, _, _, hA1⟩ := trodAll_cons hA1
    obtain ⟨_, e5, _⟩ := trodAll_nil hA1
    exact ⟨_, _, _, _, by rw [e1]; rw [e2]; rw [e3]; rw [e4]; rw [e5]⟩
  simp only [List.append_nil] at hW'
  have hwalk := walk hx hf
  rw [Array.toArray_toList] at hwalk
  refine hwalk.mono fun e W' ⟨he, hg⟩ => ?_
  subst he

  exact ⟨_, rfl, ⟨_, _, _, [], p, [], hW', trodAll_cons_mk (shut_bool Try.underlying4 _) trodAll_mk0, args_out (by kernel_rfl) hg (by rw [Try.params10]; kernel_rfl) hA hA.lt, rfl, hg.frame _, fun h => by cases h⟩⟩

set_option maxHeartbeats 4000000 in
theorem over : Rows.pickLinesRow.holds Try.pinned (OpenSpec.ofChange Rows.pickLinesSpec) :=
  OpenClaim.holds_of_wide 10 Try.f10 rfl rfl rfl rfl rfl rfl rfl ⟨rfl, rfl, rfl, rfl, rfl⟩ rfl rfl rfl rfl rfl (by as_aux_lemma => kernel_rfl) Try.func10 (by as_aux_lemma => kernel_rfl)
    (of_decide_eq_true (by as_aux_lemma => kernel_rfl)) (by unfold Func.isWrapper; first | (rw [if_pos (by decide +kernel)]; kernel_rfl) | (rw [if_neg (by decide +kernel)]; exact ⟨rfl, rfl⟩))
    (fun os started H enc _ => lifted os started H enc)

/-- ████ THE STATEMENT ████ -/
theorem proved : Rows.PickLinesSaid := over
end Go.Proofs.Ytpoegfkajdbplaa.pickLines
