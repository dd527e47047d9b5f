/- glosslaw1.MarkTexts: in whatever memory, at whatever order, whatever is handed in: it returns true. No condition: what the row lists is not read. -/
import Derived.Test.YtpoegfkajdbplaaMg
import Derived.Test.YtpoegfkajdbplaaRows
import Derived.ProofKit
import Derived.OpenShut
import Derived.LaidMore
import Derived.ChangeOld
import Derived.Lay
import Derived.SevenTiedAt
import Derived.Stop.Joined
namespace Go.Proofs.Ytpoegfkajdbplaa.markTexts
open Go.ChangeShapes Go.WideShapes Go.ChangeAt Go.RowKit Go.Dm Go.Dm.Sx
set_option linter.unusedVariables false
set_option linter.unusedSimpArgs false
theorem walk {w : World} {args : List Value} {xs : List V} (hv : VReps (ghost0 w) w [] xs args) (hf : ArgsF Try.prog 400 Try.f3.params.toList xs) : Calls Try.prog 3 args.toArray w fun e w' => e = .returned (.bool true) ∧ Below w.heap.size w w' := by
  rw [Try.params3] at hf
  obtain ⟨x, hx⟩ := argsM_ok (U := Un) (ins := [.ty (.list .str), .ty .str]) (by kernel_rfl) hf
  refine law_true (f := 3) (fn := Try.f3) (c := Try.f3.body.get (by rfl)) Try.func3 rfl rfl (((mtexts_ok x xs hx trivial []).mono fun r σ' h => ?_)) hv
  obtain ⟨⟨vs, ⟨v, vr, rfl, hd, rfl⟩, rfl⟩, _⟩ := h
  obtain ⟨f, rfl, h1⟩ := hd
  rw [FD.bool h1]
theorem own : ownKnob Try.prog.godebug = none := by kernel_rfl
set_option maxRecDepth 100000 in
theorem lifted (os : Os) (started : os.Started) (H : Type) (enc : TypeId × Value → H) :
    ReturnsInHanded {} Try.checked os 3 .any (Rows.markTextsSpec.pre6 enc Try.prog Try.f3 Rows.markTextsRow.domain false) (Rows.markTextsSpec.post enc Try.prog Try.f3 false true false false) := by
  refine returnsInHanded_of_change (C := Try.checked) own started (by kernel_rfl) Try.func3
    (ChangeSpec.witness6 (enc := enc) (C := Try.checked) false ⟨#[], #[Value.slice none 0 0, Value.string ⟨#[]⟩], []⟩ 8 (by kernel_rfl) (by kernel_rfl) (by kernel_rfl) (by kernel_rfl)) ?_
  intro W base args ds gs before hval0 hW hcnd _
  have hval : ∀ (j : Nat) t v, Try.f3.params[j]? = some t → args[j]? = some v → Value.okWide Try.prog W .any base t v := hval0
  have hW' := hW
  obtain ⟨p, q, hA0, hV, rfl, hfz, hnd⟩ := hW
  have hA : DataW.TrodAll enc Try.prog W 0 (fun _ => true) true Try.f3.params.toList args.toList ds p := hA0
  obtain ⟨xs, hx, hf⟩ := args_in (n := 400) (by rw [Try.params3]; kernel_rfl) (fun j t v h1 h2 => hval j t v (by simpa using h1) (by simpa using h2)) hA
  obtain ⟨rfl, rfl⟩ := trodVars_none hV
  have hA1 := hA
  rw [Try.params3] at hA1
  obtain ⟨d1, d2, rfl⟩ : ∃ d1 d2, ds = [d1, d2] := by
    obtain ⟨_, _, _, ds1, _, _, _, e1, _, _, hA1⟩ := trodAll_cons hA1
    obtain ⟨_, _, _, ds2, _, _, _, e2, _, _, hA1⟩ := trodAll_cons hA1
    obtain ⟨_, e3, _⟩ := trodAll_nil hA1
    exact ⟨_, _, by rw [e1]; rw [e2]; rw [e3]⟩
  simp only [List.append_nil] at hW'
  have hwalk := walk hx hf
  rw [Array.toArray_toList] at hwalk
  refine hwalk.mono fun e W' ⟨he, hg⟩ => ?_
  subst he
  exact ⟨_, rfl, ⟨_, _, _, [], p, [], hW', trodAll_cons_mk (shut_bool Try.underlying4 _) trodAll_mk0, args_out (by kernel_rfl) hg (by rw [Try.params3]; kernel_rfl) hA hA.lt, rfl, hg.frame _, fun h => by cases h⟩⟩
set_option maxHeartbeats 4000000 in
theorem over : Rows.markTextsRow.holds Try.pinned (OpenSpec.ofChange Rows.markTextsSpec) :=
  OpenClaim.holds_of_wide 3 Try.f3 rfl rfl rfl rfl rfl rfl rfl ⟨rfl, rfl, rfl, rfl, rfl⟩ rfl rfl rfl rfl rfl (by as_aux_lemma => kernel_rfl) Try.func3 (by as_aux_lemma => kernel_rfl)
    (of_decide_eq_true (by as_aux_lemma => kernel_rfl)) (by unfold Func.isWrapper; first | (rw [if_pos (by decide +kernel)]; kernel_rfl) | (rw [if_neg (by decide +kernel)]; exact ⟨rfl, rfl⟩))
    (fun os started H enc _ => lifted os started H enc)
theorem proved : Rows.MarkTextsSaid := over
end Go.Proofs.Ytpoegfkajdbplaa.markTexts
