/- glosslaw16.EditMany: in whatever memory, at whatever order, whatever is handed in: it returns true. No condition: what the row lists is not read. -/
import Derived.Test.YtpoegfkajdbplaaDoorMh
import Derived.Test.YtpoegfkajdbplaaDoorRows
import Derived.Test.YtpoegfkajdbplaaDoorCards
import Derived.Test.YtpoegfkajdbplaaDoorTie
import Derived.ProofKit
import Derived.OpenShut
import Derived.LaidMore
import Derived.ChangeOld
import Derived.Lay
import Derived.SevenTiedAt
import Derived.Stop.Joined
namespace Go.Proofs.YtpoegfkajdbplaaDoor.editMany
open Go.ChangeShapes Go.WideShapes Go.ChangeAt Go.RowKit Go.Dm Go.Dm.Sx
set_option linter.unusedVariables false
set_option linter.unusedSimpArgs false
theorem walk {w : World} {args : List Value} {xs : List V} (hv : VReps (ghost0 w) w [] xs args) (hf : ArgsF Tryd.prog 400 Tryd.f5.params.toList xs) : Calls Tryd.prog 5 args.toArray w fun e w' => e = .returned (.bool true) ∧ Below w.heap.size w w' := by
  rw [Tryd.params5] at hf
  obtain ⟨x, hx⟩ := argsM_ok (U := Un) (ins := [.ty (.list (.list oI)), .ty (.list (.base 1)), .ty .str, .ty oI]) (by kernel_rfl) hf
  refine law_true (f := 5) (fn := Tryd.f5) (c := Tryd.f5.body.get (by rfl)) Tryd.func5 rfl rfl (((many_ok x xs hx trivial []).mono fun r σ' h => ?_)) hv
  obtain ⟨⟨vs, ⟨v, vr, rfl, hd, rfl⟩, rfl⟩, _⟩ := h
  obtain ⟨f, rfl, h1⟩ := hd
  rw [FD.bool h1]
theorem own : ownKnob Tryd.prog.godebug = none := by kernel_rfl
set_option maxRecDepth 100000 in
theorem lifted (os : Os) (started : os.Started) (H : Type) (enc : TypeId × Value → H) :
    ReturnsInHanded {} Tryd.checked os 5 .any (fun w args => (Rows.editManySpec.pre enc Tryd.prog Tryd.f5 [] false w args ∧ laidMetH Tryd.prog Rows.editManyRow.laid w) ∧ sizedMet enc Tryd.prog Tryd.f5 (OpenSpec.ofChange Rows.editManySpec) false w args)
      (Rows.editManySpec.post enc Tryd.prog Tryd.f5 false true false false) := by
  refine returnsInHanded_of_change_and (C := Tryd.checked) (X := fun w _ => laidMetH Tryd.prog Rows.editManyRow.laid w) (fun _ _ _ hh h => h.of_heap hh) own started (by kernel_rfl) Tryd.func5
    (ChangeSpec.witness_shaped (enc := enc) (C := Tryd.checked) (os := os) (X := fun w _ => laidMetH Tryd.prog Rows.editManyRow.laid w) false (World.laidAll Tryd.prog os Rows.editManyRow.laid) #[.slice none 0 0, .slice none 0 0, .string ⟨#[]⟩, .int .i64 0] 8 (World.laidAll_os _ _ _)
      (World.shaped_of_ZipB (by kernel_rfl) (by kernel_rfl)) (by kernel_rfl) (by kernel_rfl) (by kernel_rfl)
      (by rw [MakeChecks.laidMetH_plain _ _ _ (by kernel_rfl)]; exact laidMet_laidAll _ (by kernel_rfl) (by kernel_rfl))) ?_
  intro W base args ds gs before hval0 hW _ _ hL _
  have hval : ∀ (j : Nat) t v, Tryd.f5.params[j]? = some t → args[j]? = some v → Value.okWide Tryd.prog W .any base t v := hval0
  have hW' := hW
  obtain ⟨p, q, hA0, hV, rfl, hfz, hnd⟩ := hW
  have hA : DataW.TrodAll enc Tryd.prog W 0 (fun _ => true) true Tryd.f5.params.toList args.toList ds p := hA0
  obtain ⟨xs, hx, hf⟩ := args_in (n := 400) (by rw [Tryd.params5]; kernel_rfl) (fun j t v h1 h2 => hval j t v (by simpa using h1) (by simpa using h2)) hA
  obtain ⟨rfl, rfl⟩ := trodVars_none hV
  have hA1 := hA
  rw [Tryd.params5] at hA1
  obtain ⟨d1, d2, d3, d4, rfl⟩ : ∃ d1 d2 d3 d4, ds = [d1, d2, d3, d4] := by
    obtain ⟨_, _, _, ds1, _, _, _, e1, _, _, hA1⟩ := trodAll_cons hA1
    obtain ⟨_, _, _, ds2, _, _, _, e2, _, _, hA1⟩ := trodAll_cons hA1
    obtain ⟨_, _, _, ds3, _, _, _, e3, _, _, hA1⟩ := trodAll_cons hA1
    obtain ⟨_, _, _, ds4, _, _, _, e4, _, _, hA1⟩ := trodAll_cons hA1
    obtain ⟨_, e5, _⟩ := trodAll_nil hA1
    exact ⟨_, _, _, _, by rw [e1]; rw [e2]; rw [e3]; rw [e4]; rw [e5]⟩
  simp only [List.append_nil] at hW'
  have hwalk := walk hx hf
  rw [Array.toArray_toList] at hwalk
  refine hwalk.mono fun e W' ⟨he, hg⟩ => ?_
  subst he
  exact ⟨_, rfl, ⟨_, _, _, [], p, [], hW', trodAll_cons_mk (shut_bool Tryd.underlying4 _) trodAll_mk0, args_out (by kernel_rfl) hg (by rw [Tryd.params5]; kernel_rfl) hA hA.lt, rfl, hg.frame _, fun h => by cases h⟩⟩
set_option maxHeartbeats 4000000 in
theorem over : Rows.editManyRow.holds Tryd.pinned (OpenSpec.ofChange Rows.editManySpec) :=
  OpenClaim.holds_of_wide 5 Tryd.f5 rfl rfl rfl rfl rfl rfl rfl ⟨rfl, rfl, rfl, rfl, rfl⟩ rfl rfl rfl rfl rfl (by as_aux_lemma => kernel_rfl) Tryd.func5 (by as_aux_lemma => kernel_rfl)
    (of_decide_eq_true (by as_aux_lemma => kernel_rfl)) (by unfold Func.isWrapper; first | (rw [if_pos (by decide +kernel)]; kernel_rfl) | (rw [if_neg (by decide +kernel)]; exact ⟨rfl, rfl⟩))
    (fun os started H enc _ => lifted os started H enc)
theorem proved : Rows.EditManyCardSaid :=
  Claim7.holds_tied_plain_at .later [] [.data, .pinned] true (true, "92cf880a7773a7b95158c529ee79018231491539e86fff47c2f964316b174078") false
    over (fun _ h => by cases h) (by kernel_rfl) (fun _ h => by cases h) editMany_row_tie rfl ⟨rfl, rfl⟩ (by kernel_rfl) rfl
    (fun f fn hf hfn => by
      obtain rfl : f = 5 := Option.some.inj ((show Tryd.prog.funcNamed "gloss/glosslaw16.EditMany" = some 5 by kernel_rfl).symm.trans hf) |>.symm
      obtain rfl : fn = Tryd.f5 := (Option.some.inj (Tryd.func5.symm.trans hfn)).symm
      exact ⟨by kernel_rfl, fun j t ht => by
        have hall : Tryd.f5.params.toList.all (fun t => !Tryd.pinned.checked.prog.wantsStandIn t) = true := by rw [Tryd.params5]; kernel_rfl
        have := List.all_eq_true.1 hall t (Array.mem_toList_iff.2 (Array.mem_of_getElem? ht))
        simpa using this⟩)
    (by kernel_rfl)
end Go.Proofs.YtpoegfkajdbplaaDoor.editMany
