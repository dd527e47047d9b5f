import Derived.Test.YtpoegfkajdbplaaDoorMj

/- Contracts: the reference's edits; back. -/
namespace Go.Proofs.YtpoegfkajdbplaaDoor
open Go.Dm Go.Dm.Sx
set_option linter.unusedVariables false
set_option linter.unusedSimpArgs false

noncomputable def k_Back : Wk (X [s_Right, s_Clone]) w_edit_Back.F [.ty (.base 0), tLS] [.base 0] := ⟨_, by cbv, _, by cbv, _, by cbv⟩
def backE (e : Edit) (ls : List Str) : Edit := if rightEdit e ls = true then ⟨e.at_, e.put.length, (ls.drop e.at_.toNat).take e.cut.toNat⟩ else ⟨0, 0, []⟩
def s_Back : FSpec Un := ⟨⟨f_edit_Back, [.ty (.base 0), tLS], [.base 0]⟩, fun (_, (ls : List Str), _) => ls.length ≤ 1000000, fun ((e : Edit), (ls : List Str), _) => [⟨.base 0, backE e ls⟩], fun _ => rfl⟩
theorem back_ok : FGood Tryd.prog s_Back := by
  refine Wk.ok mixed tok (envOk (.cons right_ok (.cons clone_ok .nil)) [] no_same) w_edit_Back k_Back rfl rfl ?_
  rintro ⟨(e : Edit), (ls : List Str), _⟩ hpre R hR Go hGo
  replace hR : R = [⟨.base 0, backE e ls⟩] := hR
  replace hpre : ls.length ≤ 1000000 := hpre
  show TDen _ _ _ _ [⟨.base 0, e⟩, DL .str ls]
  simp [k_Back, TDen, Tm.den, nthD, s_Right, s_Clone, in64]
  refine ⟨hpre, fun h x hx => ?_, fun h => ?_⟩
  · subst hx; rw [hR]; unfold backE; rw [if_neg (by rw [h]; simp)]
  · obtain ⟨h1, h2, h3, h4, h5, h6⟩ := right_true h
    refine ⟨by omega, by omega, by omega, fun x hx => ?_⟩
    subst hx; rw [hR]; unfold backE; rw [if_pos h, show (e.at_ + e.cut).toNat - e.at_.toNat = e.cut.toNat by omega]
noncomputable def k_RefEdited : Wk (X []) w_glossref16_Edited.F [.ty (.base 0), tLS] [.list .str] := ⟨_, by cbv, _, by cbv, _, by cbv⟩
def s_RefEdited : FSpec Un := ⟨⟨f_glossref16_Edited, [.ty (.base 0), tLS], [.list .str]⟩, fun ((e : Edit), (ls : List Str), _) => ls.length ≤ 1000000 ∧ rightEdit e ls = true, fun ((e : Edit), (ls : List Str), _) => [DL .str (editDo e ls)], fun _ => rfl⟩
theorem refEdited_ok : FGood Tryd.prog s_RefEdited := by
  refine Wk.ok mixed tok (envOk .nil [] no_same) w_glossref16_Edited k_RefEdited rfl rfl ?_
  rintro ⟨(e : Edit), (ls : List Str), _⟩ hpre R hR Go hGo
  replace hR : R = [DL .str (editDo e ls)] := hR
  replace hpre : ls.length ≤ 1000000 ∧ rightEdit e ls = true := hpre
  show TDen _ _ _ _ [⟨.base 0, e⟩, DL .str ls]
  simp [k_RefEdited, TDen, Tm.den, nthD, in64]
  obtain ⟨hl, h⟩ := hpre
  obtain ⟨h1, h2, h3, h4, h5, h6⟩ := right_true h
  have h7 := okLines_len h5
  refine ⟨by omega, by omega, by omega, by omega, by omega, by omega, by omega, by omega, by omega, ?_⟩
  rw [hR, List.take_of_length_le (l := ls.drop (e.at_ + e.cut).toNat) (by rw [List.length_drop]; omega), ← List.append_assoc]; rfl
set_option maxRecDepth 100000 in
noncomputable def k_RefRight : Wk (X []) w_glossref16_RightEdit.F [.ty (.base 0), tLS] [.bool] := ⟨_, by cbv, _, by cbv, _, by cbv⟩
def s_RefRight : FSpec Un := ⟨⟨f_glossref16_RightEdit, [.ty (.base 0), tLS], [.bool]⟩, fun (_, (ls : List Str), _) => ls.length ≤ 1000000, fun ((e : Edit), (ls : List Str), _) => [DB (rightEdit e ls)], fun _ => rfl⟩
set_option maxRecDepth 100000 in
theorem refRight_ok : FGood Tryd.prog s_RefRight := by
  refine Wk.ok mixed tok (envOk .nil [] no_same) w_glossref16_RightEdit k_RefRight rfl rfl ?_
  rintro ⟨(e : Edit), (ls : List Str), _⟩ hpre R hR Go hGo
  replace hR : R = [DB (rightEdit e ls)] := hR
  replace hpre : ls.length ≤ 1000000 := hpre
  show TDen _ _ _ _ [⟨.base 0, e⟩, DL .str ls]
  simp [k_RefRight, TDen, Tm.den, nthD, in64]
  have hf : ∀ {p : Prop}, (p → ¬ rightEdit e ls = true) → p → [DB false] = R := fun hn h => by rw [hR, Bool.eq_false_iff.2 (hn h)]
  refine ⟨hf fun h k => ?_, fun h1 => ⟨hf fun h k => ?_, fun h2 => ⟨hf fun h k => ?_, fun h3 => ⟨by omega, hf fun h k => ?_, fun h4 => ⟨hf fun h k => ?_, fun h5 => ⟨by omega, by omega, hf fun h k => ?_, fun h6 => ?_⟩⟩⟩⟩⟩⟩
  iterate 4 have := right_true k; omega
  · have := right_true k; have := okLines_len this.2.2.2.2.1; omega
  · have := right_true k; omega
  have hbad : (∃ s ∈ e.put, badLine s = true) → [DB false] = R := hf fun ⟨s, hs, hb⟩ k => by
    have := (right_true k).2.2.2.2.1
    unfold okLines at this
    simp only [Bool.and_eq_true, List.all_eq_true] at this
    have := this.2 s hs
    rw [hb] at this; cases this
  have hgood : (∀ s ∈ e.put, badLine s = false) → [DB true] = R := fun h => by
    rw [hR]
    have hk : okLines e.put = true := by
      unfold okLines
      simp only [Bool.and_eq_true, List.all_eq_true, decide_eq_true_eq]
      exact ⟨by omega, fun s hs => by rw [h s hs]; rfl⟩
    unfold rightEdit
    rw [hk, decide_eq_true (by omega), decide_eq_true (by omega)]; rfl
  refine hGo 0 _ rfl Nat (fun i => [DL .str e.put, DI e.put.length, DI i]) (fun i => i ≤ e.put.length ∧ ∀ j s, j < i → e.put[j]? = some s → badLine s = false) (fun i => e.put.length - i) (fun i hI ih => ?_) 0 ⟨Nat.zero_le _, fun j s hj => by omega⟩
  simp [TDen, Tm.den, nthD, in64]
  obtain ⟨hi, hs⟩ := hI
  refine ⟨fun hlt => ⟨hlt, fun x hx => ⟨fun h20 => ?_, fun h20 => ?_⟩⟩, fun hge => ?_⟩
  · exact hbad ⟨x, List.mem_of_getElem? hx, by unfold badLine; rw [decide_eq_true (by omega)]; rfl⟩
  · have hin : ∀ k : Nat, k ≤ List.length (α := UInt8) x → (∀ j c, j < k → (x : List UInt8)[j]? = some c → c ≠ 10) → Go 1 [DS x, DI k, DL .str e.put, DI e.put.length, DI i] := by
      intro k hk hc
      refine hGo 1 _ rfl Nat (fun k => [DS x, DI k, DL .str e.put, DI e.put.length, DI i]) (fun k => k ≤ List.length (α := UInt8) x ∧ ∀ j c, j < k → (x : List UInt8)[j]? = some c → c ≠ 10) (fun k => List.length (α := UInt8) x - k) (fun k hI2 ih2 => ?_) k ⟨hk, hc⟩
      obtain ⟨hk2, hc2⟩ := hI2
      simp [TDen, Tm.den, nthD, in64]
      have key : ∀ (x : Str), e.put[i]? = some x → (x.length : Int) ≤ 20 → k ≤ x.length → (∀ (j : Nat) (c : UInt8), j < k → x[j]? = some c → c ≠ 10) → (k + 1 ≤ x.length → (∀ (j : Nat) (c : UInt8), j < k + 1 → x[j]? = some c → c ≠ 10) → Go 1 [DS x, DI (k + 1 : Nat), DL .str e.put, DI e.put.length, DI i]) →
          (k < x.length → k < x.length ∧ (((x[k]?.getD 0).toNat : Int) = 10 → [DB false] = R) ∧ (¬((x[k]?.getD 0).toNat : Int) = 10 → ((-9223372036854775808 : Int) ≤ ↑k + 1 ∧ (k : Int) + 1 ≤ 9223372036854775807) ∧ Go 1 [DS x, DI (k + 1 : Nat), DL .str e.put, DI e.put.length, DI i])) ∧
          (x.length ≤ k → ((-9223372036854775808 : Int) ≤ ↑i + 1 ∧ (i : Int) + 1 ≤ 9223372036854775807) ∧ Go 0 [DL .str e.put, DI e.put.length, DI (i + 1 : Nat)]) := by
        intro x hx h20 hk2 hc2 hnext
        refine ⟨fun h => ?_, fun h => ⟨by omega, ih (i + 1) (by omega) ⟨by omega, fun j s hj hjs => ?_⟩⟩⟩
        · have hg : x[k]? = some x[k] := List.getElem?_eq_getElem h
          rw [hg]
          simp only [Option.getD_some]
          refine ⟨h, fun h10 => hbad ⟨x, List.mem_of_getElem? hx, ?_⟩, fun h10 => ⟨by omega, hnext (by omega) fun j c hj hjc => ?_⟩⟩
          · unfold badLine
            rw [Bool.or_eq_true, decide_eq_true_eq, decide_eq_true_eq]
            right
            have : x[k] = 10 := UInt8.toNat_inj.1 (show x[k].toNat = 10 by omega)
            rw [← this]; exact List.getElem_mem h
          · rcases Nat.lt_succ_iff_lt_or_eq.1 hj with hj | rfl
            · exact hc2 j c hj hjc
            · rw [hg] at hjc; cases hjc
              intro e10; rw [e10] at h10; exact h10 rfl
        · rcases Nat.lt_succ_iff_lt_or_eq.1 hj with hj | rfl
          · exact hs j s hj hjs
          · rw [hx] at hjs; cases hjs
            unfold badLine
            rw [decide_eq_false (by omega), decide_eq_false]; rfl
            intro hm
            obtain ⟨q, hq, hq2⟩ := List.getElem_of_mem hm
            exact hc2 q 10 (by omega) (by rw [List.getElem?_eq_getElem hq, hq2]) rfl
      exact key x hx h20 hk2 hc2 fun a b => ih2 (k + 1) (by omega) ⟨a, b⟩
    exact hin 0 (Nat.zero_le _) fun j c hj => by omega
  · refine hgood fun s hm => ?_
    obtain ⟨j, hj, rfl⟩ := List.getElem_of_mem hm
    exact hs j _ (by omega) (List.getElem?_eq_getElem hj)
end Go.Proofs.YtpoegfkajdbplaaDoor

/- Contracts: EditTells: its walk. -/
namespace Go.Proofs.YtpoegfkajdbplaaDoor
open Go.Dm Go.Dm.Sx
set_option linter.unusedVariables false
set_option linter.unusedSimpArgs false

def s_Runs : FSpec Un := ⟨⟨f_glosslaw16_EditRuns, [], [.bool]⟩, fun _ => True, fun _ => [DB true], fun _ => rfl⟩
set_option maxRecDepth 100000 in
noncomputable def k_Tells : Wk (X [s_Lines, s_KEdit, s_Do, s_Right, s_RefRight, s_SameS, s_All, s_Back, s_RefEdited, s_Runs]) w_glosslaw16_EditTells.F [.ty (.list (.list oI)), .ty (.base 0), .ty (.base 1), tB] [.bool] := ⟨_, by cbv, _, by cbv, _, by cbv⟩
end Go.Proofs.YtpoegfkajdbplaaDoor
