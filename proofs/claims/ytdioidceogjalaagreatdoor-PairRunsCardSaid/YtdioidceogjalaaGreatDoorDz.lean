/- The plain machine: the code made small is the code. -/
import Derived.Test.YtdioidceogjalaaGreatDoorDy
namespace Go.Dm
set_option linter.unusedVariables false
set_option linter.unusedSimpArgs false

section
variable {X : Mx} {pf : FuncId → Bool} {tb : Tab} {m : Nat} {A : AF} {σ : St} {k : V → St → Prop}

theorem not_isNo {t : TypeId} {p : Prop} (h : (tb t).d.isNo = false) (hp : p) : match (tb t).d with | .no => False | _ => p := by
  split
  · rename_i e; rw [e] at h; cases h
  · exact hp

theorem sfill_eq {fs : List (Nat × TypeId)} {fr : Fr} {ρ : Operand → V} (hρ : opd fr = ρ) : ∀ (parts : List (Nat × Operand)) {l : List (Nat × Nat × Operand)} (h : cparts tb fs parts = some l) (cs : List C), vfill tb fs fr parts cs = sfill ρ l cs
  | [], l, h, cs => by simp only [cparts] at h; cases h; rfl
  | (i, x) :: r, l, h, cs => by
    simp only [cparts] at h
    cases h1 : fs[i]? with
    | none => simp [h1] at h
    | some p =>
      obtain ⟨off, t⟩ := p
      cases h2 : cparts tb fs r with
      | none => simp [h1, h2] at h
      | some l' =>
        simp [h1, h2] at h
        subst h
        simp only [vfill, sfill, h1, hρ]
        cases h3 : (ρ x).cells with
        | none => rfl
        | some lx =>
          simp only
          split
          · cases h4 : splice cs off lx with
            | none => rfl
            | some cs' => exact sfill_eq hρ r h2 cs'
          · rfl

theorem sfillRow_eq {sz : Nat} {fr : Fr} {ρ : Operand → V} (hρ : opd fr = ρ) : ∀ (parts : List (Nat × Operand)) (cs : List C), vfillRow sz fr parts cs = sfillRow sz ρ parts cs
  | [], cs => rfl
  | (i, x) :: r, cs => by
    simp only [vfillRow, sfillRow, hρ]
    cases h3 : (ρ x).cells with
    | none => rfl
    | some lx =>
      simp only
      split
      · cases h4 : splice cs (i * sz) lx with
        | none => rfl
        | some cs' => exact sfillRow_eq hρ r cs'
      · rfl

theorem sslice_str {t : TypeId} (hd : (tb t).d = .str) {x : V} {lo hi : Option V} (h : sslice X.T .str 0 x lo hi σ k) : vslice X.T tb t x lo hi σ k := by
  unfold vslice
  rw [hd]
  unfold sslice at h
  cases x with
  | c c => cases c with
    | f f => cases f <;> exact h
    | _ => exact h
  | _ => exact h

theorem sslice_row {t ty : TypeId} (hd : (tb t).d = .slice ty) (en : (tb ty).d.isNo = false) {x : V} {lo hi : Option V} (h : sslice X.T (.slice ty) (tb ty).size x lo hi σ k) : vslice X.T tb t x lo hi σ k := by
  unfold vslice
  rw [hd]
  unfold sslice at h
  cases x with
  | c c => cases c with
    | f f =>
      cases f with
      | sl n cs => simp only [en, Bool.false_eq_true, if_false]; exact h
      | nils => simp only [en, Bool.false_eq_true, if_false]; exact h
      | _ => exact h
    | rs o ep n => simp only [en, Bool.false_eq_true, if_false]; exact h
    | _ => exact h
  | _ => exact h

theorem comp_ok (hA : inA m A) {o : Op} (h : vopA X pf tb m (comp tb o) A σ k) : vdo X pf tb o (toFr m A) σ k := by
  have e : opd (toFr m A) = opA A := funext (toFr_opd hA)
  cases hx : extraB tb o with
  | true => simp only [comp, hx] at h; exact h
  | false =>
  simp only [comp, hx] at h
  cases o with
  | move x => simp only [vdo, vop2, hx, vop, e]; exact h
  | assign x => simp only [vdo, vop2, hx, vop, e]; exact h
  | pick c a b => simp only [vdo, vop2, hx, vop, e]; exact h
  | binOp op t x y p => simp only [vdo, vop2, hx, vop, e]; exact h
  | unOp op t x => simp only [vdo, vop2, hx, vop, e]; exact h
  | extract x i => simp only [vdo, vop2, hx, vop, e]; exact h
  | nilCheck x => simp only [vdo, vop2, hx, vop, e]; exact h
  | box t x => simp only [vdo, vop2, hx, vop, e]; exact h
  | alloc t =>
    simp only [comp0] at h
    split at h
    · exact h
    · rename_i en
      simp only [vdo, vop2, hx, vop]
      exact not_isNo en h
  | load t x =>
    simp only [comp0] at h
    split at h
    · exact h
    · rename_i en; simp only [vdo, vop2, hx, vop, e]; exact not_isNo en h
  | store t a x =>
    simp only [comp0] at h
    split at h
    · exact h
    · rename_i en; simp only [vdo, vop2, hx, vop, e]; exact not_isNo en h
  | fieldAddr t x i =>
    simp only [comp0] at h
    split at h
    · rename_i fs hd
      split at h
      · rename_i off u hf
        split at h
        · exact h
        · rename_i hs
          split at h
          · exact h
          · rename_i en
            simp only [vdo, vop2, hx, vop, e, hd, hf]
            exact not_isNo en h
      · exact h
    · exact h
  | field t x i =>
    simp only [comp0] at h
    split at h
    · rename_i fs hd
      split at h
      · rename_i off u hf
        split at h
        · exact h
        · rename_i en
          simp only [vdo, vop2, hx, vop, e, hd]
          simp only [vopA] at h
          split at h
          · rename_i l hx
            simp only [hx, hf]
            exact not_isNo en h
          · exact h.elim
      · exact h
    · exact h
  | indexAddr t x i =>
    simp only [comp0] at h
    split at h
    · rename_i ty hd
      split at h
      · exact h
      · rename_i en
        simp only [vdo, vop2, hx, vop, e]
        simp only [vopA, ixrow] at h
        unfold vindexAddr
        split at h
        · rename_i n cs kd j hx hi
          simp only [hd, hx, hi]
          exact not_isNo en h
        · rename_i o ep n kd j hx hi
          simp only [hd, hx, hi]
          split at h
          · rename_i wr e0 sz l ho
            simp only [ho]
            split
            · rename_i e1; rw [e1] at en; cases en
            · rename_i e1 e2
              cases e1
              exact h
            · rename_i hno; exact (hno _ _ _ _ rfl).elim
          · exact h.elim
        · exact h.elim
    · rename_i n ty hd
      split at h
      · exact h
      · rename_i en
        simp only [vdo, vop2, hx, vop, e]
        simp only [vopA, ixarr] at h
        unfold vindexAddr
        split at h
        · rename_i o off kd j hx hi
          simp only [hd, hx, hi]
          exact not_isNo en h
        · rename_i cs off kd j hx hi
          simp only [hd, hx, hi]
          exact not_isNo en h
        · rename_i o ep off kd j hx hi
          simp only [hd, hx, hi]
          split at h
          · rename_i wr e0 sz l ho
            simp only [ho]
            split
            · rename_i e1; rw [e1] at en; cases en
            · rename_i e1 e2
              cases e1
              exact h
            · rename_i hno; exact (hno _ _ _ _ rfl).elim
          · exact h.elim
        · exact h.elim
    · exact h
  | index t x i =>
    simp only [comp0] at h
    split at h
    · rename_i hd
      simp only [vdo, vop2, hx, vop, e]
      simp only [vopA, ixchr] at h
      unfold vindex
      split at h
      · rename_i s kd j hx hi
        simp only [hd, hx, hi]
        exact h
      · exact h.elim
    · exact h
  | slice t x lo hi mx =>
    cases mx with
    | some y => exact h
    | none =>
      simp only [comp0] at h
      split at h
      · rename_i hd
        simp only [vdo, vop2, hx, vop, e]
        exact sslice_str hd h
      · rename_i ty hd
        split at h
        · exact h
        · rename_i en
          simp only [vdo, vop2, hx, vop, e]
          exact sslice_row hd en h
      · exact h
  | build t parts =>
    simp only [comp0] at h
    split at h
    · rename_i fs hd
      split at h
      · rename_i l hall hc
        simp only [vdo, vop2, hx, vop, hd, if_pos hall, sfill_eq e _ hc]
        exact h
      · exact h
    · exact h
  | buildSlice t n parts =>
    simp only [comp0] at h
    split at h
    · rename_i ty hd
      split at h
      · rename_i h1 h2 h3
        simp only [vdo, vop2, hx, vop, hd]
        simp only [Bool.and_eq_true] at h3; rw [Nat.ble_eq] at h2 h3; rw [Nat.ble_eq] at h3
        refine not_isNo h1 ?_
        rw [if_pos ⟨h2, h3.1, h3.2⟩, sfillRow_eq e]
        exact h
      · exact h
    · exact h
  | call c =>
    obtain ⟨cal, args, at'⟩ := c
    cases cal with
    | value f => simp only [vdo, e]; exact h
    | builtin b =>
      simp only [comp0] at h
      split at h
      · rename_i x t ha ht
        simp only [vdo, vop2, hx, vop, vbi, e, ha, ht, List.map_cons, List.map_nil]
        exact h
      · rename_i x y t u ha ht
        split at h
        · rename_i ty hd
          split at h
          · exact h
          · rename_i en
            simp only [vdo, vop2, hx, vop, vbi, e, ha, ht, hd, List.map_cons, List.map_nil]
            exact not_isNo en h
        · exact h
      · simp only [vdo, vop2, hx, vop, e]; exact h
    | invoke r nm => exact h
  | _ => exact h
end
end Go.Dm
