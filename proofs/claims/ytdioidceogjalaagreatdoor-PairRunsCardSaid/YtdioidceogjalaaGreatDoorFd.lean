/- The plain machine, run by the kernel: frames; regions. -/
import Derived.Test.YtdioidceogjalaaGreatDoorFc
namespace Go.Dm
set_option linter.unusedVariables false
set_option linter.unusedSimpArgs false

/-! ### Outcomes -/
theorem bindL_mem {α β : Type} {f : α → Rs β} : ∀ {l : List α} {o : List β}, bindL l f = some o → ∀ x ∈ l, ∃ lx, f x = some lx ∧ ∀ y ∈ lx, y ∈ o
  | [], o, h, x, hx => by simp at hx
  | [a], o, h, x, hx => by simp at hx; subst hx; exact ⟨o, h, fun y hy => hy⟩
  | a :: b :: r, o, h, x, hx => by
    simp only [bindL] at h
    split at h
    · cases h
    · rename_i l hl
      split at h
      · cases h
      · rename_i l' hl'
        cases h
        rcases List.mem_cons.1 hx with rfl | hx
        · exact ⟨l, hl, fun y hy => List.mem_append_left _ hy⟩
        · obtain ⟨lx, h1, h2⟩ := bindL_mem hl' x hx
          exact ⟨lx, h1, fun y hy => List.mem_append_right _ (h2 y hy)⟩

theorem bind_mem {α β : Type} {f : α → Rs β} {r : Rs α} {o : List β} (h : Rs.bind r f = some o) : ∃ l, r = some l ∧ ∀ x ∈ l, ∃ lx, f x = some lx ∧ ∀ y ∈ lx, y ∈ o := by
  unfold Rs.bind at h
  split at h
  · cases h
  · rename_i l; exact ⟨l, rfl, bindL_mem h⟩

theorem nub_mem {α : Type} {eq : α → α → Bool} (heq : ∀ a b, eq a b = true → a = b) : ∀ {l : List α} {x : α}, x ∈ l → x ∈ nub eq l
  | [], x, h => by simp at h
  | [a], x, h => h
  | a :: b :: r, x, h => by
    simp only [nub]
    split
    · rename_i e
      rcases List.mem_cons.1 h with rfl | h
      · obtain ⟨y, hy, e'⟩ := List.any_eq_true.1 e
        rw [heq _ _ e']; exact hy
      · exact nub_mem heq h
    · rcases List.mem_cons.1 h with rfl | h
      · simp
      · exact List.mem_cons_of_mem _ (nub_mem heq h)

/-! ### Equality -/
mutual
theorem C.eqb_ok : ∀ {a b : C}, C.eqb a b = true → a = b
  | .f x, b, h => by cases b <;> simp only [C.eqb, Bool.false_eq_true] at h; rw [F.eqb_ok h]
  | .ptr x y, b, h => by cases b <;> simp only [C.eqb, Bool.false_eq_true, Bool.and_eq_true] at h; rw [beq_nat h.1, beq_nat h.2]
  | .pa x y z, b, h => by cases b <;> simp only [C.eqb, Bool.false_eq_true, Bool.and_eq_true] at h; rw [beq_nat h.1.1, beq_nat h.1.2, beq_nat h.2]
  | .ep l n, b, h => by cases b <;> simp only [C.eqb, Bool.false_eq_true, Bool.and_eq_true] at h; rw [beq_nat h.1, F.eqbs_ok h.2]
  | .rs x y z, b, h => by cases b <;> simp only [C.eqb, Bool.false_eq_true, Bool.and_eq_true] at h; rw [beq_nat h.1.1, beq_nat h.1.2, beq_nat h.2]
  | .mp x, b, h => by cases b <;> simp only [C.eqb, Bool.false_eq_true] at h; rw [beq_nat h]
  | .clo x l, b, h => by cases b <;> simp only [C.eqb, Bool.false_eq_true, Bool.and_eq_true] at h; rw [beq_nat h.1, C.eqbs_ok h.2]
  | .un, b, h => by cases b <;> first | rfl | (simp only [C.eqb, Bool.false_eq_true] at h)
theorem C.eqbs_ok : ∀ {a b : List C}, C.eqbs a b = true → a = b
  | [], b, h => by cases b <;> first | rfl | (simp only [C.eqbs, Bool.false_eq_true] at h)
  | x :: r, b, h => by cases b <;> simp only [C.eqbs, Bool.false_eq_true, Bool.and_eq_true] at h; rw [C.eqb_ok h.1, C.eqbs_ok h.2]
end

mutual
theorem V.eqb_ok : ∀ {a b : V}, V.eqb a b = true → a = b
  | .c x, b, h => by cases b <;> simp only [V.eqb, Bool.false_eq_true] at h; rw [C.eqb_ok h]
  | .a x, b, h => by cases b <;> simp only [V.eqb, Bool.false_eq_true] at h; rw [C.eqbs_ok h]
  | .t x, b, h => by cases b <;> simp only [V.eqb, Bool.false_eq_true] at h; rw [V.eqbs_ok h]
theorem V.eqbs_ok : ∀ {a b : List V}, V.eqbs a b = true → a = b
  | [], b, h => by cases b <;> first | rfl | (simp only [V.eqbs, Bool.false_eq_true] at h)
  | x :: r, b, h => by cases b <;> simp only [V.eqbs, Bool.false_eq_true, Bool.and_eq_true] at h; rw [V.eqb_ok h.1, V.eqbs_ok h.2]
end

theorem kvEqb_ok : ∀ {a b : List (List F × List F)}, kvEqb a b = true → a = b
  | [], b, h => by cases b <;> first | rfl | (simp only [kvEqb, Bool.false_eq_true] at h)
  | (x, y) :: r, b, h => by
    cases b with
    | nil => simp only [kvEqb, Bool.false_eq_true] at h
    | cons p s =>
      obtain ⟨c, d⟩ := p
      simp only [kvEqb, Bool.and_eq_true] at h
      rw [F.eqbs_ok h.1.1, F.eqbs_ok h.1.2, kvEqb_ok h.2]

theorem Ob.eqb_ok : ∀ {a b : Ob}, Ob.eqb a b = true → a = b
  | .cells l, b, h => by cases b <;> simp only [Ob.eqb, Bool.false_eq_true] at h; rw [C.eqbs_ok h]
  | .arr w e sz l, b, h => by
    cases b <;> simp only [Ob.eqb, Bool.false_eq_true, Bool.and_eq_true] at h
    rw [eq_of_beq h.1.1.1, beq_nat h.1.1.2, beq_nat h.1.2, F.eqbs_ok h.2]
  | .map kv, b, h => by cases b <;> simp only [Ob.eqb, Bool.false_eq_true] at h; rw [kvEqb_ok h]
  | .bld T u x, b, h => by
    cases b <;> simp only [Ob.eqb, Bool.false_eq_true, Bool.and_eq_true] at h
    rw [beq_nat h.1.1, eq_of_beq h.1.2, C.eqb_ok h.2]
  | .gone, b, h => by cases b <;> first | rfl | (simp only [Ob.eqb, Bool.false_eq_true] at h)

theorem stEqb_ok : ∀ {a b : St}, stEqb a b = true → a = b
  | [], b, h => by cases b <;> first | rfl | (simp only [stEqb, Bool.false_eq_true] at h)
  | x :: r, b, h => by cases b <;> simp only [stEqb, Bool.false_eq_true, Bool.and_eq_true] at h; rw [Ob.eqb_ok h.1, stEqb_ok h.2]

theorem ftEqb_ok : ∀ {a b : FT}, ftEqb a b = true → a = b
  | [], b, h => by cases b <;> first | rfl | (simp only [ftEqb, Bool.false_eq_true] at h)
  | x :: r, b, h => by cases b <;> simp only [ftEqb, Bool.false_eq_true, Bool.and_eq_true] at h; rw [V.eqbs_ok h.1, ftEqb_ok h.2]

theorem vsEqb_ok (a b : V × St) (h : vsEqb a b = true) : a = b := by
  obtain ⟨a1, a2⟩ := a
  obtain ⟨b1, b2⟩ := b
  simp only [vsEqb, Bool.and_eq_true] at h
  rw [V.eqb_ok h.1, stEqb_ok h.2]

theorem fsEqb_ok (a b : FT × St) (h : fsEqb a b = true) : a = b := by
  obtain ⟨a1, a2⟩ := a
  obtain ⟨b1, b2⟩ := b
  simp only [fsEqb, Bool.and_eq_true] at h
  rw [ftEqb_ok h.1, stEqb_ok h.2]

/-! ### Frames -/
theorem upd_get {α : Type} (f : α → α) : ∀ (l : List α) (i j : Nat), (upd l i f)[j]? = if i = j then (l[j]?).map f else l[j]?
  | [], i, j => by simp [upd]
  | x :: r, 0, 0 => by simp [upd]
  | x :: r, 0, j + 1 => by simp [upd]
  | x :: r, i + 1, 0 => by simp [upd]
  | x :: r, i + 1, j + 1 => by simp [upd, upd_get f r i j]

theorem upd_len {α : Type} (f : α → α) : ∀ (l : List α) (i : Nat), (upd l i f).length = l.length
  | [], i => rfl
  | x :: r, 0 => rfl
  | x :: r, i + 1 => by simp [upd, upd_len f r i]

theorem upd_mem {α : Type} {f : α → α} {y : α} : ∀ {l : List α} {i : Nat}, y ∈ upd l i f → y ∈ l ∨ ∃ x ∈ l, y = f x
  | [], i, h => by simp [upd] at h
  | x :: r, 0, h => by
    simp only [upd, List.mem_cons] at h
    rcases h with rfl | h
    · exact .inr ⟨x, by simp, rfl⟩
    · exact .inl (List.mem_cons_of_mem _ h)
  | x :: r, i + 1, h => by
    simp only [upd, List.mem_cons] at h
    rcases h with rfl | h
    · exact .inl (by simp)
    · rcases upd_mem h with h | ⟨z, h1, h2⟩
      · exact .inl (List.mem_cons_of_mem _ h)
      · exact .inr ⟨z, List.mem_cons_of_mem _ h1, h2⟩

structure OkT (m : Nat) (t : FT) : Prop where
  wide : m ≤ 8 * t.length
  rows : ∀ l ∈ t, l.length = 8
  out : ∀ i, m ≤ i → t.get i = .c .un

theorem get_eq (t : FT) (i : Nat) : t.get i = ((t[i / 8]?).bind fun l => l[i % 8]?).getD (.c .un) := by
  unfold FT.get
  rw [nth_eq]
  cases t[i / 8]? with
  | none => rfl
  | some l =>
    simp only [nth_eq, Option.bind_some]
    cases l[i % 8]? <;> rfl

theorem get_upd {m : Nat} {t : FT} (ht : OkT m t) {d : Nat} (hd : d < m) (v : V) (i : Nat) : FT.get (upd t (d / 8) fun l => put l (d % 8) v) i = if d = i then v else t.get i := by
  rw [get_eq, get_eq, upd_get]
  by_cases h8 : d / 8 = i / 8
  · rw [if_pos h8]
    have hlt : i / 8 < t.length := by have := ht.wide; omega
    rw [List.getElem?_eq_getElem hlt]
    simp only [Option.map_some, Option.bind_some, put_eq, List.getElem?_set]
    have hl : t[i / 8].length = 8 := ht.rows _ (List.getElem_mem hlt)
    by_cases hm : d % 8 = i % 8
    · have : d = i := by omega
      rw [if_pos hm, if_pos this, hl, if_pos (by omega)]
      rfl
    · have : d ≠ i := fun e => hm (by rw [e])
      rw [if_neg hm, if_neg this]
  · rw [if_neg h8, if_neg (fun e => h8 (by rw [e]))]

theorem set_get {m : Nat} {t : FT} (ht : OkT m t) (dst : Option Tmp) (v : V) (i : Nat) : (t.set m dst v).get i = match dst with | none => t.get i | some d => if Nat.blt d m = true ∧ d = i then v else t.get i := by
  cases dst with
  | none => rfl
  | some d =>
    unfold FT.set
    simp only
    cases hb : Nat.blt d m with
    | false => simp
    | true =>
      simp only [true_and]
      exact get_upd ht (blt_nat hb) v i

theorem OkT.set {m : Nat} {t : FT} (ht : OkT m t) (dst : Option Tmp) (v : V) : OkT m (t.set m dst v) := by
  have hout : ∀ i, m ≤ i → (t.set m dst v).get i = .c .un := fun i hi => by
    rw [set_get ht]
    cases dst with
    | none => exact ht.out i hi
    | some d =>
      simp only
      rw [if_neg]
      · exact ht.out i hi
      · rintro ⟨h1, h2⟩
        have h3 := blt_nat h1
        have h4 : (show Nat from d) = i := h2
        have h5 : (show Nat from d) < m := h3
        omega
  cases dst with
  | none => exact ht
  | some d =>
    unfold FT.set at hout ⊢
    simp only at hout ⊢
    cases hb : Nat.blt d m with
    | false => exact ht
    | true =>
      rw [hb] at hout
      refine ⟨by rw [upd_len]; exact ht.wide, fun l hl => ?_, hout⟩
      rcases upd_mem hl with hl | ⟨x, hx, rfl⟩
      · exact ht.rows l hl
      · rw [put_eq, List.length_set]; exact ht.rows x hx

/-- The frame that a row of rows stands for. -/
def tA (t : FT) : Nat → AF
  | 0 => []
  | n + 1 => (n, t.get n) :: tA t n

theorem tA_lk (t : FT) (i : Nat) : ∀ (m : Nat), lk (tA t m) i = if i < m then t.get i else .c .un
  | 0 => rfl
  | n + 1 => by
    rw [tA, lk_cons, tA_lk t i n]
    by_cases h : n = i
    · subst h; simp
    · rw [if_neg h]
      by_cases h2 : i < n
      · rw [if_pos h2, if_pos (by omega)]
      · rw [if_neg h2, if_neg (by omega)]

def frT (m : Nat) (t : FT) : Fr := toFr m (tA t m)

theorem tA_in {m : Nat} (t : FT) : inA m (tA t m) := fun i hi => by rw [tA_lk, if_neg (by omega)]

theorem tA_at {m : Nat} {t : FT} (ht : OkT m t) : opA (tA t m) = t.at := by
  funext x
  cases x with
  | tmp i =>
    show lk (tA t m) i = t.get i
    rw [tA_lk]
    split
    · rfl
    · rename_i h; exact (ht.out i (Nat.le_of_not_lt h)).symm
  | _ => rfl

theorem toFr_congr {m : Nat} {A B : AF} (h : ∀ i, i < m → lk A i = lk B i) : toFr m A = toFr m B := by
  unfold toFr
  exact List.map_congr_left fun i hi => h i (List.mem_range.1 hi)

theorem frT_set {m : Nat} {t : FT} (ht : OkT m t) (dst : Option Tmp) (v : V) : frT m (t.set m dst v) = (frT m t).put dst v := by
  unfold frT
  rw [← toFr_put]
  refine toFr_congr fun i hi => ?_
  rw [tA_lk, if_pos hi, set_get ht]
  cases dst with
  | none => simp only [putA]; rw [tA_lk, if_pos hi]
  | some d =>
    simp only [putA]
    cases hb : Nat.blt d m with
    | false => simp only [Bool.false_eq_true, false_and, if_false]; rw [tA_lk, if_pos hi]
    | true =>
      simp only [true_and]
      rw [lk_cons, tA_lk, if_pos hi]

theorem frT_at {m : Nat} {t : FT} {i : Nat} (h : i < m) : (frT m t)[i]? = some (t.get i) := by
  unfold frT
  rw [toFr_at h, tA_lk, if_pos h]

theorem blank_len : ∀ (n : Nat), (blank n).length = n + 1
  | 0 => rfl
  | n + 1 => by simp [blank, blank_len n]

theorem blank_mem : ∀ (n : Nat) (l : List V), l ∈ blank n → l = unrow
  | 0, l, h => by simpa [blank] using h
  | n + 1, l, h => by
    simp only [blank, List.mem_cons] at h
    rcases h with h | h
    · exact h
    · exact blank_mem n l h

theorem unrow_get (i : Nat) : (unrow[i]?).getD (.c .un) = .c .un := by
  match i with
  | 0 | 1 | 2 | 3 | 4 | 5 | 6 | 7 => rfl
  | i + 8 => rfl

theorem blank_get (n i : Nat) : (blank n).get i = .c .un := by
  rw [get_eq]
  cases h : (blank n)[i / 8]? with
  | none => rfl
  | some l =>
    obtain ⟨h1, h2⟩ := List.getElem?_eq_some_iff.1 h
    have := blank_mem n l (h2 ▸ List.getElem_mem h1)
    subst this
    exact unrow_get _

theorem blank_ok (m : Nat) : OkT m (blank (m / 8)) :=
  ⟨by rw [blank_len]; omega, fun l hl => by rw [blank_mem _ l hl]; rfl, fun i _ => blank_get _ _⟩

theorem start_ok {m : Nat} : ∀ (l : List V) (s : Nat) {t : FT}, OkT m t → OkT m (start m s l t)
  | [], s, t, h => h
  | x :: r, s, t, h => start_ok r (s + 1) (h.set (some s) x)

theorem start_get {m : Nat} (i : Nat) : ∀ (l : List V) (s : Nat) {t : FT}, OkT m t → s + l.length ≤ m → (start m s l t).get i = if s ≤ i ∧ i < s + l.length then (l[i - s]?).getD (.c .un) else t.get i
  | [], s, t, h, hl => by
    rw [if_neg]
    · rfl
    · simp only [List.length_nil]; omega
  | x :: r, s, t, h, hl => by
    simp only [List.length_cons] at hl
    have hlt : Nat.blt s m = true := by unfold Nat.blt; rw [Nat.ble_eq]; omega
    have e2 : (t.set m (some s) x).get i = if s = i then x else t.get i := by
      rw [set_get h]
      simp [hlt]
    have e1 := start_get i r (s + 1) (h.set (some s) x) (by omega)
    rw [e2] at e1
    show (start m (s + 1) r (t.set m (some s) x)).get i = _
    rw [e1]
    simp only [List.length_cons]
    by_cases hs : s = i
    · subst hs
      have n1 : ¬ (s + 1 ≤ s ∧ s < s + 1 + r.length) := by omega
      have n2 : s ≤ s ∧ s < s + (r.length + 1) := by omega
      rw [if_neg n1, if_pos n2, if_pos rfl]
      simp
    · rw [if_neg hs]
      by_cases hin : s + 1 ≤ i ∧ i < s + 1 + r.length
      · have n2 : s ≤ i ∧ i < s + (r.length + 1) := by omega
        rw [if_pos hin, if_pos n2, show i - s = (i - (s + 1)) + 1 from by omega]
        rfl
      · have n2 : ¬ (s ≤ i ∧ i < s + (r.length + 1)) := by omega
        rw [if_neg hin, if_neg n2]

theorem frT_start {m : Nat} {l : List V} (h : l.length ≤ m) : frT m (start m 0 l (blank (m / 8))) = frame0 m l := by
  rw [← toFr_args0 h]
  unfold frT
  refine toFr_congr fun i hi => ?_
  rw [tA_lk, if_pos hi, start_get i l 0 (blank_ok m) (by omega), args0_lk]
  simp only [Nat.zero_le, true_and, Nat.zero_add, if_true, Nat.sub_zero, blank_get]
  split
  · rfl
  · rename_i hh
    rw [List.getElem?_eq_none (by omega)]
    rfl
end Go.Dm
