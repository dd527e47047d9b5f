/- The plain machine, run by the kernel: new objects under other numbers; what is not reached any more goes. -/
import Derived.Test.YtdioidceogjalaaGreatDoorFk
namespace Go.Dm
open Go.RowKit
set_option linter.unusedVariables false
set_option linter.unusedSimpArgs false

/-! ### Other numbers -/
mutual
def C.ren (ρ : Nat → Nat) : C → C
  | .f x => .f x
  | .ep l n => .ep l n
  | .clo fn caps => .clo fn (C.rens ρ caps)
  | .un => .un
  | .ptr o k => .ptr (ρ o) k
  | .pa o e k => .pa (ρ o) e k
  | .rs o e n => .rs (ρ o) e n
  | .mp o => .mp (ρ o)
def C.rens (ρ : Nat → Nat) : List C → List C
  | [] => []
  | x :: r => C.ren ρ x :: C.rens ρ r
end

mutual
def V.ren (ρ : Nat → Nat) : V → V
  | .c x => .c (x.ren ρ)
  | .a l => .a (C.rens ρ l)
  | .t l => .t (V.rens ρ l)
def V.rens (ρ : Nat → Nat) : List V → List V
  | [] => []
  | x :: r => V.ren ρ x :: V.rens ρ r
end

def Ob.ren (ρ : Nat → Nat) : Ob → Ob
  | .cells l => .cells (C.rens ρ l)
  | .bld T u x => .bld T u (x.ren ρ)
  | .arr w e sz l => .arr w e sz l
  | .map kv => .map kv
  | .gone => .gone

/-! ### What is led to -/
mutual
def C.refs : C → List Nat → List Nat
  | .f _, acc => acc
  | .ep _ _, acc => acc
  | .clo _ caps, acc => C.refss caps acc
  | .un, acc => acc
  | .ptr o _, acc => o :: acc
  | .pa o _ _, acc => o :: acc
  | .rs o _ _, acc => o :: acc
  | .mp o, acc => o :: acc
def C.refss : List C → List Nat → List Nat
  | [], acc => acc
  | x :: r, acc => C.refs x (C.refss r acc)
end

mutual
def V.refs : V → List Nat → List Nat
  | .c x, acc => x.refs acc
  | .a l, acc => C.refss l acc
  | .t l, acc => V.refss l acc
def V.refss : List V → List Nat → List Nat
  | [], acc => acc
  | x :: r, acc => V.refs x (V.refss r acc)
end

def Ob.refs : Ob → List Nat → List Nat
  | .cells l, acc => C.refss l acc
  | .bld _ _ x, acc => x.refs acc
  | _, acc => acc

def memN (o : Nat) : List Nat → Bool
  | [] => false
  | x :: r => match Nat.beq x o with | true => true | false => memN o r

/-- The new objects that are reached, in the order in which they are. -/
def reach (n : Nat) (σ : St) : Nat → List Nat → List Nat → List Nat
  | 0, _, acc => acc
  | _ + 1, [], acc => acc
  | k + 1, o :: r, acc =>
    match Nat.blt o n || memN o acc with
    | true => reach n σ k r acc
    | false =>
      match nth σ o with
      | some ob => reach n σ k (ob.refs r) (acc ++ [o])
      | none => reach n σ k r acc

def obsRefs : St → List Nat → List Nat
  | [], a => a
  | x :: r, a => x.refs (obsRefs r a)

def placeN (o : Nat) : List Nat → Nat → Nat
  | [], i => i
  | x :: r, i => match Nat.beq x o with | true => i | false => placeN o r (i + 1)

def renOf (n : Nat) (ks : List Nat) (o : Nat) : Nat := match Nat.blt o n with | true => o | false => placeN o ks n

def inKs (n : Nat) (ks : List Nat) (o : Nat) : Bool := Nat.blt o n || memN o ks
def allIn (n : Nat) (ks : List Nat) : List Nat → Bool
  | [] => true
  | o :: r => match inKs n ks o with | true => allIn n ks r | false => false

def distinct : List Nat → Bool
  | [] => true
  | x :: r => match memN x r with | true => false | false => distinct r

def picks (σ : St) : List Nat → Option St
  | [] => some []
  | k :: r => match nth σ k, picks σ r with | some ob, some l => some (ob :: l) | _, _ => none

def ksOk (n : Nat) (ks : List Nat) : Bool :=
  distinct ks && ks.all fun k => Nat.ble n k

/-- The state under other numbers: the first n objects stay. -/
def canonSt (n : Nat) (ks : List Nat) (σ : St) : Option St :=
  match picks σ ks with
  | none => none
  | some new => some ((σ.take n).map (Ob.ren (renOf n ks)) ++ new.map (Ob.ren (renOf n ks)))

/-- May it be told under these numbers? -/
def canonOk (n : Nat) (ks : List Nat) (vrefs : List Nat) (σ : St) : Bool :=
  Nat.ble n σ.length && ksOk n ks && allIn n ks vrefs && allIn n ks (obsRefs (σ.take n) []) && (match picks σ ks with | some new => allIn n ks (obsRefs new []) | none => false)

/-! ### Facts -/
theorem memN_iff {o : Nat} : ∀ {l : List Nat}, memN o l = true ↔ o ∈ l
  | [] => by simp [memN]
  | x :: r => by
    simp only [memN]
    split
    · rename_i h; simp [beq_nat h]
    · rename_i h
      rw [memN_iff (l := r)]
      have : x ≠ o := fun e => by subst e; rw [Nat.beq_refl] at h; cases h
      simp only [List.mem_cons]
      exact ⟨.inr, fun hh => hh.elim (fun e => absurd e.symm this) id⟩

theorem allIn_iff {n : Nat} {ks : List Nat} : ∀ {l : List Nat}, allIn n ks l = true ↔ ∀ o ∈ l, inKs n ks o = true
  | [] => by simp [allIn]
  | x :: r => by
    simp only [allIn]
    split
    · rename_i h; rw [allIn_iff]; simp [h]
    · rename_i h
      constructor
      · intro hh; cases hh
      · intro hh
        have := hh x (by simp)
        rw [h] at this; exact this

theorem placeN_spec {o : Nat} : ∀ {l : List Nat} {i : Nat}, o ∈ l → i ≤ placeN o l i ∧ placeN o l i < i + l.length ∧ l[placeN o l i - i]? = some o
  | [], i, h => by cases h
  | x :: r, i, h => by
    simp only [placeN]
    split
    · rename_i hb; simp [beq_nat hb]
    · rename_i hb
      have hx : x ≠ o := fun e => by subst e; rw [Nat.beq_refl] at hb; cases hb
      have : o ∈ r := by rcases List.mem_cons.1 h with e | h; exact absurd e.symm hx; exact h
      obtain ⟨a, b, c⟩ := placeN_spec (i := i + 1) this
      refine ⟨by omega, by simp; omega, ?_⟩
      rw [show placeN o r (i + 1) - i = (placeN o r (i + 1) - (i + 1)) + 1 from by omega]
      simpa using c

theorem distinct_inj : ∀ {l : List Nat}, distinct l = true → ∀ {i j : Nat} {o : Nat}, l[i]? = some o → l[j]? = some o → i = j
  | [], _, i, j, o, hi, _ => by simp at hi
  | x :: r, h, i, j, o, hi, hj => by
    simp only [distinct] at h
    split at h
    · cases h
    · rename_i hm
      have hx : x ∉ r := fun hh => by rw [memN_iff.2 hh] at hm; cases hm
      cases i with
      | zero =>
        cases j with
        | zero => rfl
        | succ j =>
          simp at hi hj
          subst hi
          exact absurd (List.mem_of_getElem? hj) hx
      | succ i =>
        cases j with
        | zero =>
          simp at hi hj
          subst hj
          exact absurd (List.mem_of_getElem? hi) hx
        | succ j =>
          simp at hi hj
          rw [distinct_inj h hi hj]

theorem picks_get {σ : St} : ∀ {ks : List Nat} {l : St}, picks σ ks = some l → l.length = ks.length ∧ ∀ (i k : Nat), ks[i]? = some k → ∃ ob : Ob, σ[k]? = some ob ∧ l[i]? = some ob
  | [], l, h => by simp only [picks, Option.some.injEq] at h; subst h; simp
  | k :: r, l, h => by
    simp only [picks] at h
    split at h
    · rename_i ob l' h1 h2
      cases h
      obtain ⟨a, b⟩ := picks_get h2
      refine ⟨by simp [a], fun i k' hk => ?_⟩
      cases i with
      | zero => simp at hk; subst hk; exact ⟨ob, by rw [← nth_eq]; exact h1, by simp⟩
      | succ i => simp at hk; simpa using b i k' hk
    · cases h

/-- The number that it had. -/
def backOf (n : Nat) (ks : List Nat) (i : Nat) : Nat := if i < n then i else (ks[i - n]?).getD 0

structure Canon (n : Nat) (ks : List Nat) (σ σ' : St) : Prop where
  le : n ≤ σ.length
  dis : distinct ks = true
  ge : ∀ k ∈ ks, n ≤ k
  low : ∀ i, i < n → ∃ ob : Ob, σ[i]? = some ob ∧ σ'[i]? = some (ob.ren (renOf n ks))
  new : ∀ (i k : Nat), ks[i]? = some k → ∃ ob : Ob, σ[k]? = some ob ∧ σ'[n + i]? = some (ob.ren (renOf n ks))
  len : σ'.length = n + ks.length
  inLow : ∀ (i : Nat) (ob : Ob), i < n → σ[i]? = some ob → ∀ o ∈ ob.refs [], inKs n ks o = true
  inNew : ∀ (k : Nat) (ob : Ob), k ∈ ks → σ[k]? = some ob → ∀ o ∈ ob.refs [], inKs n ks o = true

mutual
theorem C.refs_app : ∀ (c : C) (a : List Nat), c.refs a = c.refs [] ++ a
  | .f _, a => rfl
  | .ep _ _, a => rfl
  | .clo _ caps, a => C.refss_app caps a
  | .un, a => rfl
  | .ptr o _, a => rfl
  | .pa o _ _, a => rfl
  | .rs o _ _, a => rfl
  | .mp o, a => rfl
theorem C.refss_app : ∀ (l : List C) (a : List Nat), C.refss l a = C.refss l [] ++ a
  | [], a => rfl
  | x :: r, a => by
    simp only [C.refss]
    rw [C.refs_app x (C.refss r a), C.refs_app x (C.refss r []), C.refss_app r a, List.append_assoc]
end

theorem Ob.refs_app (ob : Ob) (a : List Nat) : ob.refs a = ob.refs [] ++ a := by
  cases ob with
  | cells l => exact C.refss_app l a
  | bld T u x => exact C.refs_app x a
  | _ => rfl

theorem obsRefs_mem : ∀ {l : St} {i : Nat} {ob : Ob}, l[i]? = some ob → ∀ o ∈ ob.refs [], o ∈ obsRefs l []
  | [], i, ob, h, o, ho => by simp at h
  | x :: r, i, ob, h, o, ho => by
    simp only [obsRefs]
    rw [Ob.refs_app]
    cases i with
    | zero => simp at h; subst h; exact List.mem_append_left _ ho
    | succ i => simp at h; exact List.mem_append_right _ (obsRefs_mem h o ho)

theorem canon_spec {n : Nat} {ks : List Nat} {vrefs : List Nat} {σ σ' : St} (h : canonOk n ks vrefs σ = true) (hs : canonSt n ks σ = some σ') : Canon n ks σ σ' ∧ ∀ o ∈ vrefs, inKs n ks o = true := by
  simp only [canonOk, ksOk, Bool.and_eq_true, List.all_eq_true] at h
  obtain ⟨⟨⟨⟨h1, h2, h3⟩, h4⟩, h5⟩, h6⟩ := h
  have h1 := Nat.le_of_ble_eq_true h1
  simp only [canonSt] at hs
  split at hs
  · cases hs
  · rename_i new hp
    cases hs
    rw [hp] at h6
    simp only at h6
    obtain ⟨q1, q2⟩ := picks_get hp
    have hlen : ((σ.take n).map (Ob.ren (renOf n ks))).length = n := by simp; omega
    refine ⟨⟨h1, h2, fun k hk => Nat.le_of_ble_eq_true (h3 k hk), fun i hi => ?_, fun i k hk => ?_, by simp [q1]; omega, fun i ob hi ho o hm => ?_, fun k ob hk ho o hm => ?_⟩, allIn_iff.1 h4⟩
    · refine ⟨σ[i]'(by omega), List.getElem?_eq_getElem (by omega), ?_⟩
      rw [List.getElem?_append_left (by rw [hlen]; exact hi), List.getElem?_map, List.getElem?_take, if_pos hi, List.getElem?_eq_getElem (by omega)]
      rfl
    · obtain ⟨ob, e1, e2⟩ := q2 i k hk
      refine ⟨ob, e1, ?_⟩
      rw [List.getElem?_append_right (by rw [hlen]; omega), hlen, show n + i - n = i from by omega, List.getElem?_map, e2]
      rfl
    · have : (σ.take n)[i]? = some ob := by rw [List.getElem?_take, if_pos hi]; exact ho
      exact allIn_iff.1 h5 o (obsRefs_mem this o hm)
    · obtain ⟨i, hi⟩ := List.mem_iff_getElem?.1 hk
      obtain ⟨ob', e1, e2⟩ := q2 i k hi
      rw [ho] at e1
      cases e1
      exact allIn_iff.1 h6 o (obsRefs_mem e2 o hm)

section
variable {n : Nat} {ks : List Nat} {σ σ' : St} {g : G} {w : World}

def gren (g : G) (n : Nat) (ks : List Nat) : G := ⟨g.Z, fun i => g.blk (backOf n ks i), fun i => g.cap (backOf n ks i)⟩

theorem ren_back (hc : Canon n ks σ σ') {o : Nat} (ho : inKs n ks o = true) : backOf n ks (renOf n ks o) = o := by
  unfold inKs at ho
  unfold renOf backOf
  cases hb : Nat.blt o n with
  | true => simp only; rw [if_pos (blt_nat hb)]
  | false =>
    rw [hb] at ho
    simp only [Bool.false_or] at ho
    have hm := memN_iff.1 ho
    obtain ⟨a, b, c⟩ := placeN_spec (i := n) hm
    simp only
    rw [if_neg (by omega), c]
    rfl

theorem ren_get (hc : Canon n ks σ σ') {o : Nat} (ho : inKs n ks o = true) {ob : Ob} (h : σ[o]? = some ob) : σ'[renOf n ks o]? = some (ob.ren (renOf n ks)) := by
  have hb := ren_back hc ho
  unfold inKs at ho
  cases hlt : Nat.blt o n with
  | true =>
    obtain ⟨ob', h1, h2⟩ := hc.low o (blt_nat hlt)
    rw [h] at h1; cases h1
    have : renOf n ks o = o := by unfold renOf; rw [hlt]
    rw [this]; exact h2
  | false =>
    rw [hlt] at ho
    simp only [Bool.false_or] at ho
    have hm := memN_iff.1 ho
    obtain ⟨a, b, c⟩ := placeN_spec (i := n) hm
    have e : renOf n ks o = n + (placeN o ks n - n) := by unfold renOf; rw [hlt]; simp only; omega
    obtain ⟨ob', h1, h2⟩ := hc.new _ _ c
    rw [h] at h1; cases h1
    rw [e]; exact h2

theorem ren_blk (hc : Canon n ks σ σ') {o : Nat} (ho : inKs n ks o = true) : (gren g n ks).blk (renOf n ks o) = g.blk o := by
  show g.blk (backOf n ks (renOf n ks o)) = _
  rw [ren_back hc ho]

theorem ren_cap (hc : Canon n ks σ σ') {o : Nat} (ho : inKs n ks o = true) : (gren g n ks).cap (renOf n ks o) = g.cap o := by
  show g.cap (backOf n ks (renOf n ks o)) = _
  rw [ren_back hc ho]

theorem renF {x : F} {v : Value} (h : FRep g w x v) : FRep (gren g n ks) w x v := FRep.turn (g := g) (g' := gren g n ks) (w := w) (w' := w) (fun b o hz => ⟨hz, rfl⟩) _ _ h
theorem renRow {cs : List F} {b o : Nat} (h : FRow g w b o cs) : FRow (gren g n ks) w b o cs := FRow.turn (g := g) (g' := gren g n ks) (w := w) (w' := w) (fun b o hz => ⟨hz, rfl⟩) _ _ _ h

theorem row_ren {ob : Ob} {ρ : Nat → Nat} : (ob.ren ρ).row = ob.row := by cases ob <;> rfl

mutual
theorem renC (hc : Canon n ks σ σ') : ∀ {c : C} {v : Value}, (∀ o ∈ c.refs [], inKs n ks o = true) → CRep g w σ c v → CRep (gren g n ks) w σ' (c.ren (renOf n ks)) v
  | .f x, v, _, h => renF h
  | .ep l o, v, _, h => by obtain ⟨b, o', h1, h2⟩ := h; exact ⟨b, o', h1, renRow h2⟩
  | .un, v, _, h => trivial
  | .ptr o off, v, hi, h => by
    have ho := hi o (by simp [C.refs])
    obtain ⟨b, ob, h1, h2, h3, h4⟩ := h
    exact ⟨b, _, (ren_blk hc ho).trans h1, h2, ren_get hc ho h3, by rw [row_ren]; exact h4⟩
  | .pa o e off, v, hi, h => by
    have ho := hi o (by simp [C.refs])
    obtain ⟨h1, ob, h3, h4⟩ := h
    refine ⟨h1, _, ren_get hc ho h3, ?_⟩
    cases ob with
    | arr wr e0 sz l => simp only [Ob.ren]; rw [ren_blk hc ho]; exact h4
    | gone => trivial
    | _ => exact h4.elim
  | .rs o e m, v, hi, h => by
    have ho := hi o (by simp [C.refs])
    obtain ⟨h1, ob, h3, h4⟩ := h
    refine ⟨h1, _, ren_get hc ho h3, ?_⟩
    cases ob with
    | arr wr e0 sz l => simp only [Ob.ren]; rw [ren_blk hc ho, ren_cap hc ho]; exact h4
    | gone => trivial
    | _ => exact h4.elim
  | .mp o, v, hi, h => by
    have ho := hi o (by simp [C.refs])
    obtain ⟨b, ob, h1, h2, h3, h4⟩ := h
    exact ⟨b, _, (ren_blk hc ho).trans h1, h2, ren_get hc ho h3, by rw [row_ren]; exact h4⟩
  | .clo f caps, v, hi, h => by
    obtain ⟨vs, h1, h2⟩ := h
    exact ⟨vs, h1, renCs hc hi h2⟩
theorem renCs (hc : Canon n ks σ σ') : ∀ {l : List C} {vs : List Value}, (∀ o ∈ C.refss l [], inKs n ks o = true) → CReps g w σ l vs → CReps (gren g n ks) w σ' (C.rens (renOf n ks) l) vs
  | [], vs, _, h => h
  | c :: r, vs, hi, h => by
    simp only [C.refss] at hi
    obtain ⟨v, vr, rfl, h1, h2⟩ := h
    refine ⟨v, vr, rfl, renC hc (fun o ho => hi o ?_) h1, renCs hc (fun o ho => hi o ?_) h2⟩
    · rw [C.refs_app]; exact List.mem_append_left _ ho
    · rw [C.refs_app]; exact List.mem_append_right _ ho
end

mutual
theorem V.refs_app : ∀ (c : V) (acc : List Nat), c.refs acc = c.refs [] ++ acc
  | .c x, acc => C.refs_app x acc
  | .a l, acc => C.refss_app l acc
  | .t l, acc => V.refss_app l acc
theorem V.refss_app : ∀ (l : List V) (acc : List Nat), V.refss l acc = V.refss l [] ++ acc
  | [], acc => rfl
  | x :: r, acc => by
    simp only [V.refss]
    rw [V.refs_app x (V.refss r acc), V.refs_app x (V.refss r []), V.refss_app r acc, List.append_assoc]
end

mutual
theorem renV (hc : Canon n ks σ σ') : ∀ {c : V} {v : Value}, (∀ o ∈ c.refs [], inKs n ks o = true) → VRep g w σ c v → VRep (gren g n ks) w σ' (c.ren (renOf n ks)) v
  | .c x, v, hi, h => renC hc hi h
  | .a l, v, hi, h => by obtain ⟨vs, h1, h2⟩ := h; exact ⟨vs, h1, renCs hc hi h2⟩
  | .t l, v, hi, h => by obtain ⟨vs, h1, h2⟩ := h; exact ⟨vs, h1, rensV hc hi h2⟩
theorem rensV (hc : Canon n ks σ σ') : ∀ {l : List V} {vs : List Value}, (∀ o ∈ V.refss l [], inKs n ks o = true) → VReps g w σ l vs → VReps (gren g n ks) w σ' (V.rens (renOf n ks) l) vs
  | [], vs, _, h => h
  | c :: r, vs, hi, h => by
    simp only [V.refss] at hi
    obtain ⟨v, vr, rfl, h1, h2⟩ := h
    refine ⟨v, vr, rfl, renV hc (fun o ho => hi o ?_) h1, rensV hc (fun o ho => hi o ?_) h2⟩
    · rw [V.refs_app]; exact List.mem_append_left _ ho
    · rw [V.refs_app]; exact List.mem_append_right _ ho
end

/-- What stands at a number now stood at another one. -/
theorem back_get (hc : Canon n ks σ σ') {i : Nat} {ob : Ob} (h : σ'[i]? = some ob) : ∃ ob0, σ[backOf n ks i]? = some ob0 ∧ ob = ob0.ren (renOf n ks) ∧ (∀ o ∈ ob0.refs [], inKs n ks o = true) := by
  have hlt := (List.getElem?_eq_some_iff.1 h).1
  rw [hc.len] at hlt
  unfold backOf
  by_cases hi : i < n
  · rw [if_pos hi]
    obtain ⟨ob0, h1, h2⟩ := hc.low i hi
    rw [h] at h2
    exact ⟨ob0, h1, Option.some.inj h2, hc.inLow i ob0 hi h1⟩
  · rw [if_neg hi]
    have hk : ks[i - n]? = some (ks[i - n]'(by omega)) := List.getElem?_eq_getElem (by omega)
    obtain ⟨ob0, h1, h2⟩ := hc.new _ _ hk
    rw [show n + (i - n) = i from by omega, h] at h2
    rw [hk]
    exact ⟨ob0, h1, Option.some.inj h2, hc.inNew _ ob0 (List.mem_of_getElem? hk) h1⟩

theorem back_inj (hc : Canon n ks σ σ') {i j : Nat} (hi : i < σ'.length) (hj : j < σ'.length) (h : backOf n ks i = backOf n ks j) : i = j := by
  rw [hc.len] at hi hj
  unfold backOf at h
  by_cases h1 : i < n
  · by_cases h2 : j < n
    · rw [if_pos h1, if_pos h2] at h; exact h
    · rw [if_pos h1, if_neg h2] at h
      have hk : ks[j - n]? = some (ks[j - n]'(by omega)) := List.getElem?_eq_getElem (by omega)
      rw [hk] at h
      have := hc.ge _ (List.mem_of_getElem? hk)
      simp at h
      omega
  · have hk : ks[i - n]? = some (ks[i - n]'(by omega)) := List.getElem?_eq_getElem (by omega)
    by_cases h2 : j < n
    · rw [if_neg h1, if_pos h2, hk] at h
      have := hc.ge _ (List.mem_of_getElem? hk)
      simp at h
      omega
    · rw [if_neg h1, if_neg h2, hk] at h
      have hk2 : ks[j - n]? = some (ks[j - n]'(by omega)) := List.getElem?_eq_getElem (by omega)
      rw [hk2] at h
      simp at h
      rw [h] at hk
      have := distinct_inj hc.dis hk hk2
      omega

theorem own_back (hc : Canon n ks σ σ') {b o : Nat} (h : Own (gren g n ks) σ' b o) : Own g σ b o := by
  obtain ⟨i, ob, h1, h2, h3⟩ := own_iff.1 h
  obtain ⟨ob0, e1, e2, _⟩ := back_get hc h1
  refine own_iff.2 ⟨_, ob0, e1, h2, ?_⟩
  subst e2
  cases ob0 <;> exact h3

theorem live_ren {ob : Ob} {ρ : Nat → Nat} : live (ob.ren ρ) = live ob := by cases ob <;> rfl

theorem ren_rep (hc : Canon n ks σ σ') (hr : Rep g w σ) : Rep (gren g n ks) w σ' where
  ob i ob h := by
    obtain ⟨ob0, e1, e2, e3⟩ := back_get hc h
    have h2 := hr.ob _ _ e1
    subst e2
    cases ob0 with
    | cells l =>
      obtain ⟨b, vs, T, fz, q1, q2, q3, q4⟩ := h2
      exact ⟨b, vs, T, fz, q1, q2, q3, renCs hc e3 q4⟩
    | arr wr e sz l =>
      rcases h2 with h2 | ⟨b, vs, T, fz, rest, q1, q2, q3, q4, q5, ⟨pre, q6, q7, q8⟩, q9, q10⟩
      · exact .inl h2
      · exact .inr ⟨b, vs, T, fz, rest, q1, q2, q3, q4, q5, ⟨pre, q6, q7, fun j h h' => renF (q8 j h h')⟩, q9, q10⟩
    | map kv =>
      obtain ⟨b, es, clock, q1, q2, q3⟩ := h2
      exact ⟨b, es, clock, q1, q2, KVRep.turn (g := g) (g' := gren g n ks) (w := w) (w' := w) (fun b o hz => ⟨hz, rfl⟩) q3⟩
    | bld T u x =>
      obtain ⟨b, v, q1, q2, q3⟩ := h2
      exact ⟨b, v, q1, q2, renC hc e3 q3⟩
    | gone => trivial
  inj i j a b k hi hj la lb h1 h2 := by
    obtain ⟨a0, e1, e2, _⟩ := back_get hc hi
    obtain ⟨b0, e3, e4, _⟩ := back_get hc hj
    subst e2 e4
    rw [live_ren] at la lb
    exact back_inj hc (List.getElem?_eq_some_iff.1 hi).1 (List.getElem?_eq_some_iff.1 hj).1 (hr.inj _ _ _ _ k e1 e3 la lb h1 h2)
  apart b o hz ho := hr.apart b o hz (own_back hc ho)
  inside := hr.inside

theorem obturn_ren {g0 : G} {i : Nat} {ob ob' : Ob} (hi : i < n) (h : ObTurn g0 g i ob ob') : ObTurn g0 (gren g n ks) i ob (ob'.ren (renOf n ks)) := by
  have e1 : (gren g n ks).blk i = g.blk i := by show g.blk (backOf n ks i) = _; unfold backOf; rw [if_pos hi]
  have e2 : (gren g n ks).cap i = g.cap i := by show g.cap (backOf n ks i) = _; unfold backOf; rw [if_pos hi]
  cases ob <;> cases ob' <;> first
    | exact h
    | trivial
    | skip
  all_goals (simp only [ObTurn, Ob.ren] at h ⊢; rw [e1, e2]; exact h)

theorem ren_turn (hc : Canon n ks σ σ') {g0 : G} {w0 : World} {σ0 : St} (h : TurnN n g0 w0 σ0 g w σ) : TurnN n g0 w0 σ0 (gren g n ks) w σ' where
  os := h.os
  tape := h.tape
  output := h.output
  size := h.size
  whole := h.whole
  zs := h.zs
  znew := h.znew
  onew b o hb ho := h.onew b o hb (own_back hc ho)
  turns i ob hi ho := by
    obtain ⟨ob', h1, h2⟩ := h.turns i ob hi ho
    obtain ⟨ob2, h3, h4⟩ := hc.low i hi
    rw [h1] at h3
    cases h3
    exact ⟨_, h4, obturn_ren hi h2⟩
  blks i ob hi ho hrow := by
    show g.blk (backOf n ks i) = _
    unfold backOf
    rw [if_pos hi]
    exact h.blks i ob hi ho hrow
end

/-! ### A call's outcomes; a frame's -/
def canonV (n : Nat) (p : V × St) : V × St :=
  let ks := reach n p.2 (p.2.length * 8 + 64) (p.1.refs (obsRefs (p.2.take n) [])) []
  match canonOk n ks (p.1.refs []) p.2, canonSt n ks p.2 with
  | true, some σ' => (p.1.ren (renOf n ks), σ')
  | _, _ => p

def ftRefs : FT → List Nat → List Nat
  | [], a => a
  | x :: r, a => V.refss x (ftRefs r a)

def ftRen (ρ : Nat → Nat) (t : FT) : FT := t.map (V.rens ρ)

def canonF (n : Nat) (p : FT × St) : FT × St :=
  let ks := reach n p.2 (p.2.length * 8 + 64) (ftRefs p.1 (obsRefs (p.2.take n) [])) []
  match canonOk n ks (ftRefs p.1 []) p.2, canonSt n ks p.2 with
  | true, some σ' => (ftRen (renOf n ks) p.1, σ')
  | _, _ => p

theorem rens_get (ρ : Nat → Nat) : ∀ (l : List V) (j : Nat), (V.rens ρ l)[j]? = (l[j]?).map (V.ren ρ)
  | [], j => by simp [V.rens]
  | x :: r, 0 => by simp [V.rens]
  | x :: r, j + 1 => by simpa [V.rens] using rens_get ρ r j

theorem rens_len (ρ : Nat → Nat) : ∀ (l : List V), (V.rens ρ l).length = l.length
  | [] => rfl
  | x :: r => by simp [V.rens, rens_len ρ r]

theorem ftRen_get (ρ : Nat → Nat) (t : FT) (i : Nat) : (ftRen ρ t).get i = (t.get i).ren ρ := by
  rw [get_eq, get_eq]
  unfold ftRen
  rw [List.getElem?_map]
  cases t[i / 8]? with
  | none => rfl
  | some l =>
    simp only [Option.map_some, Option.bind_some]
    rw [rens_get]
    cases l[i % 8]? <;> rfl

theorem ftRefs_mem : ∀ {t : FT} {r : List V} {v : V}, r ∈ t → v ∈ r → ∀ o ∈ v.refs [], o ∈ ftRefs t []
  | [], r, v, h, _, o, _ => by cases h
  | x :: t, r, v, h, hv, o, ho => by
    have hrow : ∀ {l : List V}, v ∈ l → o ∈ V.refss l [] := by
      intro l
      induction l with
      | nil => intro h; cases h
      | cons y s ih =>
        intro h
        simp only [V.refss]
        rw [V.refs_app]
        rcases List.mem_cons.1 h with rfl | h
        · exact List.mem_append_left _ ho
        · exact List.mem_append_right _ (ih h)
    simp only [ftRefs]
    rw [V.refss_app]
    rcases List.mem_cons.1 h with rfl | h
    · exact List.mem_append_left _ (hrow hv)
    · exact List.mem_append_right _ (ftRefs_mem h hv o ho)

theorem get_refs {t : FT} {i : Nat} {o : Nat} (ho : o ∈ (t.get i).refs []) : o ∈ ftRefs t [] := by
  rw [get_eq] at ho
  cases hr : t[i / 8]? with
  | none => rw [hr] at ho; simp [V.refs, C.refs] at ho
  | some l =>
    rw [hr] at ho
    simp only [Option.bind_some] at ho
    cases hv : l[i % 8]? with
    | none => rw [hv] at ho; simp [V.refs, C.refs] at ho
    | some v => rw [hv] at ho; exact ftRefs_mem (List.mem_of_getElem? hr) (List.mem_of_getElem? hv) o ho

theorem canonV_end {g : G} {w : World} {σ : St} {o : List (V × St)} {v : Value} {w' : World} (h : CallEnd g w σ (fun r σ' => (r, σ') ∈ o) v w') : CallEnd g w σ (fun r σ' => (r, σ') ∈ o.map (canonV σ.length)) v w' := by
  obtain ⟨r, σ', g', h1, h2, h3, h4⟩ := h
  have hm : canonV σ.length (r, σ') ∈ o.map (canonV σ.length) := List.mem_map.2 ⟨_, h1, rfl⟩
  unfold canonV at hm
  simp only at hm
  split at hm
  · rename_i σ2 e1 e2
    obtain ⟨hc, hv⟩ := canon_spec e1 e2
    exact ⟨_, σ2, _, hm, ren_rep hc h2, (ren_turn hc (h3.n σ.length)).full, renV hc hv h4⟩
  · exact ⟨r, σ', g', hm, h2, h3, h4⟩

theorem OkT.ren {m : Nat} {t : FT} (h : OkT m t) (ρ : Nat → Nat) : OkT m (ftRen ρ t) where
  wide := by unfold ftRen; simpa using h.wide
  rows l hl := by
    unfold ftRen at hl
    obtain ⟨l0, h0, rfl⟩ := List.mem_map.1 hl
    rw [rens_len]
    exact h.rows l0 h0
  out i hi := by rw [ftRen_get, h.out i hi]; rfl

theorem renFr {m : Nat} {t : FT} (ht : OkT m t) {n : Nat} {ks : List Nat} {σ σ' : St} {g : G} {w : World} (hc : Canon n ks σ σ') (hi : ∀ o ∈ ftRefs t [], inKs n ks o = true) {tmps : Array Value} (h : FrRep g w σ (frT m t) tmps) :
    FrRep (gren g n ks) w σ' (frT m (ftRen (renOf n ks) t)) tmps := by
  refine ⟨by rw [← h.1]; simp [frT, toFr], fun i => ?_⟩
  have h1 := h.2 i
  have e : ∀ u : FT, OkT m u → (frT m u).getD i (.c .un) = u.get i := fun u hu => by
    unfold frT
    rw [toFr_get (tA_in u)]
    exact congrFun (tA_at hu) (.tmp i)
  rw [e t ht] at h1
  rw [e _ (ht.ren _), ftRen_get]
  exact renV hc (fun o ho => hi o (get_refs ho)) h1
end Go.Dm
