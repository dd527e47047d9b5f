/- Printed by merge2.py: many texts in one. -/
import Derived.Test.YtpoegfkajdbplaaDoorMc
import Derived.Test.YtpoegfkajdbplaaDoorProg
import Derived.KernelRfl

namespace Go.Dm
set_option linter.unusedVariables false
abbrev FT := List (List V)
def FT.get (t : FT) (i : Nat) : V :=
  match nth t (i / 8) with
  | some l => (match nth l (i % 8) with | some v => v | none => .c .un)
  | none => .c .un
end Go.Dm
namespace Go.Dm
set_option linter.unusedVariables false
mutual
def C.eqb : C → C → Bool
  | .f x, .f y => F.eqb x y
  | .ptr x y, .ptr x' y' => Nat.beq x x' && Nat.beq y y'
  | .pa x y z, .pa x' y' z' => Nat.beq x x' && Nat.beq y y' && Nat.beq z z'
  | .ep l n, .ep l' n' => Nat.beq n n' && F.eqbs l l'
  | .rs x y z, .rs x' y' z' => Nat.beq x x' && Nat.beq y y' && Nat.beq z z'
  | .mp x, .mp y => Nat.beq x y
  | .clo x l, .clo x' l' => Nat.beq x x' && C.eqbs l l'
  | .un, .un => true
  | _, _ => false
def C.eqbs : List C → List C → Bool
  | [], [] => true
  | x :: r, y :: s => C.eqb x y && C.eqbs r s
  | _, _ => false
end
def nub {α : Type} (eq : α → α → Bool) : List α → List α
  | [] => []
  | [x] => [x]
  | x :: y :: r =>
    let l := nub eq (y :: r)
    match l.any (eq x) with
    | true => l
    | false => x :: l
def depGo (i : Nat) : List Oper → Nat → List Bool → List Bool
  | [], _, acc => acc
  | o :: r, j, acc => depGo i r (j + 1) (acc ++ [o.after.any fun e => Region.binds .any e && (Nat.beq e.on i || (match nth acc e.on with | some b => b | none => false))])
def stlOf (tb : Tab) (ps : FuncId → Bool) (o : Op) : Bool :=
  match o with
  | .call { callee := .value x, .. } => (match x with | .func f => ps f | _ => false)
  | .slice t _ lo hi mx => (match mx, (tb t).d with | none, .str => true | _, _ => false)
  | .binOp _ t _ _ _ => (match (tb t).d with | .slice _ => false | _ => true)
  | o => !extraB tb o && stillOp tb o
def depB (D : List Bool) (j : Nat) : Bool := match nth D j with | some b => b | none => false
def calmAt (stl : Op → Bool) (ops : Array Oper) (listed : Array Bool) (i : Nat) : Bool :=
  let D := depGo i ops.toList 0 []
  (List.range ops.size).all fun j =>
    match ops[j]? with
    | none => true
    | some o =>
      match depB D j with
      | true => !listed.getD j true && o.after.any fun e => Region.binds .any e && (Nat.beq e.on i || depB D e.on)
      | false => Nat.beq j i || listed.getD j true || stl o.op
structure Ch where
  it : SItem
  op : Op
  free : Bool
  calm : Bool
  still : Bool
  deriving Inhabited
inductive Plan where
  | bad
  | node (l : List (Ch × (Unit → Plan)))
  deriving Inhabited
def choice (stl : Op → Bool) (l : List SItem) (ops : Array Oper) (listed : Array Bool) (i : Nat) : Ch :=
  match ops[i]?, nth l i with
  | some o, some s => ⟨s, o.op, freeAt ops listed i, calmAt stl ops listed i, stl o.op⟩
  | _, _ => ⟨⟨none, none, .raw (.ready 0)⟩, .ready 0, false, false, false⟩
def plan (stl : Op → Bool) (l : List SItem) (ops : Array Oper) : Nat → Array Bool → Plan
  | 0, listed => (match Region.ready .any ops listed with | [] => .node [] | _ => .bad)
  | n + 1, listed => .node ((Region.ready .any ops listed).map fun i => (choice stl l ops listed i, fun _ => plan stl l ops n (listed.setIfInBounds i true)))
end Go.Dm
namespace Go.Dm
set_option linter.unusedVariables false
set_option linter.unusedSimpArgs false
section
variable {P : Program} {tb : Tab} {σ : St} {k : V → Prop} {kk : V → St → Prop}
end
end Go.Dm
namespace Go.Dm
set_option linter.unusedVariables false
set_option linter.unusedSimpArgs false
def tA (t : FT) : Nat → AF
  | 0 => []
  | n + 1 => (n, t.get n) :: tA t n
def frT (m : Nat) (t : FT) : Fr := toFr m (tA t m)
end Go.Dm
namespace Go.Dm
set_option linter.unusedVariables false
mutual
def C.free : C → Bool
  | .f _ => true
  | .ep _ _ => true
  | .clo _ caps => C.frees caps
  | .un => true
  | .ptr _ _ => false
  | .pa _ _ _ => false
  | .rs _ _ _ => false
  | .mp _ => false
def C.frees : List C → Bool
  | [] => true
  | x :: r => (match C.free x with | true => C.frees r | false => false)
end
mutual
def V.free : V → Bool
  | .c x => x.free
  | .a l => C.frees l
  | .t l => V.frees l
def V.frees : List V → Bool
  | [] => true
  | x :: r => (match V.free x with | true => V.frees r | false => false)
end
def F.bare : F → Bool
  | .bool _ | .int _ _ | .flo _ | .cpl _ _ | .str _ | .nils | .nilp | .nilm | .nilf | .fn _ => true
  | .sl _ _ | .obj _ => false
def C.bare : C → Bool
  | .f x => x.bare
  | _ => false
mutual
def V.bare : V → Bool
  | .c x => x.bare
  | .a l => l.all C.bare
  | .t l => V.bares l
def V.bares : List V → Bool
  | [] => true
  | x :: r => (match V.bare x with | true => V.bares r | false => false)
end
mutual
def snapC : Nat → St → C → Option C
  | _, _, .f x => some (.f x)
  | _, _, .ep l n => some (.ep l n)
  | _, _, .un => some .un
  | _, σ, .rs o e n =>
    (match nth σ o with
    | some (.arr _ e0 sz l) => (match Nat.beq e e0 with | true => some (.f (.sl n l)) | false => none)
    | _ => none)
  | n + 1, σ, .ptr o off =>
    (match nth σ o with
    | some (.cells cs) =>
      (match snapCs n σ cs with
      | some l => (match frz l with | some fs => (match off with | 0 => some (.f (.obj fs)) | off => some (.ep fs off)) | none => none)
      | none => none)
    | _ => none)
  | n + 1, σ, .clo f caps => (match snapCs n σ caps with | some l => some (.clo f l) | none => none)
  | _, _, _ => none
def snapCs : Nat → St → List C → Option (List C)
  | _, _, [] => some []
  | 0, _, _ => none
  | n + 1, σ, x :: r =>
    match snapC n σ x with
    | none => none
    | some y => (match snapCs n σ r with | some l => some (y :: l) | none => none)
end
def snapV (σ : St) : V → Option V
  | .c x => (match snapC 1000 σ x with | some y => some (.c y) | none => none)
  | .a l => (match snapCs 1000 σ l with | some l' => some (.a l') | none => none)
  | .t _ => none
def snapVs (σ : St) : List V → Option (List V)
  | [] => some []
  | x :: r =>
    match snapV σ x with
    | none => none
    | some y => (match snapVs σ r with | some l => some (y :: l) | none => none)
mutual
def hardC : Nat → C → St → Option (C × St)
  | _, .f x, σ => some (.f x, σ)
  | _, .ep l n, σ => some (.ep l n, σ)
  | _, .un, σ => some (.un, σ)
  | _, .rs o e n, σ =>
    (match nth σ o with
    | some (.arr _ e0 sz l) => (match Nat.beq e e0 with | true => some (.f (.sl n l), put σ o (.arr false e0 sz l)) | false => none)
    | _ => none)
  | n + 1, .ptr o off, σ =>
    (match off with
    | 0 =>
      (match nth σ o with
      | some (.cells cs) =>
        (match hardCs n cs σ with
        | some (l, σ') =>
          (match frz l, nth σ' o with
          | some fs, some (.cells _) => some (.f (.obj fs), put σ' o .gone)
          | _, _ => none)
        | none => none)
      | _ => none)
    | _ => none)
  | n + 1, .clo f caps, σ => (match hardCs n caps σ with | some (l, σ') => some (.clo f l, σ') | none => none)
  | _, _, _ => none
def hardCs : Nat → List C → St → Option (List C × St)
  | _, [], σ => some ([], σ)
  | 0, _, _ => none
  | n + 1, x :: r, σ =>
    match hardC n x σ with
    | none => none
    | some (y, σ') => (match hardCs n r σ' with | some (l, σ'') => some (y :: l, σ'') | none => none)
end
mutual
def hardV : V → St → Option (V × St)
  | .c x, σ => (match hardC 1000 x σ with | some (y, σ') => some (.c y, σ') | none => none)
  | .a l, σ => (match hardCs 1000 l σ with | some (l', σ') => some (.a l', σ') | none => none)
  | .t l, σ => (match hardVs l σ with | some (l', σ') => some (.t l', σ') | none => none)
def hardVs : List V → St → Option (List V × St)
  | [], σ => some ([], σ)
  | x :: r, σ =>
    match hardV x σ with
    | none => none
    | some (y, σ') => (match hardVs r σ' with | some (l, σ'') => some (y :: l, σ'') | none => none)
end
mutual
def C.under (n : Nat) : C → Bool
  | .f _ => true
  | .ep _ _ => true
  | .clo _ caps => C.unders n caps
  | .un => true
  | .ptr o _ => Nat.blt o n
  | .pa o _ _ => Nat.blt o n
  | .rs o _ _ => Nat.blt o n
  | .mp o => Nat.blt o n
def C.unders (n : Nat) : List C → Bool
  | [] => true
  | x :: r => (match C.under n x with | true => C.unders n r | false => false)
end
mutual
def V.under (n : Nat) : V → Bool
  | .c x => x.under n
  | .a l => C.unders n l
  | .t l => V.unders n l
def V.unders (n : Nat) : List V → Bool
  | [] => true
  | x :: r => (match V.under n x with | true => V.unders n r | false => false)
end
def Ob.under (n : Nat) : Ob → Bool
  | .cells l => C.unders n l
  | .bld _ _ x => C.under n x
  | _ => true
end Go.Dm
namespace Go.Dm
set_option linter.unusedVariables false
set_option linter.unusedSimpArgs false
section
variable {P : Program} {tb : Tab}
abbrev noF : FuncId → Bool := fun _ => false
end
end Go.Dm
namespace Go.Dm
set_option linter.unusedVariables false
set_option linter.unusedSimpArgs false
section
variable {P : Program} {tb : Tab} {ops : Array Oper} {S : Nat → Bool}
theorem not_listed {i : Nat} {listed : Array Bool} (hr : i ∈ Region.ready .any ops listed) {j : Nat} {oj : Oper} (hoj : ops[j]? = some oj) (hj : j ∈ Region.ready .any ops listed) : ∀ e ∈ oj.after, Region.binds .any e = true → e.on ≠ i := by
  intro e he hb heq
  obtain ⟨_, oj', hoj', hall⟩ := mem_ready.1 hj
  rw [hoj] at hoj'; cases hoj'
  have h1 := hall e he hb
  have h0 := (mem_ready.1 hr).1
  rw [heq] at h1
  rcases Nat.lt_or_ge i listed.size with h' | h'
  · simp [h'] at h0 h1; rw [h0] at h1; cases h1
  · simp [Array.getElem?_eq_none h'] at h1
theorem free_step {i j : Nat} {oi : Oper} {listed : Array Bool}
    (hfree : ∀ j oj, ops[j]? = some oj → j ≠ i → listed.getD j true = false → (∀ e ∈ oj.after, Region.binds .any e = true → e.on ≠ i) → oi.apart ops oj = true) (hjun : listed.getD j true = false) :
    ∀ k ok, ops[k]? = some ok → k ≠ i → (listed.setIfInBounds j true).getD k true = false → (∀ e ∈ ok.after, Region.binds .any e = true → e.on ≠ i) → oi.apart ops ok = true := fun k ok hk hki hun hno => by
  refine hfree k ok hk hki ?_ hno
  by_cases hjk : j = k
  · subst hjk; exact hjun
  · rw [getD_set_ne true hjk] at hun; exact hun
end
end Go.Dm
namespace Go.Dm
set_option linter.unusedVariables false
set_option linter.unusedSimpArgs false
section
variable {P : Program} {tb : Tab}
end
end Go.Dm
namespace Go.Dm
set_option linter.unusedVariables false
set_option linter.unusedSimpArgs false
section
variable {P : Program} {tb : Tab}
theorem depGo_len (i : Nat) : ∀ (l : List Oper) (j : Nat) (acc : List Bool), (depGo i l j acc).length = acc.length + l.length
  | [], j, acc => by simp [depGo]
  | o :: r, j, acc => by rw [depGo, depGo_len i r]; simp; omega
def Dof (ops : Array Oper) (i j : Nat) : Bool := depB (depGo i ops.toList 0 []) j
theorem Dof_lt {ops : Array Oper} {i j : Nat} (h : Dof ops i j = true) : ∃ o, ops[j]? = some o := by
  unfold Dof depB at h
  rw [nth_eq] at h
  split at h
  · rename_i b hb
    have hlt := (List.getElem?_eq_some_iff.1 hb).1
    rw [depGo_len] at hlt
    simp at hlt
    exact ⟨ops[j], Array.getElem?_eq_getElem hlt⟩
  · cases h
theorem calm_spec {stl : Op → Bool} {ops : Array Oper} {listed : Array Bool} {i : Nat} (h : calmAt stl ops listed i = true) {j : Nat} {oj : Oper} (hj : ops[j]? = some oj) :
    (Dof ops i j = true → listed.getD j true = false ∧ ∃ e ∈ oj.after, Region.binds .any e = true ∧ (e.on = i ∨ Dof ops i e.on = true)) ∧
    (Dof ops i j = false → j ≠ i → listed.getD j true = false → stl oj.op = true) := by
  have hlt := (Array.getElem?_eq_some_iff.1 hj).1
  simp only [calmAt, List.all_eq_true, List.mem_range] at h
  have h1 := h j hlt
  rw [hj] at h1
  simp only at h1
  constructor
  · intro hd
    have hd' : depB (depGo i ops.toList 0 []) j = true := hd
    rw [hd'] at h1
    simp only [Bool.and_eq_true, Bool.not_eq_true'] at h1
    refine ⟨h1.1, ?_⟩
    obtain ⟨e, he, hb⟩ := Array.any_eq_true'.1 h1.2
    simp only [Bool.and_eq_true, Bool.or_eq_true] at hb
    exact ⟨e, he, hb.1, hb.2.imp (fun hh => Nat.eq_of_beq_eq_true hh) id⟩
  · intro hd hne hun
    have hd' : depB (depGo i ops.toList 0 []) j = false := hd
    rw [hd'] at h1
    simp only [Bool.or_eq_true] at h1
    rcases h1 with (h1 | h1) | h1
    · exact absurd (Nat.eq_of_beq_eq_true h1) hne
    · rw [hun] at h1; cases h1
    · exact h1
end
end Go.Dm
namespace Go.Dm
open Go.RowKit
set_option linter.unusedVariables false
set_option linter.unusedSimpArgs false
section
variable {P : Program} {tb : Tab}
theorem take_get {σ : St} {n o : Nat} (h : o < n) : (σ.take n)[o]? = σ[o]? := by
  rw [List.getElem?_take, if_pos h]
mutual
theorem underC {g : G} {w : World} {σ : St} {n : Nat} : ∀ {c : C} {v : Value}, c.under n = true → CRep g w σ c v → CRep g w (σ.take n) c v
  | .f x, v, _, h => h
  | .ep l o, v, _, h => h
  | .un, v, _, h => trivial
  | .ptr o off, v, hu, h => by
    obtain ⟨b, ob, h1, h2, h3, h4⟩ := h
    exact ⟨b, ob, h1, h2, by rw [take_get (blt_nat hu)]; exact h3, h4⟩
  | .pa o e off, v, hu, h => by
    obtain ⟨h1, ob, h3, h4⟩ := h
    exact ⟨h1, ob, by rw [take_get (blt_nat hu)]; exact h3, h4⟩
  | .rs o e m, v, hu, h => by
    obtain ⟨h1, ob, h3, h4⟩ := h
    exact ⟨h1, ob, by rw [take_get (blt_nat hu)]; exact h3, h4⟩
  | .mp o, v, hu, h => by
    obtain ⟨b, ob, h1, h2, h3, h4⟩ := h
    exact ⟨b, ob, h1, h2, by rw [take_get (blt_nat hu)]; exact h3, h4⟩
  | .clo f caps, v, hu, h => by
    obtain ⟨vs, h1, h2⟩ := h
    exact ⟨vs, h1, undersC hu h2⟩
theorem undersC {g : G} {w : World} {σ : St} {n : Nat} : ∀ {l : List C} {vs : List Value}, C.unders n l = true → CReps g w σ l vs → CReps g w (σ.take n) l vs
  | [], vs, _, h => h
  | c :: r, vs, hu, h => by
    simp only [C.unders] at hu
    split at hu
    · rename_i hc
      obtain ⟨v, vr, rfl, h1, h2⟩ := h
      exact ⟨v, vr, rfl, underC hc h1, undersC hu h2⟩
    · cases hu
end
mutual
theorem underV {g : G} {w : World} {σ : St} {n : Nat} : ∀ {c : V} {v : Value}, c.under n = true → VRep g w σ c v → VRep g w (σ.take n) c v
  | .c x, v, hu, h => underC hu h
  | .a l, v, hu, h => by obtain ⟨vs, h1, h2⟩ := h; exact ⟨vs, h1, undersC hu h2⟩
  | .t l, v, hu, h => by obtain ⟨vs, h1, h2⟩ := h; exact ⟨vs, h1, undersV hu h2⟩
theorem undersV {g : G} {w : World} {σ : St} {n : Nat} : ∀ {l : List V} {vs : List Value}, V.unders n l = true → VReps g w σ l vs → VReps g w (σ.take n) l vs
  | [], vs, _, h => h
  | c :: r, vs, hu, h => by
    simp only [V.unders] at hu
    split at hu
    · rename_i hc
      obtain ⟨v, vr, rfl, h1, h2⟩ := h
      exact ⟨v, vr, rfl, underV hc h1, undersV hu h2⟩
    · cases hu
end
theorem get_take {σ : St} {n i : Nat} {ob : Ob} (h : (σ.take n)[i]? = some ob) : i < n ∧ σ[i]? = some ob := by
  rw [List.getElem?_take] at h
  split at h
  · rename_i hi; exact ⟨hi, h⟩
  · cases h
theorem take_rep {g : G} {w : World} {σ : St} (hr : Rep g w σ) {n : Nat} (hu : (σ.take n).all (Ob.under n) = true) : Rep g w (σ.take n) where
  ob i ob h := by
    obtain ⟨hi, h1⟩ := get_take h
    have h2 := hr.ob i ob h1
    have h3 : Ob.under n ob = true := List.all_eq_true.1 hu ob (List.mem_of_getElem? h)
    cases ob with
    | cells l =>
      obtain ⟨b, vs, T, fz, q1, q2, q3, q4⟩ := h2
      exact ⟨b, vs, T, fz, q1, q2, q3, undersC h3 q4⟩
    | arr wr e sz l => exact h2
    | map kv =>
      obtain ⟨b, es, clock, q1, q2, q3⟩ := h2
      exact ⟨b, es, clock, q1, q2, KVRep.turn (fun b o hz => ⟨hz, rfl⟩) q3⟩
    | bld T u x =>
      obtain ⟨b, v, q1, q2, q3⟩ := h2
      exact ⟨b, v, q1, q2, underC h3 q3⟩
    | gone => trivial
  inj i j a b k hi hj := hr.inj i j a b k (get_take hi).2 (get_take hj).2
  apart b o hz ho := by
    obtain ⟨i, ob, h1, h2⟩ := ho
    exact hr.apart b o hz ⟨i, ob, (get_take h1).2, h2⟩
  inside := hr.inside
theorem bareF {g g' : G} {w w' : World} : ∀ {x : F} {v : Value}, x.bare = true → FRep g w x v → FRep g' w' x v
  | .bool _, v, _, h => h
  | .int _ _, v, _, h => h
  | .flo _, v, _, h => h
  | .cpl _ _, v, _, h => h
  | .str _, v, _, h => h
  | .nils, v, _, h => h
  | .nilp, v, _, h => h
  | .nilm, v, _, h => h
  | .nilf, v, _, h => h
  | .fn _, v, _, h => h
  | .sl _ _, v, hb, h => by simp [F.bare] at hb
  | .obj _, v, hb, h => by simp [F.bare] at hb
theorem bareCs {g g' : G} {w w' : World} {σ σ' : St} : ∀ {l : List C} {vs : List Value}, l.all C.bare = true → CReps g w σ l vs → CReps g' w' σ' l vs
  | [], vs, _, h => h
  | c :: r, vs, hb, h => by
    simp only [List.all_cons, Bool.and_eq_true] at hb
    obtain ⟨v, vr, rfl, h1, h2⟩ := h
    refine ⟨v, vr, rfl, ?_, bareCs hb.2 h2⟩
    cases c <;> simp only [C.bare, Bool.false_eq_true, false_and] at hb
    exact bareF (g := g) (w := w) hb.1 h1
mutual
theorem bareV {g g' : G} {w w' : World} {σ σ' : St} : ∀ {x : V} {v : Value}, x.bare = true → VRep g w σ x v → VRep g' w' σ' x v
  | .c x, v, hb, h => by
    cases x <;> simp only [V.bare, C.bare, Bool.false_eq_true] at hb
    exact bareF (g := g) (w := w) hb h
  | .a l, v, hb, h => by obtain ⟨vs, h1, h2⟩ := h; exact ⟨vs, h1, bareCs hb h2⟩
  | .t l, v, hb, h => by obtain ⟨vs, h1, h2⟩ := h; exact ⟨vs, h1, baresV hb h2⟩
theorem baresV {g g' : G} {w w' : World} {σ σ' : St} : ∀ {l : List V} {vs : List Value}, V.bares l = true → VReps g w σ l vs → VReps g' w' σ' l vs
  | [], vs, _, h => h
  | c :: r, vs, hb, h => by
    simp only [V.bares] at hb
    split at hb
    · rename_i hc
      obtain ⟨v, vr, rfl, h1, h2⟩ := h
      exact ⟨v, vr, rfl, bareV hc h1, baresV hb h2⟩
    · cases hb
end
def allZ (g : G) (w : World) : G := { g with Z := fun b _ => b < w.heap.size }
theorem allZ_rep {g : G} {w : World} {σ : St} (hr : Rep g w σ) {x : F} {v : Value} (h : FRep g w x v) : FRep (ghost0 w) w x v :=
  FRep.turn (fun b o hz => ⟨hr.inside b o hz, rfl⟩) _ _ h
theorem allZ_row {g : G} {w : World} {σ : St} (hr : Rep g w σ) {cs : List F} {b o : Nat} (h : FRow g w b o cs) : FRow (ghost0 w) w b o cs :=
  FRow.turn (fun b o hz => ⟨hr.inside b o hz, rfl⟩) _ _ _ h
theorem snap_rs {g : G} {w : World} {σ : St} (hr : Rep g w σ) {i e n sz : Nat} {l : List F} {wr : Bool} {v : Value} (hi : σ[i]? = some (.arr wr e sz l)) (hv : CRep g w σ (.rs i e n) v) : FRep (ghost0 w) w (.sl n l) v := by
  have h1 := rs_frozen (g' := allZ g w) (w' := w) hr hi hv rfl rfl fun b hb => FRow.of fun j x hx => by
    rcases hr.ob i _ hi with ⟨h1, _, _⟩ | ⟨c, vs, T, fz, rest, h1, h2, h3, h4, h5, ⟨pre, h6, h7, h8⟩, h9⟩
    · rw [hb] at h1; cases h1
    · rw [hb] at h1; cases h1
      have hj := (List.getElem?_eq_some_iff.1 hx).1
      rw [Nat.zero_add]
      refine ⟨(Array.getElem?_eq_some_iff.1 h2).1, pre[j]'(by omega), ?_, ?_⟩
      · simp only [World.cell?, h2]
        simp
        rw [← Array.getElem?_toList, h6, List.getElem?_append_left (by omega)]
        exact List.getElem?_eq_getElem (by omega)
      · have := h8 j hj (by omega)
        rw [(List.getElem?_eq_some_iff.1 hx).2] at this
        exact FRep.turn (fun b o hz => ⟨hr.inside b o hz, rfl⟩) _ _ this
  exact FRep.turn (g := allZ g w) (g' := ghost0 w) (w := w) (w' := w) (fun b o hz => ⟨hz, rfl⟩) _ _ h1
mutual
theorem snapC_ok {g : G} {w : World} {σ : St} (hr : Rep g w σ) : ∀ (n : Nat) {c c' : C} {v : Value}, snapC n σ c = some c' → CRep g w σ c v → CRep (ghost0 w) w [] c' v
  | n, .f x, c', v, h, hv => by simp only [snapC, Option.some.injEq] at h; subst h; exact allZ_rep hr hv
  | n, .ep l o, c', v, h, hv => by
    simp only [snapC, Option.some.injEq] at h
    subst h
    obtain ⟨b, p, h1, h2⟩ := hv
    exact ⟨b, p, h1, allZ_row hr h2⟩
  | n, .un, c', v, h, hv => by simp only [snapC, Option.some.injEq] at h; subst h; trivial
  | n, .rs o e m, c', v, h, hv => by
    simp only [snapC, nth_eq] at h
    split at h
    · rename_i wr e0 sz l ho
      split at h
      · rename_i he
        have := beq_nat he
        subst this
        cases h
        exact snap_rs hr ho hv
      · cases h
    · cases h
  | n + 1, .ptr o off, c', v, h, hv => by
    simp only [snapC, nth_eq] at h
    split at h
    · rename_i cs ho
      split at h
      · rename_i l hl
        split at h
        · rename_i fs hf
          have hfs := frz_spec hf
          subst hfs
          obtain ⟨b, vs, T, fz, q1, q2, q3, q4⟩ := hr.ob o _ ho
          obtain ⟨b', ob, p1, p2, p3, p4⟩ := hv
          rw [q1] at p1
          cases p1
          have hs := snapCs_ok hr n hl q4
          have hrow : FRow (ghost0 w) w b 0 fs := FRow.of fun i x hx => by
            obtain ⟨u, r1, r2⟩ := hs.get (i := i) (c := .f x) (by simp [hx])
            exact ⟨(Array.getElem?_eq_some_iff.1 q2).1, u, by rw [Nat.zero_add, cell_of q2]; exact r1, r2⟩
          split at h
          · cases h
            exact ⟨b, p2, hrow⟩
          · cases h
            exact ⟨b, 0, by rw [Nat.zero_add]; exact p2, hrow⟩
        · cases h
      · cases h
    · cases h
  | n + 1, .clo f caps, c', v, h, hv => by
    simp only [snapC] at h
    split at h
    · rename_i l hl
      cases h
      obtain ⟨vs, h1, h2⟩ := hv
      exact ⟨vs, h1, snapCs_ok hr n hl h2⟩
    · cases h
  | 0, .ptr o off, c', v, h, hv => by simp [snapC] at h
  | 0, .clo f caps, c', v, h, hv => by simp [snapC] at h
  | n, .pa .., c', v, h, hv => by cases n <;> simp [snapC] at h
  | n, .mp .., c', v, h, hv => by cases n <;> simp [snapC] at h
theorem snapCs_ok {g : G} {w : World} {σ : St} (hr : Rep g w σ) : ∀ (n : Nat) {l l' : List C} {vs : List Value}, snapCs n σ l = some l' → CReps g w σ l vs → CReps (ghost0 w) w [] l' vs
  | n, [], l', vs, h, hv => by cases n <;> (simp only [snapCs, Option.some.injEq] at h; subst h; exact hv)
  | 0, x :: r, l', vs, h, hv => by simp [snapCs] at h
  | n + 1, x :: r, l', vs, h, hv => by
    simp only [snapCs] at h
    split at h
    · cases h
    · rename_i y hy
      split at h
      · rename_i l hl
        cases h
        obtain ⟨v, vr, rfl, h1, h2⟩ := hv
        exact ⟨v, vr, rfl, snapC_ok hr n hy h1, snapCs_ok hr n hl h2⟩
      · cases h
end
theorem snapVs_ok {g : G} {w : World} {σ : St} (hr : Rep g w σ) : ∀ {l l' : List V} {vs : List Value}, snapVs σ l = some l' → VReps g w σ l vs → VReps (ghost0 w) w [] l' vs
  | [], l', vs, h, hv => by simp only [snapVs, Option.some.injEq] at h; subst h; exact hv
  | x :: r, l', vs, h, hv => by
    simp only [snapVs] at h
    split at h
    · cases h
    · rename_i y hy
      split at h
      · rename_i l hl
        cases h
        obtain ⟨v, vr, rfl, h1, h2⟩ := hv
        refine ⟨v, vr, rfl, ?_, snapVs_ok hr hl h2⟩
        unfold snapV at hy
        split at hy
        · split at hy
          · rename_i c hc; cases hy; exact snapC_ok hr _ hc h1
          · cases hy
        · split at hy
          · rename_i c hc; cases hy; obtain ⟨us, h3, h4⟩ := h1; exact ⟨us, h3, snapCs_ok hr _ hc h4⟩
          · cases hy
        · cases hy
      · cases h
theorem below_of_turn {w w' : World} {g' : G} {σ' : St} {g0 : G} (h : Turn g0 w [] g' w' σ') : Below w.heap.size w w' :=
  ⟨h.os, h.tape, h.output, h.size, fun b hb => h.whole b hb fun o ho => by
    obtain ⟨i, ob, h7, _⟩ := own_iff.1 ho
    simp at h7⟩
end
end Go.Dm
namespace Go.Dm
open Go.RowKit
set_option linter.unusedVariables false
set_option linter.unusedSimpArgs false
section
variable {P : Program} {tb : Tab}
theorem at_self {w : World} {b : Nat} {O : Obj} (h : w.heap[b]? = some O) : w.at b O = w := by
  have hlt := (Array.getElem?_eq_some_iff.1 h).1
  have e : w.heap.setIfInBounds b O = w.heap := by
    apply Array.ext (by simp)
    intro i h1 h2
    rw [Array.getElem_setIfInBounds]
    split
    · rename_i hi; subst hi; exact ((Array.getElem?_eq_some_iff.1 h).2).symm
    · rfl
  show { w with heap := w.heap.setIfInBounds b O } = w
  rw [e]
theorem recast {g : G} {w : World} {σ : St} (hr : Rep g w σ) {i b : Nat} {l l' : List C} {vs : Array Value} {T : TypeId} {fz : Nat × Nat} (hi : σ[i]? = some (.cells l)) (hb : g.blk i = some b) (hO : w.heap[b]? = some (.cells vs T fz)) (hf : Free vs.size fz)
    (hl : CReps g w σ l' vs.toList) : Rep g w (σ.set i (.cells l')) ∧ Turn g w σ g w (σ.set i (.cells l')) := by
  have h := write_cells (vs' := vs.toList) hr hi hb hO hf (by simp) hl
  simp only [Array.toArray_toList] at h
  rw [at_self hO] at h
  exact h
mutual
theorem hardC_ok : ∀ (n : Nat) {g : G} {w : World} {σ σ' : St} {c c' : C} {v : Value}, Rep g w σ → hardC n c σ = some (c', σ') → CRep g w σ c v → ∃ g', Rep g' w σ' ∧ Turn g w σ g' w σ' ∧ CRep g' w σ' c' v
  | n, g, w, σ, σ', .f x, c', v, hr, h, hv => by cases n <;> (simp only [hardC, Option.some.injEq] at h; cases h; exact ⟨g, hr, Turn.refl _ _ _, hv⟩)
  | n, g, w, σ, σ', .ep l o, c', v, hr, h, hv => by cases n <;> (simp only [hardC, Option.some.injEq] at h; cases h; exact ⟨g, hr, Turn.refl _ _ _, hv⟩)
  | n, g, w, σ, σ', .un, c', v, hr, h, hv => by cases n <;> (simp only [hardC, Option.some.injEq] at h; cases h; exact ⟨g, hr, Turn.refl _ _ _, hv⟩)
  | n, g, w, σ, σ', .rs o e m, c', v, hr, h, hv => by
    have h' : (match nth σ o with
      | some (.arr _ e0 sz l) => (match Nat.beq e e0 with | true => some (C.f (.sl m l), put σ o (.arr false e0 sz l)) | false => none)
      | _ => none) = some (c', σ') := by cases n <;> (simp only [hardC] at h; exact h)
    simp only [nth_eq, put_eq] at h'
    split at h'
    · rename_i wr e0 sz l ho
      split at h'
      · rename_i he
        have := beq_nat he
        subst this
        cases h'
        obtain ⟨g1, k1, k2, k3, k4, k5⟩ := freeze_arr hr ho
        exact ⟨g1, k1, k2, rs_frozen (w' := w) hr ho hv k3 k4 k5⟩
      · cases h'
    · cases h'
  | n + 1, g, w, σ, σ', .ptr o off, c', v, hr, h, hv => by
    simp only [hardC, nth_eq, put_eq] at h
    split at h
    · split at h
      · rename_i cs ho
        split at h
        · rename_i l σ1 hl
          split at h
          · rename_i fs cs2 hf ho2
            cases h
            have hfs := frz_spec hf
            subst hfs
            obtain ⟨b, vs, T, fz, q1, q2, q3, q4⟩ := hr.ob o _ ho
            obtain ⟨b', ob, p1, p2, p3, p4⟩ := hv
            rw [q1] at p1
            cases p1
            obtain ⟨g1, k1, k2, k3⟩ := hardCs_ok n hr hl q4
            have hb1 : g1.blk o = some b := (k2.blks o _ ho rfl).trans q1
            obtain ⟨m1, m2⟩ := recast k1 ho2 hb1 q2 q3 k3
            have hget : (σ1.set o (.cells (fs.map .f)))[o]? = some (.cells (fs.map .f)) := by
              rw [List.getElem?_set, if_pos rfl, if_pos (lt_of_get ho2)]
            obtain ⟨g2, r1, r2, r3, r4, r5⟩ := freeze_obj m1 hget hb1
            rw [List.set_set] at r1 r2
            exact ⟨g2, r1, k2.trans (m2.trans r2), ⟨b, p2, r5⟩⟩
          · cases h
        · cases h
      · cases h
    · cases h
  | n + 1, g, w, σ, σ', .clo f caps, c', v, hr, h, hv => by
    simp only [hardC] at h
    split at h
    · rename_i l σ1 hl
      cases h
      obtain ⟨vs, h1, h2⟩ := hv
      obtain ⟨g1, k1, k2, k3⟩ := hardCs_ok n hr hl h2
      exact ⟨g1, k1, k2, ⟨vs, h1, k3⟩⟩
    · cases h
  | 0, g, w, σ, σ', .ptr o off, c', v, hr, h, hv => by simp [hardC] at h
  | 0, g, w, σ, σ', .clo f caps, c', v, hr, h, hv => by simp [hardC] at h
  | n, g, w, σ, σ', .pa .., c', v, hr, h, hv => by cases n <;> simp [hardC] at h
  | n, g, w, σ, σ', .mp .., c', v, hr, h, hv => by cases n <;> simp [hardC] at h
theorem hardCs_ok : ∀ (n : Nat) {g : G} {w : World} {σ σ' : St} {l l' : List C} {vs : List Value}, Rep g w σ → hardCs n l σ = some (l', σ') → CReps g w σ l vs → ∃ g', Rep g' w σ' ∧ Turn g w σ g' w σ' ∧ CReps g' w σ' l' vs
  | n, g, w, σ, σ', [], l', vs, hr, h, hv => by cases n <;> (simp only [hardCs, Option.some.injEq] at h; cases h; exact ⟨g, hr, Turn.refl _ _ _, hv⟩)
  | 0, g, w, σ, σ', x :: r, l', vs, hr, h, hv => by simp [hardCs] at h
  | n + 1, g, w, σ, σ', x :: r, l', vs, hr, h, hv => by
    simp only [hardCs] at h
    split at h
    · cases h
    · rename_i y σ1 hy
      split at h
      · rename_i l2 σ2 hl
        cases h
        obtain ⟨v, vr, rfl, h1, h2⟩ := hv
        obtain ⟨g1, k1, k2, k3⟩ := hardC_ok n hr hy h1
        obtain ⟨g2, m1, m2, m3⟩ := hardCs_ok n k1 hl (CReps.turn k2 _ _ h2)
        exact ⟨g2, m1, k2.trans m2, ⟨v, vr, rfl, CRep.turn m2 _ _ k3, m3⟩⟩
      · cases h
end
mutual
theorem hardV_ok : ∀ {g : G} {w : World} {σ σ' : St} {c c' : V} {v : Value}, Rep g w σ → hardV c σ = some (c', σ') → VRep g w σ c v → ∃ g', Rep g' w σ' ∧ Turn g w σ g' w σ' ∧ VRep g' w σ' c' v
  | g, w, σ, σ', .c x, c', v, hr, h, hv => by
    simp only [hardV] at h
    split at h
    · rename_i y σ1 hy; cases h; exact hardC_ok _ hr hy hv
    · cases h
  | g, w, σ, σ', .a l, c', v, hr, h, hv => by
    simp only [hardV] at h
    split at h
    · rename_i y σ1 hy
      cases h
      obtain ⟨vs, h1, h2⟩ := hv
      obtain ⟨g1, k1, k2, k3⟩ := hardCs_ok _ hr hy h2
      exact ⟨g1, k1, k2, ⟨vs, h1, k3⟩⟩
    · cases h
  | g, w, σ, σ', .t l, c', v, hr, h, hv => by
    simp only [hardV] at h
    split at h
    · rename_i y σ1 hy
      cases h
      obtain ⟨vs, h1, h2⟩ := hv
      obtain ⟨g1, k1, k2, k3⟩ := hardVs_ok hr hy h2
      exact ⟨g1, k1, k2, ⟨vs, h1, k3⟩⟩
    · cases h
theorem hardVs_ok : ∀ {g : G} {w : World} {σ σ' : St} {l l' : List V} {vs : List Value}, Rep g w σ → hardVs l σ = some (l', σ') → VReps g w σ l vs → ∃ g', Rep g' w σ' ∧ Turn g w σ g' w σ' ∧ VReps g' w σ' l' vs
  | g, w, σ, σ', [], l', vs, hr, h, hv => by simp only [hardVs, Option.some.injEq] at h; cases h; exact ⟨g, hr, Turn.refl _ _ _, hv⟩
  | g, w, σ, σ', x :: r, l', vs, hr, h, hv => by
    simp only [hardVs] at h
    split at h
    · cases h
    · rename_i y σ1 hy
      split at h
      · rename_i l2 σ2 hl
        cases h
        obtain ⟨v, vr, rfl, h1, h2⟩ := hv
        obtain ⟨g1, k1, k2, k3⟩ := hardV_ok hr hy h1
        obtain ⟨g2, m1, m2, m3⟩ := hardVs_ok k1 hl (VReps.turn k2 _ _ h2)
        exact ⟨g2, m1, k2.trans m2, ⟨v, vr, rfl, VRep.turn m2 _ _ k3, m3⟩⟩
      · cases h
end
section
variable {g g' : G} {w w' : World} {σ σ' : St}
def Keeps (g : G) (w : World) (g' : G) (w' : World) : Prop := ∀ b o, g.Z b o → g'.Z b o ∧ w'.cell? ⟨b, o, none⟩ = w.cell? ⟨b, o, none⟩
mutual
theorem freeC (hz : Keeps g w g' w') : ∀ {c : C} {v : Value}, c.free = true → CRep g w σ c v → CRep g' w' σ' c v
  | .f x, v, _, h => FRep.turn hz _ _ h
  | .ep l o, v, _, h => by obtain ⟨b, p, h1, h2⟩ := h; exact ⟨b, p, h1, FRow.turn hz _ _ _ h2⟩
  | .un, v, _, h => trivial
  | .clo f caps, v, hf, h => by obtain ⟨vs, h1, h2⟩ := h; exact ⟨vs, h1, freeCs hz hf h2⟩
  | .ptr .., v, hf, h => by simp [C.free] at hf
  | .pa .., v, hf, h => by simp [C.free] at hf
  | .rs .., v, hf, h => by simp [C.free] at hf
  | .mp .., v, hf, h => by simp [C.free] at hf
theorem freeCs (hz : Keeps g w g' w') : ∀ {l : List C} {vs : List Value}, C.frees l = true → CReps g w σ l vs → CReps g' w' σ' l vs
  | [], vs, _, h => h
  | c :: r, vs, hf, h => by
    simp only [C.frees] at hf
    split at hf
    · rename_i hc
      obtain ⟨v, vr, rfl, h1, h2⟩ := h
      exact ⟨v, vr, rfl, freeC hz hc h1, freeCs hz hf h2⟩
    · cases hf
end
mutual
theorem freeV (hz : Keeps g w g' w') : ∀ {c : V} {v : Value}, c.free = true → VRep g w σ c v → VRep g' w' σ' c v
  | .c x, v, hf, h => freeC hz hf h
  | .a l, v, hf, h => by obtain ⟨vs, h1, h2⟩ := h; exact ⟨vs, h1, freeCs hz hf h2⟩
  | .t l, v, hf, h => by obtain ⟨vs, h1, h2⟩ := h; exact ⟨vs, h1, freeVs hz hf h2⟩
theorem freeVs (hz : Keeps g w g' w') : ∀ {l : List V} {vs : List Value}, V.frees l = true → VReps g w σ l vs → VReps g' w' σ' l vs
  | [], vs, _, h => h
  | c :: r, vs, hf, h => by
    simp only [V.frees] at hf
    split at hf
    · rename_i hc
      obtain ⟨v, vr, rfl, h1, h2⟩ := h
      exact ⟨v, vr, rfl, freeV hz hc h1, freeVs hz hf h2⟩
    · cases hf
end
end
end
end Go.Dm
namespace Go.Proofs.YtpoegfkajdbplaaDoor
open Go.Dm
def tl : List TI := [
  noTI,
  ⟨.fn, 1, 8, [.nilf], []⟩,
  ⟨.int .i64, 1, 8, [.int .i64 0], []⟩,
  ⟨.int .i64, 1, 8, [.int .i64 0], []⟩,
  ⟨.bool, 1, 1, [.bool false], []⟩,
  ⟨.int .u8, 1, 1, [.int .u8 0], []⟩,
  ⟨.int .u8, 1, 1, [.int .u8 0], []⟩,
  ⟨.struct [(0, 2), (1, 3), (2, 4), (3, 6)], 4, 24, [.int .i64 0, .int .i64 0, .bool false, .int .u8 0], []⟩,
  ⟨.struct [(0, 2), (1, 3), (2, 4), (3, 6)], 4, 24, [.int .i64 0, .int .i64 0, .bool false, .int .u8 0], []⟩,
  ⟨.str, 1, 16, [.str []], []⟩,
  ⟨.str, 1, 16, [.str []], []⟩,
  ⟨.str, 1, 16, [.str []], []⟩,
  ⟨.int .u64, 1, 8, [.int .u64 0], []⟩,
  ⟨.struct [(0, 9), (1, 12)], 2, 24, [.str [], .int .u64 0], []⟩,
  ⟨.struct [(0, 9), (1, 12)], 2, 24, [.str [], .int .u64 0], []⟩,
  ⟨.ptr 89, 1, 8, [.nilp], []⟩,
  ⟨.ptr 92, 1, 8, [.nilp], []⟩,
  ⟨.ptr 100, 1, 8, [.nilp], []⟩,
  ⟨.struct [(0, 17)], 1, 8, [.nilp], []⟩,
  ⟨.struct [(0, 17)], 1, 8, [.nilp], []⟩,
  noTI,
  ⟨.int .i32, 1, 4, [.int .i32 0], []⟩,
  ⟨.slice 49, 1, 24, [.nils], []⟩,
  ⟨.struct [(0, 3), (1, 3), (2, 22)], 3, 40, [.int .i64 0, .int .i64 0, .nils], []⟩,
  ⟨.struct [(0, 3), (1, 3), (2, 22)], 3, 40, [.int .i64 0, .int .i64 0, .nils], []⟩,
  ⟨.slice 9, 1, 24, [.nils], []⟩,
  ⟨.fn, 1, 8, [.nilf], []⟩,
  ⟨.struct [(0, 3), (1, 3), (2, 25)], 3, 40, [.int .i64 0, .int .i64 0, .nils], []⟩,
  ⟨.struct [(0, 3), (1, 3), (2, 25)], 3, 40, [.int .i64 0, .int .i64 0, .nils], []⟩,
  ⟨.fn, 1, 8, [.nilf], []⟩,
  ⟨.int .i64, 1, 8, [.int .i64 0], []⟩,
  noTI,
  ⟨.fn, 1, 8, [.nilf], []⟩,
  ⟨.fn, 1, 8, [.nilf], []⟩,
  ⟨.fn, 1, 8, [.nilf], []⟩,
  ⟨.slice 5, 1, 24, [.nils], []⟩,
  ⟨.fn, 1, 8, [.nilf], []⟩,
  ⟨.fn, 1, 8, [.nilf], []⟩,
  ⟨.fn, 1, 8, [.nilf], []⟩,
  ⟨.fn, 1, 8, [.nilf], []⟩,
  ⟨.fn, 1, 8, [.nilf], []⟩,
  ⟨.fn, 1, 8, [.nilf], []⟩,
  ⟨.fn, 1, 8, [.nilf], []⟩,
  ⟨.slice 24, 1, 24, [.nils], []⟩,
  ⟨.slice 28, 1, 24, [.nils], []⟩,
  ⟨.fn, 1, 8, [.nilf], []⟩,
  ⟨.fn, 1, 8, [.nilf], []⟩,
  ⟨.fn, 1, 8, [.nilf], []⟩,
  ⟨.fn, 1, 8, [.nilf], []⟩,
  ⟨.slice 3, 1, 24, [.nils], []⟩,
  ⟨.fn, 1, 8, [.nilf], []⟩,
  ⟨.fn, 1, 8, [.nilf], []⟩,
  ⟨.fn, 1, 8, [.nilf], []⟩,
  ⟨.fn, 1, 8, [.nilf], []⟩,
  ⟨.fn, 1, 8, [.nilf], []⟩,
  ⟨.ptr 57, 1, 8, [.nilp], []⟩,
  ⟨.struct [(0, 55), (1, 35)], 2, 32, [.nilp, .nils], []⟩,
  ⟨.bld 55 35, 2, 32, [.nilp, .nils], []⟩,
  noTI,
  noTI,
  noTI,
  ⟨.fn, 1, 8, [.nilf], []⟩,
  ⟨.fn, 1, 8, [.nilf], []⟩,
  ⟨.slice 25, 1, 24, [.nils], []⟩,
  ⟨.fn, 1, 8, [.nilf], []⟩,
  ⟨.fn, 1, 8, [.nilf], []⟩,
  ⟨.fn, 1, 8, [.nilf], []⟩,
  ⟨.fn, 1, 8, [.nilf], []⟩,
  ⟨.fn, 1, 8, [.nilf], []⟩,
  ⟨.ptr 5, 1, 8, [.nilp], []⟩,
  ⟨.fn, 1, 8, [.nilf], []⟩,
  ⟨.fn, 1, 8, [.nilf], []⟩,
  ⟨.fn, 1, 8, [.nilf], []⟩,
  ⟨.uptr, 1, 8, [.nilp], []⟩,
  ⟨.fn, 1, 8, [.nilf], []⟩,
  ⟨.fn, 1, 8, [.nilf], []⟩,
  noTI,
  ⟨.fn, 1, 8, [.nilf], []⟩,
  ⟨.fn, 1, 8, [.nilf], []⟩,
  ⟨.fn, 1, 8, [.nilf], []⟩,
  ⟨.int .u64, 1, 8, [.int .u64 0], []⟩,
  ⟨.int .u32, 1, 4, [.int .u32 0], []⟩,
  noTI,
  ⟨.fn, 1, 8, [.nilf], []⟩,
  noTI,
  ⟨.struct [(0, 5), (1, 5)], 2, 2, [.int .u8 0, .int .u8 0], []⟩,
  ⟨.struct [(0, 5), (1, 5)], 2, 2, [.int .u8 0, .int .u8 0], [.i .u8, .i .u8]⟩,
  ⟨.array 16 86, 32, 32, [.int .u8 0, .int .u8 0, .int .u8 0, .int .u8 0, .int .u8 0, .int .u8 0, .int .u8 0, .int .u8 0, .int .u8 0, .int .u8 0, .int .u8 0, .int .u8 0, .int .u8 0, .int .u8 0, .int .u8 0, .int .u8 0, .int .u8 0, .int .u8 0, .int .u8 0, .int .u8 0, .int .u8 0, .int .u8 0, .int .u8 0, .int .u8 0, .int .u8 0, .int .u8 0, .int .u8 0, .int .u8 0, .int .u8 0, .int .u8 0, .int .u8 0, .int .u8 0], [.i .u8, .i .u8, .i .u8, .i .u8, .i .u8, .i .u8, .i .u8, .i .u8, .i .u8, .i .u8, .i .u8, .i .u8, .i .u8, .i .u8, .i .u8, .i .u8, .i .u8, .i .u8, .i .u8, .i .u8, .i .u8, .i .u8, .i .u8, .i .u8, .i .u8, .i .u8, .i .u8, .i .u8, .i .u8, .i .u8, .i .u8, .i .u8]⟩,
  ⟨.struct [(0, 17), (1, 17), (2, 17), (3, 9)], 4, 40, [.nilp, .nilp, .nilp, .str []], []⟩,
  ⟨.struct [(0, 17), (1, 17), (2, 17), (3, 9)], 4, 40, [.nilp, .nilp, .nilp, .str []], []⟩,
  ⟨.array 0 16, 0, 0, [], []⟩,
  ⟨.struct [(0, 90)], 0, 0, [], []⟩,
  ⟨.struct [(0, 90)], 0, 0, [], []⟩,
  ⟨.fn, 1, 8, [.nilf], []⟩,
  ⟨.int .u8, 1, 1, [.int .u8 0], []⟩,
  ⟨.int .u8, 1, 1, [.int .u8 0], []⟩,
  ⟨.fn, 1, 8, [.nilf], []⟩,
  ⟨.int .i32, 1, 4, [.int .i32 0], []⟩,
  ⟨.int .i32, 1, 4, [.int .i32 0], []⟩,
  ⟨.struct [(0, 12), (1, 12), (2, 81), (3, 94), (4, 5), (5, 5), (6, 95), (7, 96), (8, 69), (9, 97), (10, 98)], 11, 48, [.int .u64 0, .int .u64 0, .int .u32 0, .int .u8 0, .int .u8 0, .int .u8 0, .int .u8 0, .nilf, .nilp, .int .i32 0, .int .i32 0], []⟩,
  ⟨.struct [(0, 12), (1, 12), (2, 81), (3, 94), (4, 5), (5, 5), (6, 95), (7, 96), (8, 69), (9, 97), (10, 98)], 11, 48, [.int .u64 0, .int .u64 0, .int .u32 0, .int .u8 0, .int .u8 0, .int .u8 0, .int .u8 0, .nilf, .nilp, .int .i32 0, .int .i32 0], []⟩]
def tb : Tab := tabOf tl
theorem tok : TabOk Tryd.prog tb := tab_ok (by kernel_rfl)
theorem mixed : Tryd.prog.follows .mixedOrders = true := by kernel_rfl
end Go.Proofs.YtpoegfkajdbplaaDoor
namespace Go.Dm
open Go.RowKit
set_option linter.unusedVariables false
set_option linter.unusedSimpArgs false
section
variable {n : Nat} {ks : List Nat} {σ σ' : St} {g : G} {w : World}
end
end Go.Dm
namespace Go.Dm
set_option linter.unusedVariables false
inductive YT where
  | done
  | go (i : SItem) (c : Option Op) (p : YT)
  | alt (i : SItem) (p q : YT)
  | stop
  | sub (s p : YT)
  | goc (i : SItem) (p : YT)
  deriving Inhabited
inductive YCode where
  | skip
  | ops (l : List SItem)
  | tree (t : YT)
  | any (n : Nat) (fb : Unit → Plan)
  | seq (a b : YCode)
  | cond (c : Operand) (a b : YCode)
  | block (id : Nat) (c : YCode)
  | loop (c : YCode)
  | exit (id : Nat)
  | ret
  | bad
  deriving Inhabited
inductive PT where
  | done
  | go (i : Nat) (c : Bool) (p : PT)
  | alt (i : Nat) (p q : PT)
  | stop
  | sub (s p : PT)
  | goc (i : Nat) (p : PT)
  deriving Inhabited
abbrev Hints := List (Nat × PT)
def hintAt (id : Nat) : Hints → Option PT
  | [] => none
  | (j, s) :: r => match Nat.beq j id with | true => some s | false => hintAt id r
def ytree (tb : Tab) (ops : Array Oper) : PT → Option YT
  | .done => some .done
  | .stop => some .stop
  | .go i c p =>
    (match ops[i]? with
    | none => none
    | some o => (match ytree tb ops p with | none => none | some t => some (.go (sitem tb ops o) (match c with | true => none | false => some o.op) t)))
  | .alt i p q =>
    (match ops[i]? with
    | none => none
    | some o => (match ytree tb ops p with
      | none => none
      | some t => (match ytree tb ops q with | none => none | some u => some (.alt (sitem tb ops o) t u))))
  | .sub s p =>
    (match ytree tb ops s with
    | none => none
    | some t => (match ytree tb ops p with | none => none | some u => some (.sub t u)))
  | .goc i p =>
    (match ops[i]? with
    | none => none
    | some o => (match ytree tb ops p with | none => none | some t => some (.goc (sitem tb ops o) t)))
def PT.alts : PT → List Nat
  | .alt i _ q => i :: q.alts
  | _ => []
def nilB (l : List Nat) : Bool := match l with | [] => true | _ => false
def natsB : List Nat → List Nat → Bool
  | [], [] => true
  | a :: l, b :: r => (match Nat.beq a b with | true => natsB l r | false => false)
  | _, _ => false
def readS : SOp → Bool
  | .mv _ | .pick .. | .bin .. | .un .. | .load .. | .fa .. | .fld .. | .ixr .. | .ixa .. | .chr .. | .len .. | .ext .. | .nilc _ => true
  | _ => false
def addS : SOp → Bool
  | .alloc _ | .box _ => true
  | _ => false
def rowS : SOp → Bool
  | .app .. => true
  | .bsl _ _ _ _ parts => (match parts with | [] => true | _ => false)
  | _ => false
def calmY (tb : Tab) (stl : Op → Bool) (ops : Array Oper) (listed : Array Bool) (i : Nat) (o : Op) : Bool :=
  stl o && (calmAt stl ops listed i || (readS (comp tb o) && calmAt (fun o => stl o || addS (comp tb o)) ops listed i))
def ptOk (tb : Tab) (stl : Op → Bool) (ops : Array Oper) : PT → Bool → (Nat → Array Bool → Bool) → Nat → Array Bool → Bool
  | .done, top, k, n, listed => top && k n listed
  | .go i c p, top, k, n, listed =>
    (match n with
    | 0 => false
    | n + 1 =>
      match top && ((Region.ready .any ops listed).contains i && freeAt ops listed i && (match c, ops[i]? with | _, none => false | true, some o => calmY tb stl ops listed i o.op | false, some _ => true)) with
      | true => ptOk tb stl ops p true k n (listed.setIfInBounds i true)
      | false => false)
  | .alt i p q, top, k, n, listed =>
    (match n with
    | 0 => false
    | n + 1 =>
      match (match top with | true => natsB (Region.ready .any ops listed) (i :: q.alts) | false => true) with
      | true => (match ptOk tb stl ops p true k n (listed.setIfInBounds i true) with | true => ptOk tb stl ops q false k (n + 1) listed | false => false)
      | false => false)
  | .stop, top, _, _, _ => !top
  | .sub s p, top, k, n, listed => top && ptOk tb stl ops s true (fun n' l' => ptOk tb stl ops p true k n' l') n listed
  | .goc i p, top, k, n, listed =>
    (match n with
    | 0 => false
    | n + 1 =>
      match top && ((Region.ready .any ops listed).contains i && freeAt ops listed i && (match ops[i]? with | none => false | some o => stl o.op && calmAt (fun o => stl o || (addS (comp tb o) || rowS (comp tb o))) ops listed i)) with
      | true => ptOk tb stl ops p true k n (listed.setIfInBounds i true)
      | false => false)
def allRun (ops : Array Oper) (_ : Nat) (listed : Array Bool) : Bool := nilB (Region.ready .any ops listed)
def planOf (tb : Tab) (stl : Op → Bool) (ops : Array Oper) : Plan := plan stl (ops.toList.map (sitem tb ops)) ops ops.size (Array.replicate ops.size false)
def ycomp (tb : Tab) (stl : Op → Bool) (H : Hints) : Code → YCode
  | .skip => .skip
  | .region id ops draw =>
    (match draw with
    | false => .ops (ops.toList.map (sitem tb ops))
    | true =>
      match hintAt id H with
      | some s => (match ytree tb ops s with | some t => .tree t | none => .bad)
      | none => .any ops.size (fun _ => planOf tb stl ops))
  | .seq a b => .seq (ycomp tb stl H a) (ycomp tb stl H b)
  | .cond c a b => .cond c (ycomp tb stl H a) (ycomp tb stl H b)
  | .block id c => .block id (ycomp tb stl H c)
  | .loop c => .loop (ycomp tb stl H c)
  | .exit id => .exit id
  | .label _ => .skip
  | .ret => .ret
  | _ => .bad
def hintsOk (tb : Tab) (stl : Op → Bool) (H : Hints) : Code → Bool
  | .region id ops draw =>
    (match draw with
    | false => true
    | true => (match hintAt id H with | some s => ptOk tb stl ops s true (allRun ops) ops.size (Array.replicate ops.size false) | none => true))
  | .seq a b => (match hintsOk tb stl H a with | true => hintsOk tb stl H b | false => false)
  | .cond _ a b => (match hintsOk tb stl H a with | true => hintsOk tb stl H b | false => false)
  | .block _ c => hintsOk tb stl H c
  | .loop c => hintsOk tb stl H c
  | _ => true
structure YFun where
  m : Nat
  code : YCode
  rs : List ResultVar
  deriving Inhabited
def yfunOf (P : Program) (tb : Tab) (stl : Op → Bool) (H : Hints) (f : FuncId) : Option YFun :=
  match P.funcs[f]? with
  | none => none
  | some fn =>
    match fn.body with
    | none => none
    | some c => (match fn.name == "runtime.NumGoroutine" with | true => none | false => some ⟨fn.ntmps, ycomp tb stl H c, fn.results.toList⟩)
def yhintOk (P : Program) (tb : Tab) (stl : Op → Bool) (H : Hints) (f : FuncId) : Bool :=
  match P.funcs[f]? with
  | none => false
  | some fn => (match fn.body with | none => false | some c => hintsOk tb stl H c)
def movOp : Op → Bool
  | .move _ | .assign _ => true
  | _ => false
structure Ent (P : Program) (tb : Tab) (stl : Op → Bool) where
  f : Nat
  H : Hints
  F : YFun
  ok : yfunOf P tb stl H f = some F
  chk : yhintOk P tb stl H f = true
end Go.Dm
namespace Go.Dm
open Go.RowKit
set_option linter.unusedVariables false
set_option linter.unusedSimpArgs false
section
variable {P : Program} {tb : Tab}
theorem nilB_eq {l : List Nat} (h : nilB l = true) : l = [] := by cases l with | nil => rfl | cons => cases h
theorem natsB_eq : ∀ {a b : List Nat}, natsB a b = true → a = b
  | [], [], _ => rfl
  | x :: l, y :: r, h => by
    simp only [natsB] at h
    split at h
    · rename_i hb; rw [beq_nat hb, natsB_eq h]
    · cases h
  | [], _ :: _, h => by cases h
  | _ :: _, [], h => by cases h
def Lv (stl : Op → Bool) (tb : Tab) (ops : Array Oper) (i : Nat) (σ σ' : St) : Prop :=
  ∀ o, ops[i]? = some o → (stl o.op = true → σ' = σ) ∧ (addS (comp tb o.op) = true → ∃ new, σ' = σ ++ new)
def pAnyG (P : Program) (tb : Tab) (ops : Array Oper) (R : Nat → St → St → Prop) (K : Fr → St → Prop) : Nat → Array Bool → Fr → St → Prop
  | 0, listed, fr, σ => Region.ready .any ops listed = [] ∧ K fr σ
  | fuel + 1, listed, fr, σ => (Region.ready .any ops listed = [] → K fr σ) ∧
    ∀ i ∈ Region.ready .any ops listed, ∀ o, ops[i]? = some o → pOne P noF tb ops o (fun fr' σ' => R i σ σ' ∧ pAnyG P tb ops R K fuel (listed.setIfInBounds i true) fr' σ') fr σ
def Adds (σ σ' : St) : Prop := ∃ new, σ' = σ ++ new
def PTSays (P : Program) (tb : Tab) (ps : FuncId → Bool) (ops : Array Oper) (m : Nat) (K : Fr → St → Prop) (s : PT) (top : Bool) (n : Nat) (listed : Array Bool) (t : FT) (σ : St) : Prop :=
  match top with
  | true => pAnyG P tb ops (Lv (stlOf tb ps) tb ops) K n listed (frT m t) σ
  | false => ∀ n', n = n' + 1 → ∀ i ∈ s.alts, ∀ o, ops[i]? = some o →
      pOne P noF tb ops o (fun fr' σ' => (Lv (stlOf tb ps) tb ops i σ σ') ∧ pAnyG P tb ops (Lv (stlOf tb ps) tb ops) K n' (listed.setIfInBounds i true) fr' σ') (frT m t) σ
theorem hints_two {x y : Bool} (h : (match x with | true => y | false => false) = true) : x = true ∧ y = true := by cases x <;> cases y <;> first | exact ⟨rfl, rfl⟩ | cases h
theorem yfunOf_spec {stl : Op → Bool} {H : Hints} {f : FuncId} {F : YFun} (h : yfunOf P tb stl H f = some F) : ∃ fn c, P.funcs[f]? = some fn ∧ fn.body = some c ∧ (fn.name == "runtime.NumGoroutine") = false ∧ F = ⟨fn.ntmps, ycomp tb stl H c, fn.results.toList⟩ := by
  unfold yfunOf at h
  split at h
  · cases h
  · rename_i fn hf
    split at h
    · cases h
    · rename_i c hb
      split at h
      · cases h
      · rename_i hn
        cases h
        exact ⟨fn, c, hf, hb, hn, rfl⟩
end
end Go.Dm
