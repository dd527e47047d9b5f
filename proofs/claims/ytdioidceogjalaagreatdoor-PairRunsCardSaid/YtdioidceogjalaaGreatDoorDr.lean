/- The plain machine: regions whose order is open. -/
import Derived.Test.YtdioidceogjalaaGreatDoorDq
import Derived.Orders
namespace Go.Dm
set_option linter.unusedVariables false
set_option linter.unusedSimpArgs false

/-- Kinds of operations that leave the store as it is and don't look at it, unless an operand leads there. -/
def stillOp (tb : Tab) : Op → Bool
  | .move _ | .assign _ | .pick .. | .binOp .. | .unOp .. | .field .. | .extract .. | .build .. | .fieldAddr .. | .indexAddr .. | .index .. | .nilCheck _ | .makeFunc .. | .load .. => true
  | .slice _ _ _ _ none => true
  | .convert s d _ => (match (tb d).d with | .slice _ => false | _ => true)
  | .call { callee := .builtin .len, .. } | .call { callee := .builtin .min, .. } | .call { callee := .builtin .max, .. } | .call { callee := .builtin .complex, .. } | .call { callee := .builtin .real, .. } | .call { callee := .builtin .imag, .. } => true
  | _ => false

def farV : V → Bool
  | .c (.rs ..) | .c (.pa ..) => true
  | _ => false

def ptrV : V → Bool
  | .c (.ptr ..) => true
  | _ => false

/-- May it be taken first, whatever comes up? -/
def tless (pf : FuncId → Bool) (tb : Tab) (o : Op) (fr : Fr) : Bool :=
  match o with
  | .call { callee := .value x, args, .. } => (match callee (opd fr x) (args.toList.map (opd fr)) with | some (f, l) => pf f && !l.any V.hasRs | none => false)
  | .load _ x => !farV (opd fr x) && !ptrV (opd fr x)
  | o => !extraB tb o && stillOp tb o && o.operands.toList.all fun x => !farV (opd fr x)

/-- Whoever comes later touches none of its temporaries (Derived/Orders.lean's condition, over lists). -/
def freeAt (ops : Array Oper) (listed : Array Bool) (i : Nat) : Bool := Region.free .any ops listed i

def pickFirst (pf : FuncId → Bool) (tb : Tab) (ops : Array Oper) (listed : Array Bool) (fr : Fr) : List Nat → Option Nat
  | [] => none
  | i :: r =>
    match ops[i]? with
    | some o => (match o.guard with
      | none => if tless pf tb o.op fr && freeAt ops listed i then some i else pickFirst pf tb ops listed fr r
      | some _ => if tless pf tb o.op fr && freeAt ops listed i then some i else pickFirst pf tb ops listed fr r)
    | none => none

def vall (f : Nat → Prop) : List Nat → Prop
  | [] => True
  | [i] => f i
  | i :: r => f i ∧ vall f r

def vany (X : Mx) (pf : FuncId → Bool) (tb : Tab) (ops : Array Oper) (K : Fr → St → Prop) : Nat → Array Bool → Fr → St → Prop
  | fuel, listed, fr, σ =>
    match Region.ready .any ops listed with
    | [] => K fr σ
    | rs =>
      match fuel with
      | 0 => False
      | fuel + 1 =>
        match pickFirst pf tb ops listed fr rs with
        | some i => (match ops[i]? with
          | some o => vguard ops fr o (vdo X pf tb o.op fr [] fun v _ => vany X pf tb ops K fuel (listed.setIfInBounds i true) (fr.put o.dst v) σ) (vany X pf tb ops K fuel (listed.setIfInBounds i true) (fr.put o.dst (.t [])) σ)
          | none => False)
        | none => vall (fun i => match ops[i]? with
          | some o => vone X pf tb ops o (vany X pf tb ops K fuel (listed.setIfInBounds i true)) fr σ
          | none => False) rs

section
variable {P : Program} {pf : FuncId → Bool} {tb : Tab}

/-- What an operation does depends on its operands alone. -/
theorem vfill_congr {fs : List (Nat × TypeId)} {fr fr' : Fr} : ∀ (l : List (Nat × Operand)) (h : ∀ x ∈ l.map (·.2), opd fr x = opd fr' x) (cs : List C), vfill tb fs fr l cs = vfill tb fs fr' l cs
  | [], _, _ => rfl
  | (i, x) :: r, h, cs => by
    have e := h x (by simp)
    have ih := vfill_congr (fs := fs) r (fun y hy => h y (by simp only [List.map_cons, List.mem_cons]; exact .inr hy))
    simp only [vfill, e, ih]

theorem vfillRow_congr {sz : Nat} {fr fr' : Fr} : ∀ (l : List (Nat × Operand)) (h : ∀ x ∈ l.map (·.2), opd fr x = opd fr' x) (cs : List C), vfillRow sz fr l cs = vfillRow sz fr' l cs
  | [], _, _ => rfl
  | (i, x) :: r, h, cs => by
    have e := h x (by simp)
    have ih := vfillRow_congr (sz := sz) r (fun y hy => h y (by simp only [List.map_cons, List.mem_cons]; exact .inr hy))
    simp only [vfillRow, e, ih]

theorem map_congr {fr fr' : Fr} {l : List Operand} (h : ∀ x ∈ l, opd fr x = opd fr' x) : l.map (opd fr) = l.map (opd fr') := List.map_congr_left h

theorem xextra_congr {o : Op} {fr fr' : Fr} (h : ∀ x ∈ o.operands, opd fr x = opd fr' x) {σ : St} : xextra tb o (opd fr) σ = xextra tb o (opd fr') σ := by
  cases o with
  | binOp op t x y p =>
    have e1 : opd fr x = opd fr' x := h x (by simp [Op.operands])
    have e2 : opd fr y = opd fr' y := h y (by simp [Op.operands])
    simp only [xextra, e1, e2]
  | makeSlice t x y =>
    have e1 : opd fr x = opd fr' x := h x (by simp [Op.operands])
    have e2 : opd fr y = opd fr' y := h y (by simp [Op.operands])
    simp only [xextra, e1, e2]
  | fieldAddr t x i =>
    have e1 : opd fr x = opd fr' x := h x (by simp [Op.operands])
    simp only [xextra, e1]
  | convert s d x =>
    have e1 : opd fr x = opd fr' x := h x (by simp [Op.operands])
    simp only [xextra, e1]
  | call c =>
    obtain ⟨cal, args, at'⟩ := c
    cases cal with
    | builtin b =>
      have e : args.toList.map (opd fr) = args.toList.map (opd fr') := List.map_congr_left fun x hx => h x (by simp [Op.operands, Call.operands]; simpa using hx)
      simp only [xextra, e]
    | _ => rfl
  | _ => rfl

theorem vop2_congr {T : Pr} {o : Op} {fr fr' : Fr} (h : ∀ x ∈ o.operands, opd fr x = opd fr' x) {σ : St} {k : V → St → Prop} (hv : vop T tb o fr σ k = vop T tb o fr' σ k) : vop2 T tb o fr σ k = vop2 T tb o fr' σ k := by
  unfold vop2 vextra
  rw [hv, xextra_congr h]

theorem vdo_congr {X : Mx} {o : Op} {fr fr' : Fr} (h : ∀ x ∈ o.operands, opd fr x = opd fr' x) {σ : St} {k : V → St → Prop} : vdo X pf tb o fr σ k = vdo X pf tb o fr' σ k := by
  have h0 := h
  cases o with
  | build t parts =>
    simp only [Op.operands] at h
    have e := fun fs => vfill_congr (tb := tb) (fs := fs) (fr := fr) (fr' := fr') parts.toList (fun x hx => h x (by simpa using hx))
    have e' := fun sz => vfillRow_congr (sz := sz) (fr := fr) (fr' := fr') parts.toList (fun x hx => h x (by simpa using hx))
    exact vop2_congr (tb := tb) (T := X.T) h0 (by simp only [vop, e, e'])
  | buildSlice t n parts =>
    simp only [Op.operands] at h
    have e' := fun sz => vfillRow_congr (sz := sz) (fr := fr) (fr' := fr') parts.toList (fun x hx => h x (by simpa using hx))
    exact vop2_congr (tb := tb) (T := X.T) h0 (by simp only [vop, e'])
  | makeFunc fn first captured =>
    simp only [Op.operands] at h
    have e : captured.toList.map (fun x => (opd fr x).cap) = captured.toList.map (fun x => (opd fr' x).cap) :=
      List.map_congr_left fun x hx => by rw [h x (by simp; right; simpa using hx)]
    exact vop2_congr (tb := tb) (T := X.T) h0 (by cases fn <;> simp only [vop, e])
  | call c =>
    obtain ⟨cal, args, at'⟩ := c
    have e : args.toList.map (opd fr) = args.toList.map (opd fr') := map_congr fun x hx => h x (by simp [Op.operands, Call.operands]; right; simpa using hx)
    cases cal with
    | value f =>
      have ef : opd fr f = opd fr' f := h f (by simp [Op.operands, Call.operands])
      simp only [vdo, e, ef]
    | builtin b => exact vop2_congr (tb := tb) (T := X.T) h0 (by simp only [vop, e])
    | invoke r m => rfl
  | slice t x lo hi mx =>
    have e1 : opd fr x = opd fr' x := h x (by simp [Op.operands])
    have e2 : lo.map (opd fr) = lo.map (opd fr') := by cases lo with | none => rfl | some y => simp [h y (by simp [Op.operands])]
    have e3 : hi.map (opd fr) = hi.map (opd fr') := by cases hi with | none => rfl | some y => simp [h y (by simp [Op.operands])]
    exact vop2_congr (tb := tb) (T := X.T) h0 (by cases mx <;> simp only [vop, e1, e2, e3])
  | _ => exact vop2_congr (tb := tb) (T := X.T) (σ := σ) (k := k) h0 (by simp [vop] <;> simp_all [Op.operands])
end
end Go.Dm
