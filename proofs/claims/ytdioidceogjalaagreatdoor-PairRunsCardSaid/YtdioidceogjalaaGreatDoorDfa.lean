/- The plain machine: further operations, as they are reckoned; what they answer is all that may come. -/
import Derived.Test.YtdioidceogjalaaGreatDoorDf
namespace Go.Dm
set_option linter.unusedVariables false

/-- Outcomes: none: it can't go on; else all that may come. -/
abbrev Rs (α : Type) := Option (List α)

def nth {α : Type} : List α → Nat → Option α
  | [], _ => none
  | x :: r, n => match n with | 0 => some x | n + 1 => nth r n

def put {α : Type} : List α → Nat → α → List α
  | [], _, _ => []
  | x :: r, n, v => match n with | 0 => v :: r | n + 1 => x :: put r n v

theorem nth_eq {α : Type} : ∀ (l : List α) (i : Nat), nth l i = l[i]?
  | [], i => by simp [nth]
  | x :: r, 0 => rfl
  | x :: r, i + 1 => by simp [nth, nth_eq r i]

theorem put_eq {α : Type} : ∀ (l : List α) (i : Nat) (v : α), put l i v = l.set i v
  | [], i, v => rfl
  | x :: r, 0, v => rfl
  | x :: r, i + 1, v => by simp [put, put_eq r i v]

def vbool (b : Bool) : V := .c (.f (.bool b))
def vint' (j : IntKind) (n : Int) : V := .c (.f (.int j n))

/-! ### Equality -/
def sameK : IntKind → IntKind → Bool
  | .i8, .i8 | .i16, .i16 | .i32, .i32 | .i64, .i64 | .u8, .u8 | .u16, .u16 | .u32, .u32 | .u64, .u64 => true
  | _, _ => false

def ieq (a b : Int) : Bool :=
  match a, b with
  | .ofNat a, .ofNat b => Nat.beq a b
  | .negSucc a, .negSucc b => Nat.beq a b
  | _, _ => false

def beqS : List UInt8 → List UInt8 → Bool
  | [], [] => true
  | x :: r, y :: s => (match Nat.beq x.toNat y.toNat with | true => beqS r s | false => false)
  | _, _ => false

mutual
def F.eqb : F → F → Bool
  | .bool a, .bool b => (match a, b with | true, true | false, false => true | _, _ => false)
  | .int k a, .int k' b => sameK k k' && ieq a b
  | .flo a, .flo b => Nat.beq a b
  | .cpl a b, .cpl c d => Nat.beq a c && Nat.beq b d
  | .str a, .str b => beqS a b
  | .nils, .nils | .nilp, .nilp | .nilm, .nilm | .nilf, .nilf => true
  | .sl n l, .sl n' l' => Nat.beq n n' && F.eqbs l l'
  | .obj l, .obj l' => F.eqbs l l'
  | .fn a, .fn b => Nat.beq a b
  | _, _ => false
def F.eqbs : List F → List F → Bool
  | [], [] => true
  | x :: r, y :: s => F.eqb x y && F.eqbs r s
  | _, _ => false
end

theorem beq_nat {a b : Nat} (h : Nat.beq a b = true) : a = b := Nat.eq_of_beq_eq_true h
theorem ble_nat {a b : Nat} (h : Nat.ble a b = true) : a ≤ b := by rwa [Nat.ble_eq] at h
theorem blt_nat {a b : Nat} (h : Nat.blt a b = true) : a < b := by unfold Nat.blt at h; rw [Nat.ble_eq] at h; exact h

theorem nbeq_false {a b : Nat} (h : ¬ a = b) : Nat.beq a b = false := by
  cases hb : Nat.beq a b with
  | true => exact absurd (beq_nat hb) h
  | false => rfl

theorem ieq_eq (a b : Int) : ieq a b = (a == b) := by
  cases a <;> cases b <;> simp only [ieq]
  · rename_i a b
    by_cases h : a = b
    · subst h; rw [Nat.beq_refl]; simp
    · rw [nbeq_false h]; symm; rw [beq_eq_false_iff_ne]; intro e; exact h (by injection e)
  · symm; rw [beq_eq_false_iff_ne]; intro e; cases e
  · symm; rw [beq_eq_false_iff_ne]; intro e; cases e
  · rename_i a b
    by_cases h : a = b
    · subst h; rw [Nat.beq_refl]; simp
    · rw [nbeq_false h]; symm; rw [beq_eq_false_iff_ne]; intro e; exact h (by injection e)

theorem beqS_eq : ∀ (a b : List UInt8), beqS a b = (a == b)
  | [], [] => rfl
  | [], y :: s => rfl
  | x :: r, [] => rfl
  | x :: r, y :: s => by
    simp only [beqS]
    by_cases h : x = y
    · subst h
      rw [Nat.beq_refl]
      simp only [beqS_eq r s]
      simp
    · rw [nbeq_false (fun e => h (UInt8.toNat_inj.1 e))]
      simp [h]

theorem sameK_eq {j k : IntKind} (h : sameK j k = true) : j = k := by cases j <;> cases k <;> first | rfl | (simp [sameK] at h)

mutual
theorem F.eqb_ok : ∀ {a b : F}, F.eqb a b = true → a = b
  | .bool a, b, h => by cases b <;> simp only [F.eqb, Bool.false_eq_true] at h; rename_i b; cases a <;> cases b <;> first | rfl | (simp at h)
  | .int k n, b, h => by
    cases b <;> simp only [F.eqb, Bool.false_eq_true, Bool.and_eq_true] at h
    rw [sameK_eq h.1]
    have := h.2; rw [ieq_eq] at this; rw [eq_of_beq this]
  | .flo a, b, h => by cases b <;> simp only [F.eqb, Bool.false_eq_true] at h; rw [beq_nat h]
  | .cpl a c, b, h => by cases b <;> simp only [F.eqb, Bool.false_eq_true, Bool.and_eq_true] at h; rw [beq_nat h.1, beq_nat h.2]
  | .str s, b, h => by cases b <;> simp only [F.eqb, Bool.false_eq_true] at h; rw [beqS_eq] at h; rw [eq_of_beq h]
  | .nils, b, h => by cases b <;> first | rfl | (simp only [F.eqb, Bool.false_eq_true] at h)
  | .nilp, b, h => by cases b <;> first | rfl | (simp only [F.eqb, Bool.false_eq_true] at h)
  | .nilm, b, h => by cases b <;> first | rfl | (simp only [F.eqb, Bool.false_eq_true] at h)
  | .nilf, b, h => by cases b <;> first | rfl | (simp only [F.eqb, Bool.false_eq_true] at h)
  | .sl n l, b, h => by cases b <;> simp only [F.eqb, Bool.false_eq_true, Bool.and_eq_true] at h; rw [beq_nat h.1, F.eqbs_ok h.2]
  | .obj l, b, h => by cases b <;> simp only [F.eqb, Bool.false_eq_true] at h; rw [F.eqbs_ok h]
  | .fn f, b, h => by cases b <;> simp only [F.eqb, Bool.false_eq_true] at h; rw [beq_nat h]
theorem F.eqbs_ok : ∀ {a b : List F}, F.eqbs a b = true → a = b
  | [], b, h => by cases b <;> first | rfl | (simp only [F.eqbs, Bool.false_eq_true] at h)
  | x :: r, b, h => by cases b <;> simp only [F.eqbs, Bool.false_eq_true, Bool.and_eq_true] at h; rw [F.eqb_ok h.1, F.eqbs_ok h.2]
end

/-- Are two pointers (or nil) the same? -/
def xptrEq (x y : V) : Option Bool :=
  match x, y with
  | .c (.f .nilp), .c (.f .nilp) => some true
  | .c (.f .nilp), .c (.f (.obj _)) | .c (.f .nilp), .c (.ptr _ _) | .c (.f .nilp), .c (.ep _ _) => some false
  | .c (.f (.obj _)), .c (.f .nilp) | .c (.ptr _ _), .c (.f .nilp) | .c (.ep _ _), .c (.f .nilp) => some false
  | .c (.ptr a b), .c (.ptr c d) => (match Nat.beq a c && Nat.beq b d with | true => some true | false => none)
  | _, _ => none

/-- Is a row nil? none within: it may be. -/
def xrowNil (x : V) (σ : St) : Option (Option Bool) :=
  match x with
  | .c (.f .nils) => some (some true)
  | .c (.f (.sl _ [])) => some none
  | .c (.f (.sl _ (_ :: _))) => some (some false)
  | .c (.rs o e n) =>
    (match nth σ o with
    | some (.arr _ e0 _ l) => (match Nat.beq e e0 with | true => (match l with | [] => some none | _ :: _ => some (some false)) | false => none)
    | _ => none)
  | _ => none

def xneg (op : BinOp) (b : Bool) : Option V :=
  match op with
  | .eql => some (vbool b)
  | .neq => some (vbool (!b))
  | _ => none

def repF (n : Nat) (l : List F) : List F :=
  match n with
  | 0 => []
  | n + 1 => l ++ repF n l

def ieq0 (n : Int) : Bool := match n with | .ofNat n => Nat.beq n 0 | .negSucc _ => false

/-- Do cells fit the kinds of a type that is compared cell by cell? -/
def inK (k : IntKind) (n : Int) : Bool := decide (k.min ≤ n) && decide (n ≤ k.max)

def matchK : List KK → List F → Bool
  | [], [] => true
  | .b :: r, .bool _ :: s => matchK r s
  | .i k :: r, .int k' n :: s => (match sameK k k' && inK k n with | true => matchK r s | false => false)
  | .s :: r, .str t :: s => (match Nat.ble t.length 9223372036854775807 with | true => matchK r s | false => false)
  | _, _ => false

/-- Which operations stand here. -/
def extraB (tb : Tab) (o : Op) : Bool :=
  match o with
  | .binOp _ t _ _ _ => (match (tb t).d with | .ptr _ | .slice _ | .struct _ | .array _ _ => true | _ => false)
  | .makeSlice .. => true
  | .makeMap .. => true
  | .alloc t => (match (tb t).d with | .bld _ _ => true | _ => false)
  | .fieldAddr t _ _ => (match (tb t).d with | .bld _ _ => true | _ => false)
  | .convert s d _ => (match (tb s).d, (tb d).d with | .ptr _, .uptr => true | .uptr, .ptr _ => true | _, _ => false)
  | .call { callee := .builtin .cap, .. } => true
  | .call { callee := .builtin .unsafeSliceData, .. } => true
  | .call { callee := .builtin .unsafeString, .. } => true
  | .call { callee := .builtin .append, argTypes, .. } => (match argTypes.toList with | [_, u] => (match (tb u).d with | .int _ => true | _ => false) | _ => false)
  | _ => false

def bytesOf : List F → Option (List UInt8)
  | [] => some []
  | .int .u8 (.ofNat n) :: r => (match Nat.blt n 256, bytesOf r with | true, some l => some (UInt8.ofNat n :: l) | _, _ => none)
  | _ => none

def xaggEq (ks : List KK) (op : BinOp) (x y : V) : Option V :=
  match ks, x, y with
  | k :: ks, .a l, .a l' =>
    (match frz l, frz l' with
    | some fs, some fs' =>
      (match matchK (k :: ks) fs && matchK (k :: ks) fs' with
      | true => xneg op (F.eqbs fs fs')
      | false => none)
    | _, _ => none)
  | _, _, _ => none

def xbuiltin (tb : Tab) (b : Builtin) (vals : List V) (ts : List TypeId) (σ : St) : Rs (V × St) :=
  match b, vals, ts with
    | .cap, [.c (.f .nils)], [t] => (match (tb t).d with | .slice _ => some [(vint' .i64 0, σ)] | _ => none)
    | .unsafeSliceData, [.c (.f .nils)], _ => some [(.c (.f .nilp), σ)]
    | .unsafeSliceData, [.c (.rs o e n)], _ =>
      (match nth σ o with
      | some (.arr _ e0 sz (_ :: _)) => (match Nat.beq e e0 && Nat.blt 0 sz with | true => some [(.c (.pa o e 0), σ)] | false => none)
      | _ => none)
    | .unsafeString, [.c (.f .nilp), .c (.f (.int .i64 n))], [_, _] => (match ieq0 n with | true => some [(.c (.f (.str [])), σ)] | false => none)
    | .unsafeString, [.c (.pa o e 0), .c (.f (.int .i64 (.ofNat n)))], [t, _] =>
      (match (tb t).d, nth σ o with
      | .ptr u, some (.arr _ e0 sz l) =>
        (match (tb u).d, Nat.beq e e0 && Nat.beq n l.length && Nat.beq sz 1 && Nat.beq (Nat.mod e 4294967296) u && Nat.beq (tb u).size 1, bytesOf l with
        | .int .u8, true, some s => some [(.c (.f (.str s)), put σ o .gone)]
        | _, _, _ => none)
      | _, _ => none)
    | .append, [.c (.f .nils), .c (.f (.int .i64 (.ofNat n)))], [t, u] =>
      (match (tb t).d, (tb u).d with
      | .slice e, .int _ =>
        (match (tb e).d.isNo, Nat.blt 0 n && Nat.ble n 16777216 && Nat.ble (n * (tb e).bytes) 16777216 && Nat.ble e 4294967295 with
        | false, true => some [(.c (.rs σ.length e n), σ ++ [.arr true e (tb e).size (repF n (tb e).zero)])]
        | _, _ => none)
      | _, _ => none)
    | _, _, _ => none

def xextra (tb : Tab) (o : Op) (ρ : Operand → V) (σ : St) : Rs (V × St) :=
  match o with
  | .binOp op t x y _ =>
    (match (tb t).d with
    | .ptr e =>
      (match xptrEq (ρ x) (ρ y), (tb e).d.isNo, Nat.blt 0 (tb e).size with
      | some b, false, true => (match xneg op b with | some v => some [(v, σ)] | none => none)
      | _, _, _ => none)
    | .slice _ =>
      (match ρ y with
      | .c (.f .nils) =>
        (match xrowNil (ρ x) σ with
        | some (some b) => (match xneg op b with | some v => some [(v, σ)] | none => none)
        | some none => (match xneg op true, xneg op false with | some v, some u => some [(v, σ), (u, σ)] | _, _ => none)
        | none => none)
      | _ => none)
    | .struct _ | .array _ _ =>
      (match xaggEq (tb t).key op (ρ x) (ρ y) with | some v => some [(v, σ)] | none => none)
    | _ => none)
  | .makeSlice t a b =>
    (match (tb t).d, ρ a, ρ b with
    | .slice e, .c (.f (.int _ (.ofNat n))), .c (.f (.int _ (.ofNat m))) =>
      (match (tb e).d.isNo, Nat.beq n m && Nat.ble n 16777216 && Nat.ble (n * (tb e).bytes) 16777216 && Nat.blt 0 (tb e).size && Nat.ble e 4294967295 with
      | false, true => some [(.c (.rs σ.length e n), σ ++ [.arr true e (tb e).size (repF n (tb e).zero)])]
      | _, _ => none)
    | _, _, _ => none)
  | .makeMap t r => (match r with | none => some [(.c (.mp σ.length), σ ++ [.map []])] | some _ => none)
  | .alloc t => (match (tb t).d, (tb t).zero with | .bld _ _, [.nilp, .nils] => some [(.c (.ptr σ.length 0), σ ++ [.bld t false (.f .nils)])] | _, _ => none)
  | .fieldAddr t x i =>
    (match (tb t).d, ρ x with
    | .bld a b, .c (.ptr o 0) =>
      (match i with
      | 0 => (match (tb a).d.isNo, Nat.blt 0 (tb a).size with | false, true => some [(.c (.ptr o 0), σ)] | _, _ => none)
      | 1 => (match (tb b).d.isNo, Nat.blt 0 (tb b).size with | false, true => some [(.c (.ptr o 1), σ)] | _, _ => none)
      | _ => none)
    | _, _ => none)
  | .convert s d x =>
    (match ρ x with
    | .c (.ptr o 0) =>
      (match nth σ o with
      | some (.bld T _ _) =>
        (match (tb s).d, (tb d).d with
        | .ptr e, .uptr => (match Nat.beq e T && Nat.blt 0 (tb T).size, (tb T).d with | true, .bld _ _ => some [(.c (.ptr o 0), σ)] | _, _ => none)
        | .uptr, .ptr e => (match Nat.beq e T && Nat.blt 0 (tb T).size, (tb T).d with | true, .bld _ _ => some [(.c (.ptr o 0), σ)] | _, _ => none)
        | _, _ => none)
      | _ => none)
    | _ => none)
  | .call { callee := .builtin b, args, argTypes } => xbuiltin tb b (args.toList.map ρ) argTypes.toList σ
  | _ => none

def vextra (tb : Tab) (o : Op) (fr : Fr) (σ : St) (k : V → St → Prop) : Prop :=
  ∃ l, xextra tb o (opd fr) σ = some l ∧ ∀ p ∈ l, k p.1 p.2

/-- One operation, these too. -/
def vop2 (T : Pr) (tb : Tab) (o : Op) (fr : Fr) (σ : St) (k : V → St → Prop) : Prop :=
  match extraB tb o with
  | true => vextra tb o fr σ k
  | false => vop T tb o fr σ k
end Go.Dm
