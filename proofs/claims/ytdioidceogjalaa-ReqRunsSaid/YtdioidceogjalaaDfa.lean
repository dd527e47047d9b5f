/- The plain machine: further operations, as they are reckoned; what they answer is all that may come. -/
import Derived.Test.YtdioidceogjalaaDf
namespace Go.Dm
set_option linter.unusedVariables false

/-- Outcomes: none: it can't go on; else all that may come. -/
abbrev Rs (α : Type) := Option (List α)

def nth {α : Type} : List α → Nat → Option α
  | [], _ => none
  | x :: r, n => match n with | 0 => some x | n + 1 => nth r n

def put {α : Type} : List α → Nat → α → List α
  | [], _, _ => []
  | x :: r, n, v => match n with | 0 => v :: r | n + 1 => x :: put r n v

theorem nth_eq {α : Type} : ∀ (l : List α) (i : Nat), nth l i = l[i]?
  | [], i => by simp [nth]
  | x :: r, 0 => rfl
  | x :: r, i + 1 => by simp [nth, nth_eq r i]

theorem put_eq {α : Type} : ∀ (l : List α) (i : Nat) (v : α), put l i v = l.set i v
  | [], i, v => rfl
  | x :: r, 0, v => rfl
  | x :: r, i + 1, v => by simp [put, put_eq r i v]

def vbool (b : Bool) : V := .c (.f (.bool b))
def vint' (j : IntKind) (n : Int) : V := .c (.f (.int j n))

/-- Are two pointers (or nil) the same? -/
def xptrEq (x y : V) : Option Bool :=
  match x, y with
  | .c (.f .nilp), .c (.f .nilp) => some true
  | .c (.f .nilp), .c (.f (.obj _)) | .c (.f .nilp), .c (.ptr _ _) | .c (.f .nilp), .c (.ep _ _) => some false
  | .c (.f (.obj _)), .c (.f .nilp) | .c (.ptr _ _), .c (.f .nilp) | .c (.ep _ _), .c (.f .nilp) => some false
  | _, _ => none

/-- Is a row nil? none within: it may be. -/
def xrowNil (x : V) (σ : St) : Option (Option Bool) :=
  match x with
  | .c (.f .nils) => some (some true)
  | .c (.f (.sl _ [])) => some none
  | .c (.f (.sl _ (_ :: _))) => some (some false)
  | .c (.rs o e n) =>
    (match nth σ o with
    | some (.arr _ e0 _ l) => (match Nat.beq e e0 with | true => (match l with | [] => some none | _ :: _ => some (some false)) | false => none)
    | _ => none)
  | _ => none

def xneg (op : BinOp) (b : Bool) : Option V :=
  match op with
  | .eql => some (vbool b)
  | .neq => some (vbool (!b))
  | _ => none

def repF (n : Nat) (l : List F) : List F :=
  match n with
  | 0 => []
  | n + 1 => l ++ repF n l

/-- Which operations stand here. -/
def extraB (tb : Tab) (o : Op) : Bool :=
  match o with
  | .binOp _ t _ _ _ => (match (tb t).d with | .ptr _ | .slice _ => true | _ => false)
  | .makeSlice .. => true
  | _ => false

def xextra (tb : Tab) (o : Op) (ρ : Operand → V) (σ : St) : Rs (V × St) :=
  match o with
  | .binOp op t x y _ =>
    (match (tb t).d with
    | .ptr e =>
      (match xptrEq (ρ x) (ρ y) with
      | some b => (match xneg op b with | some v => some [(v, σ)] | none => none)
      | none => none)
    | .slice _ =>
      (match ρ y with
      | .c (.f .nils) =>
        (match xrowNil (ρ x) σ with
        | some (some b) => (match xneg op b with | some v => some [(v, σ)] | none => none)
        | some none => (match xneg op true, xneg op false with | some v, some u => some [(v, σ), (u, σ)] | _, _ => none)
        | none => none)
      | _ => none)
    | _ => none)
  | .makeSlice t a b =>
    (match (tb t).d, ρ a, ρ b with
    | .slice e, .c (.f (.int _ (.ofNat n))), .c (.f (.int _ (.ofNat m))) =>
      (match (tb e).d.isNo, Nat.beq n m && Nat.ble n 16777216 && Nat.ble (n * (tb e).bytes) 16777216 && Nat.blt 0 (tb e).size with
      | false, true => some [(.c (.rs σ.length 0 n), σ ++ [.arr true 0 (tb e).size (repF n (tb e).zero)])]
      | _, _ => none)
    | _, _, _ => none)
  | _ => none

def vextra (tb : Tab) (o : Op) (fr : Fr) (σ : St) (k : V → St → Prop) : Prop :=
  ∃ l, xextra tb o (opd fr) σ = some l ∧ ∀ p ∈ l, k p.1 p.2

/-- One operation, these too. -/
def vop2 (T : Pr) (tb : Tab) (o : Op) (fr : Fr) (σ : St) (k : V → St → Prop) : Prop :=
  match extraB tb o with
  | true => vextra tb o fr σ k
  | false => vop T tb o fr σ k
end Go.Dm
