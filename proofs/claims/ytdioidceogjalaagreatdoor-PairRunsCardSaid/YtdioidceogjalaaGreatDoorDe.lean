/- The plain machine: what each operation does to plain values. 'Pr': the primitives, under names of their own, so that a run over unknown data stops at them. -/
import Derived.Test.YtdioidceogjalaaGreatDoorDd
import Derived.DeepKeys3
import Derived.Maps.Keyed
namespace Go.Dm
set_option linter.unusedVariables false

structure Pr where
  iar : BinOp → IntKind → Int → Int → Int
  icmp : BinOp → Int → Int → Bool
  beq : Bool → Bool → Bool
  bnot : Bool → Bool
  sapp : List UInt8 → List UInt8 → List UInt8
  scmp : BinOp → List UInt8 → List UInt8 → Bool
  slen : List UInt8 → Int
  sget : List UInt8 → Int → Int
  sbytes : List UInt8 → List F
  bytesK : List F → Nat → (List UInt8 → Prop) → Prop
  ssub : List UInt8 → Int → Int → List UInt8
  wrap : IntKind → Int → Int
  ofNat : Nat → Int
  toNat : Int → Nat
  nadd : Nat → Nat → Nat
  nsub : Nat → Nat → Nat
  atp : Int → Nat → Nat
  fadd : Nat → Nat → Option Nat
  fsub : Nat → Nat → Option Nat
  fcmp : BinOp → Nat → Nat → Bool
  fofi : Int → Nat
  foi : Nat → Option Int
  band : Bool → Bool → Bool
  getK : List F → Nat → (F → Prop) → Prop
  cutK : List F → Nat → Nat → (List F → Prop) → Prop
  fput : List F → Nat → List F → List F
  caseK : Int → Nat → (Nat → Prop) → Prop
  fcut : List F → Nat → Nat → List F
  fapp : List F → List F → List F
  flen : List F → Nat
  imin : Int → Int → Int
  imax : Int → Int → Int
  ne0 : Int → Prop
  nn : Int → Prop
  idx : Int → Int → Prop
  rng : Int → Int → Int → Prop
  le : Nat → Nat → Prop
  eqN : Nat → Nat → Prop
  sroom : List UInt8 → List UInt8 → Prop

def barith (op : BinOp) (k : IntKind) (a b : Int) : Int :=
  match op with
  | .add => k.wrap (a + b)
  | .sub => k.wrap (a - b)
  | .mul => k.wrap (a * b)
  | .quo => k.wrap (a.tdiv b)
  | .rem => a.tmod b
  | .and => k.wrap (BitVec.ofInt k.bits a &&& BitVec.ofInt k.bits b).toNat
  | .or => k.wrap (BitVec.ofInt k.bits a ||| BitVec.ofInt k.bits b).toNat
  | .xor => k.wrap (BitVec.ofInt k.bits a ^^^ BitVec.ofInt k.bits b).toNat
  | .andNot => k.wrap (BitVec.ofInt k.bits a &&& ~~~BitVec.ofInt k.bits b).toNat
  | .shl => k.wrap (a * 2 ^ (min b.toNat k.bits))
  | .shr => a.fdiv (2 ^ (min b.toNat k.bits))
  | _ => 0

def bcmp (op : BinOp) (a b : Int) : Bool :=
  match op with
  | .eql => a == b
  | .neq => a != b
  | .lss => decide (a < b)
  | .leq => decide (a ≤ b)
  | .gtr => decide (a > b)
  | .geq => decide (a ≥ b)
  | _ => false

def bscmp (op : BinOp) (a b : List UInt8) : Bool :=
  match op with
  | .eql => a == b
  | .neq => !(a == b)
  | .lss => Op.bytesLess a b
  | .leq => Op.bytesLess a b || a == b
  | .gtr => !(Op.bytesLess a b || a == b)
  | .geq => !Op.bytesLess a b
  | _ => false

def bfcmp (op : BinOp) (a b : Nat) : Bool :=
  match op with
  | .eql => FloatKind.f64.format.order a b == some .eq
  | .neq => FloatKind.f64.format.order a b != some .eq
  | .lss => FloatKind.f64.format.order a b == some .lt
  | .leq => FloatKind.f64.format.order a b == some .lt || FloatKind.f64.format.order a b == some .eq
  | .gtr => FloatKind.f64.format.order a b == some .gt
  | .geq => FloatKind.f64.format.order a b == some .gt || FloatKind.f64.format.order a b == some .eq
  | _ => false

def prims : Pr where
  iar := barith
  icmp := bcmp
  beq a b := a == b
  bnot b := !b
  sapp a b := a ++ b
  scmp := bscmp
  slen s := s.length
  sget s i := (s.getD i.toNat 0).toNat
  sbytes s := s.map fun b => .int .u8 b.toNat
  bytesK l n K := ∃ s : List UInt8, l = s.map (fun b => .int .u8 b.toNat) ∧ s.length = n ∧ K s
  ssub s a b := (s.drop a.toNat).take (b.toNat - a.toNat)
  wrap k n := k.wrap n
  ofNat n := n
  toNat i := i.toNat
  nadd a b := a + b
  nsub a b := a - b
  atp i n := i.toNat * n
  fadd a b := floatBits .add .f64 a b
  fsub a b := floatBits .sub .f64 a b
  fcmp := bfcmp
  fofi n := FloatKind.f64.nearest n
  foi b := floatToIntVal .f64 b .i64
  band a b := a && b
  getK l i K := (match l[i]? with | some x => K x | none => False)
  cutK l i n K := i + n ≤ l.length ∧ K ((l.drop i).take n)
  fput l i r := l.take i ++ r ++ l.drop (i + r.length)
  caseK j n K := 0 ≤ j ∧ j < n ∧ K j.toNat
  fcut l i n := (l.drop i).take n
  fapp a b := a ++ b
  flen l := l.length
  imin a b := if b < a then b else a
  imax a b := if b > a then b else a
  ne0 n := n ≠ 0
  nn n := 0 ≤ n
  idx i n := 0 ≤ i ∧ i < n
  rng a b c := 0 ≤ a ∧ a ≤ b ∧ b ≤ c
  le a b := a ≤ b
  eqN a b := a = b
  sroom a b := a.length + b.length ≤ 9223372036854775807

/-! ### Types -/
inductive TD where
  | int (k : IntKind) | bool | str | flo | cpl | slice (e : TypeId) | struct (fs : List (Nat × TypeId)) | array (n : Nat) (e : TypeId) | ptr (e : TypeId) | map (k e : TypeId) | fn | uptr | bld (p s : TypeId) | no
  deriving Inhabited

def TD.isNo : TD → Bool
  | .no => true
  | _ => false

/-- Kinds of cells that are compared. -/
inductive KK where
  | b | i (k : IntKind) | s
  deriving Inhabited

structure TI where
  d : TD
  size : Nat
  bytes : Nat
  zero : List F
  key : List KK := []
  deriving Inhabited

abbrev Tab := TypeId → TI

def TI.agg (i : TI) : Bool :=
  match i.d with
  | .struct _ | .array _ _ | .bld _ _ => true
  | _ => false

/-- The value of a plain zero cell. -/
def zval : F → Value
  | .bool b => .bool b
  | .int k n => .int k n
  | .flo b => .float .f64 b
  | .cpl a b => .complex .f64 a b
  | .str s => .string ⟨s.toArray⟩
  | .nils => .slice none 0 0
  | .nilp => .pointer none
  | .nilm => .map none
  | .nilf => .nilFunc
  | _ => undef

def plain : F → Bool
  | .bool _ | .int _ _ | .flo _ | .cpl _ _ | .str _ | .nils | .nilp | .nilm | .nilf => true
  | _ => false

def TD.fits (P : Program) (t : TypeId) : TD → Prop
  | .int k => P.underlying t = some (.int k)
  | .bool => P.underlying t = some .bool
  | .str => P.underlying t = some .string
  | .flo => P.underlying t = some (.float .f64)
  | .cpl => P.underlying t = some (.complex .f64)
  | .slice e => P.underlying t = some (.slice e)
  | .struct fs => ∃ fields : Array Field, P.underlying t = some (.struct fields) ∧ fields.toList.map (fun f => (f.offset, f.type)) = fs
  | .array n e => P.underlying t = some (.array n e)
  | .ptr e => P.underlying t = some (.pointer e)
  | .map k e => P.underlying t = some (.map k e)
  | .fn => ∃ a b c, P.underlying t = some (.func a b c)
  | .uptr => P.underlying t = some .unsafePointer
  | .bld a b => ∃ fields : Array Field, P.underlying t = some (.struct fields) ∧ fields.toList.map (fun f => (f.offset, f.type)) = [(0, a), (1, b)] ∧ liesAt P P.depth t (2 / P.cellsOf t) 0 t 1 = true
  | .no => True

/-- Values of these kinds. -/
def FitK : List KK → List Value → Prop
  | [], [] => True
  | .b :: r, .bool _ :: s => FitK r s
  | .i k :: r, .int k' n :: s => k' = k ∧ (Lit.int k n).wf = true ∧ FitK r s
  | .s :: r, .string t :: s => t.size ≤ maxLen ∧ FitK r s
  | _, _ => False

/-- Is a type compared so? -/
def wideB (P : Program) (t : TypeId) : Bool := match P.underlying t with | some (.array _ _) | some (.struct _) => true | _ => false

structure KeyOk (P : Program) (t : TypeId) (ks : List KK) : Prop where
  law : WideMaps.KeyLaw P t ∨ wideB P t = false
  lits : wideB P t = true → ∀ vs : List Value, FitK ks vs → ∃ l, keyOf P t (.agg vs.toArray) = some l
  guard : P.eqGuardType P.depth t = false
  eql : wideB P t = true → ∀ (w : World) (us vs : List Value), FitK ks us → FitK ks vs → ∃ r : Bool, (Op.equal t (.agg us.toArray) (.agg vs.toArray)).run P w = .ok r w ∧ (r = true ↔ us = vs)

structure TI.Ok (P : Program) (t : TypeId) (i : TI) : Prop where
  fits : i.d.fits P t
  info : i.d = .no ∨ ∃ j, P.info? t = some j ∧ j.size = i.size ∧ j.bytes = i.bytes ∧ (∃ z, j.zero = some z ∧ z.cells.toList = i.zero.map zval ∧ (i.agg = true → z = .agg z.cells)) ∧ i.zero.all plain = true ∧ i.zero.length = i.size
  keyed : i.key = [] ∨ KeyOk P t i.key

def TabOk (P : Program) (tb : Tab) : Prop := ∀ t, (tb t).Ok P t

/-! ### Operands -/
def ofConst : Value → V
  | .int k n => .c (.f (.int k n))
  | .bool b => .c (.f (.bool b))
  | .float .f64 b => .c (.f (.flo b))
  | .complex .f64 a b => .c (.f (.cpl a b))
  | .string s => .c (.f (.str s.data.toList))
  | .slice none 0 0 => .c (.f .nils)
  | .pointer none => .c (.f .nilp)
  | .map none => .c (.f .nilm)
  | .nilFunc => .c (.f .nilf)
  | _ => .c .un

def opd (fr : Fr) : Operand → V
  | .tmp t => fr.getD t (.c .un)
  | .const v => ofConst v
  | .func f => .c (.f (.fn f))
  | .global _ => .c .un

/-! ### The operations -/
def same : IntKind → IntKind → Prop → Prop
  | .i8, .i8, p | .i16, .i16, p | .i32, .i32, p | .i64, .i64, p | .u8, .u8, p | .u16, .u16, p | .u32, .u32, p | .u64, .u64, p => p
  | _, _, _ => False

def vint (T : Pr) (op : BinOp) (j : IntKind) (a b : Int) (k : V → Prop) : Prop :=
  match op with
  | .add | .sub | .mul | .and | .or | .xor | .andNot => k (.c (.f (.int j (T.iar op j a b))))
  | .quo | .rem => T.ne0 b ∧ k (.c (.f (.int j (T.iar op j a b))))
  | .eql | .neq | .lss | .leq | .gtr | .geq => k (.c (.f (.bool (T.icmp op a b))))
  | _ => False

def vbin (T : Pr) (d : TD) (op : BinOp) (x y : V) (k : V → Prop) : Prop :=
  match x, y with
  | .c (.f (.int j a)), .c (.f (.int j' b)) =>
    (match op with
    | .shl | .shr => T.nn b ∧ k (.c (.f (.int j (T.iar op j a b))))
    | _ => same j j' (vint T op j a b k))
  | .c (.f (.bool a)), .c (.f (.bool b)) =>
    (match d, op with
    | .bool, .eql => k (.c (.f (.bool (T.beq a b))))
    | .bool, .neq => k (.c (.f (.bool (T.bnot (T.beq a b)))))
    | _, _ => False)
  | .c (.f (.str a)), .c (.f (.str b)) =>
    (match op with
    | .add => T.sroom a b ∧ k (.c (.f (.str (T.sapp a b))))
    | .eql | .neq | .lss | .leq | .gtr | .geq => k (.c (.f (.bool (T.scmp op a b))))
    | _ => False)
  | .c (.f (.flo a)), .c (.f (.flo b)) =>
    (match op with
    | .eql | .neq | .lss | .leq | .gtr | .geq => k (.c (.f (.bool (T.fcmp op a b))))
    | .add => (match T.fadd a b with | some r => k (.c (.f (.flo r))) | none => False)
    | .sub => (match T.fsub a b with | some r => k (.c (.f (.flo r))) | none => False)
    | _ => False)
  | .c (.f (.cpl a b)), .c (.f (.cpl c d)) =>
    (match op with
    | .add => (match T.fadd a c with | some r => (match T.fadd b d with | some i => k (.c (.f (.cpl r i))) | none => False) | none => False)
    | .sub => (match T.fsub a c with | some r => (match T.fsub b d with | some i => k (.c (.f (.cpl r i))) | none => False) | none => False)
    | .eql => k (.c (.f (.bool (T.band (T.fcmp .eql a c) (T.fcmp .eql b d)))))
    | .neq => k (.c (.f (.bool (T.bnot (T.band (T.fcmp .eql a c) (T.fcmp .eql b d))))))
    | _ => False)
  | _, _ => False

def vun (T : Pr) (op : UnOp) (x : V) (k : V → Prop) : Prop :=
  match op, x with
  | .not, .c (.f (.bool b)) => k (.c (.f (.bool (T.bnot b))))
  | .neg, .c (.f (.int j n)) => k (.c (.f (.int j (T.iar .sub j 0 n))))
  | _, _ => False

def vpick (c a b : V) (k : V → Prop) : Prop :=
  match c with
  | .c (.f (.bool t)) => (match t with | true => k a | false => k b)
  | _ => False
end Go.Dm
