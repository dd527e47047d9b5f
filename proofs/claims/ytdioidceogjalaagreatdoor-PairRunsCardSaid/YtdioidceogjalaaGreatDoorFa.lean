/- The plain machine, run by the kernel: an interpreter over plain data. What it answers is proved to be so (XFb ..). -/
import Derived.Test.YtdioidceogjalaaGreatDoorEa
namespace Go.Dm
set_option linter.unusedVariables false

def bindL {α β : Type} : List α → (α → Rs β) → Rs β
  | [], _ => some []
  | [x], f => f x
  | x :: y :: r, f =>
    match f x with
    | none => none
    | some l => match bindL (y :: r) f with
      | none => none
      | some l' => some (l ++ l')

def Rs.bind {α β : Type} (o : Rs α) (f : α → Rs β) : Rs β :=
  match o with
  | none => none
  | some l => bindL l f

/-! ### Frames: rows of eight -/
abbrev FT := List (List V)

def upd {α : Type} : List α → Nat → (α → α) → List α
  | [], _, _ => []
  | x :: r, n, f => match n with | 0 => f x :: r | n + 1 => x :: upd r n f

def FT.get (t : FT) (i : Nat) : V :=
  match nth t (i / 8) with
  | some l => (match nth l (i % 8) with | some v => v | none => .c .un)
  | none => .c .un

def FT.set (m : Nat) (t : FT) (dst : Option Tmp) (v : V) : FT :=
  match dst with
  | none => t
  | some d => (match Nat.blt d m with | true => upd t (d / 8) fun l => put l (d % 8) v | false => t)

def unrow : List V := [.c .un, .c .un, .c .un, .c .un, .c .un, .c .un, .c .un, .c .un]

def blank : Nat → FT
  | 0 => [unrow]
  | n + 1 => unrow :: blank n

def start (m : Nat) : Nat → List V → FT → FT
  | _, [], t => t
  | i, x :: r, t => start m (i + 1) r (t.set m (some i) x)

def FT.at (t : FT) : Operand → V
  | .tmp i => t.get i
  | .const v => ofConst v
  | .func f => .c (.f (.fn f))
  | .global _ => .c .un

/-! ### Scalars -/
def ile (a b : Int) : Bool :=
  match a, b with
  | .ofNat a, .ofNat b => Nat.ble a b
  | .negSucc a, .negSucc b => Nat.ble b a
  | .negSucc _, .ofNat _ => true
  | .ofNat _, .negSucc _ => false

def xcmp (op : BinOp) (a b : Int) : Option Bool :=
  match op with
  | .eql => some (ieq a b)
  | .neq => some (!ieq a b)
  | .lss => some (!ile b a)
  | .leq => some (ile a b)
  | .gtr => some (!ile a b)
  | .geq => some (ile b a)
  | _ => none

def xscmp (op : BinOp) (a b : List UInt8) : Option Bool :=
  match op with
  | .eql => some (beqS a b)
  | .neq => some (!beqS a b)
  | .lss => some (bscmp .lss a b)
  | .leq => some (bscmp .leq a b)
  | .gtr => some (bscmp .gtr a b)
  | .geq => some (bscmp .geq a b)
  | _ => none


def xint (op : BinOp) (j : IntKind) (a b : Int) : Option V :=
  match op with
  | .add | .sub | .mul | .and | .or | .xor | .andNot => some (vint' j (barith op j a b))
  | .quo | .rem => (match ieq b 0 with | true => none | false => some (vint' j (barith op j a b)))
  | op => (match xcmp op a b with | some t => some (vbool t) | none => none)

def xbin (d : TD) (op : BinOp) (x y : V) : Option V :=
  match x, y with
  | .c (.f (.int j a)), .c (.f (.int j' b)) =>
    (match op with
    | .shl | .shr => (match ile 0 b with | true => some (vint' j (barith op j a b)) | false => none)
    | op => (match sameK j j' with | true => xint op j a b | false => none))
  | .c (.f (.bool a)), .c (.f (.bool b)) =>
    (match d, op with
    | .bool, .eql => some (vbool (a == b))
    | .bool, .neq => some (vbool (!(a == b)))
    | _, _ => none)
  | .c (.f (.str a)), .c (.f (.str b)) =>
    (match op with
    | .add => (match Nat.ble (a.length + b.length) 9223372036854775807 with | true => some (.c (.f (.str (a ++ b)))) | false => none)
    | op => (match xscmp op a b with | some t => some (vbool t) | none => none))
  | .c (.f (.flo a)), .c (.f (.flo b)) =>
    (match op with
    | .eql | .neq | .lss | .leq | .gtr | .geq => some (vbool (bfcmp op a b))
    | .add => (match prims.fadd a b with | some r => some (.c (.f (.flo r))) | none => none)
    | .sub => (match prims.fsub a b with | some r => some (.c (.f (.flo r))) | none => none)
    | _ => none)
  | .c (.f (.cpl a b)), .c (.f (.cpl c e)) =>
    (match op with
    | .add => (match prims.fadd a c, prims.fadd b e with | some r, some i => some (.c (.f (.cpl r i))) | _, _ => none)
    | .sub => (match prims.fsub a c, prims.fsub b e with | some r, some i => some (.c (.f (.cpl r i))) | _, _ => none)
    | .eql => some (vbool (bfcmp .eql a c && bfcmp .eql b e))
    | .neq => some (vbool (!(bfcmp .eql a c && bfcmp .eql b e)))
    | _ => none)
  | _, _ => none

def xun (op : UnOp) (x : V) : Option V :=
  match op, x with
  | .not, .c (.f (.bool b)) => some (vbool (!b))
  | .neg, .c (.f (.int j n)) => some (vint' j (barith .sub j 0 n))
  | _, _ => none

/-! ### Memory -/
def cutF (l : List F) (off n : Nat) : Option (List F) := match Nat.ble (off + n) l.length with | true => some ((l.drop off).take n) | false => none
def cutC (l : List C) (off n : Nat) : Option (List C) := match Nat.ble (off + n) l.length with | true => some ((l.drop off).take n) | false => none
def spliceC (l : List C) (off : Nat) (r : List C) : Option (List C) := match Nat.ble (off + r.length) l.length with | true => some (l.take off ++ r ++ l.drop (off + r.length)) | false => none

def xload (agg : Bool) (n : Nat) (x : V) (σ : St) : Option V :=
  match x with
  | .c (.ptr o off) =>
    (match nth σ o with
    | some (.cells l) =>
      (match agg with
      | true => (match cutC l off n with | some r => some (.a r) | none => none)
      | false => (match nth l off with | some c => some (.c c) | none => none))
    | some (.bld _ u y) =>
      (match agg, off with
      | false, 0 => some (match u with | true => .c (.ptr o 0) | false => .c (.f .nilp))
      | false, 1 => some (.c y)
      | _, _ => none)
    | _ => none)
  | .c (.ep cs off) =>
    (match agg with
    | true => (match cutF cs off n with | some r => some (.a (r.map .f)) | none => none)
    | false => (match nth cs off with | some x => some (.c (.f x)) | none => none))
  | .c (.pa o e off) =>
    (match nth σ o with
    | some (.arr _ e0 _ l) =>
      (match Nat.beq e e0 with
      | true =>
        (match agg with
        | true => (match cutF l off n with | some r => some (.a (r.map .f)) | none => none)
        | false => (match nth l off with | some x => some (.c (.f x)) | none => none))
      | false => none)
    | _ => none)
  | _ => none

def xfrzs : List C → St → Option (List F × St)
  | [], σ => some ([], σ)
  | .f x :: r, σ => (match xfrzs r σ with | some (l, σ') => some (x :: l, σ') | none => none)
  | .rs o e n :: r, σ =>
    (match nth σ o with
    | some (.arr _ e0 sz l) =>
      (match Nat.beq e e0 with
      | true => (match xfrzs r (put σ o (.arr false e0 sz l)) with | some (l', σ') => some (.sl n l :: l', σ') | none => none)
      | false => none)
    | _ => none)
  | .ptr o off :: r, σ =>
    (match off with
    | 0 =>
      (match nth σ o with
      | some (.cells cs) =>
        (match frz cs with
        | some fs => (match xfrzs r (put σ o .gone) with | some (l', σ') => some (.obj fs :: l', σ') | none => none)
        | none => none)
      | _ => none)
    | _ => none)
  | _, _ => none

def xstore (x v : V) (n : Nat) (σ : St) : Option St :=
  match v.cells with
  | some r =>
    (match Nat.beq r.length n && r.all C.solid with
    | true =>
      (match x with
      | .c (.ptr o off) =>
        (match nth σ o with
        | some (.cells l) => (match spliceC l off r with | some l' => some (put σ o (.cells l')) | none => none)
        | some (.bld b u y) =>
          (match off, r with
          | 0, [.ptr o' 0] => (match Nat.beq o' o with | true => some (put σ o (.bld b true y)) | false => none)
          | 1, [c] => some (put σ o (.bld b u c))
          | _, _ => none)
        | _ => none)
      | .c (.pa o e off) =>
        (match xfrzs r σ with
        | some (fs, σ') =>
          (match nth σ' o with
          | some (.arr true e0 sz l) =>
            (match Nat.beq e e0 && Nat.ble (off + n) l.length with
            | true => some (put σ' o (.arr true e0 sz (l.take off ++ fs ++ l.drop (off + fs.length))))
            | false => none)
          | _ => none)
        | none => none)
      | _ => none)
    | false => none)
  | none => none

def xfield (x : V) (fo : Nat) (σ : St) : Option V :=
  match x with
  | .c (.ptr o off) => some (.c (.ptr o (off + fo)))
  | .c (.ep cs off) => some (.c (.ep cs (off + fo)))
  | .c (.pa o e off) =>
    (match nth σ o with
    | some (.arr _ e0 _ _) => (match Nat.beq e e0 with | true => some (.c (.pa o e (off + fo))) | false => none)
    | _ => none)
  | _ => none

def xpart (agg : Bool) (l : List C) (off n : Nat) : Option V :=
  match agg with
  | true => (match cutC l off n with | some r => some (.a r) | none => none)
  | false => (match nth l off with | some c => some (.c c) | none => none)

def inB (j : Int) (n : Nat) : Bool :=
  match j with
  | .ofNat j => Nat.blt j n
  | .negSucc _ => false

def xixrow (sz : Nat) (x i : V) (σ : St) : Option V :=
  match x, i with
  | .c (.f (.sl n cs)), .c (.f (.int _ j)) => (match inB j n with | true => some (.c (.ep cs (j.toNat * sz))) | false => none)
  | .c (.rs o ep n), .c (.f (.int _ j)) =>
    (match nth σ o with
    | some (.arr _ e0 _ _) => (match Nat.beq ep e0 && inB j n with | true => some (.c (.pa o ep (j.toNat * sz))) | false => none)
    | _ => none)
  | _, _ => none

def xixarr (n sz : Nat) (x i : V) (σ : St) : Option V :=
  match x, i with
  | .c (.ptr o off), .c (.f (.int _ j)) => (match inB j n with | true => some (.c (.ptr o (off + j.toNat * sz))) | false => none)
  | .c (.ep cs off), .c (.f (.int _ j)) => (match inB j n with | true => some (.c (.ep cs (off + j.toNat * sz))) | false => none)
  | .c (.pa o ep off), .c (.f (.int _ j)) =>
    (match nth σ o with
    | some (.arr _ e0 _ _) => (match Nat.beq ep e0 && inB j n with | true => some (.c (.pa o ep (off + j.toNat * sz))) | false => none)
    | _ => none)
  | _, _ => none

def xchr (x i : V) : Option V :=
  match x, i with
  | .c (.f (.str s)), .c (.f (.int _ j)) => (match j with | .ofNat k => (match nth s k with | some b => some (vint' .u8 b.toNat) | none => none) | .negSucc _ => none)
  | _, _ => none

def xlen (d : TD) (x : V) (σ : St) : Option V :=
  match d, x with
  | .str, .c (.f (.str s)) => some (vint' .i64 s.length)
  | .slice _, .c (.f .nils) => some (vint' .i64 0)
  | .slice _, .c (.f (.sl n cs)) => some (vint' .i64 (Int.ofNat n))
  | .slice _, .c (.rs o e n) =>
    (match nth σ o with
    | some (.arr _ e0 _ _) => (match Nat.beq e e0 with | true => some (vint' .i64 (Int.ofNat n)) | false => none)
    | _ => none)
  | _, _ => none

def xsrc (d : TD) (sz : Nat) (x : V) (σ : St) : Option (Nat × List F) :=
  match d, x with
  | .slice _, .c (.f .nils) => some (0, [])
  | .slice _, .c (.f (.sl n cs)) => (match Nat.beq cs.length (n * sz) with | true => some (n, cs) | false => none)
  | .slice _, .c (.rs o e n) =>
    (match nth σ o with
    | some (.arr _ e0 s0 l) => (match Nat.beq e e0 && Nat.beq sz s0 with | true => some (n, l) | false => none)
    | _ => none)
  | .str, .c (.f (.str s)) => (match Nat.beq sz 1 with | true => some (s.length, s.map fun b => .int .u8 b.toNat) | false => none)
  | _, _ => none

def xappend (d : TD) (ty sz bytes : Nat) (x y : V) (σ : St) : Option (V × St) :=
  match xsrc d sz y σ with
  | none => none
  | some (m, new) =>
    match x with
    | .c (.f .nils) => (match m with | 0 => some (.c (.f .nils), σ) | _ => match Nat.ble (m * bytes) 140737488355328 && Nat.ble m 9223372036854775807 && Nat.ble ty 4294967295 with | true => some (.c (.rs σ.length ty m), σ ++ [.arr true ty sz new]) | false => none)
    | .c (.rs o e n) =>
      (match nth σ o with
      | some (.arr w e0 s0 l) =>
        (match Nat.beq e e0 && Nat.beq sz s0 && Nat.ble ((n + m) * bytes) 140737488355328 && Nat.ble (n + m) 9223372036854775807 && Nat.beq (Nat.mod e0 4294967296) ty with
        | true => some (.c (.rs o (e0 + 4294967296) (n + m)), put σ o (.arr w (e0 + 4294967296) sz (l ++ new)))
        | false => none)
      | _ => none)
    | _ => none

/-- a ≤ b ≤ c, all of them from 0 on. -/
def rngB (a b : Int) (c : Nat) : Bool :=
  match a, b with
  | .ofNat a, .ofNat b => Nat.ble a b && Nat.ble b c
  | _, _ => false

def xslice (d : TD) (sz : Nat) (x : V) (lo hi : Option V) (σ : St) : Option (V × St) :=
  match d, x with
  | .str, .c (.f (.str s)) =>
    (match lo, hi with
    | none, none => some (.c (.f (.str s)), σ)
    | some (.c (.f (.int _ a))), none => (match rngB 0 a s.length with | true => some (.c (.f (.str (s.drop a.toNat))), σ) | false => none)
    | none, some (.c (.f (.int _ b))) => (match rngB 0 b s.length with | true => some (.c (.f (.str (s.take b.toNat))), σ) | false => none)
    | some (.c (.f (.int _ a))), some (.c (.f (.int _ b))) => (match rngB a b s.length with | true => some (.c (.f (.str ((s.drop a.toNat).take (b.toNat - a.toNat)))), σ) | false => none)
    | _, _ => none)
  | .slice _, .c (.f .nils) =>
    (match lo, hi with
    | some (.c (.f (.int _ a))), none => (match rngB 0 a 0 with | true => some (.c (.f .nils), σ) | false => none)
    | none, some (.c (.f (.int _ b))) => (match rngB 0 b 0 with | true => some (.c (.f .nils), σ) | false => none)
    | some (.c (.f (.int _ a))), some (.c (.f (.int _ b))) => (match rngB a b 0 with | true => some (.c (.f .nils), σ) | false => none)
    | none, none => some (.c (.f .nils), σ)
    | _, _ => none)
  | .slice _, .c (.f (.sl n cs)) =>
    (match lo, hi with
    | some (.c (.f (.int _ a))), none => (match rngB 0 a n with | true => some (.c (.f (.sl (n - a.toNat) ((cs.drop (a.toNat * sz)).take ((n - a.toNat) * sz)))), σ) | false => none)
    | none, some (.c (.f (.int _ b))) => (match rngB 0 b n with | true => some (.c (.f (.sl b.toNat (cs.take (b.toNat * sz)))), σ) | false => none)
    | some (.c (.f (.int _ a))), some (.c (.f (.int _ b))) => (match rngB a b n with | true => some (.c (.f (.sl (b.toNat - a.toNat) ((cs.drop (a.toNat * sz)).take ((b.toNat - a.toNat) * sz)))), σ) | false => none)
    | none, none => some (.c (.f (.sl n cs)), σ)
    | _, _ => none)
  | .slice _, .c (.rs o ep n) =>
    (match nth σ o, lo, hi with
    | some (.arr true e0 s0 l), none, some (.c (.f (.int _ b))) =>
      (match Nat.beq ep e0 && rngB 0 b n with | true => some (.c (.rs o (e0 + 4294967296) b.toNat), put σ o (.arr true (e0 + 4294967296) s0 (l.take (b.toNat * s0)))) | false => none)
    | _, _, _ => none)
  | _, _ => none

def xbytesL : List F → Option (List UInt8)
  | [] => some []
  | .int .u8 (.ofNat n) :: r => (match Nat.blt n 256, xbytesL r with | true, some l => some (UInt8.ofNat n :: l) | _, _ => none)
  | _ => none

def xbytes (x : V) (σ : St) : Option V :=
  match x with
  | .c (.f .nils) => some (.c (.f (.str [])))
  | .c (.f (.sl n cs)) => (match Nat.beq cs.length n, xbytesL cs with | true, some s => some (.c (.f (.str s))) | _, _ => none)
  | .c (.rs o e n) =>
    (match nth σ o with
    | some (.arr _ e0 _ l) => (match Nat.beq e e0 && Nat.beq l.length n, xbytesL l with | true, some s => some (.c (.f (.str s))) | _, _ => none)
    | _ => none)
  | _ => none

def xconv (tb : Tab) (s d : TypeId) (x : V) (σ : St) : Option (V × St) :=
  match (tb s).d, (tb d).d, x with
  | .int _, .int j, .c (.f (.int _ n)) => some (vint' j (j.wrap n), σ)
  | .int _, .flo, .c (.f (.int _ n)) => some (.c (.f (.flo (prims.fofi n))), σ)
  | .flo, .int .i64, .c (.f (.flo b)) => (match prims.foi b with | some n => some (vint' .i64 n, σ) | none => none)
  | .str, .str, .c (.f (.str x)) => some (.c (.f (.str x)), σ)
  | .slice e, .str, x => (match (tb e).d with | .int .u8 => (match xbytes x σ with | some v => some (v, σ) | none => none) | _ => none)
  | .str, .slice e, .c (.f (.str x)) => (match (tb e).d with
    | .int .u8 => (match Nat.ble x.length 9223372036854775807 && Nat.ble e 4294967295 with | true => some (.c (.rs σ.length e x.length), σ ++ [.arr true e 1 (x.map fun b => .int .u8 b.toNat)]) | false => none)
    | _ => none)
  | _, _, _ => none

def xbi (b : Builtin) (vals : List V) (σ : St) : Option (V × St) :=
  match b, vals with
  | .min, .c (.f (.int i a)) :: r => (match ints r with | some l => some (vint' i (l.foldl prims.imin a), σ) | none => none)
  | .max, .c (.f (.int i a)) :: r => (match ints r with | some l => some (vint' i (l.foldl prims.imax a), σ) | none => none)
  | .complex, [.c (.f (.flo a)), .c (.f (.flo b))] => some (.c (.f (.cpl a b)), σ)
  | .real, [.c (.f (.cpl a b))] => some (.c (.f (.flo a)), σ)
  | .imag, [.c (.f (.cpl a b))] => some (.c (.f (.flo b)), σ)
  | _, _ => none

def xnil (x : V) (σ : St) : Option V :=
  match x with
  | .c (.ptr o off) => some (.c (.ptr o off))
  | .c (.f (.obj cs)) => some (.c (.f (.obj cs)))
  | .c (.ep cs off) => some (.c (.ep cs off))
  | .c (.pa o e off) =>
    (match nth σ o with
    | some (.arr _ e0 _ _) => (match Nat.beq e e0 with | true => some (.c (.pa o e off)) | false => none)
    | _ => none)
  | _ => none

def xfill (ρ : Operand → V) : List (Nat × Nat × Operand) → List C → Option (List C)
  | [], cs => some cs
  | (off, n, x) :: r, cs =>
    match (ρ x).cells with
    | some l => (match Nat.beq l.length n with | true => (match spliceC cs off l with | some cs' => xfill ρ r cs' | none => none) | false => none)
    | none => none

def xfillRow (sz : Nat) (ρ : Operand → V) : List (Nat × Operand) → List C → Option (List C)
  | [], cs => some cs
  | (i, x) :: r, cs =>
    match (ρ x).cells with
    | some l => (match Nat.beq l.length sz with | true => (match spliceC cs (i * sz) l with | some cs' => xfillRow sz ρ r cs' | none => none) | false => none)
    | none => none

def one {α : Type} (x : Option α) : Rs α := match x with | some v => some [v] | none => none
def still (x : Option V) (σ : St) : Rs (V × St) := match x with | some v => some [(v, σ)] | none => none

abbrev Caller := FuncId → List V → St → Rs (V × St)

def xop (call : Caller) (tb : Tab) (s : SOp) (ρ : Operand → V) (σ : St) : Rs (V × St) :=
  match s with
  | .mv x => some [(ρ x, σ)]
  | .pick c a b => (match ρ c with | .c (.f (.bool t)) => (match t with | true => some [(ρ a, σ)] | false => some [(ρ b, σ)]) | _ => none)
  | .bin d op x y => still (xbin d op (ρ x) (ρ y)) σ
  | .un op x => still (xun op (ρ x)) σ
  | .alloc z => some [(.c (.ptr σ.length 0), σ ++ [.cells (z.map .f)])]
  | .box x => (match (ρ x).cells with | some l => some [(.c (.ptr σ.length 0), σ ++ [.cells l])] | none => none)
  | .load agg n x => still (xload agg n (addr (ρ x)) σ) σ
  | .store n a x => (match xstore (ρ a) (ρ x) n σ with | some σ' => some [(.c .un, σ')] | none => none)
  | .call x args => (match callee (ρ x) (args.map ρ) with | some (f, l) => call f l σ | none => none)
  | .fa off x => still (xfield (addr (ρ x)) off σ) σ
  | .fld agg off n x => (match ρ x with | .a l => still (xpart agg l off n) σ | _ => none)
  | .ixr sz x i => still (xixrow sz (addr (ρ x)) (ρ i) σ) σ
  | .ixa n sz x i => still (xixarr n sz (addr (ρ x)) (ρ i) σ) σ
  | .chr x i => still (xchr (ρ x) (ρ i)) σ
  | .len d x => still (xlen d (ρ x) σ) σ
  | .app d ty sz bytes x y => one (xappend d ty sz bytes (ρ x) (ρ y) σ)
  | .slc d sz x lo hi => one (xslice d sz (ρ x) (lo.map ρ) (hi.map ρ) σ)
  | .ext x i => (match ρ x with | .t l => still (nth l i) σ | _ => none)
  | .nilc x => still (xnil (ρ x) σ) σ
  | .bi b ts args => one (xbi b (args.map ρ) σ)
  | .bld z parts => (match xfill ρ parts (z.map .f) with | some l => some [(.a l, σ)] | none => none)
  | .bsl n ty sz z parts =>
    (match xfillRow sz ρ parts (rep n (z.map .f)) with
    | some l => (match xfrzs l σ with | some (fs, σ') => some [(.c (.rs σ'.length ty n), σ' ++ [.arr true ty sz fs])] | none => none)
    | none => none)
  | .raw o =>
    (match extraB tb o with
    | true => xextra tb o ρ σ
    | false =>
    match o with
    | .convert s d x => one (xconv tb s d (ρ x) σ)
    | .makeFunc (.func f) first captured => (match first.toList with | [] => some [(.c (.clo f (captured.toList.map fun x => (ρ x).cap)), σ)] | _ => none)
    | .index t x i =>
      (match (tb t).d, ρ x, ρ i with
      | .array n e, .a l, .c (.f (.int _ j)) => (match (tb e).d.isNo, inB j n with | false, true => still (xpart (tb e).agg l (j.toNat * (tb e).size) (tb e).size) σ | _, _ => none)
      | _, _, _ => none)
    | .build t parts =>
      (match (tb t).d with
      | .array _ e => (match (tb e).d.isNo, xfillRow (tb e).size ρ parts.toList ((tb t).zero.map .f) with | false, some l => some [(.a l, σ)] | _, _ => none)
      | _ => none)
    | _ => none)
end Go.Dm
