/- Printed by merge.py: many texts in one. -/
import Derived.Test.YtpoegfkajdbplaaMb
import Derived.Laws.Externs
import Derived.Lib.Builder
import Derived.Lib.Bytealg

namespace Go.Dm
set_option linter.unusedVariables false
def bindL {α β : Type} : List α → (α → Rs β) → Rs β
  | [], _ => some []
  | [x], f => f x
  | x :: y :: r, f =>
    match f x with
    | none => none
    | some l => match bindL (y :: r) f with
      | none => none
      | some l' => some (l ++ l')
def Rs.bind {α β : Type} (o : Rs α) (f : α → Rs β) : Rs β :=
  match o with
  | none => none
  | some l => bindL l f
abbrev FT := List (List V)
def upd {α : Type} : List α → Nat → (α → α) → List α
  | [], _, _ => []
  | x :: r, n, f => match n with | 0 => f x :: r | n + 1 => x :: upd r n f
def FT.get (t : FT) (i : Nat) : V :=
  match nth t (i / 8) with
  | some l => (match nth l (i % 8) with | some v => v | none => .c .un)
  | none => .c .un
def FT.set (m : Nat) (t : FT) (dst : Option Tmp) (v : V) : FT :=
  match dst with
  | none => t
  | some d => (match Nat.blt d m with | true => upd t (d / 8) fun l => put l (d % 8) v | false => t)
def unrow : List V := [.c .un, .c .un, .c .un, .c .un, .c .un, .c .un, .c .un, .c .un]
def blank : Nat → FT
  | 0 => [unrow]
  | n + 1 => unrow :: blank n
def start (m : Nat) : Nat → List V → FT → FT
  | _, [], t => t
  | i, x :: r, t => start m (i + 1) r (t.set m (some i) x)
def FT.at (t : FT) : Operand → V
  | .tmp i => t.get i
  | .const v => ofConst v
  | .func f => .c (.f (.fn f))
  | .global _ => .c .un
def ile (a b : Int) : Bool :=
  match a, b with
  | .ofNat a, .ofNat b => Nat.ble a b
  | .negSucc a, .negSucc b => Nat.ble b a
  | .negSucc _, .ofNat _ => true
  | .ofNat _, .negSucc _ => false
def xcmp (op : BinOp) (a b : Int) : Option Bool :=
  match op with
  | .eql => some (ieq a b)
  | .neq => some (!ieq a b)
  | .lss => some (!ile b a)
  | .leq => some (ile a b)
  | .gtr => some (!ile a b)
  | .geq => some (ile b a)
  | _ => none
def xscmp (op : BinOp) (a b : List UInt8) : Option Bool :=
  match op with
  | .eql => some (beqS a b)
  | .neq => some (!beqS a b)
  | .lss => some (bscmp .lss a b)
  | .leq => some (bscmp .leq a b)
  | .gtr => some (bscmp .gtr a b)
  | .geq => some (bscmp .geq a b)
  | _ => none
def xint (op : BinOp) (j : IntKind) (a b : Int) : Option V :=
  match op with
  | .add | .sub | .mul | .and | .or | .xor | .andNot => some (vint' j (barith op j a b))
  | .quo | .rem => (match ieq b 0 with | true => none | false => some (vint' j (barith op j a b)))
  | op => (match xcmp op a b with | some t => some (vbool t) | none => none)
def xbin (d : TD) (op : BinOp) (x y : V) : Option V :=
  match x, y with
  | .c (.f (.int j a)), .c (.f (.int j' b)) =>
    (match op with
    | .shl | .shr => (match ile 0 b with | true => some (vint' j (barith op j a b)) | false => none)
    | op => (match sameK j j' with | true => xint op j a b | false => none))
  | .c (.f (.bool a)), .c (.f (.bool b)) =>
    (match d, op with
    | .bool, .eql => some (vbool (a == b))
    | .bool, .neq => some (vbool (!(a == b)))
    | _, _ => none)
  | .c (.f (.str a)), .c (.f (.str b)) =>
    (match op with
    | .add => (match Nat.ble (a.length + b.length) 9223372036854775807 with | true => some (.c (.f (.str (a ++ b)))) | false => none)
    | op => (match xscmp op a b with | some t => some (vbool t) | none => none))
  | .c (.f (.flo a)), .c (.f (.flo b)) =>
    (match op with
    | .eql | .neq | .lss | .leq | .gtr | .geq => some (vbool (bfcmp op a b))
    | .add => (match prims.fadd a b with | some r => some (.c (.f (.flo r))) | none => none)
    | .sub => (match prims.fsub a b with | some r => some (.c (.f (.flo r))) | none => none)
    | _ => none)
  | .c (.f (.cpl a b)), .c (.f (.cpl c e)) =>
    (match op with
    | .add => (match prims.fadd a c, prims.fadd b e with | some r, some i => some (.c (.f (.cpl r i))) | _, _ => none)
    | .sub => (match prims.fsub a c, prims.fsub b e with | some r, some i => some (.c (.f (.cpl r i))) | _, _ => none)
    | .eql => some (vbool (bfcmp .eql a c && bfcmp .eql b e))
    | .neq => some (vbool (!(bfcmp .eql a c && bfcmp .eql b e)))
    | _ => none)
  | _, _ => none
def xun (op : UnOp) (x : V) : Option V :=
  match op, x with
  | .not, .c (.f (.bool b)) => some (vbool (!b))
  | .neg, .c (.f (.int j n)) => some (vint' j (barith .sub j 0 n))
  | _, _ => none
def cutF (l : List F) (off n : Nat) : Option (List F) := match Nat.ble (off + n) l.length with | true => some ((l.drop off).take n) | false => none
def cutC (l : List C) (off n : Nat) : Option (List C) := match Nat.ble (off + n) l.length with | true => some ((l.drop off).take n) | false => none
def spliceC (l : List C) (off : Nat) (r : List C) : Option (List C) := match Nat.ble (off + r.length) l.length with | true => some (l.take off ++ r ++ l.drop (off + r.length)) | false => none
def xload (agg : Bool) (n : Nat) (x : V) (σ : St) : Option V :=
  match x with
  | .c (.ptr o off) =>
    (match nth σ o with
    | some (.cells l) =>
      (match agg with
      | true => (match cutC l off n with | some r => some (.a r) | none => none)
      | false => (match nth l off with | some c => some (.c c) | none => none))
    | some (.bld _ u y) =>
      (match agg, off with
      | false, 0 => some (match u with | true => .c (.ptr o 0) | false => .c (.f .nilp))
      | false, 1 => some (.c y)
      | _, _ => none)
    | _ => none)
  | .c (.ep cs off) =>
    (match agg with
    | true => (match cutF cs off n with | some r => some (.a (r.map .f)) | none => none)
    | false => (match nth cs off with | some x => some (.c (.f x)) | none => none))
  | .c (.pa o e off) =>
    (match nth σ o with
    | some (.arr _ e0 _ l) =>
      (match Nat.beq e e0 with
      | true =>
        (match agg with
        | true => (match cutF l off n with | some r => some (.a (r.map .f)) | none => none)
        | false => (match nth l off with | some x => some (.c (.f x)) | none => none))
      | false => none)
    | _ => none)
  | _ => none
def xfrzs : List C → St → Option (List F × St)
  | [], σ => some ([], σ)
  | .f x :: r, σ => (match xfrzs r σ with | some (l, σ') => some (x :: l, σ') | none => none)
  | .rs o e n :: r, σ =>
    (match nth σ o with
    | some (.arr _ e0 sz l) =>
      (match Nat.beq e e0 with
      | true => (match xfrzs r (put σ o (.arr false e0 sz l)) with | some (l', σ') => some (.sl n l :: l', σ') | none => none)
      | false => none)
    | _ => none)
  | .ptr o off :: r, σ =>
    (match off with
    | 0 =>
      (match nth σ o with
      | some (.cells cs) =>
        (match frz cs with
        | some fs => (match xfrzs r (put σ o .gone) with | some (l', σ') => some (.obj fs :: l', σ') | none => none)
        | none => none)
      | _ => none)
    | _ => none)
  | _, _ => none
def xstore (x v : V) (n : Nat) (σ : St) : Option St :=
  match v.cells with
  | some r =>
    (match Nat.beq r.length n && r.all C.solid with
    | true =>
      (match x with
      | .c (.ptr o off) =>
        (match nth σ o with
        | some (.cells l) => (match spliceC l off r with | some l' => some (put σ o (.cells l')) | none => none)
        | some (.bld b u y) =>
          (match off, r with
          | 0, [.ptr o' 0] => (match Nat.beq o' o with | true => some (put σ o (.bld b true y)) | false => none)
          | 1, [c] => some (put σ o (.bld b u c))
          | _, _ => none)
        | _ => none)
      | .c (.pa o e off) =>
        (match xfrzs r σ with
        | some (fs, σ') =>
          (match nth σ' o with
          | some (.arr true e0 sz l) =>
            (match Nat.beq e e0 && Nat.ble (off + n) l.length with
            | true => some (put σ' o (.arr true e0 sz (l.take off ++ fs ++ l.drop (off + fs.length))))
            | false => none)
          | _ => none)
        | none => none)
      | _ => none)
    | false => none)
  | none => none
def xfield (x : V) (fo : Nat) (σ : St) : Option V :=
  match x with
  | .c (.ptr o off) => some (.c (.ptr o (off + fo)))
  | .c (.ep cs off) => some (.c (.ep cs (off + fo)))
  | .c (.pa o e off) =>
    (match nth σ o with
    | some (.arr _ e0 _ _) => (match Nat.beq e e0 with | true => some (.c (.pa o e (off + fo))) | false => none)
    | _ => none)
  | _ => none
def xpart (agg : Bool) (l : List C) (off n : Nat) : Option V :=
  match agg with
  | true => (match cutC l off n with | some r => some (.a r) | none => none)
  | false => (match nth l off with | some c => some (.c c) | none => none)
def inB (j : Int) (n : Nat) : Bool :=
  match j with
  | .ofNat j => Nat.blt j n
  | .negSucc _ => false
def xixrow (sz : Nat) (x i : V) (σ : St) : Option V :=
  match x, i with
  | .c (.f (.sl n cs)), .c (.f (.int _ j)) => (match inB j n with | true => some (.c (.ep cs (j.toNat * sz))) | false => none)
  | .c (.rs o ep n), .c (.f (.int _ j)) =>
    (match nth σ o with
    | some (.arr _ e0 _ _) => (match Nat.beq ep e0 && inB j n with | true => some (.c (.pa o ep (j.toNat * sz))) | false => none)
    | _ => none)
  | _, _ => none
def xixarr (n sz : Nat) (x i : V) (σ : St) : Option V :=
  match x, i with
  | .c (.ptr o off), .c (.f (.int _ j)) => (match inB j n with | true => some (.c (.ptr o (off + j.toNat * sz))) | false => none)
  | .c (.ep cs off), .c (.f (.int _ j)) => (match inB j n with | true => some (.c (.ep cs (off + j.toNat * sz))) | false => none)
  | .c (.pa o ep off), .c (.f (.int _ j)) =>
    (match nth σ o with
    | some (.arr _ e0 _ _) => (match Nat.beq ep e0 && inB j n with | true => some (.c (.pa o ep (off + j.toNat * sz))) | false => none)
    | _ => none)
  | _, _ => none
def xchr (x i : V) : Option V :=
  match x, i with
  | .c (.f (.str s)), .c (.f (.int _ j)) => (match j with | .ofNat k => (match nth s k with | some b => some (vint' .u8 b.toNat) | none => none) | .negSucc _ => none)
  | _, _ => none
def xlen (d : TD) (x : V) (σ : St) : Option V :=
  match d, x with
  | .str, .c (.f (.str s)) => some (vint' .i64 s.length)
  | .slice _, .c (.f .nils) => some (vint' .i64 0)
  | .slice _, .c (.f (.sl n cs)) => some (vint' .i64 (Int.ofNat n))
  | .slice _, .c (.rs o e n) =>
    (match nth σ o with
    | some (.arr _ e0 _ _) => (match Nat.beq e e0 with | true => some (vint' .i64 (Int.ofNat n)) | false => none)
    | _ => none)
  | _, _ => none
def xsrc (d : TD) (sz : Nat) (x : V) (σ : St) : Option (Nat × List F) :=
  match d, x with
  | .slice _, .c (.f .nils) => some (0, [])
  | .slice _, .c (.f (.sl n cs)) => (match Nat.beq cs.length (n * sz) with | true => some (n, cs) | false => none)
  | .slice _, .c (.rs o e n) =>
    (match nth σ o with
    | some (.arr _ e0 s0 l) => (match Nat.beq e e0 && Nat.beq sz s0 with | true => some (n, l) | false => none)
    | _ => none)
  | .str, .c (.f (.str s)) => (match Nat.beq sz 1 with | true => some (s.length, s.map fun b => .int .u8 b.toNat) | false => none)
  | _, _ => none
def xappend (d : TD) (ty sz bytes : Nat) (x y : V) (σ : St) : Option (V × St) :=
  match xsrc d sz y σ with
  | none => none
  | some (m, new) =>
    match x with
    | .c (.f .nils) => (match m with | 0 => some (.c (.f .nils), σ) | _ => match Nat.ble (m * bytes) 140737488355328 && Nat.ble m 9223372036854775807 && Nat.ble ty 4294967295 with | true => some (.c (.rs σ.length ty m), σ ++ [.arr true ty sz new]) | false => none)
    | .c (.rs o e n) =>
      (match nth σ o with
      | some (.arr w e0 s0 l) =>
        (match Nat.beq e e0 && Nat.beq sz s0 && Nat.ble ((n + m) * bytes) 140737488355328 && Nat.ble (n + m) 9223372036854775807 && Nat.beq (Nat.mod e0 4294967296) ty with
        | true => some (.c (.rs o (e0 + 4294967296) (n + m)), put σ o (.arr w (e0 + 4294967296) sz (l ++ new)))
        | false => none)
      | _ => none)
    | _ => none
def rngB (a b : Int) (c : Nat) : Bool :=
  match a, b with
  | .ofNat a, .ofNat b => Nat.ble a b && Nat.ble b c
  | _, _ => false
def xslice (d : TD) (sz : Nat) (x : V) (lo hi : Option V) (σ : St) : Option (V × St) :=
  match d, x with
  | .str, .c (.f (.str s)) =>
    (match lo, hi with
    | none, none => some (.c (.f (.str s)), σ)
    | some (.c (.f (.int _ a))), none => (match rngB 0 a s.length with | true => some (.c (.f (.str (s.drop a.toNat))), σ) | false => none)
    | none, some (.c (.f (.int _ b))) => (match rngB 0 b s.length with | true => some (.c (.f (.str (s.take b.toNat))), σ) | false => none)
    | some (.c (.f (.int _ a))), some (.c (.f (.int _ b))) => (match rngB a b s.length with | true => some (.c (.f (.str ((s.drop a.toNat).take (b.toNat - a.toNat)))), σ) | false => none)
    | _, _ => none)
  | .slice _, .c (.f .nils) =>
    (match lo, hi with
    | some (.c (.f (.int _ a))), none => (match rngB 0 a 0 with | true => some (.c (.f .nils), σ) | false => none)
    | none, some (.c (.f (.int _ b))) => (match rngB 0 b 0 with | true => some (.c (.f .nils), σ) | false => none)
    | some (.c (.f (.int _ a))), some (.c (.f (.int _ b))) => (match rngB a b 0 with | true => some (.c (.f .nils), σ) | false => none)
    | none, none => some (.c (.f .nils), σ)
    | _, _ => none)
  | .slice _, .c (.f (.sl n cs)) =>
    (match lo, hi with
    | some (.c (.f (.int _ a))), none => (match rngB 0 a n with | true => some (.c (.f (.sl (n - a.toNat) ((cs.drop (a.toNat * sz)).take ((n - a.toNat) * sz)))), σ) | false => none)
    | none, some (.c (.f (.int _ b))) => (match rngB 0 b n with | true => some (.c (.f (.sl b.toNat (cs.take (b.toNat * sz)))), σ) | false => none)
    | some (.c (.f (.int _ a))), some (.c (.f (.int _ b))) => (match rngB a b n with | true => some (.c (.f (.sl (b.toNat - a.toNat) ((cs.drop (a.toNat * sz)).take ((b.toNat - a.toNat) * sz)))), σ) | false => none)
    | none, none => some (.c (.f (.sl n cs)), σ)
    | _, _ => none)
  | .slice _, .c (.rs o ep n) =>
    (match nth σ o, lo, hi with
    | some (.arr true e0 s0 l), none, some (.c (.f (.int _ b))) =>
      (match Nat.beq ep e0 && rngB 0 b n with | true => some (.c (.rs o (e0 + 4294967296) b.toNat), put σ o (.arr true (e0 + 4294967296) s0 (l.take (b.toNat * s0)))) | false => none)
    | _, _, _ => none)
  | _, _ => none
def xbytesL : List F → Option (List UInt8)
  | [] => some []
  | .int .u8 (.ofNat n) :: r => (match Nat.blt n 256, xbytesL r with | true, some l => some (UInt8.ofNat n :: l) | _, _ => none)
  | _ => none
def xbytes (x : V) (σ : St) : Option V :=
  match x with
  | .c (.f .nils) => some (.c (.f (.str [])))
  | .c (.f (.sl n cs)) => (match Nat.beq cs.length n, xbytesL cs with | true, some s => some (.c (.f (.str s))) | _, _ => none)
  | .c (.rs o e n) =>
    (match nth σ o with
    | some (.arr _ e0 _ l) => (match Nat.beq e e0 && Nat.beq l.length n, xbytesL l with | true, some s => some (.c (.f (.str s))) | _, _ => none)
    | _ => none)
  | _ => none
def xconv (tb : Tab) (s d : TypeId) (x : V) (σ : St) : Option (V × St) :=
  match (tb s).d, (tb d).d, x with
  | .int _, .int j, .c (.f (.int _ n)) => some (vint' j (j.wrap n), σ)
  | .int _, .flo, .c (.f (.int _ n)) => some (.c (.f (.flo (prims.fofi n))), σ)
  | .flo, .int .i64, .c (.f (.flo b)) => (match prims.foi b with | some n => some (vint' .i64 n, σ) | none => none)
  | .str, .str, .c (.f (.str x)) => some (.c (.f (.str x)), σ)
  | .slice e, .str, x => (match (tb e).d with | .int .u8 => (match xbytes x σ with | some v => some (v, σ) | none => none) | _ => none)
  | .str, .slice e, .c (.f (.str x)) => (match (tb e).d with
    | .int .u8 => (match Nat.ble x.length 9223372036854775807 && Nat.ble e 4294967295 with | true => some (.c (.rs σ.length e x.length), σ ++ [.arr true e 1 (x.map fun b => .int .u8 b.toNat)]) | false => none)
    | _ => none)
  | _, _, _ => none
def xbi (b : Builtin) (vals : List V) (σ : St) : Option (V × St) :=
  match b, vals with
  | .min, .c (.f (.int i a)) :: r => (match ints r with | some l => some (vint' i (l.foldl prims.imin a), σ) | none => none)
  | .max, .c (.f (.int i a)) :: r => (match ints r with | some l => some (vint' i (l.foldl prims.imax a), σ) | none => none)
  | .complex, [.c (.f (.flo a)), .c (.f (.flo b))] => some (.c (.f (.cpl a b)), σ)
  | .real, [.c (.f (.cpl a b))] => some (.c (.f (.flo a)), σ)
  | .imag, [.c (.f (.cpl a b))] => some (.c (.f (.flo b)), σ)
  | _, _ => none
def xnil (x : V) (σ : St) : Option V :=
  match x with
  | .c (.ptr o off) => some (.c (.ptr o off))
  | .c (.f (.obj cs)) => some (.c (.f (.obj cs)))
  | .c (.ep cs off) => some (.c (.ep cs off))
  | .c (.pa o e off) =>
    (match nth σ o with
    | some (.arr _ e0 _ _) => (match Nat.beq e e0 with | true => some (.c (.pa o e off)) | false => none)
    | _ => none)
  | _ => none
def xfill (ρ : Operand → V) : List (Nat × Nat × Operand) → List C → Option (List C)
  | [], cs => some cs
  | (off, n, x) :: r, cs =>
    match (ρ x).cells with
    | some l => (match Nat.beq l.length n with | true => (match spliceC cs off l with | some cs' => xfill ρ r cs' | none => none) | false => none)
    | none => none
def xfillRow (sz : Nat) (ρ : Operand → V) : List (Nat × Operand) → List C → Option (List C)
  | [], cs => some cs
  | (i, x) :: r, cs =>
    match (ρ x).cells with
    | some l => (match Nat.beq l.length sz with | true => (match spliceC cs (i * sz) l with | some cs' => xfillRow sz ρ r cs' | none => none) | false => none)
    | none => none
def one {α : Type} (x : Option α) : Rs α := match x with | some v => some [v] | none => none
def still (x : Option V) (σ : St) : Rs (V × St) := match x with | some v => some [(v, σ)] | none => none
abbrev Caller := FuncId → List V → St → Rs (V × St)
def xop (call : Caller) (tb : Tab) (s : SOp) (ρ : Operand → V) (σ : St) : Rs (V × St) :=
  match s with
  | .mv x => some [(ρ x, σ)]
  | .pick c a b => (match ρ c with | .c (.f (.bool t)) => (match t with | true => some [(ρ a, σ)] | false => some [(ρ b, σ)]) | _ => none)
  | .bin d op x y => still (xbin d op (ρ x) (ρ y)) σ
  | .un op x => still (xun op (ρ x)) σ
  | .alloc z => some [(.c (.ptr σ.length 0), σ ++ [.cells (z.map .f)])]
  | .box x => (match (ρ x).cells with | some l => some [(.c (.ptr σ.length 0), σ ++ [.cells l])] | none => none)
  | .load agg n x => still (xload agg n (addr (ρ x)) σ) σ
  | .store n a x => (match xstore (ρ a) (ρ x) n σ with | some σ' => some [(.c .un, σ')] | none => none)
  | .call x args => (match callee (ρ x) (args.map ρ) with | some (f, l) => call f l σ | none => none)
  | .fa off x => still (xfield (addr (ρ x)) off σ) σ
  | .fld agg off n x => (match ρ x with | .a l => still (xpart agg l off n) σ | _ => none)
  | .ixr sz x i => still (xixrow sz (addr (ρ x)) (ρ i) σ) σ
  | .ixa n sz x i => still (xixarr n sz (addr (ρ x)) (ρ i) σ) σ
  | .chr x i => still (xchr (ρ x) (ρ i)) σ
  | .len d x => still (xlen d (ρ x) σ) σ
  | .app d ty sz bytes x y => one (xappend d ty sz bytes (ρ x) (ρ y) σ)
  | .slc d sz x lo hi => one (xslice d sz (ρ x) (lo.map ρ) (hi.map ρ) σ)
  | .ext x i => (match ρ x with | .t l => still (nth l i) σ | _ => none)
  | .nilc x => still (xnil (ρ x) σ) σ
  | .bi b ts args => one (xbi b (args.map ρ) σ)
  | .bld z parts => (match xfill ρ parts (z.map .f) with | some l => some [(.a l, σ)] | none => none)
  | .bsl n ty sz z parts =>
    (match xfillRow sz ρ parts (rep n (z.map .f)) with
    | some l => (match xfrzs l σ with | some (fs, σ') => some [(.c (.rs σ'.length ty n), σ' ++ [.arr true ty sz fs])] | none => none)
    | none => none)
  | .raw o =>
    (match extraB tb o with
    | true => xextra tb o ρ σ
    | false =>
    match o with
    | .convert s d x => one (xconv tb s d (ρ x) σ)
    | .makeFunc (.func f) first captured => (match first.toList with | [] => some [(.c (.clo f (captured.toList.map fun x => (ρ x).cap)), σ)] | _ => none)
    | .index t x i =>
      (match (tb t).d, ρ x, ρ i with
      | .array n e, .a l, .c (.f (.int _ j)) => (match (tb e).d.isNo, inB j n with | false, true => still (xpart (tb e).agg l (j.toNat * (tb e).size) (tb e).size) σ | _, _ => none)
      | _, _, _ => none)
    | .build t parts =>
      (match (tb t).d with
      | .array _ e => (match (tb e).d.isNo, xfillRow (tb e).size ρ parts.toList ((tb t).zero.map .f) with | false, some l => some [(.a l, σ)] | _, _ => none)
      | _ => none)
    | _ => none)
end Go.Dm
namespace Go.Dm
set_option linter.unusedVariables false
mutual
def C.eqb : C → C → Bool
  | .f x, .f y => F.eqb x y
  | .ptr x y, .ptr x' y' => Nat.beq x x' && Nat.beq y y'
  | .pa x y z, .pa x' y' z' => Nat.beq x x' && Nat.beq y y' && Nat.beq z z'
  | .ep l n, .ep l' n' => Nat.beq n n' && F.eqbs l l'
  | .rs x y z, .rs x' y' z' => Nat.beq x x' && Nat.beq y y' && Nat.beq z z'
  | .mp x, .mp y => Nat.beq x y
  | .clo x l, .clo x' l' => Nat.beq x x' && C.eqbs l l'
  | .un, .un => true
  | _, _ => false
def C.eqbs : List C → List C → Bool
  | [], [] => true
  | x :: r, y :: s => C.eqb x y && C.eqbs r s
  | _, _ => false
end
mutual
def V.eqb : V → V → Bool
  | .c x, .c y => C.eqb x y
  | .a x, .a y => C.eqbs x y
  | .t x, .t y => V.eqbs x y
  | _, _ => false
def V.eqbs : List V → List V → Bool
  | [], [] => true
  | x :: r, y :: s => V.eqb x y && V.eqbs r s
  | _, _ => false
end
def kvEqb : List (List F × List F) → List (List F × List F) → Bool
  | [], [] => true
  | (a, b) :: r, (c, d) :: s => F.eqbs a c && F.eqbs b d && kvEqb r s
  | _, _ => false
def Ob.eqb : Ob → Ob → Bool
  | .cells l, .cells l' => C.eqbs l l'
  | .arr w e sz l, .arr w' e' sz' l' => (w == w') && Nat.beq e e' && Nat.beq sz sz' && F.eqbs l l'
  | .map kv, .map kv' => kvEqb kv kv'
  | .bld T u x, .bld T' u' x' => Nat.beq T T' && (u == u') && C.eqb x x'
  | .gone, .gone => true
  | _, _ => false
def stEqb : St → St → Bool
  | [], [] => true
  | x :: r, y :: s => Ob.eqb x y && stEqb r s
  | _, _ => false
def ftEqb : FT → FT → Bool
  | [], [] => true
  | x :: r, y :: s => V.eqbs x y && ftEqb r s
  | _, _ => false
def nub {α : Type} (eq : α → α → Bool) : List α → List α
  | [] => []
  | [x] => [x]
  | x :: y :: r =>
    let l := nub eq (y :: r)
    match l.any (eq x) with
    | true => l
    | false => x :: l
def vsEqb (a b : V × St) : Bool := V.eqb a.1 b.1 && stEqb a.2 b.2
def fsEqb (a b : FT × St) : Bool := ftEqb a.1 b.1 && stEqb a.2 b.2
def xguard (t : FT) (g : Option (Option Tmp × Bool)) : Option Bool :=
  match g with
  | none => some true
  | some (d, want) =>
    match d with
    | none => some false
    | some d =>
      match t.get d with
      | .c (.f (.bool b)) => some (match want, b with | true, true => true | false, false => true | _, _ => false)
      | .t _ => some false
      | _ => none
def xitem (call : Caller) (tb : Tab) (i : SItem) (t : FT) (σ : St) : Rs (V × St) :=
  match xguard t i.g with
  | none => none
  | some true => xop call tb i.o t.at σ
  | some false => some [(.t [], σ)]
def xseq (call : Caller) (tb : Tab) (m : Nat) : List SItem → FT → St → Rs (FT × St)
  | [], t, σ => some [(t, σ)]
  | i :: r, t, σ =>
    match xitem call tb i t σ with
    | none => none
    | some [(v, σ')] => xseq call tb m r (t.set m i.dst v) σ'
    | some l => bindL l fun p => xseq call tb m r (t.set m i.dst p.1) p.2
def depGo (i : Nat) : List Oper → Nat → List Bool → List Bool
  | [], _, acc => acc
  | o :: r, j, acc => depGo i r (j + 1) (acc ++ [o.after.any fun e => Region.binds .any e && (Nat.beq e.on i || (match nth acc e.on with | some b => b | none => false))])
def stlOf (tb : Tab) (ps : FuncId → Bool) (o : Op) : Bool :=
  match o with
  | .call { callee := .value x, .. } => (match x with | .func f => ps f | _ => false)
  | .slice t _ lo hi mx => (match mx, (tb t).d with | none, .str => true | _, _ => false)
  | .binOp _ t _ _ _ => (match (tb t).d with | .slice _ => false | _ => true)
  | o => !extraB tb o && stillOp tb o
def depB (D : List Bool) (j : Nat) : Bool := match nth D j with | some b => b | none => false
def calmAt (stl : Op → Bool) (ops : Array Oper) (listed : Array Bool) (i : Nat) : Bool :=
  let D := depGo i ops.toList 0 []
  (List.range ops.size).all fun j =>
    match ops[j]? with
    | none => true
    | some o =>
      match depB D j with
      | true => !listed.getD j true && o.after.any fun e => Region.binds .any e && (Nat.beq e.on i || depB D e.on)
      | false => Nat.beq j i || listed.getD j true || stl o.op
structure Ch where
  it : SItem
  op : Op
  free : Bool
  calm : Bool
  still : Bool
  deriving Inhabited
inductive Plan where
  | bad
  | node (l : List (Ch × (Unit → Plan)))
  deriving Inhabited
def choice (stl : Op → Bool) (l : List SItem) (ops : Array Oper) (listed : Array Bool) (i : Nat) : Ch :=
  match ops[i]?, nth l i with
  | some o, some s => ⟨s, o.op, freeAt ops listed i, calmAt stl ops listed i, stl o.op⟩
  | _, _ => ⟨⟨none, none, .raw (.ready 0)⟩, .ready 0, false, false, false⟩
def plan (stl : Op → Bool) (l : List SItem) (ops : Array Oper) : Nat → Array Bool → Plan
  | 0, listed => (match Region.ready .any ops listed with | [] => .node [] | _ => .bad)
  | n + 1, listed => .node ((Region.ready .any ops listed).map fun i => (choice stl l ops listed i, fun _ => plan stl l ops n (listed.setIfInBounds i true)))
def tlessT (tb : Tab) (o : Op) (t : FT) : Bool :=
  match o with
  | .call { callee := .value _, .. } => false
  | .load _ x => !farV (t.at x) && !ptrV (t.at x)
  | o => !extraB tb o && stillOp tb o && o.operands.toList.all fun x => !farV (t.at x)
def pickX (tb : Tab) (t : FT) : List (Ch × (Unit → Plan)) → Option (Bool × Ch × (Unit → Plan))
  | [] => none
  | (c, p) :: r =>
    match c.free with
    | false => pickX tb t r
    | true =>
      match tlessT tb c.op t with
      | true => some (true, c, p)
      | false => (match c.still && c.calm with | true => some (false, c, p) | false => pickX tb t r)
def branchX {α : Type} (f : Ch → (Unit → Plan) → Rs α) : List (Ch × (Unit → Plan)) → Rs α
  | [] => some []
  | (c, p) :: r =>
    match f c p with
    | none => none
    | some l => (match branchX f r with | none => none | some l' => some (l ++ l'))
def xany (call : Caller) (tb : Tab) (m : Nat) : Nat → Plan → FT → St → Rs (FT × St)
  | 0, .node [], t, σ => some [(t, σ)]
  | 0, _, _, _ => none
  | _ + 1, .bad, _, _ => none
  | _ + 1, .node [], t, σ => some [(t, σ)]
  | n + 1, .node l, t, σ =>
    match pickX tb t l with
    | some (tl, c, p) =>
      (match xitem call tb c.it t (match tl with | true => [] | false => σ) with
      | some [(v, _)] => xany call tb m n (p ()) (t.set m c.it.dst v) σ
      | _ => none)
    | none =>
      match branchX (fun c p => match xitem call tb c.it t σ with
        | none => none
        | some o => bindL o fun q => xany call tb m n (p ()) (t.set m c.it.dst q.1) q.2) l with
      | none => none
      | some o => some (nub fsEqb o)
inductive XE where
  | norm
  | exit (id : Nat)
  | ret
  deriving Inhabited
def xloop (body : FT → St → Rs (XE × FT × St)) : Nat → FT → St → Rs (XE × FT × St)
  | 0, _, _ => none
  | n + 1, t, σ => Rs.bind (body t σ) fun p =>
    match p with
    | (.norm, t', σ') => xloop body n t' σ'
    | p => some [p]
def xcode (call : Caller) (tb : Tab) (stl : Op → Bool) (m it : Nat) : SCode → FT → St → Rs (XE × FT × St)
  | .skip, t, σ => some [(.norm, t, σ)]
  | .ops l, t, σ => (match xseq call tb m l t σ with | some [(t', σ')] => some [(.norm, t', σ')] | some o => some (o.map fun p => (.norm, p.1, p.2)) | none => none)
  | .any l ops, t, σ => (match xany call tb m ops.size (plan stl l ops ops.size (Array.replicate ops.size false)) t σ with | some [(t', σ')] => some [(.norm, t', σ')] | some o => some (o.map fun p => (.norm, p.1, p.2)) | none => none)
  | .seq a b, t, σ => Rs.bind (xcode call tb stl m it a t σ) fun p =>
    match p with
    | (.norm, t', σ') => xcode call tb stl m it b t' σ'
    | p => some [p]
  | .cond c a b, t, σ =>
    (match t.at c with
    | .c (.f (.bool x)) => (match x with | true => xcode call tb stl m it a t σ | false => xcode call tb stl m it b t σ)
    | _ => none)
  | .block id c, t, σ => Rs.bind (xcode call tb stl m it c t σ) fun p =>
    match p with
    | (.exit j, t', σ') => (match Nat.beq j id with | true => some [(.norm, t', σ')] | false => some [(.exit j, t', σ')])
    | p => some [p]
  | .loop c, t, σ => xloop (xcode call tb stl m it c) it t σ
  | .exit id, t, σ => some [(.exit id, t, σ)]
  | .ret, t, σ => some [(.ret, t, σ)]
  | .bad, _, _ => none
def xres (tb : Tab) : List ResultVar → FT → St → Option (List V)
  | [], _, _ => some []
  | .tmp i :: r, t, σ => (match xres tb r t σ with | some l => some (t.get i :: l) | none => none)
  | .cell x ty :: r, t, σ =>
    match (tb ty).d.isNo with
    | true => none
    | false => match xload (tb ty).agg (tb ty).size (addr (t.get x)) σ, xres tb r t σ with
      | some v, some l => some (v :: l)
      | _, _ => none
def xret (tb : Tab) (rs : List ResultVar) (p : XE × FT × St) : Rs (V × St) :=
  match p with
  | (.exit _, _, _) => none
  | (_, t, σ) =>
    match xres tb rs t σ with
    | none => none
    | some [v] => some [(v, σ)]
    | some l => some [(.t l, σ)]
structure Fun where
  m : Nat
  code : SCode
  rs : List ResultVar
  deriving Inhabited
def funOf (P : Program) (tb : Tab) (f : FuncId) : Option Fun :=
  match P.funcs[f]? with
  | none => none
  | some fn =>
    match fn.body with
    | none => none
    | some c => (match fn.name == "runtime.NumGoroutine" with | true => none | false => some ⟨fn.ntmps, scode tb c, fn.results.toList⟩)
def xbody (call : Caller) (tb : Tab) (stl : Op → Bool) (it : Nat) (F : Fun) (args : List V) (σ : St) : Rs (V × St) :=
  match Nat.ble args.length F.m with
  | false => none
  | true =>
    match Rs.bind (xcode call tb stl F.m it F.code (start F.m 0 args (blank (F.m / 8))) σ) (xret tb F.rs) with
    | none => none
    | some o => some (nub vsEqb o)
end Go.Dm
namespace Go.Dm
set_option linter.unusedVariables false
set_option linter.unusedSimpArgs false
theorem ile_eq (a b : Int) : ile a b = decide (a ≤ b) := by
  cases a <;> cases b <;> simp only [ile]
  · rename_i a b
    by_cases h : a ≤ b
    · rw [Nat.ble_eq_true_of_le h]; exact (decide_eq_true (by simpa using h)).symm
    · have : Nat.ble a b = false := by
        cases hb : Nat.ble a b with
        | true => exact absurd (ble_nat hb) h
        | false => rfl
      rw [this]; exact (decide_eq_false (by simpa using h)).symm
  · exact (decide_eq_false (by simp only [Int.ofNat_eq_natCast]; omega)).symm
  · exact (decide_eq_true (by simp only [Int.ofNat_eq_natCast]; omega)).symm
  · rename_i a b
    by_cases h : b ≤ a
    · rw [Nat.ble_eq_true_of_le h]; exact (decide_eq_true (by omega)).symm
    · have : Nat.ble b a = false := by
        cases hb : Nat.ble b a with
        | true => exact absurd (ble_nat hb) h
        | false => rfl
      rw [this]; exact (decide_eq_false (by omega)).symm
theorem sameK_same {j j' : IntKind} {p : Prop} (h : sameK j j' = true) (hp : p) : same j j' p := by
  cases j <;> cases j' <;> first | exact hp | (simp [sameK] at h)
theorem xcmp_eq {op : BinOp} {a b : Int} {t : Bool} (h : xcmp op a b = some t) : bcmp op a b = t ∧ (op = .eql ∨ op = .neq ∨ op = .lss ∨ op = .leq ∨ op = .gtr ∨ op = .geq) := by
  cases op <;> simp only [xcmp, reduceCtorEq] at h <;> cases h <;> simp only [bcmp, ieq_eq, ile_eq]
  · simp
  · exact ⟨rfl, by simp⟩
  · simp only [← decide_not, Int.not_le]; simp
  · simp
  · simp only [← decide_not, Int.not_le]; simp
  · simp
theorem xscmp_eq {op : BinOp} {a b : List UInt8} {t : Bool} (h : xscmp op a b = some t) : bscmp op a b = t ∧ (op = .eql ∨ op = .neq ∨ op = .lss ∨ op = .leq ∨ op = .gtr ∨ op = .geq) := by
  cases op <;> simp only [xscmp, reduceCtorEq] at h <;> cases h <;> simp [bscmp, beqS_eq]
section
variable {P : Program} {tb : Tab} {σ : St} {k : V → Prop} {kk : V → St → Prop}
theorem xint_ok {op : BinOp} {j : IntKind} {a b : Int} {r : V} (h : xint op j a b = some r) (hk : k r) : vint prims op j a b k := by
  cases op <;> simp only [xint] at h <;> simp only [vint, prims]
  all_goals first
    | (cases h; exact hk)
    | (split at h <;> first
        | (cases h; done)
        | (rename_i hb; cases h; refine ⟨?_, hk⟩; rw [ieq_eq] at hb; simpa using hb; done))
    | (split at h <;> first
        | (rename_i t ht; cases h; have := (xcmp_eq ht); rw [this.1]; exact hk)
        | (cases h; done))
    | (split at h <;> first
        | (rename_i t ht; have := (xcmp_eq ht).2; simp at this; done)
        | (cases h; done))
theorem xbin_ok {d : TD} {op : BinOp} {x y : V} {r : V} (h : xbin d op x y = some r) (hk : k r) : vbin prims d op x y k := by
  unfold xbin at h
  unfold vbin
  split at h
  · rename_i j a j' b
    by_cases hs : op = .shl ∨ op = .shr
    · rcases hs with rfl | rfl <;> simp only at h ⊢ <;> (split at h <;> first
        | (rename_i hb; cases h; refine ⟨?_, hk⟩; rw [ile_eq] at hb; show 0 ≤ b; exact of_decide_eq_true hb)
        | (cases h; done))
    · have h' : (match sameK j j' with | true => xint op j a b | false => none) = some r := by revert h; cases op <;> first | exact id | (simp at hs; done)
      have g : same j j' (vint prims op j a b k) := by
        split at h'
        · rename_i e; exact sameK_same e (xint_ok h' hk)
        · cases h'
      revert g; cases op <;> simp_all
  · split at h <;> first
      | (cases h; exact hk)
      | cases h
  · rename_i a b
    cases op <;> simp only at h ⊢ <;> first
      | (split at h <;> first
          | (rename_i hb; cases h; exact ⟨ble_nat hb, hk⟩)
          | cases h; done)
      | (split at h <;> first
          | (rename_i t ht; cases h; have := (xscmp_eq ht).1; simp only [prims]; rw [this]; exact hk)
          | cases h; done)
      | (split at h <;> first
          | (rename_i t ht; have := (xscmp_eq ht).2; simp at this; done)
          | cases h)
  · rename_i a b
    cases op <;> simp only [reduceCtorEq] at h ⊢ <;> first
      | (cases h; exact hk)
      | (split at h <;> first
          | (rename_i t ht; cases h; simp only [ht]; exact hk)
          | cases h)
  · rename_i a b c e
    cases op <;> simp only [reduceCtorEq] at h ⊢ <;> first
      | (cases h; exact hk)
      | (split at h <;> first
          | (rename_i t u ht hu; cases h; simp only [ht, hu]; exact hk)
          | cases h)
  · cases h
theorem xun_ok {op : UnOp} {x r : V} (h : xun op x = some r) (hk : k r) : vun prims op x k := by
  unfold xun at h
  unfold vun
  split at h
  · cases h; exact hk
  · cases h; exact hk
  · cases h
theorem cutC_ok {l r : List C} {off n : Nat} (h : cutC l off n = some r) : cut l off n = some r := by
  unfold cutC at h
  unfold cut
  split at h
  · rename_i e; rw [if_pos (ble_nat e)]; exact h
  · cases h
theorem cutF_ok {l r : List F} {off n : Nat} {K : List F → Prop} (h : cutF l off n = some r) (hk : K r) : prims.cutK l off n K := by
  unfold cutF at h
  split at h
  · rename_i e; cases h; exact ⟨ble_nat e, hk⟩
  · cases h
theorem spliceC_ok {l r l' : List C} {off : Nat} (h : spliceC l off r = some l') : splice l off r = some l' := by
  unfold spliceC at h
  unfold splice
  split at h
  · rename_i e; rw [if_pos (ble_nat e)]; exact h
  · cases h
theorem xload_ok {agg : Bool} {n : Nat} {x r : V} (h : xload agg n x σ = some r) (hk : k r) : vload prims agg n x σ k := by
  unfold xload at h
  unfold vload
  split at h
  · simp only [nth_eq] at h
    split at h
    · rename_i l ho
      simp only [ho]
      split at h
      · split at h
        · rename_i r' hc; cases h; simp only [cutC_ok hc]; exact hk
        · cases h
      · split at h
        · rename_i c hc; cases h; simp only [hc]; exact hk
        · cases h
    · rename_i ho
      simp only [ho]
      split at h
      · cases h; exact hk
      · cases h; exact hk
      · cases h
    · cases h
  · rename_i cs off
    simp only [nth_eq] at h
    split at h
    · split at h
      · rename_i r' hc; cases h; exact cutF_ok hc hk
      · cases h
    · split at h
      · rename_i c hc; cases h; simp only [prims, hc]; exact hk
      · cases h
  · simp only [nth_eq] at h
    split at h
    · rename_i l ho
      simp only [ho]
      split at h
      · rename_i e
        refine ⟨beq_nat e, ?_⟩
        split at h
        · split at h
          · rename_i r' hc; cases h; exact cutF_ok hc hk
          · cases h
        · split at h
          · rename_i c hc; cases h; simp only [prims, hc]; exact hk
          · cases h
      · cases h
    · cases h
  · cases h
theorem xfrzs_ok : ∀ (l : List C) {σ : St} {fs : List F} {σ' : St} {K : List F → St → Prop}, xfrzs l σ = some (fs, σ') → K fs σ' → vfrzs prims l σ K
  | [], σ, fs, σ', K, h, hk => by simp only [xfrzs] at h; cases h; exact hk
  | .f x :: r, σ, fs, σ', K, h, hk => by
    simp only [xfrzs] at h
    split at h
    · rename_i l τ e; cases h; simp only [vfrzs]; exact xfrzs_ok r e hk
    · cases h
  | .rs o e n :: r, σ, fs, σ', K, h, hk => by
    simp only [xfrzs, nth_eq, put_eq] at h
    split at h
    · rename_i w e0 sz l ho
      split at h
      · rename_i he
        split at h
        · rename_i l' τ e'; cases h; simp only [vfrzs, ho]; exact ⟨beq_nat he, xfrzs_ok r e' hk⟩
        · cases h
      · cases h
    · cases h
  | .ptr o off :: r, σ, fs, σ', K, h, hk => by
    simp only [xfrzs, nth_eq, put_eq] at h
    split at h
    · split at h
      · rename_i cs ho
        split at h
        · rename_i fs' hf
          split at h
          · rename_i l' τ e'; cases h; simp only [vfrzs, ho, hf]; exact xfrzs_ok r e' hk
          · cases h
        · cases h
      · cases h
    · cases h
  | .pa .. :: r, σ, fs, σ', K, h, hk => by simp [xfrzs] at h
  | .ep .. :: r, σ, fs, σ', K, h, hk => by simp [xfrzs] at h
  | .mp .. :: r, σ, fs, σ', K, h, hk => by simp [xfrzs] at h
  | .clo .. :: r, σ, fs, σ', K, h, hk => by simp [xfrzs] at h
  | .un :: r, σ, fs, σ', K, h, hk => by simp [xfrzs] at h
theorem xstore_ok {x v : V} {n : Nat} {σ' : St} {K : St → Prop} (h : xstore x v n σ = some σ') (hk : K σ') : vstore prims x v n σ K := by
  unfold xstore at h
  unfold vstore
  split at h
  · rename_i r hr
    simp only [hr]
    split at h
    · rename_i hc
      simp only [Bool.and_eq_true] at hc
      rw [if_pos ⟨beq_nat hc.1, hc.2⟩]
      split at h
      · simp only [nth_eq, put_eq] at h
        split at h
        · rename_i l ho
          simp only [ho]
          split at h
          · rename_i l' hs; cases h; simp only [spliceC_ok hs]; exact hk
          · cases h
        · rename_i ho
          simp only [ho]
          split at h
          · split at h
            · rename_i hb; cases h; simp only [hb]; exact hk
            · cases h
          · cases h; exact hk
          · cases h
        · cases h
      · split at h
        · rename_i fs τ hf
          refine xfrzs_ok _ hf ?_
          simp only [nth_eq, put_eq] at h
          split at h
          · rename_i e0 sz l ho
            simp only [ho]
            split at h
            · rename_i hc2
              simp only [Bool.and_eq_true] at hc2
              cases h
              exact ⟨beq_nat hc2.1, ble_nat hc2.2, hk⟩
            · cases h
          · cases h
        · cases h
      · cases h
    · cases h
  · cases h
theorem vmore_add (off fo : Nat) : vmore prims off fo = off + fo := by
  cases fo <;> rfl
theorem xfield_ok {x r : V} {fo : Nat} (h : xfield x fo σ = some r) (hk : k r) : vfield prims x fo σ k := by
  unfold xfield at h
  unfold vfield
  split at h
  · cases h; exact hk
  · cases h; simp only [vmore_add]; exact hk
  · simp only [nth_eq] at h
    split at h
    · rename_i ho
      simp only [ho, vmore_add]
      split at h
      · rename_i e; cases h; exact ⟨beq_nat e, hk⟩
      · cases h
    · cases h
  · cases h
theorem xpart_ok {agg : Bool} {l : List C} {off n : Nat} {r : V} (h : xpart agg l off n = some r) (hk : k r) : vpart agg l off n k := by
  unfold xpart at h
  unfold vpart
  simp only [nth_eq] at h
  split at h
  · split at h
    · rename_i r' hc; cases h; simp only [cutC_ok hc]; exact hk
    · cases h
  · split at h
    · rename_i c hc; cases h; simp only [hc]; exact hk
    · cases h
theorem inB_ok {j : Int} {n : Nat} (h : inB j n = true) : 0 ≤ j ∧ j < n := by
  unfold inB at h
  split at h
  · have := blt_nat h
    exact ⟨by simp, by simpa using this⟩
  · cases h
theorem xixrow_ok {sz : Nat} {x i r : V} (h : xixrow sz x i σ = some r) (hk : k r) : ixrow prims sz x i σ k := by
  unfold xixrow at h
  unfold ixrow
  split at h
  · split at h
    · rename_i e; cases h; exact ⟨inB_ok e, hk⟩
    · cases h
  · simp only [nth_eq] at h
    split at h
    · rename_i ho
      simp only [ho]
      split at h
      · rename_i e; simp only [Bool.and_eq_true] at e; cases h; exact ⟨beq_nat e.1, inB_ok e.2, hk⟩
      · cases h
    · cases h
  · cases h
theorem xixarr_ok {n sz : Nat} {x i r : V} (h : xixarr n sz x i σ = some r) (hk : k r) : ixarr prims n sz x i σ k := by
  unfold xixarr at h
  unfold ixarr
  split at h
  · split at h
    · rename_i e; cases h; exact ⟨(inB_ok e).1, (inB_ok e).2, hk⟩
    · cases h
  · split at h
    · rename_i e; cases h; exact ⟨(inB_ok e).1, (inB_ok e).2, by show k (.c (.ep _ (vmore prims _ _))); rw [vmore_add]; exact hk⟩
    · cases h
  · simp only [nth_eq] at h
    split at h
    · rename_i ho
      simp only [ho]
      split at h
      · rename_i e; simp only [Bool.and_eq_true] at e; cases h; exact ⟨beq_nat e.1, (inB_ok e.2).1, (inB_ok e.2).2, by show k (.c (.pa _ _ (vmore prims _ _))); rw [vmore_add]; exact hk⟩
      · cases h
    · cases h
  · cases h
theorem xchr_ok {x i r : V} (h : xchr x i = some r) (hk : k r) : ixchr prims x i k := by
  unfold xchr at h
  unfold ixchr
  split at h
  · rename_i s _ j
    split at h
    · rename_i n
      simp only [nth_eq] at h
      split at h
      · rename_i b hb
        cases h
        have hlt := (List.getElem?_eq_some_iff.1 hb).1
        refine ⟨⟨by simp, by simpa [prims] using hlt⟩, ?_⟩
        have e : prims.sget s (Int.ofNat n) = (b.toNat : Int) := by
          show ((s.getD (Int.ofNat n).toNat 0).toNat : Int) = _
          simp [List.getD_eq_getElem?_getD, hb]
        rw [e]
        exact hk
      · cases h
    · cases h
  · cases h
theorem xlen_ok {d : TD} {x r : V} (h : xlen d x σ = some r) (hk : k r) : vlen prims d x σ k := by
  unfold xlen at h
  unfold vlen
  split at h
  · cases h; exact hk
  · cases h; exact hk
  · cases h; exact hk
  · simp only [nth_eq] at h
    split at h
    · rename_i ho
      simp only [ho]
      split at h
      · rename_i e; cases h; exact ⟨beq_nat e, hk⟩
      · cases h
    · cases h
  · cases h
theorem xsrc_ok {d : TD} {sz : Nat} {x : V} {m : Nat} {l : List F} {K : Nat → List F → Prop} (h : xsrc d sz x σ = some (m, l)) (hk : K m l) : vsrc prims d sz x σ K := by
  unfold xsrc at h
  unfold vsrc
  split at h
  · cases h; exact hk
  · split at h
    · rename_i e; cases h; exact ⟨beq_nat e, hk⟩
    · cases h
  · simp only [nth_eq] at h
    split at h
    · rename_i ho
      simp only [ho]
      split at h
      · rename_i e; simp only [Bool.and_eq_true] at e; cases h; exact ⟨beq_nat e.1, beq_nat e.2, hk⟩
      · cases h
    · cases h
  · split at h
    · rename_i e; cases h; exact ⟨beq_nat e, hk⟩
    · cases h
  · cases h
theorem xappend_ok {d : TD} {ty sz bytes : Nat} {x y : V} {r : V × St} (h : xappend d ty sz bytes x y σ = some r) (hk : kk r.1 r.2) : vappend prims d ty sz bytes x y σ kk := by
  unfold xappend at h
  unfold vappend
  split at h
  · cases h
  · rename_i m new hs
    refine xsrc_ok hs ?_
    split at h
    · split at h
      · cases h; exact hk
      · rename_i hno
        split at h
        · rename_i e
          simp only [Bool.and_eq_true] at e
          cases h
          have hh : prims.le (prims.atp (Int.ofNat m) bytes) 140737488355328 ∧ prims.le m 9223372036854775807 ∧ prims.le ty 4294967295 ∧ kk (.c (.rs σ.length ty m)) (σ ++ [.arr true ty sz new]) := ⟨ble_nat e.1.1, ble_nat e.1.2, ble_nat e.2, hk⟩
          revert hh hno
          cases m with
          | zero => exact fun hno _ => (hno rfl).elim
          | succ m => exact fun _ hh => hh
        · cases h
    · simp only [nth_eq, put_eq] at h
      split at h
      · rename_i ho
        simp only [ho]
        split at h
        · rename_i e; simp only [Bool.and_eq_true] at e; cases h; exact ⟨beq_nat e.1.1.1.1, beq_nat e.1.1.1.2, ble_nat e.1.1.2, ble_nat e.1.2, beq_nat e.2, hk⟩
        · cases h
      · cases h
    · cases h
theorem rngB_ok {a b : Int} {c : Nat} (h : rngB a b c = true) : 0 ≤ a ∧ a ≤ b ∧ b ≤ c := by
  unfold rngB at h
  split at h
  · simp only [Bool.and_eq_true] at h
    have h1 := ble_nat h.1
    have h2 := ble_nat h.2
    exact ⟨by simp, by simpa using h1, by simpa using h2⟩
  · cases h
theorem xslice_ok {d : TD} {sz : Nat} {x : V} {lo hi : Option V} {r : V × St} (h : xslice d sz x lo hi σ = some r) (hk : kk r.1 r.2) : sslice prims d sz x lo hi σ kk := by
  unfold xslice at h
  unfold sslice
  split at h
  · rename_i s
    split at h
    · cases h; exact hk
    · split at h
      · rename_i e
        have e' := rngB_ok e
        cases h
        refine ⟨⟨by omega, by omega, by show _ ≤ (s.length : Int); omega⟩, ?_⟩
        rename_i a _
        have : prims.ssub s a (prims.slen s) = s.drop a.toNat := by
          show (s.drop a.toNat).take ((s.length : Int).toNat - a.toNat) = _
          exact List.take_of_length_le (by simp)
        rw [this]; exact hk
      · cases h
    · split at h
      · rename_i e
        have e' := rngB_ok e
        cases h
        refine ⟨⟨by omega, by omega, by show _ ≤ (s.length : Int); omega⟩, ?_⟩
        rename_i b _
        have : prims.ssub s 0 b = s.take b.toNat := by
          show (s.drop (0 : Int).toNat).take (b.toNat - (0 : Int).toNat) = _
          simp
        rw [this]; exact hk
      · cases h
    · split at h
      · rename_i e
        have e' := rngB_ok e
        cases h
        exact ⟨⟨by omega, by omega, by show _ ≤ (s.length : Int); omega⟩, ⟨by omega, by omega, by omega⟩, hk⟩
      · cases h
    · cases h
  · split at h
    · split at h
      · rename_i e
        have e' := rngB_ok e
        cases h
        exact ⟨⟨by omega, by omega, by simpa using e'.2.2⟩, hk⟩
      · cases h
    · split at h
      · rename_i e
        have e' := rngB_ok e
        cases h
        exact ⟨⟨by omega, by omega, by simpa using e'.2.2⟩, hk⟩
      · cases h
    · split at h
      · rename_i e
        have e' := rngB_ok e
        cases h
        exact ⟨⟨by omega, by omega, by simpa using e'.2.2⟩, ⟨by omega, by omega, by omega⟩, hk⟩
      · cases h
    · cases h; exact hk
    · cases h
  · rename_i e0 n cs
    split at h
    · split at h
      · rename_i e
        have e' := rngB_ok e
        cases h
        rename_i a _
        refine ⟨⟨by omega, by omega, by simpa using e'.2.2⟩, ?_⟩
        exact hk
      · cases h
    · split at h
      · rename_i e
        have e' := rngB_ok e
        cases h
        refine ⟨⟨by omega, by omega, by simpa using e'.2.2⟩, ?_⟩
        exact hk
      · cases h
    · split at h
      · rename_i e
        have e' := rngB_ok e
        cases h
        rename_i a _ b _
        refine ⟨⟨by omega, by omega, by simpa using e'.2.2⟩, ⟨by omega, by omega, by omega⟩, ?_⟩
        exact hk
      · cases h
    · cases h; exact hk
    · cases h
  · simp only [nth_eq, put_eq] at h
    split at h
    · rename_i ho
      simp only [ho]
      split at h
      · rename_i e
        simp only [Bool.and_eq_true] at e
        have e' := rngB_ok e.2
        cases h
        refine ⟨beq_nat e.1, ⟨by omega, by omega, by simpa using e'.2.2⟩, ?_⟩
        exact hk
      · cases h
    · cases h
  · cases h
theorem xbytesL_ok : ∀ {l : List F} {s : List UInt8}, xbytesL l = some s → l = s.map fun b => F.int .u8 b.toNat
  | [], s, h => by simp only [xbytesL] at h; cases h; rfl
  | x :: r, s, h => by
    unfold xbytesL at h
    split at h
    · rename_i e; cases e
    · rename_i n r' e
      cases e
      split at h
      · rename_i l h1 h2
        cases h
        have := blt_nat h1
        simp only [List.map_cons, ← xbytesL_ok h2]
        congr 2
        simp
        omega
      · cases h
    · cases h
theorem xbytes_ok {x r : V} (h : xbytes x σ = some r) (hk : k r) : vbytes prims x σ k := by
  have key : ∀ {cs : List F} {n : Nat} {s : List UInt8}, cs.length = n → xbytesL cs = some s → k (.c (.f (.str s))) → prims.bytesK cs n fun s => k (.c (.f (.str s))) := by
    intro cs n s h1 h2 h3
    have e := xbytesL_ok h2
    exact ⟨s, e, by rw [e] at h1; simpa using h1, h3⟩
  unfold xbytes at h
  unfold vbytes
  split at h
  · cases h; exact hk
  · split at h
    · rename_i s h1 h2; cases h; exact key (beq_nat h1) h2 hk
    · cases h
  · simp only [nth_eq] at h
    split at h
    · rename_i ho
      simp only [ho]
      split at h
      · rename_i s h1 h2
        simp only [Bool.and_eq_true] at h1
        cases h
        exact ⟨beq_nat h1.1, key (beq_nat h1.2) h2 hk⟩
      · cases h
    · cases h
  · cases h
theorem xconv_ok {s d : TypeId} {x : V} {r : V × St} (h : xconv tb s d x σ = some r) (hk : kk r.1 r.2) : vconv prims tb s d x σ kk := by
  unfold xconv at h
  unfold vconv
  split at h
  · rename_i h1 h2; cases h; simp only [h1, h2]; exact hk
  · rename_i h1 h2; cases h; simp only [h1, h2]; exact hk
  · rename_i h1 h2
    simp only [h1, h2]
    split at h
    · rename_i n hn; cases h; simp only [hn]; exact hk
    · cases h
  · rename_i h1 h2; cases h; simp only [h1, h2]; exact hk
  · rename_i e h1 h2
    simp only [h1, h2]
    split at h
    · rename_i h3
      split at h
      · rename_i v hv; cases h; simp only [h3]; exact xbytes_ok hv hk
      · cases h
    · cases h
  · rename_i h1 h2
    simp only [h1, h2]
    split at h
    · rename_i h3
      split at h
      · rename_i e; simp only [Bool.and_eq_true] at e; cases h; simp only [h3]; exact ⟨ble_nat e.1, ble_nat e.2, hk⟩
      · cases h
    · cases h
  · cases h
theorem xbi_ok {b : Builtin} {ts : Array TypeId} {vals : List V} {r : V × St} (h : xbi b vals σ = some r) (hk : kk r.1 r.2) : vbi prims tb b ts vals σ kk := by
  unfold xbi at h
  unfold vbi
  split at h
  · split at h
    · rename_i l hl; cases h; simp only [hl]; exact hk
    · cases h
  · split at h
    · rename_i l hl; cases h; simp only [hl]; exact hk
    · cases h
  · cases h; exact hk
  · cases h; exact hk
  · cases h; exact hk
  · cases h
theorem xfill_ok {ρ : Operand → V} : ∀ (l : List (Nat × Nat × Operand)) {cs cs' : List C}, xfill ρ l cs = some cs' → sfill ρ l cs = some cs'
  | [], cs, cs', h => h
  | (off, n, x) :: r, cs, cs', h => by
    simp only [xfill] at h
    simp only [sfill]
    split at h
    · rename_i l hl
      simp only [hl]
      split at h
      · rename_i e
        rw [if_pos (beq_nat e)]
        split at h
        · rename_i c hc; simp only [spliceC_ok hc]; exact xfill_ok r h
        · cases h
      · cases h
    · cases h
theorem xfillRow_ok {sz : Nat} {ρ : Operand → V} : ∀ (l : List (Nat × Operand)) {cs cs' : List C}, xfillRow sz ρ l cs = some cs' → sfillRow sz ρ l cs = some cs'
  | [], cs, cs', h => h
  | (i, x) :: r, cs, cs', h => by
    simp only [xfillRow] at h
    simp only [sfillRow]
    split at h
    · rename_i l hl
      simp only [hl]
      split at h
      · rename_i e
        rw [if_pos (beq_nat e)]
        split at h
        · rename_i c hc; simp only [spliceC_ok hc]; exact xfillRow_ok r h
        · cases h
      · cases h
    · cases h
theorem xop_ok {call : Caller} (hcall : ∀ f l σ o, call f l σ = some o → CallAt P f l σ fun r σ' => (r, σ') ∈ o) {s : SOp} {A : AF} {m : Nat} (hA : inA m A) {ρ : Operand → V} (hρ : opA A = ρ) {σ : St} {o : List (V × St)} (h : xop call tb s ρ σ = some o) {kk : V → St → Prop} (hkk : ∀ p ∈ o, kk p.1 p.2) :
    vopA (mx P) (fun _ => false) tb m s A σ kk := by
  have st : ∀ {x : Option V} {τ : St}, still x τ = some o → ∃ v, x = some v ∧ kk v τ := fun {x τ} h => by
    unfold still at h
    split at h
    · cases h; exact ⟨_, rfl, hkk _ (List.mem_singleton.2 rfl)⟩
    · cases h
  have on : ∀ {x : Option (V × St)}, one x = some o → ∃ r, x = some r ∧ kk r.1 r.2 := fun {x} h => by
    unfold one at h
    split at h
    · cases h; exact ⟨_, rfl, hkk _ (List.mem_singleton.2 rfl)⟩
    · cases h
  subst hρ
  cases s with
  | mv x => cases h; exact hkk _ (List.mem_singleton.2 rfl)
  | pick c a b =>
    simp only [xop] at h
    simp only [vopA, vpick]
    split at h
    · rename_i t hc
      simp only [hc]
      split at h <;> (cases h; exact hkk _ (List.mem_singleton.2 rfl))
    · cases h
  | bin d op x y => obtain ⟨v, h1, h2⟩ := st h; exact xbin_ok (k := fun v => kk v σ) h1 h2
  | un op x => obtain ⟨v, h1, h2⟩ := st h; exact xun_ok (k := fun v => kk v σ) h1 h2
  | alloc z => cases h; exact hkk _ (List.mem_singleton.2 rfl)
  | box x =>
    simp only [xop] at h
    simp only [vopA]
    split at h
    · rename_i l hl; cases h; simp only [hl]; exact hkk _ (List.mem_singleton.2 rfl)
    · cases h
  | load agg n x => obtain ⟨v, h1, h2⟩ := st h; exact xload_ok (k := fun v => kk v σ) h1 h2
  | store n a x =>
    simp only [xop] at h
    simp only [vopA]
    split at h
    · rename_i σ' hs; cases h; exact xstore_ok hs (hkk _ (List.mem_singleton.2 rfl))
    · cases h
  | call x args =>
    simp only [xop] at h
    simp only [vopA]
    split at h
    · rename_i f l hc; simp only [hc]; exact (hcall _ _ _ _ h).mono fun r σ' hm => hkk _ hm
    · cases h
  | fa off x => obtain ⟨v, h1, h2⟩ := st h; exact xfield_ok (k := fun v => kk v σ) h1 h2
  | fld agg off n x =>
    simp only [xop] at h
    simp only [vopA]
    split at h
    · rename_i l hl
      obtain ⟨v, h1, h2⟩ := st h
      simp only [hl]
      exact xpart_ok (k := fun v => kk v σ) h1 h2
    · cases h
  | ixr sz x i => obtain ⟨v, h1, h2⟩ := st h; exact xixrow_ok (k := fun v => kk v σ) h1 h2
  | ixa n sz x i => obtain ⟨v, h1, h2⟩ := st h; exact xixarr_ok (k := fun v => kk v σ) h1 h2
  | chr x i => obtain ⟨v, h1, h2⟩ := st h; exact xchr_ok (k := fun v => kk v σ) h1 h2
  | len d x => obtain ⟨v, h1, h2⟩ := st h; exact xlen_ok (k := fun v => kk v σ) h1 h2
  | app d ty sz bytes x y => obtain ⟨r, h1, h2⟩ := on h; exact xappend_ok h1 h2
  | slc d sz x lo hi => obtain ⟨r, h1, h2⟩ := on h; exact xslice_ok h1 h2
  | ext x i =>
    simp only [xop, nth_eq] at h
    simp only [vopA]
    split at h
    · rename_i l hl
      obtain ⟨v, h1, h2⟩ := st h
      simp only [hl, h1]
      exact h2
    · cases h
  | nilc x =>
    obtain ⟨v, h1, h2⟩ := st h
    unfold xnil at h1
    simp only [vopA]
    split at h1
    · rename_i e; cases h1; simp only [e]; exact h2
    · rename_i e; cases h1; simp only [e]; exact h2
    · rename_i e; cases h1; simp only [e]; exact h2
    · rename_i e
      simp only [e]
      simp only [nth_eq] at h1
      split at h1
      · rename_i ho
        simp only [ho]
        split at h1
        · rename_i eb; cases h1; exact ⟨beq_nat eb, h2⟩
        · cases h1
      · cases h1
    · cases h1
  | bi b ts args => obtain ⟨r, h1, h2⟩ := on h; exact xbi_ok h1 h2
  | bld z parts =>
    simp only [xop] at h
    simp only [vopA]
    split at h
    · rename_i l hl; cases h; simp only [xfill_ok _ hl]; exact hkk _ (List.mem_singleton.2 rfl)
    · cases h
  | bsl n ty sz z parts =>
    simp only [xop] at h
    simp only [vopA]
    split at h
    · rename_i l hl
      simp only [xfillRow_ok _ hl]
      split at h
      · rename_i fs σ' hf; cases h; exact xfrzs_ok _ hf (hkk _ (List.mem_singleton.2 rfl))
      · cases h
    · cases h
  | raw op =>
    have e : opd (toFr m A) = opA A := funext (toFr_opd hA)
    simp only [xop] at h
    simp only [vopA]
    split at h
    · rename_i hx
      have hex : vextra tb op (toFr m A) σ kk := ⟨o, by rw [e]; exact h, hkk⟩
      cases op <;> first
        | (simp [extraB] at hx; done)
        | (simp only [vdo, vop2, hx]; exact hex)
        | skip
      rename_i c
      obtain ⟨cal, args, at'⟩ := c
      cases cal with
      | builtin b =>
        show vop2 prims tb _ _ σ kk
        unfold vop2
        rw [hx]
        exact hex
      | _ => simp [extraB] at hx
    rename_i hx
    split at h
    · obtain ⟨r, h1, h2⟩ := on h
      simp only [vdo, vop2, hx, vop, e]
      exact xconv_ok h1 h2
    · split at h
      · rename_i hf; cases h; simp only [vdo, vop2, extraB, vop, e, hf]; exact hkk _ (List.mem_singleton.2 rfl)
      · cases h
    · split at h
      · rename_i n ty l kd j hd hx hi
        split at h
        · rename_i h1 h2
          obtain ⟨v, h3, h4⟩ := st h
          simp only [vdo, vop2, extraB, vop, vindex, e, hd, hx, hi]
          refine not_isNo h1 ⟨(inB_ok h2).1, (inB_ok h2).2, ?_⟩
          exact xpart_ok (k := fun v => kk v σ) h3 h4
        · cases h
      · cases h
    · split at h
      · rename_i n ty hd
        split at h
        · rename_i l h1 h2
          cases h
          simp only [vdo, vop2, extraB, vop, e, hd, sfillRow_eq e, xfillRow_ok _ h2]
          exact not_isNo h1 (hkk _ (List.mem_singleton.2 rfl))
        · cases h
      · cases h
    · cases h
end
end Go.Dm
namespace Go.Dm
set_option linter.unusedVariables false
set_option linter.unusedSimpArgs false
theorem bindL_mem {α β : Type} {f : α → Rs β} : ∀ {l : List α} {o : List β}, bindL l f = some o → ∀ x ∈ l, ∃ lx, f x = some lx ∧ ∀ y ∈ lx, y ∈ o
  | [], o, h, x, hx => by simp at hx
  | [a], o, h, x, hx => by simp at hx; subst hx; exact ⟨o, h, fun y hy => hy⟩
  | a :: b :: r, o, h, x, hx => by
    simp only [bindL] at h
    split at h
    · cases h
    · rename_i l hl
      split at h
      · cases h
      · rename_i l' hl'
        cases h
        rcases List.mem_cons.1 hx with rfl | hx
        · exact ⟨l, hl, fun y hy => List.mem_append_left _ hy⟩
        · obtain ⟨lx, h1, h2⟩ := bindL_mem hl' x hx
          exact ⟨lx, h1, fun y hy => List.mem_append_right _ (h2 y hy)⟩
theorem bind_mem {α β : Type} {f : α → Rs β} {r : Rs α} {o : List β} (h : Rs.bind r f = some o) : ∃ l, r = some l ∧ ∀ x ∈ l, ∃ lx, f x = some lx ∧ ∀ y ∈ lx, y ∈ o := by
  unfold Rs.bind at h
  split at h
  · cases h
  · rename_i l; exact ⟨l, rfl, bindL_mem h⟩
theorem nub_mem {α : Type} {eq : α → α → Bool} (heq : ∀ a b, eq a b = true → a = b) : ∀ {l : List α} {x : α}, x ∈ l → x ∈ nub eq l
  | [], x, h => by simp at h
  | [a], x, h => h
  | a :: b :: r, x, h => by
    simp only [nub]
    split
    · rename_i e
      rcases List.mem_cons.1 h with rfl | h
      · obtain ⟨y, hy, e'⟩ := List.any_eq_true.1 e
        rw [heq _ _ e']; exact hy
      · exact nub_mem heq h
    · rcases List.mem_cons.1 h with rfl | h
      · simp
      · exact List.mem_cons_of_mem _ (nub_mem heq h)
mutual
theorem C.eqb_ok : ∀ {a b : C}, C.eqb a b = true → a = b
  | .f x, b, h => by cases b <;> simp only [C.eqb, Bool.false_eq_true] at h; rw [F.eqb_ok h]
  | .ptr x y, b, h => by cases b <;> simp only [C.eqb, Bool.false_eq_true, Bool.and_eq_true] at h; rw [beq_nat h.1, beq_nat h.2]
  | .pa x y z, b, h => by cases b <;> simp only [C.eqb, Bool.false_eq_true, Bool.and_eq_true] at h; rw [beq_nat h.1.1, beq_nat h.1.2, beq_nat h.2]
  | .ep l n, b, h => by cases b <;> simp only [C.eqb, Bool.false_eq_true, Bool.and_eq_true] at h; rw [beq_nat h.1, F.eqbs_ok h.2]
  | .rs x y z, b, h => by cases b <;> simp only [C.eqb, Bool.false_eq_true, Bool.and_eq_true] at h; rw [beq_nat h.1.1, beq_nat h.1.2, beq_nat h.2]
  | .mp x, b, h => by cases b <;> simp only [C.eqb, Bool.false_eq_true] at h; rw [beq_nat h]
  | .clo x l, b, h => by cases b <;> simp only [C.eqb, Bool.false_eq_true, Bool.and_eq_true] at h; rw [beq_nat h.1, C.eqbs_ok h.2]
  | .un, b, h => by cases b <;> first | rfl | (simp only [C.eqb, Bool.false_eq_true] at h)
theorem C.eqbs_ok : ∀ {a b : List C}, C.eqbs a b = true → a = b
  | [], b, h => by cases b <;> first | rfl | (simp only [C.eqbs, Bool.false_eq_true] at h)
  | x :: r, b, h => by cases b <;> simp only [C.eqbs, Bool.false_eq_true, Bool.and_eq_true] at h; rw [C.eqb_ok h.1, C.eqbs_ok h.2]
end
mutual
theorem V.eqb_ok : ∀ {a b : V}, V.eqb a b = true → a = b
  | .c x, b, h => by cases b <;> simp only [V.eqb, Bool.false_eq_true] at h; rw [C.eqb_ok h]
  | .a x, b, h => by cases b <;> simp only [V.eqb, Bool.false_eq_true] at h; rw [C.eqbs_ok h]
  | .t x, b, h => by cases b <;> simp only [V.eqb, Bool.false_eq_true] at h; rw [V.eqbs_ok h]
theorem V.eqbs_ok : ∀ {a b : List V}, V.eqbs a b = true → a = b
  | [], b, h => by cases b <;> first | rfl | (simp only [V.eqbs, Bool.false_eq_true] at h)
  | x :: r, b, h => by cases b <;> simp only [V.eqbs, Bool.false_eq_true, Bool.and_eq_true] at h; rw [V.eqb_ok h.1, V.eqbs_ok h.2]
end
theorem kvEqb_ok : ∀ {a b : List (List F × List F)}, kvEqb a b = true → a = b
  | [], b, h => by cases b <;> first | rfl | (simp only [kvEqb, Bool.false_eq_true] at h)
  | (x, y) :: r, b, h => by
    cases b with
    | nil => simp only [kvEqb, Bool.false_eq_true] at h
    | cons p s =>
      obtain ⟨c, d⟩ := p
      simp only [kvEqb, Bool.and_eq_true] at h
      rw [F.eqbs_ok h.1.1, F.eqbs_ok h.1.2, kvEqb_ok h.2]
theorem Ob.eqb_ok : ∀ {a b : Ob}, Ob.eqb a b = true → a = b
  | .cells l, b, h => by cases b <;> simp only [Ob.eqb, Bool.false_eq_true] at h; rw [C.eqbs_ok h]
  | .arr w e sz l, b, h => by
    cases b <;> simp only [Ob.eqb, Bool.false_eq_true, Bool.and_eq_true] at h
    rw [eq_of_beq h.1.1.1, beq_nat h.1.1.2, beq_nat h.1.2, F.eqbs_ok h.2]
  | .map kv, b, h => by cases b <;> simp only [Ob.eqb, Bool.false_eq_true] at h; rw [kvEqb_ok h]
  | .bld T u x, b, h => by
    cases b <;> simp only [Ob.eqb, Bool.false_eq_true, Bool.and_eq_true] at h
    rw [beq_nat h.1.1, eq_of_beq h.1.2, C.eqb_ok h.2]
  | .gone, b, h => by cases b <;> first | rfl | (simp only [Ob.eqb, Bool.false_eq_true] at h)
theorem stEqb_ok : ∀ {a b : St}, stEqb a b = true → a = b
  | [], b, h => by cases b <;> first | rfl | (simp only [stEqb, Bool.false_eq_true] at h)
  | x :: r, b, h => by cases b <;> simp only [stEqb, Bool.false_eq_true, Bool.and_eq_true] at h; rw [Ob.eqb_ok h.1, stEqb_ok h.2]
theorem ftEqb_ok : ∀ {a b : FT}, ftEqb a b = true → a = b
  | [], b, h => by cases b <;> first | rfl | (simp only [ftEqb, Bool.false_eq_true] at h)
  | x :: r, b, h => by cases b <;> simp only [ftEqb, Bool.false_eq_true, Bool.and_eq_true] at h; rw [V.eqbs_ok h.1, ftEqb_ok h.2]
theorem vsEqb_ok (a b : V × St) (h : vsEqb a b = true) : a = b := by
  obtain ⟨a1, a2⟩ := a
  obtain ⟨b1, b2⟩ := b
  simp only [vsEqb, Bool.and_eq_true] at h
  rw [V.eqb_ok h.1, stEqb_ok h.2]
theorem fsEqb_ok (a b : FT × St) (h : fsEqb a b = true) : a = b := by
  obtain ⟨a1, a2⟩ := a
  obtain ⟨b1, b2⟩ := b
  simp only [fsEqb, Bool.and_eq_true] at h
  rw [ftEqb_ok h.1, stEqb_ok h.2]
theorem upd_get {α : Type} (f : α → α) : ∀ (l : List α) (i j : Nat), (upd l i f)[j]? = if i = j then (l[j]?).map f else l[j]?
  | [], i, j => by simp [upd]
  | x :: r, 0, 0 => by simp [upd]
  | x :: r, 0, j + 1 => by simp [upd]
  | x :: r, i + 1, 0 => by simp [upd]
  | x :: r, i + 1, j + 1 => by simp [upd, upd_get f r i j]
theorem upd_len {α : Type} (f : α → α) : ∀ (l : List α) (i : Nat), (upd l i f).length = l.length
  | [], i => rfl
  | x :: r, 0 => rfl
  | x :: r, i + 1 => by simp [upd, upd_len f r i]
theorem upd_mem {α : Type} {f : α → α} {y : α} : ∀ {l : List α} {i : Nat}, y ∈ upd l i f → y ∈ l ∨ ∃ x ∈ l, y = f x
  | [], i, h => by simp [upd] at h
  | x :: r, 0, h => by
    simp only [upd, List.mem_cons] at h
    rcases h with rfl | h
    · exact .inr ⟨x, by simp, rfl⟩
    · exact .inl (List.mem_cons_of_mem _ h)
  | x :: r, i + 1, h => by
    simp only [upd, List.mem_cons] at h
    rcases h with rfl | h
    · exact .inl (by simp)
    · rcases upd_mem h with h | ⟨z, h1, h2⟩
      · exact .inl (List.mem_cons_of_mem _ h)
      · exact .inr ⟨z, List.mem_cons_of_mem _ h1, h2⟩
structure OkT (m : Nat) (t : FT) : Prop where
  wide : m ≤ 8 * t.length
  rows : ∀ l ∈ t, l.length = 8
  out : ∀ i, m ≤ i → t.get i = .c .un
theorem get_eq (t : FT) (i : Nat) : t.get i = ((t[i / 8]?).bind fun l => l[i % 8]?).getD (.c .un) := by
  unfold FT.get
  rw [nth_eq]
  cases t[i / 8]? with
  | none => rfl
  | some l =>
    simp only [nth_eq, Option.bind_some]
    cases l[i % 8]? <;> rfl
theorem get_upd {m : Nat} {t : FT} (ht : OkT m t) {d : Nat} (hd : d < m) (v : V) (i : Nat) : FT.get (upd t (d / 8) fun l => put l (d % 8) v) i = if d = i then v else t.get i := by
  rw [get_eq, get_eq, upd_get]
  by_cases h8 : d / 8 = i / 8
  · rw [if_pos h8]
    have hlt : i / 8 < t.length := by have := ht.wide; omega
    rw [List.getElem?_eq_getElem hlt]
    simp only [Option.map_some, Option.bind_some, put_eq, List.getElem?_set]
    have hl : t[i / 8].length = 8 := ht.rows _ (List.getElem_mem hlt)
    by_cases hm : d % 8 = i % 8
    · have : d = i := by omega
      rw [if_pos hm, if_pos this, hl, if_pos (by omega)]
      rfl
    · have : d ≠ i := fun e => hm (by rw [e])
      rw [if_neg hm, if_neg this]
  · rw [if_neg h8, if_neg (fun e => h8 (by rw [e]))]
theorem set_get {m : Nat} {t : FT} (ht : OkT m t) (dst : Option Tmp) (v : V) (i : Nat) : (t.set m dst v).get i = match dst with | none => t.get i | some d => if Nat.blt d m = true ∧ d = i then v else t.get i := by
  cases dst with
  | none => rfl
  | some d =>
    unfold FT.set
    simp only
    cases hb : Nat.blt d m with
    | false => simp
    | true =>
      simp only [true_and]
      exact get_upd ht (blt_nat hb) v i
theorem OkT.set {m : Nat} {t : FT} (ht : OkT m t) (dst : Option Tmp) (v : V) : OkT m (t.set m dst v) := by
  have hout : ∀ i, m ≤ i → (t.set m dst v).get i = .c .un := fun i hi => by
    rw [set_get ht]
    cases dst with
    | none => exact ht.out i hi
    | some d =>
      simp only
      rw [if_neg]
      · exact ht.out i hi
      · rintro ⟨h1, h2⟩
        have h3 := blt_nat h1
        have h4 : (show Nat from d) = i := h2
        have h5 : (show Nat from d) < m := h3
        omega
  cases dst with
  | none => exact ht
  | some d =>
    unfold FT.set at hout ⊢
    simp only at hout ⊢
    cases hb : Nat.blt d m with
    | false => exact ht
    | true =>
      rw [hb] at hout
      refine ⟨by rw [upd_len]; exact ht.wide, fun l hl => ?_, hout⟩
      rcases upd_mem hl with hl | ⟨x, hx, rfl⟩
      · exact ht.rows l hl
      · rw [put_eq, List.length_set]; exact ht.rows x hx
def tA (t : FT) : Nat → AF
  | 0 => []
  | n + 1 => (n, t.get n) :: tA t n
theorem tA_lk (t : FT) (i : Nat) : ∀ (m : Nat), lk (tA t m) i = if i < m then t.get i else .c .un
  | 0 => rfl
  | n + 1 => by
    rw [tA, lk_cons, tA_lk t i n]
    by_cases h : n = i
    · subst h; simp
    · rw [if_neg h]
      by_cases h2 : i < n
      · rw [if_pos h2, if_pos (by omega)]
      · rw [if_neg h2, if_neg (by omega)]
def frT (m : Nat) (t : FT) : Fr := toFr m (tA t m)
theorem tA_in {m : Nat} (t : FT) : inA m (tA t m) := fun i hi => by rw [tA_lk, if_neg (by omega)]
theorem tA_at {m : Nat} {t : FT} (ht : OkT m t) : opA (tA t m) = t.at := by
  funext x
  cases x with
  | tmp i =>
    show lk (tA t m) i = t.get i
    rw [tA_lk]
    split
    · rfl
    · rename_i h; exact (ht.out i (Nat.le_of_not_lt h)).symm
  | _ => rfl
theorem toFr_congr {m : Nat} {A B : AF} (h : ∀ i, i < m → lk A i = lk B i) : toFr m A = toFr m B := by
  unfold toFr
  exact List.map_congr_left fun i hi => h i (List.mem_range.1 hi)
theorem frT_set {m : Nat} {t : FT} (ht : OkT m t) (dst : Option Tmp) (v : V) : frT m (t.set m dst v) = (frT m t).put dst v := by
  unfold frT
  rw [← toFr_put]
  refine toFr_congr fun i hi => ?_
  rw [tA_lk, if_pos hi, set_get ht]
  cases dst with
  | none => simp only [putA]; rw [tA_lk, if_pos hi]
  | some d =>
    simp only [putA]
    cases hb : Nat.blt d m with
    | false => simp only [Bool.false_eq_true, false_and, if_false]; rw [tA_lk, if_pos hi]
    | true =>
      simp only [true_and]
      rw [lk_cons, tA_lk, if_pos hi]
theorem frT_at {m : Nat} {t : FT} {i : Nat} (h : i < m) : (frT m t)[i]? = some (t.get i) := by
  unfold frT
  rw [toFr_at h, tA_lk, if_pos h]
theorem blank_len : ∀ (n : Nat), (blank n).length = n + 1
  | 0 => rfl
  | n + 1 => by simp [blank, blank_len n]
theorem blank_mem : ∀ (n : Nat) (l : List V), l ∈ blank n → l = unrow
  | 0, l, h => by simpa [blank] using h
  | n + 1, l, h => by
    simp only [blank, List.mem_cons] at h
    rcases h with h | h
    · exact h
    · exact blank_mem n l h
theorem unrow_get (i : Nat) : (unrow[i]?).getD (.c .un) = .c .un := by
  match i with
  | 0 | 1 | 2 | 3 | 4 | 5 | 6 | 7 => rfl
  | i + 8 => rfl
theorem blank_get (n i : Nat) : (blank n).get i = .c .un := by
  rw [get_eq]
  cases h : (blank n)[i / 8]? with
  | none => rfl
  | some l =>
    obtain ⟨h1, h2⟩ := List.getElem?_eq_some_iff.1 h
    have := blank_mem n l (h2 ▸ List.getElem_mem h1)
    subst this
    exact unrow_get _
theorem blank_ok (m : Nat) : OkT m (blank (m / 8)) :=
  ⟨by rw [blank_len]; omega, fun l hl => by rw [blank_mem _ l hl]; rfl, fun i _ => blank_get _ _⟩
theorem start_ok {m : Nat} : ∀ (l : List V) (s : Nat) {t : FT}, OkT m t → OkT m (start m s l t)
  | [], s, t, h => h
  | x :: r, s, t, h => start_ok r (s + 1) (h.set (some s) x)
theorem start_get {m : Nat} (i : Nat) : ∀ (l : List V) (s : Nat) {t : FT}, OkT m t → s + l.length ≤ m → (start m s l t).get i = if s ≤ i ∧ i < s + l.length then (l[i - s]?).getD (.c .un) else t.get i
  | [], s, t, h, hl => by
    rw [if_neg]
    · rfl
    · simp only [List.length_nil]; omega
  | x :: r, s, t, h, hl => by
    simp only [List.length_cons] at hl
    have hlt : Nat.blt s m = true := by unfold Nat.blt; rw [Nat.ble_eq]; omega
    have e2 : (t.set m (some s) x).get i = if s = i then x else t.get i := by
      rw [set_get h]
      simp [hlt]
    have e1 := start_get i r (s + 1) (h.set (some s) x) (by omega)
    rw [e2] at e1
    show (start m (s + 1) r (t.set m (some s) x)).get i = _
    rw [e1]
    simp only [List.length_cons]
    by_cases hs : s = i
    · subst hs
      have n1 : ¬ (s + 1 ≤ s ∧ s < s + 1 + r.length) := by omega
      have n2 : s ≤ s ∧ s < s + (r.length + 1) := by omega
      rw [if_neg n1, if_pos n2, if_pos rfl]
      simp
    · rw [if_neg hs]
      by_cases hin : s + 1 ≤ i ∧ i < s + 1 + r.length
      · have n2 : s ≤ i ∧ i < s + (r.length + 1) := by omega
        rw [if_pos hin, if_pos n2, show i - s = (i - (s + 1)) + 1 from by omega]
        rfl
      · have n2 : ¬ (s ≤ i ∧ i < s + (r.length + 1)) := by omega
        rw [if_neg hin, if_neg n2]
theorem frT_start {m : Nat} {l : List V} (h : l.length ≤ m) : frT m (start m 0 l (blank (m / 8))) = frame0 m l := by
  rw [← toFr_args0 h]
  unfold frT
  refine toFr_congr fun i hi => ?_
  rw [tA_lk, if_pos hi, start_get i l 0 (blank_ok m) (by omega), args0_lk]
  simp only [Nat.zero_le, true_and, Nat.zero_add, if_true, Nat.sub_zero, blank_get]
  split
  · rfl
  · rename_i hh
    rw [List.getElem?_eq_none (by omega)]
    rfl
end Go.Dm
namespace Go.Dm
set_option linter.unusedVariables false
mutual
def C.free : C → Bool
  | .f _ => true
  | .ep _ _ => true
  | .clo _ caps => C.frees caps
  | .un => true
  | .ptr _ _ => false
  | .pa _ _ _ => false
  | .rs _ _ _ => false
  | .mp _ => false
def C.frees : List C → Bool
  | [] => true
  | x :: r => (match C.free x with | true => C.frees r | false => false)
end
mutual
def V.free : V → Bool
  | .c x => x.free
  | .a l => C.frees l
  | .t l => V.frees l
def V.frees : List V → Bool
  | [] => true
  | x :: r => (match V.free x with | true => V.frees r | false => false)
end
def F.bare : F → Bool
  | .bool _ | .int _ _ | .flo _ | .cpl _ _ | .str _ | .nils | .nilp | .nilm | .nilf | .fn _ => true
  | .sl _ _ | .obj _ => false
def C.bare : C → Bool
  | .f x => x.bare
  | _ => false
mutual
def V.bare : V → Bool
  | .c x => x.bare
  | .a l => l.all C.bare
  | .t l => V.bares l
def V.bares : List V → Bool
  | [] => true
  | x :: r => (match V.bare x with | true => V.bares r | false => false)
end
mutual
def snapC : Nat → St → C → Option C
  | _, _, .f x => some (.f x)
  | _, _, .ep l n => some (.ep l n)
  | _, _, .un => some .un
  | _, σ, .rs o e n =>
    (match nth σ o with
    | some (.arr _ e0 sz l) => (match Nat.beq e e0 with | true => some (.f (.sl n l)) | false => none)
    | _ => none)
  | n + 1, σ, .ptr o off =>
    (match nth σ o with
    | some (.cells cs) =>
      (match snapCs n σ cs with
      | some l => (match frz l with | some fs => (match off with | 0 => some (.f (.obj fs)) | off => some (.ep fs off)) | none => none)
      | none => none)
    | _ => none)
  | n + 1, σ, .clo f caps => (match snapCs n σ caps with | some l => some (.clo f l) | none => none)
  | _, _, _ => none
def snapCs : Nat → St → List C → Option (List C)
  | _, _, [] => some []
  | 0, _, _ => none
  | n + 1, σ, x :: r =>
    match snapC n σ x with
    | none => none
    | some y => (match snapCs n σ r with | some l => some (y :: l) | none => none)
end
def snapV (σ : St) : V → Option V
  | .c x => (match snapC 1000 σ x with | some y => some (.c y) | none => none)
  | .a l => (match snapCs 1000 σ l with | some l' => some (.a l') | none => none)
  | .t _ => none
def snapVs (σ : St) : List V → Option (List V)
  | [] => some []
  | x :: r =>
    match snapV σ x with
    | none => none
    | some y => (match snapVs σ r with | some l => some (y :: l) | none => none)
mutual
def hardC : Nat → C → St → Option (C × St)
  | _, .f x, σ => some (.f x, σ)
  | _, .ep l n, σ => some (.ep l n, σ)
  | _, .un, σ => some (.un, σ)
  | _, .rs o e n, σ =>
    (match nth σ o with
    | some (.arr _ e0 sz l) => (match Nat.beq e e0 with | true => some (.f (.sl n l), put σ o (.arr false e0 sz l)) | false => none)
    | _ => none)
  | n + 1, .ptr o off, σ =>
    (match off with
    | 0 =>
      (match nth σ o with
      | some (.cells cs) =>
        (match hardCs n cs σ with
        | some (l, σ') =>
          (match frz l, nth σ' o with
          | some fs, some (.cells _) => some (.f (.obj fs), put σ' o .gone)
          | _, _ => none)
        | none => none)
      | _ => none)
    | _ => none)
  | n + 1, .clo f caps, σ => (match hardCs n caps σ with | some (l, σ') => some (.clo f l, σ') | none => none)
  | _, _, _ => none
def hardCs : Nat → List C → St → Option (List C × St)
  | _, [], σ => some ([], σ)
  | 0, _, _ => none
  | n + 1, x :: r, σ =>
    match hardC n x σ with
    | none => none
    | some (y, σ') => (match hardCs n r σ' with | some (l, σ'') => some (y :: l, σ'') | none => none)
end
mutual
def hardV : V → St → Option (V × St)
  | .c x, σ => (match hardC 1000 x σ with | some (y, σ') => some (.c y, σ') | none => none)
  | .a l, σ => (match hardCs 1000 l σ with | some (l', σ') => some (.a l', σ') | none => none)
  | .t l, σ => (match hardVs l σ with | some (l', σ') => some (.t l', σ') | none => none)
def hardVs : List V → St → Option (List V × St)
  | [], σ => some ([], σ)
  | x :: r, σ =>
    match hardV x σ with
    | none => none
    | some (y, σ') => (match hardVs r σ' with | some (l, σ'') => some (y :: l, σ'') | none => none)
end
mutual
def C.under (n : Nat) : C → Bool
  | .f _ => true
  | .ep _ _ => true
  | .clo _ caps => C.unders n caps
  | .un => true
  | .ptr o _ => Nat.blt o n
  | .pa o _ _ => Nat.blt o n
  | .rs o _ _ => Nat.blt o n
  | .mp o => Nat.blt o n
def C.unders (n : Nat) : List C → Bool
  | [] => true
  | x :: r => (match C.under n x with | true => C.unders n r | false => false)
end
mutual
def V.under (n : Nat) : V → Bool
  | .c x => x.under n
  | .a l => C.unders n l
  | .t l => V.unders n l
def V.unders (n : Nat) : List V → Bool
  | [] => true
  | x :: r => (match V.under n x with | true => V.unders n r | false => false)
end
def Ob.under (n : Nat) : Ob → Bool
  | .cells l => C.unders n l
  | .bld _ _ x => C.under n x
  | _ => true
def trim (n : Nat) (p : V × St) : V × St :=
  match p.1.under n && (p.2.take n).all (Ob.under n) with
  | true => (p.1, p.2.take n)
  | false => p
inductive Mode where
  | im
  | ps
  | pf
  | pg
  deriving Inhabited
structure Env where
  mode : FuncId → Mode
  stl : Op → Bool
  it : Nat
  spec : FuncId → Option (List V → St → Rs (V × St))
  memo : List (Nat × List V × St × List (V × St)) := []
def memoAt (f : FuncId) (args : List V) (σ : St) : List (Nat × List V × St × List (V × St)) → Option (List (V × St))
  | [] => none
  | (f', args', σ', o) :: r =>
    match Nat.beq f' f with
    | false => memoAt f args σ r
    | true =>
      match V.eqbs args' args with
      | false => memoAt f args σ r
      | true => (match stEqb σ' σ with | true => some o | false => memoAt f args σ r)
def barely (σ : St) : List (V × St) → Rs (V × St)
  | [] => some []
  | (v, _) :: r => (match v.bare, barely σ r with | true, some l => some ((v, σ) :: l) | _, _ => none)
def hardly (σ : St) : List (V × St) → Rs (V × St)
  | [] => some []
  | (v, τ) :: r =>
    match hardV v τ with
    | none => none
    | some (u, _) => (match u.free, hardly σ r with | true, some l => some ((u, σ) :: l) | _, _ => none)
def xcall (P : Program) (tb : Tab) (E : Env) : Nat → Caller
  | 0 => fun _ _ _ => none
  | n + 1 => fun f args σ =>
    match memoAt f args σ E.memo with
    | some o => some o
    | none =>
    match E.spec f with
    | some s => s args σ
    | none =>
      match funOf P tb f with
      | none => none
      | some F =>
        match E.mode f with
        | .im => (match xbody (xcall P tb E n) tb E.stl E.it F args σ with | none => none | some o => some (nub vsEqb (o.map (trim σ.length))))
        | .ps =>
          (match snapVs σ args with
          | none => none
          | some l =>
            match V.frees l, xbody (xcall P tb E n) tb E.stl E.it F l [] with
            | true, some o => (match barely σ o with | none => none | some o => some (nub vsEqb o))
            | _, _ => none)
        | .pf =>
          (match hardVs args σ with
          | none => none
          | some (l, σ') =>
            match V.frees l, xbody (xcall P tb E n) tb E.stl E.it F l [] with
            | true, some o => (match hardly σ' o with | none => none | some o => some (nub vsEqb o))
            | _, _ => none)
        | .pg =>
          (match V.frees args with
          | false => none
          | true =>
            match xbody (xcall P tb E n) tb E.stl E.it F args [] with
            | some o => (match hardly σ o with | none => none | some o => some (nub vsEqb o))
            | none => none)
end Go.Dm
namespace Go.Dm
set_option linter.unusedVariables false
set_option linter.unusedSimpArgs false
section
variable {P : Program} {tb : Tab}
abbrev noF : FuncId → Bool := fun _ => false
def CallOk (P : Program) (call : Caller) : Prop := ∀ f l σ o, call f l σ = some o → CallAt P f l σ fun r σ' => (r, σ') ∈ o
def InO (m : Nat) (o : List (FT × St)) : Fr → St → Prop := fun fr σ => ∃ t, OkT m t ∧ fr = frT m t ∧ (t, σ) ∈ o
theorem InO.mono {m : Nat} {o o' : List (FT × St)} (h : ∀ x ∈ o, x ∈ o') {fr : Fr} {σ : St} (k : InO m o fr σ) : InO m o' fr σ :=
  let ⟨t, a, b, c⟩ := k; ⟨t, a, b, h _ c⟩
theorem xguard_ok {t : FT} {A : AF} (hlk : ∀ i, lk A i = t.get i) {g : Option (Option Tmp × Bool)} {b : Bool} (h : xguard t g = some b) {x y : Prop} (hx : b = true → x) (hy : b = false → y) : sguard A g x y := by
  cases g with
  | none => simp only [xguard, Option.some.injEq] at h; exact hx h.symm
  | some gw =>
    obtain ⟨d, want⟩ := gw
    cases d with
    | none => simp only [xguard, Option.some.injEq] at h; exact hy h.symm
    | some d =>
      simp only [xguard] at h
      simp only [sguard, hlk]
      split at h
      · rename_i c hc
        rw [hc]
        cases h
        cases want <;> cases c <;> first | exact hx rfl | exact hy rfl
      · rename_i l hc
        rw [hc]
        cases h
        exact hy rfl
      · cases h
theorem xitem_ok {call : Caller} (hc : CallOk P call) {ops : Array Oper} {o : Oper} {m : Nat} {t : FT} (ht : OkT m t) {σ : St} {out : List (V × St)} (h : xitem call tb (sitem tb ops o) t σ = some out) :
    pOne P noF tb ops o (fun fr σ' => ∃ v, fr = frT m (t.set m o.dst v) ∧ (v, σ') ∈ out) (frT m t) σ := by
  have hA := tA_in (m := m) t
  have hlk : ∀ i, lk (tA t m) i = t.get i := fun i => congrFun (tA_at ht) (.tmp i)
  unfold xitem at h
  split at h
  · cases h
  · rename_i hg
    refine sg hA (xguard_ok hlk hg (fun _ => ?_) (fun e => by cases e))
    have h1 := comp_ok hA (xop_ok (P := P) hc hA (tA_at ht) h (kk := fun v σ' => (v, σ') ∈ out) fun p hp => hp)
    exact ⟨_, h1, fun v σ' hv => ⟨v, (frT_set ht o.dst v).symm, hv⟩⟩
  · rename_i hg
    cases h
    refine sg hA (xguard_ok hlk hg (fun e => by cases e) (fun _ => ?_))
    exact ⟨_, (frT_set ht o.dst _).symm, List.mem_singleton.2 rfl⟩
def pSeq (P : Program) (tb : Tab) (ops : Array Oper) (K : Fr → St → Prop) : List Oper → Fr → St → Prop
  | [], fr, σ => K fr σ
  | o :: r, fr, σ => pOne P noF tb ops o (pSeq P tb ops K r) fr σ
theorem pSeq_sound (tok : TabOk P tb) {ops : Array Oper} {K : Fr → St → Prop} {Q : Exit → Act → World → Prop} : ∀ (n i : Nat) (hn : i + n = ops.size) {g : G} {w : World} {σ : St} (hr : Rep g w σ) {a : Act} {fr : Fr} (hf : FrRep g w σ fr a.tmps) (hd : a.defers = [])
    (h : pSeq P tb ops K (ops.toList.drop i) fr σ) (hQ : ∀ a' w', Lifts g w σ K a' w' → Q .normal a' w'), wpOps P ops Q (List.range' i n) a w
  | 0, i, hn, g, w, σ, hr, a, fr, hf, hd, h, hQ => by
    rw [List.drop_of_length_le (by simp; omega)] at h
    exact hQ _ _ ⟨fr, σ, g, h, hr, Turn.refl _ _ _, hf, hd⟩
  | n + 1, i, hn, g, w, σ, hr, a, fr, hf, hd, h, hQ => by
    have hi : i < ops.size := by omega
    rw [List.drop_eq_getElem_cons (by simpa using hi)] at h
    simp only [List.range'_succ, wpOps, Array.getElem?_eq_getElem hi]
    exact one_ok' tok hr hf hd h fun a' w' ⟨fr', σ', g', h1, h2, h3, h4, h5⟩ =>
      pSeq_sound tok n (i + 1) (by omega) h2 h4 h5 h1 fun a'' w'' h6 => hQ _ _ (h6.trans h3)
theorem pSeq_mono {ops : Array Oper} {K K' : Fr → St → Prop} (hk : ∀ fr σ, K fr σ → K' fr σ) : ∀ (l : List Oper) {fr : Fr} {σ : St}, pSeq P tb ops K l fr σ → pSeq P tb ops K' l fr σ
  | [], fr, σ, h => hk _ _ h
  | o :: r, fr, σ, h => pOne_mono h fun fr' σ' h' => pSeq_mono hk r h'
theorem xseq_ok {call : Caller} (hc : CallOk P call) {ops : Array Oper} {m : Nat} : ∀ (l : List Oper) {t : FT} {σ : St} {out : List (FT × St)}, OkT m t → xseq call tb m (l.map (sitem tb ops)) t σ = some out → pSeq P tb ops (InO m out) l (frT m t) σ
  | [], t, σ, out, ht, h => by
    simp only [List.map_nil, xseq, Option.some.injEq] at h
    subst h
    exact ⟨t, ht, rfl, List.mem_singleton.2 rfl⟩
  | o :: r, t, σ, out, ht, h => by
    simp only [List.map_cons, xseq] at h
    have key : ∃ o1, xitem call tb (sitem tb ops o) t σ = some o1 ∧ ∀ p ∈ o1, ∃ lx, xseq call tb m (r.map (sitem tb ops)) (t.set m o.dst p.1) p.2 = some lx ∧ ∀ y ∈ lx, y ∈ out := by
      split at h
      · cases h
      · rename_i v σ' hi
        exact ⟨_, hi, fun p hp => by rw [List.mem_singleton.1 hp]; exact ⟨out, h, fun y hy => hy⟩⟩
      · rename_i l hno hi
        exact ⟨l, hi, bindL_mem h⟩
    obtain ⟨o1, h1, h2⟩ := key
    refine pOne_mono (xitem_ok hc ht h1) fun fr' σ' ⟨v, e, hv⟩ => ?_
    subst e
    obtain ⟨lx, h3, h4⟩ := h2 _ hv
    exact pSeq_mono (fun _ _ hh => hh.mono h4) r (xseq_ok hc r (ht.set _ _) h3)
end
end Go.Dm
namespace Go.Dm
set_option linter.unusedVariables false
set_option linter.unusedSimpArgs false
section
variable {P : Program} {tb : Tab} {ops : Array Oper} {S : Nat → Bool}
def pAnyF (P : Program) (tb : Tab) (ops : Array Oper) (S : Nat → Bool) (K : Fr → St → Prop) : Nat → Array Bool → Fr → St → Prop
  | 0, listed, fr, σ => Region.ready .any ops listed = [] ∧ K fr σ
  | fuel + 1, listed, fr, σ => (Region.ready .any ops listed = [] → K fr σ) ∧
    ∀ i ∈ Region.ready .any ops listed, ∀ o, ops[i]? = some o → pOne P noF tb ops o (fun fr' σ' => (S i = true → σ' = σ) ∧ pAnyF P tb ops S K fuel (listed.setIfInBounds i true) fr' σ') fr σ
theorem pAnyF_weak {K : Fr → St → Prop} : ∀ (fuel : Nat) {listed : Array Bool} {fr : Fr} {σ : St}, pAnyF P tb ops S K fuel listed fr σ → pAny P noF tb ops K fuel listed fr σ
  | 0, listed, fr, σ, h => h
  | fuel + 1, listed, fr, σ, h => ⟨h.1, fun i hi o ho => pOne_mono (h.2 i hi o ho) fun fr' σ' h' => pAnyF_weak fuel h'.2⟩
theorem pAnyF_mono {K K' : Fr → St → Prop} (hk : ∀ fr σ, K fr σ → K' fr σ) : ∀ (fuel : Nat) {listed : Array Bool} {fr : Fr} {σ : St}, pAnyF P tb ops S K fuel listed fr σ → pAnyF P tb ops S K' fuel listed fr σ
  | 0, listed, fr, σ, h => ⟨h.1, hk _ _ h.2⟩
  | fuel + 1, listed, fr, σ, h => ⟨fun e => hk _ _ (h.1 e), fun i hi o ho => pOne_mono (h.2 i hi o ho) fun fr' σ' h' => ⟨h'.1, pAnyF_mono hk fuel h'.2⟩⟩
def PYs (P : Program) (tb : Tab) (ops : Array Oper) (o : Oper) (r : V) (fr : Fr) (σ : St) : Prop := ∀ (K : Fr → St → Prop), K (fr.put o.dst r) σ → pOne P noF tb ops o K fr σ
theorem PYs.put {oi oj : Oper} {r u : V} {fr : Fr} {σ : St} (hap : oi.apart ops oj = true) (h : PYs P tb ops oi r fr σ) : PYs P tb ops oi r (fr.put oj.dst u) σ := by
  obtain ⟨h1, h2, h3⟩ := Oper.apart_spec hap
  intro K hK
  have hc : ∀ v, (fr.put oj.dst u).put oi.dst v = (fr.put oi.dst v).put oj.dst u := fun v => (put_comm fr v u h2).symm
  have := h (fun f τ => K (f.put oj.dst u) τ) (by rw [← hc]; exact hK)
  unfold pOne at this ⊢
  rw [vguard_put h3]
  simp only [hc]
  rcases vguard_cases this with ⟨q1, q2⟩ | ⟨q1, q2⟩
  · exact q2 _ _ ((pdo_put h3).2 q1)
  · exact q2 _ _ q1
theorem pOne_puts {oi oj : Oper} {r : V} {fr : Fr} (hap : oi.apart ops oj = true) {K : Fr → St → Prop} {σ : St} (hy : PYs P tb ops oi r fr σ) (h : pOne P noF tb ops oj (fun fr' σ' => σ' = σ ∧ K fr' σ') (fr.put oi.dst r) σ) :
    pOne P noF tb ops oj (fun fr' σ' => σ' = σ ∧ PYs P tb ops oi r fr' σ' ∧ K (fr'.put oi.dst r) σ') fr σ := by
  obtain ⟨h1, h2, h3⟩ := Oper.apart_spec hap
  have hc : ∀ v, (fr.put oi.dst r).put oj.dst v = (fr.put oj.dst v).put oi.dst r := fun v => put_comm fr r v h2
  unfold pOne at h ⊢
  rw [vguard_put h1] at h
  simp only [hc] at h
  rcases vguard_cases h with ⟨q1, q2⟩ | ⟨q1, q2⟩
  · exact q2 _ _ (pdo_mono ((pdo_put h1).1 q1) fun v σ' hh => ⟨hh.1, hh.1 ▸ hy.put hap, hh.2⟩)
  · exact q2 _ _ ⟨rfl, hy.put hap, q1.2⟩
theorem not_listed {i : Nat} {listed : Array Bool} (hr : i ∈ Region.ready .any ops listed) {j : Nat} {oj : Oper} (hoj : ops[j]? = some oj) (hj : j ∈ Region.ready .any ops listed) : ∀ e ∈ oj.after, Region.binds .any e = true → e.on ≠ i := by
  intro e he hb heq
  obtain ⟨_, oj', hoj', hall⟩ := mem_ready.1 hj
  rw [hoj] at hoj'; cases hoj'
  have h1 := hall e he hb
  have h0 := (mem_ready.1 hr).1
  rw [heq] at h1
  rcases Nat.lt_or_ge i listed.size with h' | h'
  · simp [h'] at h0 h1; rw [h0] at h1; cases h1
  · simp [Array.getElem?_eq_none h'] at h1
theorem free_step {i j : Nat} {oi : Oper} {listed : Array Bool}
    (hfree : ∀ j oj, ops[j]? = some oj → j ≠ i → listed.getD j true = false → (∀ e ∈ oj.after, Region.binds .any e = true → e.on ≠ i) → oi.apart ops oj = true) (hjun : listed.getD j true = false) :
    ∀ k ok, ops[k]? = some ok → k ≠ i → (listed.setIfInBounds j true).getD k true = false → (∀ e ∈ ok.after, Region.binds .any e = true → e.on ≠ i) → oi.apart ops ok = true := fun k ok hk hki hun hno => by
  refine hfree k ok hk hki ?_ hno
  by_cases hjk : j = k
  · subst hjk; exact hjun
  · rw [getD_set_ne true hjk] at hun; exact hun
theorem pAnyF_first {K : Fr → St → Prop} {i : Nat} {oi : Oper} {r : V} (hi : ops[i]? = some oi) :
    ∀ (fuel : Nat) (listed : Array Bool) (fr : Fr) (σ : St),
      (∀ j oj, ops[j]? = some oj → j ≠ i → listed.getD j true = false → (∀ e ∈ oj.after, Region.binds .any e = true → e.on ≠ i) → oi.apart ops oj = true) →
      i ∈ Region.ready .any ops listed → PY P noF tb ops oi r fr →
      pAnyF P tb ops S K fuel (listed.setIfInBounds i true) (fr.put oi.dst r) σ → pAnyF P tb ops S K (fuel + 1) listed fr σ := by
  intro fuel
  induction fuel with
  | zero =>
    intro listed fr σ _ hr hy H
    refine ⟨fun h => (by rw [h] at hr; cases hr), fun j hj o ho => ?_⟩
    by_cases hji : j = i
    · subst hji
      rw [hi] at ho; cases ho
      exact hy σ _ ⟨fun _ => rfl, H⟩
    · have := ready_mono hj hji
      rw [H.1] at this
      cases this
  | succ fuel ih =>
    intro listed fr σ hfree hr hy H
    refine ⟨fun h => (by rw [h] at hr; cases hr), fun j hj oj hoj => ?_⟩
    by_cases hji : j = i
    · subst hji
      rw [hi] at hoj; cases hoj
      exact hy σ _ ⟨fun _ => rfl, H⟩
    · have h1 := H.2 j (ready_mono hj hji) oj hoj
      have hjun := (mem_ready.1 hj).1
      have h2 := pOne_put (hfree j oj hoj hji hjun (not_listed hr hoj hj)) hy h1
      refine pOne_mono h2 fun fr' σ' h3 => ⟨h3.2.1, ih (listed.setIfInBounds j true) fr' σ' (free_step hfree hjun) (ready_mono hr (Ne.symm hji)) h3.1 ?_⟩
      rw [Array.setIfInBounds_comm _ _ hji]
      exact h3.2.2
theorem pAnyF_calm {K : Fr → St → Prop} {i : Nat} {oi : Oper} {r : V} (hi : ops[i]? = some oi) (D : Nat → Bool)
    (hDr : ∀ j, D j = true → ∃ o, ops[j]? = some o) (hD : ∀ j oj, ops[j]? = some oj → D j = true → ∃ e ∈ oj.after, Region.binds .any e = true ∧ (e.on = i ∨ D e.on = true)) :
    ∀ (fuel : Nat) (listed : Array Bool) (fr : Fr) (σ : St),
      (∀ j oj, ops[j]? = some oj → j ≠ i → listed.getD j true = false → (∀ e ∈ oj.after, Region.binds .any e = true → e.on ≠ i) → oi.apart ops oj = true) →
      (∀ j oj, ops[j]? = some oj → D j = true → listed.getD j true = false) →
      (∀ j oj, ops[j]? = some oj → D j = false → j ≠ i → listed.getD j true = false → S j = true) →
      i ∈ Region.ready .any ops listed → PYs P tb ops oi r fr σ →
      pAnyF P tb ops S K fuel (listed.setIfInBounds i true) (fr.put oi.dst r) σ → pAnyF P tb ops S K (fuel + 1) listed fr σ := by
  intro fuel
  induction fuel with
  | zero =>
    intro listed fr σ _ _ _ hr hy H
    refine ⟨fun h => (by rw [h] at hr; cases hr), fun j hj o ho => ?_⟩
    by_cases hji : j = i
    · subst hji
      rw [hi] at ho; cases ho
      exact hy _ ⟨fun _ => rfl, H⟩
    · have := ready_mono hj hji
      rw [H.1] at this
      cases this
  | succ fuel ih =>
    intro listed fr σ hfree hDl hst hr hy H
    refine ⟨fun h => (by rw [h] at hr; cases hr), fun j hj oj hoj => ?_⟩
    by_cases hji : j = i
    · subst hji
      rw [hi] at hoj; cases hoj
      exact hy _ ⟨fun _ => rfl, H⟩
    · have h1 := H.2 j (ready_mono hj hji) oj hoj
      obtain ⟨hjun, oj', hoj', hall⟩ := mem_ready.1 hj
      rw [hoj] at hoj'; cases hoj'
      have hDj : D j = false := by
        cases hd : D j with
        | false => rfl
        | true =>
          obtain ⟨e, he, hb, hor⟩ := hD j oj hoj hd
          rcases hor with h | h
          · exact absurd h (not_listed hr hoj hj e he hb)
          · have l1 := hall e he hb
            obtain ⟨oe, ho⟩ := hDr e.on h
            have l2 := hDl e.on oe ho h
            rcases Nat.lt_or_ge e.on listed.size with h' | h'
            · simp [h'] at l1 l2; rw [l2] at l1; cases l1
            · simp [Array.getElem?_eq_none h'] at l1
      have hS := hst j oj hoj hDj hji hjun
      have h2 := pOne_puts (hfree j oj hoj hji hjun (not_listed hr hoj hj)) hy (pOne_mono h1 fun fr' σ' h => ⟨h.1 hS, h⟩)
      refine pOne_mono h2 fun fr' σ' h3 => ⟨fun _ => h3.1, ?_⟩
      obtain ⟨e, h4, h5⟩ := h3
      subst e
      refine ih (listed.setIfInBounds j true) fr' σ' (free_step hfree hjun) ?_ ?_ (ready_mono hr (Ne.symm hji)) h4 ?_
      · intro k ok hk hdk
        by_cases hjk : j = k
        · subst hjk; rw [hDj] at hdk; cases hdk
        · rw [getD_set_ne true hjk]; exact hDl k ok hk hdk
      · intro k ok hk hdk hki hun
        refine hst k ok hk hdk hki ?_
        by_cases hjk : j = k
        · subst hjk; exact hjun
        · rw [getD_set_ne true hjk] at hun; exact hun
      · rw [Array.setIfInBounds_comm _ _ hji]
        exact h5.2
end
end Go.Dm
namespace Go.Dm
set_option linter.unusedVariables false
set_option linter.unusedSimpArgs false
section
variable {P : Program} {tb : Tab}
def CallStill (ps : FuncId → Bool) (call : Caller) : Prop := ∀ f, ps f = true → ∀ l σ o, call f l σ = some o → ∀ p ∈ o, p.2 = σ
theorem still_eq {x : Option V} {σ : St} {out : List (V × St)} (h : still x σ = some out) : ∀ p ∈ out, p.2 = σ := by
  unfold still at h
  split at h
  · cases h; intro p hp; rw [List.mem_singleton.1 hp]
  · cases h
theorem one_eq {x : Option (V × St)} {σ : St} {out : List (V × St)} (h : one x = some out) (hx : ∀ p, x = some p → p.2 = σ) : ∀ p ∈ out, p.2 = σ := by
  unfold one at h
  split at h
  · cases h; intro p hp; rw [List.mem_singleton.1 hp]; exact hx _ rfl
  · cases h
theorem single_eq {v : V} {σ : St} {out : List (V × St)} (h : some [(v, σ)] = some out) : ∀ p ∈ out, p.2 = σ := by
  cases h; intro p hp; rw [List.mem_singleton.1 hp]
theorem xslice_str {sz : Nat} {x : V} {lo hi : Option V} {σ : St} {r : V × St} (h : xslice .str sz x lo hi σ = some r) : r.2 = σ := by
  unfold xslice at h
  split at h <;> first
    | (rename_i hd; cases hd; done)
    | cases h
    | skip
  all_goals (repeat' (split at h)) <;> first
    | (cases h; rfl)
    | cases h
    | (rename_i hd; cases hd)
theorem xconv_still {s d : TypeId} {x : V} {σ : St} {r : V × St} (hd : (match (tb d).d with | .slice _ => false | _ => true) = true) (h : xconv tb s d x σ = some r) : r.2 = σ := by
  unfold xconv at h
  split at h
  · cases h; rfl
  · cases h; rfl
  · split at h
    · cases h; rfl
    · cases h
  · cases h; rfl
  · split at h
    · split at h
      · cases h; rfl
      · cases h
    · cases h
  · rename_i e; rw [e] at hd; cases hd
  · cases h
theorem xop_still {ps : FuncId → Bool} {call : Caller} (hc : CallStill ps call) {o : Op} (hs : stlOf tb ps o = true) {ρ : Operand → V} (hρ : ∀ f, ρ (.func f) = .c (.f (.fn f))) {σ : St} {out : List (V × St)} (h : xop call tb (comp tb o) ρ σ = some out) : ∀ p ∈ out, p.2 = σ := by
  cases hx : extraB tb o with
  | true =>
    cases o <;> first
      | (simp [extraB] at hx; done)
      | (simp [stlOf, hx] at hs; done)
      | skip
    · rename_i op t x y yt
      simp only [comp, hx, xop, xextra] at h
      simp only [stlOf] at hs
      split at h
      · repeat' (split at h)
        all_goals first
          | exact single_eq h
          | cases h
      · rename_i e hd; rw [hd] at hs; cases hs
      · split at h
        · exact single_eq h
        · cases h
      · split at h
        · exact single_eq h
        · cases h
      · cases h
    · rename_i c
      obtain ⟨cal, args, at'⟩ := c
      cases cal with
      | value x => simp [extraB] at hx
      | builtin b => simp [stlOf, hx] at hs
      | invoke r m => simp [extraB] at hx
  | false =>
  simp only [comp, hx] at h
  cases o with
  | move x => exact single_eq h
  | assign x => exact single_eq h
  | pick c a b =>
    simp only [comp0, xop] at h
    split at h
    · split at h <;> exact single_eq h
    · cases h
  | binOp op t x y p => exact still_eq h
  | unOp op t x => exact still_eq h
  | extract x i =>
    simp only [comp0, xop] at h
    split at h
    · exact still_eq h
    · cases h
  | nilCheck x => exact still_eq h
  | load t x =>
    simp only [comp0] at h
    split at h
    · simp [xop, hx] at h
    · exact still_eq h
  | fieldAddr t x i =>
    simp only [comp0] at h
    repeat' (split at h)
    all_goals first
      | exact still_eq h
      | (simp [xop, hx] at h; done)
  | field t x i =>
    simp only [comp0] at h
    repeat' (split at h)
    all_goals first
      | (simp [xop, hx] at h; done)
      | (simp only [xop] at h
         split at h
         · exact still_eq h
         · cases h)
  | indexAddr t x i =>
    simp only [comp0] at h
    repeat' (split at h)
    all_goals first
      | exact still_eq h
      | (simp [xop, hx] at h; done)
  | index t x i =>
    simp only [comp0] at h
    split at h
    · exact still_eq h
    · simp only [xop, hx] at h
      repeat' (split at h)
      all_goals first
        | exact still_eq h
        | cases h
  | makeFunc fn first captured =>
    simp only [comp0, xop, hx] at h
    cases fn <;> simp only at h <;> first
      | cases h
      | (split at h <;> first | exact single_eq h | cases h)
  | build t parts =>
    simp only [comp0] at h
    repeat' (split at h)
    all_goals first
      | (simp only [xop] at h
         split at h
         · exact single_eq h
         · cases h
         done)
      | (simp only [xop, hx] at h
         repeat' (split at h)
         all_goals first | exact single_eq h | cases h)
  | slice t x lo hi mx =>
    cases mx with
    | some m => simp [stlOf] at hs
    | none =>
      simp only [comp0] at h
      split at h
      · exact one_eq h fun p hp => xslice_str hp
      · rename_i e; simp [stlOf, e] at hs
      · rename_i e1 e2
        simp only [stlOf] at hs
        split at hs
        · rename_i e; exact (e1 e).elim
        · cases hs
  | convert s d x =>
    have hd : (match (tb d).d with | .slice _ => false | _ => true) = true := by
      simp only [stlOf, Bool.and_eq_true] at hs
      exact hs.2
    simp only [comp0, xop, hx] at h
    exact one_eq h fun p hp => xconv_still hd hp
  | call c =>
    obtain ⟨cal, args, at'⟩ := c
    cases cal with
    | value x =>
      simp only [comp0, xop] at h
      simp only [stlOf] at hs
      split at hs
      · rename_i f
        rw [hρ] at h
        simp only [callee] at h
        exact hc f hs _ _ _ h
      · cases hs
    | builtin b =>
      simp only [comp0] at h
      split at h
      · exact still_eq h
      · simp [stlOf, extraB, stillOp] at hs
      · refine one_eq h fun p hp => ?_
        unfold xbi at hp
        repeat' (split at hp)
        all_goals first
          | (cases hp; rfl)
          | cases hp
    | invoke r m => simp [comp0, xop, hx] at h
  | _ => first
    | (simp [stlOf, extraB, stillOp] at hs; done)
    | skip
theorem xitem_still {ps : FuncId → Bool} {call : Caller} (hc : CallStill ps call) {ops : Array Oper} {o : Oper} (hs : stlOf tb ps o.op = true) {t : FT} {σ : St} {out : List (V × St)} (h : xitem call tb (sitem tb ops o) t σ = some out) : ∀ p ∈ out, p.2 = σ := by
  unfold xitem at h
  split at h
  · cases h
  · exact xop_still hc hs (fun f => rfl) h
  · exact single_eq h
end
end Go.Dm
namespace Go.Dm
set_option linter.unusedVariables false
set_option linter.unusedSimpArgs false
section
variable {P : Program} {tb : Tab}
theorem depGo_len (i : Nat) : ∀ (l : List Oper) (j : Nat) (acc : List Bool), (depGo i l j acc).length = acc.length + l.length
  | [], j, acc => by simp [depGo]
  | o :: r, j, acc => by rw [depGo, depGo_len i r]; simp; omega
def Dof (ops : Array Oper) (i j : Nat) : Bool := depB (depGo i ops.toList 0 []) j
theorem Dof_lt {ops : Array Oper} {i j : Nat} (h : Dof ops i j = true) : ∃ o, ops[j]? = some o := by
  unfold Dof depB at h
  rw [nth_eq] at h
  split at h
  · rename_i b hb
    have hlt := (List.getElem?_eq_some_iff.1 hb).1
    rw [depGo_len] at hlt
    simp at hlt
    exact ⟨ops[j], Array.getElem?_eq_getElem hlt⟩
  · cases h
theorem calm_spec {stl : Op → Bool} {ops : Array Oper} {listed : Array Bool} {i : Nat} (h : calmAt stl ops listed i = true) {j : Nat} {oj : Oper} (hj : ops[j]? = some oj) :
    (Dof ops i j = true → listed.getD j true = false ∧ ∃ e ∈ oj.after, Region.binds .any e = true ∧ (e.on = i ∨ Dof ops i e.on = true)) ∧
    (Dof ops i j = false → j ≠ i → listed.getD j true = false → stl oj.op = true) := by
  have hlt := (Array.getElem?_eq_some_iff.1 hj).1
  simp only [calmAt, List.all_eq_true, List.mem_range] at h
  have h1 := h j hlt
  rw [hj] at h1
  simp only at h1
  constructor
  · intro hd
    have hd' : depB (depGo i ops.toList 0 []) j = true := hd
    rw [hd'] at h1
    simp only [Bool.and_eq_true, Bool.not_eq_true'] at h1
    refine ⟨h1.1, ?_⟩
    obtain ⟨e, he, hb⟩ := Array.any_eq_true'.1 h1.2
    simp only [Bool.and_eq_true, Bool.or_eq_true] at hb
    exact ⟨e, he, hb.1, hb.2.imp (fun hh => Nat.eq_of_beq_eq_true hh) id⟩
  · intro hd hne hun
    have hd' : depB (depGo i ops.toList 0 []) j = false := hd
    rw [hd'] at h1
    simp only [Bool.or_eq_true] at h1
    rcases h1 with (h1 | h1) | h1
    · exact absurd (Nat.eq_of_beq_eq_true h1) hne
    · rw [hun] at h1; cases h1
    · exact h1
theorem pickX_spec {t : FT} : ∀ {L : List (Ch × (Unit → Plan))} {tl : Bool} {c : Ch} {p : Unit → Plan}, pickX tb t L = some (tl, c, p) → (c, p) ∈ L ∧ c.free = true ∧ (tl = true → tlessT tb c.op t = true) ∧ (tl = false → c.still = true ∧ c.calm = true)
  | [], tl, c, p, h => by simp [pickX] at h
  | (c0, p0) :: r, tl, c, p, h => by
    simp only [pickX] at h
    split at h
    · obtain ⟨a, b⟩ := pickX_spec h; exact ⟨List.mem_cons_of_mem _ a, b⟩
    · rename_i hf
      split at h
      · rename_i ht
        cases h
        exact ⟨by simp, hf, fun _ => ht, fun e => by cases e⟩
      · split at h
        · rename_i hs
          cases h
          simp only [Bool.and_eq_true] at hs
          exact ⟨by simp, hf, fun e => (by cases e), fun _ => hs⟩
        · obtain ⟨a, b⟩ := pickX_spec h; exact ⟨List.mem_cons_of_mem _ a, b⟩
theorem branchX_spec {α : Type} {f : Ch → (Unit → Plan) → Rs α} : ∀ {L : List (Ch × (Unit → Plan))} {o : List α}, branchX f L = some o → ∀ c p, (c, p) ∈ L → ∃ lx, f c p = some lx ∧ ∀ y ∈ lx, y ∈ o
  | [], o, h, c, p, hm => by simp at hm
  | (c0, p0) :: r, o, h, c, p, hm => by
    simp only [branchX] at h
    split at h
    · cases h
    · rename_i l hl
      split at h
      · cases h
      · rename_i l' hl'
        cases h
        rcases List.mem_cons.1 hm with e | hm
        · cases e
          exact ⟨l, hl, fun y hy => List.mem_append_left _ hy⟩
        · obtain ⟨lx, a, b⟩ := branchX_spec hl' c p hm
          exact ⟨lx, a, fun y hy => List.mem_append_right _ (b y hy)⟩
theorem frT_opd {m : Nat} {t : FT} (ht : OkT m t) : opd (frT m t) = t.at := by
  rw [← tA_at ht]
  exact funext fun x => toFr_opd (tA_in t) x
theorem tlessT_eq {m : Nat} {t : FT} (ht : OkT m t) {o : Op} (h : tlessT tb o t = true) : tless noF tb o (frT m t) = true := by
  cases o with
  | call c =>
    obtain ⟨cal, args, at'⟩ := c
    cases cal with
    | value x => simp [tlessT] at h
    | _ => simp only [tlessT, tless, frT_opd ht] at h ⊢; exact h
  | _ => simp only [tlessT, tless, frT_opd ht] at h ⊢; exact h
theorem xitem_tless {call : Caller} (hc : CallOk P call) {ops : Array Oper} {o : Oper} {m : Nat} {t : FT} (ht : OkT m t) (hl : tlessT tb o.op t = true) {v : V} {τ : St} (h : xitem call tb (sitem tb ops o) t [] = some [(v, τ)]) : PY P noF tb ops o v (frT m t) := by
  have hA := tA_in (m := m) t
  have hlk : ∀ i, lk (tA t m) i = t.get i := fun i => congrFun (tA_at ht) (.tmp i)
  unfold xitem at h
  split at h
  · cases h
  · rename_i hg
    intro σ K hK
    refine sg hA (xguard_ok hlk hg (fun _ => ?_) (fun e => by cases e))
    have h1 := comp_ok hA (xop_ok (P := P) hc hA (tA_at ht) h (kk := fun u _ => u = v) fun p hp => by rw [List.mem_singleton.1 hp])
    obtain ⟨r, h2, h3⟩ := tless_ok (tlessT_eq ht hl) h1
    subst h2
    exact ⟨_, h3 σ (fun v σ' => K ((frT m t).put o.dst v) σ') hK, fun _ _ h => h⟩
  · rename_i hg
    cases h
    intro σ K hK
    exact sg hA (xguard_ok hlk hg (fun e => by cases e) (fun _ => hK))
def stI (stl : Op → Bool) (ops : Array Oper) (i : Nat) : Bool := match ops[i]? with | some o => stl o.op | none => false
theorem stI_eq {stl : Op → Bool} {ops : Array Oper} {i : Nat} {o : Oper} (h : ops[i]? = some o) : stI stl ops i = stl o.op := by simp [stI, h]
theorem choice_eq {stl : Op → Bool} {ops : Array Oper} {listed : Array Bool} {i : Nat} {o : Oper} (h : ops[i]? = some o) :
    choice stl (ops.toList.map (sitem tb ops)) ops listed i = ⟨sitem tb ops o, o.op, freeAt ops listed i, calmAt stl ops listed i, stl o.op⟩ := by
  have e : nth (ops.toList.map (sitem tb ops)) i = some (sitem tb ops o) := by rw [nth_eq]; simp [h]
  simp [choice, h, e]
theorem xany_ok {ps : FuncId → Bool} {call : Caller} (hc : CallOk P call) (hst : CallStill ps call) {ops : Array Oper} {m : Nat} : ∀ (n : Nat) (listed : Array Bool) {t : FT} {σ : St} {out : List (FT × St)}, OkT m t →
    xany call tb m n (plan (stlOf tb ps) (ops.toList.map (sitem tb ops)) ops n listed) t σ = some out → pAnyF P tb ops (stI (stlOf tb ps) ops) (InO m out) n listed (frT m t) σ
  | 0, listed, t, σ, out, ht, h => by
    simp only [plan] at h
    split at h
    · rename_i hr
      simp only [xany, Option.some.injEq] at h
      subst h
      exact ⟨hr, t, ht, rfl, List.mem_singleton.2 rfl⟩
    · simp [xany] at h
  | n + 1, listed, t, σ, out, ht, h => by
    simp only [plan] at h
    generalize hL : (Region.ready .any ops listed).map (fun i => (choice (stlOf tb ps) (ops.toList.map (sitem tb ops)) ops listed i, fun (_ : Unit) => plan (stlOf tb ps) (ops.toList.map (sitem tb ops)) ops n (listed.setIfInBounds i true))) = L at h
    have hmem : ∀ c p, (c, p) ∈ L → ∃ i o, i ∈ Region.ready .any ops listed ∧ ops[i]? = some o ∧ c = ⟨sitem tb ops o, o.op, freeAt ops listed i, calmAt (stlOf tb ps) ops listed i, stlOf tb ps o.op⟩ ∧ p = fun (_ : Unit) => plan (stlOf tb ps) (ops.toList.map (sitem tb ops)) ops n (listed.setIfInBounds i true) := by
      intro c p hm
      rw [← hL] at hm
      obtain ⟨i, hi, e⟩ := List.mem_map.1 hm
      obtain ⟨_, o, ho, _⟩ := mem_ready.1 hi
      rw [choice_eq ho] at e
      cases e
      exact ⟨i, o, hi, ho, rfl, rfl⟩
    cases L with
    | nil =>
      simp only [xany, Option.some.injEq] at h
      subst h
      have hr : Region.ready .any ops listed = [] := List.map_eq_nil_iff.1 hL
      exact ⟨fun _ => ⟨t, ht, rfl, List.mem_singleton.2 rfl⟩, fun i hi => by rw [hr] at hi; cases hi⟩
    | cons c0 L0 =>
      simp only [xany] at h
      split at h
      · rename_i tl c p hp
        obtain ⟨hm, hfr, htl, hcalm⟩ := pickX_spec hp
        obtain ⟨i, o, hi, ho, rfl, rfl⟩ := hmem c p hm
        simp only at h hfr htl hcalm
        split at h
        · rename_i v τ hx
          have ih := xany_ok hc hst n (listed.setIfInBounds i true) (ht.set o.dst v) h
          rw [frT_set ht] at ih
          cases tl with
          | true => exact pAnyF_first ho n listed _ σ (fun j oj hj hne hun hno => Region.free_spec ho hfr j oj hj hne hun hno) hi (xitem_tless hc ht (htl rfl) hx) ih
          | false =>
            obtain ⟨hs, hcm⟩ := hcalm rfl
            have hτ : τ = σ := xitem_still hst hs hx (v, τ) (List.mem_singleton.2 rfl)
            subst hτ
            refine pAnyF_calm ho (Dof ops i) (fun j hd => Dof_lt hd) (fun j oj hj hd => ((calm_spec hcm hj).1 hd).2) n listed _ τ (fun j oj hj hne hun hno => Region.free_spec ho hfr j oj hj hne hun hno)
              (fun j oj hj hd => ((calm_spec hcm hj).1 hd).1) (fun j oj hj hd hne hun => by rw [stI_eq hj]; exact (calm_spec hcm hj).2 hd hne hun) hi ?_ ih
            intro K hK
            refine pOne_mono (xitem_ok hc ht hx) fun fr' σ' ⟨u, e, hu⟩ => ?_
            have := List.mem_singleton.1 hu
            cases this
            rw [e, frT_set ht]
            exact hK
        · cases h
      · rename_i hp
        split at h
        · cases h
        · rename_i o' hb
          cases h
          refine ⟨fun hr => (by rw [hr] at hL; simp at hL), fun i hi o ho => ?_⟩
          have hm : (choice (stlOf tb ps) (ops.toList.map (sitem tb ops)) ops listed i, fun (_ : Unit) => plan (stlOf tb ps) (ops.toList.map (sitem tb ops)) ops n (listed.setIfInBounds i true)) ∈ c0 :: L0 := by
            rw [← hL]; exact List.mem_map.2 ⟨i, hi, rfl⟩
          obtain ⟨lx, h1, h2⟩ := branchX_spec hb _ _ hm
          rw [choice_eq ho] at h1
          simp only at h1
          split at h1
          · cases h1
          · rename_i o1 hx
            refine pOne_mono (xitem_ok hc ht hx) fun fr' σ' ⟨v, e, hv⟩ => ?_
            subst e
            refine ⟨fun hs => ?_, ?_⟩
            · rw [stI_eq ho] at hs
              exact xitem_still hst hs hx _ hv
            · obtain ⟨lz, h3, h4⟩ := bindL_mem h1 _ hv
              exact pAnyF_mono (fun _ _ hh => hh.mono fun x hx => nub_mem fsEqb_ok (h2 x (h4 x hx))) n (xany_ok hc hst n _ (ht.set _ _) h3)
def xeOf : Exit → XE → Prop
  | .normal, .norm => True
  | .exit i, .exit j => i = j
  | .ret, .ret => True
  | _, _ => False
def InX (m : Nat) (o : List (XE × FT × St)) : Post := fun e fr σ => ∃ x t, xeOf e x ∧ OkT m t ∧ fr = frT m t ∧ (x, t, σ) ∈ o
theorem InX.mono {m : Nat} {o o' : List (XE × FT × St)} (h : ∀ x ∈ o, x ∈ o') {e : Exit} {fr : Fr} {σ : St} (k : InX m o e fr σ) : InX m o' e fr σ :=
  let ⟨x, t, a, b, c, d⟩ := k; ⟨x, t, a, b, c, h _ d⟩
theorem inNorm {m : Nat} {o : List (XE × FT × St)} {t : FT} {σ : St} (ht : OkT m t) (h : (XE.norm, t, σ) ∈ o) : InX m o .normal (frT m t) σ := ⟨.norm, t, trivial, ht, rfl, h⟩
theorem inExit {m : Nat} {o : List (XE × FT × St)} {t : FT} {σ : St} {i : Nat} (ht : OkT m t) (h : (XE.exit i, t, σ) ∈ o) : InX m o (.exit i) (frT m t) σ := ⟨.exit i, t, rfl, ht, rfl, h⟩
theorem inRet {m : Nat} {o : List (XE × FT × St)} {t : FT} {σ : St} (ht : OkT m t) (h : (XE.ret, t, σ) ∈ o) : InX m o .ret (frT m t) σ := ⟨.ret, t, trivial, ht, rfl, h⟩
theorem normed {o : Rs (FT × St)} {out : List (XE × FT × St)} (h : (match o with | some [(t', σ')] => some [(XE.norm, t', σ')] | some o => some (o.map fun p => (XE.norm, p.1, p.2)) | none => none) = some out) :
    ∃ l, o = some l ∧ ∀ p ∈ l, (XE.norm, p.1, p.2) ∈ out := by
  split at h
  · rename_i t' σ'
    cases h
    exact ⟨_, rfl, fun p hp => by rw [List.mem_singleton.1 hp]; simp⟩
  · rename_i l _
    cases h
    exact ⟨_, rfl, fun p hp => List.mem_map.2 ⟨p, hp, rfl⟩⟩
  · cases h
theorem xloop_ok {m n : Nat} {c : Code} {body : FT → St → Rs (XE × FT × St)} (hb : ∀ {t σ out}, OkT m t → body t σ = some out → DWp P n c (InX m out) (frT m t) σ) :
    ∀ (it : Nat) {t : FT} {σ : St} {out : List (XE × FT × St)}, OkT m t → xloop body it t σ = some out → LoopAt P n c (InX m out) (frT m t) σ
  | 0, t, σ, out, ht, h => by simp [xloop] at h
  | it + 1, t, σ, out, ht, h => by
    simp only [xloop] at h
    obtain ⟨l, h1, h2⟩ := bind_mem h
    refine loop_round ((hb ht h1).mono fun e fr σ' ⟨x, t', hx, ht', hfr, hm⟩ => ?_)
    subst hfr
    obtain ⟨lx, h3, h4⟩ := h2 _ hm
    cases e with
    | normal =>
      cases x <;> simp only [xeOf] at hx
      show LoopAt P n c (InX m out) (frT m t') σ'
      have h5 := xloop_ok hb it ht' h3
      intro g w a hr hf hd b k cs
      obtain ⟨e, a', w', h6, h7⟩ := h5 g w a hr hf hd b k cs
      exact ⟨e, a', w', h6.mono fun fr σ hh => hh.mono h4, h7⟩
    | exit i =>
      cases x <;> simp only [xeOf] at hx
      subst hx
      simp only [Option.some.injEq] at h3
      subst h3
      exact inExit ht' (h4 _ (List.mem_singleton.2 rfl))
    | ret =>
      cases x <;> simp only [xeOf] at hx
      simp only [Option.some.injEq] at h3
      subst h3
      exact inRet ht' (h4 _ (List.mem_singleton.2 rfl))
    | _ => cases x <;> exact hx.elim
theorem xcode_ok (hm : P.follows .mixedOrders = true) (tok : TabOk P tb) {ps : FuncId → Bool} {call : Caller} (hc : CallOk P call) (hst : CallStill ps call) {m n it : Nat} {c : Code} : ∀ {t : FT} {σ : St} {out : List (XE × FT × St)}, OkT m t →
    xcode call tb (stlOf tb ps) m it (scode tb c) t σ = some out → DWp P n c (InX m out) (frT m t) σ := by
  induction c with
  | skip =>
    intro t σ out ht h g w a hr hf hd
    simp only [scode, xcode, Option.some.injEq] at h
    subst h
    exact wp_skip (here_ok (inNorm ht (List.mem_singleton.2 rfl)) hr hf hd)
  | label l =>
    intro t σ out ht h g w a hr hf hd
    simp only [scode, xcode, Option.some.injEq] at h
    subst h
    exact wp_label (here_ok (inNorm ht (List.mem_singleton.2 rfl)) hr hf hd)
  | exit id =>
    intro t σ out ht h g w a hr hf hd
    simp only [scode, xcode, Option.some.injEq] at h
    subst h
    exact wp_exit (here_ok (inExit ht (List.mem_singleton.2 rfl)) hr hf hd)
  | ret =>
    intro t σ out ht h g w a hr hf hd
    simp only [scode, xcode, Option.some.injEq] at h
    subst h
    exact wp_ret (here_ok (inRet ht (List.mem_singleton.2 rfl)) hr hf hd)
  | region id ops draw =>
    intro t σ out ht h g w a hr hf hd
    cases draw with
    | false =>
      simp only [scode, xcode] at h
      obtain ⟨l, h1, h2⟩ := normed h
      refine wp_region ?_
      rw [List.range_eq_range']
      exact pSeq_sound tok ops.size 0 (by omega) hr hf hd (by rw [List.drop_zero]; exact xseq_ok hc _ ht h1) fun a' w' h' => show LiftsN n g w σ (InX m out .normal) a' w' from LiftsN.mono (K := InO m l) (h'.n n) fun fr σ' ⟨t', q1, q2, q3⟩ => by subst q2; exact inNorm q1 (h2 _ q3)
    | true =>
      simp only [scode, xcode] at h
      obtain ⟨l, h1, h2⟩ := normed h
      obtain ⟨d1, d2⟩ := drew_rep hr
      refine wp_region_any hm ?_
      exact pAny_sound tok _ _ d1 (hf.turn d2) hd (pAnyF_weak _ (xany_ok hc hst _ _ ht h1)) fun a' w' h' => ((h'.n n).trans (d2.n n)).mono fun fr σ' ⟨t', q1, q2, q3⟩ => by subst q2; exact inNorm q1 (h2 _ q3)
  | seq x y ihx ihy =>
    intro t σ out ht h g w a hr hf hd
    simp only [scode, xcode] at h
    obtain ⟨l, h1, h2⟩ := bind_mem h
    refine wp_seq (wp_mono (ihx ht h1 g w a hr hf hd) fun e a' w' h' => ?_)
    obtain ⟨fr', σ', g', ⟨xe, t', hx, ht', rfl, hmm⟩, h4, h5, h6, h7⟩ := h'
    obtain ⟨lx, h8, h9⟩ := h2 _ hmm
    cases e with
    | normal =>
      cases xe <;> simp only [xeOf] at hx
      exact wp_mono (ihy ht' h8 g' w' a' h4 h6 h7) fun e a'' w'' h10 => (h10.mono fun fr σ hh => hh.mono h9).trans h5
    | exit i =>
      cases xe <;> simp only [xeOf] at hx
      subst hx
      simp only [Option.some.injEq] at h8
      subst h8
      exact ⟨_, σ', g', inExit ht' (h9 _ (List.mem_singleton.2 rfl)), h4, h5, h6, h7⟩
    | ret =>
      cases xe <;> simp only [xeOf] at hx
      simp only [Option.some.injEq] at h8
      subst h8
      exact ⟨_, σ', g', inRet ht' (h9 _ (List.mem_singleton.2 rfl)), h4, h5, h6, h7⟩
    | _ => cases xe <;> exact hx.elim
  | cond c x y ihx ihy =>
    intro t σ out ht h g w a hr hf hd
    simp only [scode, xcode] at h
    have hcv := opd_rep hf c
    rw [frT_opd ht] at hcv
    split at h
    · rename_i b e
      rw [e] at hcv
      have hv : a.eval c = .bool b := hcv
      cases b with
      | true => exact wp_cond_true hv (ihx ht h g w a hr hf hd)
      | false => exact wp_cond_false hv (ihy ht h g w a hr hf hd)
    · cases h
  | block id c ih =>
    intro t σ out ht h g w a hr hf hd
    simp only [scode, xcode] at h
    obtain ⟨l, h1, h2⟩ := bind_mem h
    refine wp_block (wp_mono (ih ht h1 g w a hr hf hd) fun e a' w' h' => ?_)
    obtain ⟨fr', σ', g', ⟨xe, t', hx, ht', rfl, hmm⟩, h4⟩ := h'
    obtain ⟨lx, h8, h9⟩ := h2 _ hmm
    cases e with
    | normal =>
      cases xe <;> simp only [xeOf] at hx
      simp only [Option.some.injEq] at h8
      subst h8
      exact ⟨_, σ', g', inNorm ht' (h9 _ (List.mem_singleton.2 rfl)), h4⟩
    | exit j =>
      cases xe <;> simp only [xeOf] at hx
      subst hx
      simp only [Exit.inBlock]
      simp only at h8
      split at h8
      · rename_i hj
        have := Nat.eq_of_beq_eq_true hj
        subst this
        rw [if_pos rfl]
        cases h8
        exact ⟨_, σ', g', inNorm ht' (h9 _ (List.mem_singleton.2 rfl)), h4⟩
      · rename_i hj
        rw [if_neg (fun e => by subst e; rw [Nat.beq_refl] at hj; cases hj)]
        cases h8
        exact ⟨_, σ', g', inExit ht' (h9 _ (List.mem_singleton.2 rfl)), h4⟩
    | ret =>
      cases xe <;> simp only [xeOf] at hx
      simp only [Option.some.injEq] at h8
      subst h8
      exact ⟨_, σ', g', inRet ht' (h9 _ (List.mem_singleton.2 rfl)), h4⟩
    | _ => cases xe <;> exact hx.elim
  | loop c ih =>
    intro t σ out ht h g w a hr hf hd b k cs
    simp only [scode, xcode] at h
    obtain ⟨e, a', w', h1, h2⟩ := xloop_ok (n := n) (fun ht' h' => ih ht' h') it ht h g w a hr hf hd b k cs
    exact ⟨e, a', w', h1, .of_steps (.one step_loop) h2⟩
  | _ => intro t σ out ht h; simp [scode, xcode] at h
end
end Go.Dm
namespace Go.Dm
open Go.RowKit
set_option linter.unusedVariables false
set_option linter.unusedSimpArgs false
section
variable {P : Program} {tb : Tab}
theorem xres_ok {m : Nat} {t : FT} (ht : OkT m t) {σ : St} : ∀ {rs : List ResultVar} {l : List V} {K : List V → Prop}, xres tb rs t σ = some l → K l → resVs prims tb rs (frT m t) σ K
  | [], l, K, h, hk => by simp only [xres, Option.some.injEq] at h; subst h; exact hk
  | .tmp i :: r, l, K, h, hk => by
    simp only [xres] at h
    split at h
    · rename_i l' hl
      cases h
      simp only [resVs]
      refine xres_ok ht hl ?_
      have : (frT m t).getD i (.c .un) = t.get i := by
        unfold frT
        rw [toFr_get (tA_in t)]
        exact congrFun (tA_at ht) (.tmp i)
      rw [this]
      exact hk
    · cases h
  | .cell x ty :: r, l, K, h, hk => by
    simp only [xres] at h
    split at h
    · cases h
    · rename_i hn
      split at h
      · rename_i v l' hv hl
        cases h
        simp only [resVs]
        have : (frT m t).getD x (.c .un) = t.get x := by
          unfold frT
          rw [toFr_get (tA_in t)]
          exact congrFun (tA_at ht) (.tmp x)
        rw [this]
        refine not_isNo hn (xload_ok hv ?_)
        exact xres_ok ht hl hk
      · cases h
theorem funOf_spec {f : FuncId} {F : Fun} (h : funOf P tb f = some F) : ∃ fn c, P.funcs[f]? = some fn ∧ fn.body = some c ∧ (fn.name == "runtime.NumGoroutine") = false ∧ F = ⟨fn.ntmps, scode tb c, fn.results.toList⟩ := by
  unfold funOf at h
  split at h
  · cases h
  · rename_i fn hf
    split at h
    · cases h
    · rename_i c hb
      split at h
      · cases h
      · rename_i hn
        cases h
        exact ⟨fn, c, hf, hb, hn, rfl⟩
theorem xbody_ok (hm : P.follows .mixedOrders = true) (tok : TabOk P tb) {ps : FuncId → Bool} {call : Caller} (hc : CallOk P call) (hst : CallStill ps call) {it : Nat} {f : FuncId} {F : Fun} (hF : funOf P tb f = some F) {args : List V} {σ : St} {o : List (V × St)}
    (h : xbody call tb (stlOf tb ps) it F args σ = some o) : CallAt P f args σ fun r σ' => (r, σ') ∈ o := by
  obtain ⟨fn, c, hf, hb, hn, rfl⟩ := funOf_spec hF
  unfold xbody at h
  split at h
  · cases h
  · rename_i hle
    simp only at h
    split at h
    · cases h
    · rename_i o' hx
      cases h
      obtain ⟨l, h1, h2⟩ := bind_mem hx
      have hw := xcode_ok (n := σ.length) hm tok hc hst (start_ok args 0 (blank_ok fn.ntmps)) h1
      rw [frT_start (ble_nat hle)] at hw
      refine call_of hm tok hf hb hn (hw.mono fun e fr σ' ⟨x, t, hxe, ht, hfr, hmem⟩ => ?_)
      subst hfr
      obtain ⟨lx, h3, h4⟩ := h2 _ hmem
      have fin : xret tb fn.results.toList (.norm, t, σ') = some lx → resVs prims tb fn.results.toList (frT fn.ntmps t) σ' fun l => match l with | [v] => (v, σ') ∈ nub vsEqb o' | l => (V.t l, σ') ∈ nub vsEqb o' := by
        intro h3
        unfold xret at h3
        simp only at h3
        split at h3
        · cases h3
        · rename_i v hr
          cases h3
          exact xres_ok ht hr (nub_mem vsEqb_ok (h4 _ (List.mem_singleton.2 rfl)))
        · rename_i l' hno hr
          cases h3
          refine xres_ok ht hr ?_
          have := nub_mem vsEqb_ok (h4 _ (List.mem_singleton.2 rfl))
          split
          · rename_i v; exact (hno v rfl).elim
          · exact this
      cases e with
      | normal =>
        cases x <;> simp only [xeOf] at hxe
        exact fin h3
      | ret =>
        cases x <;> simp only [xeOf] at hxe
        exact fin h3
      | exit i =>
        cases x <;> simp only [xeOf] at hxe
        simp [xret] at h3
      | _ => cases x <;> exact hxe.elim
theorem take_get {σ : St} {n o : Nat} (h : o < n) : (σ.take n)[o]? = σ[o]? := by
  rw [List.getElem?_take, if_pos h]
mutual
theorem underC {g : G} {w : World} {σ : St} {n : Nat} : ∀ {c : C} {v : Value}, c.under n = true → CRep g w σ c v → CRep g w (σ.take n) c v
  | .f x, v, _, h => h
  | .ep l o, v, _, h => h
  | .un, v, _, h => trivial
  | .ptr o off, v, hu, h => by
    obtain ⟨b, ob, h1, h2, h3, h4⟩ := h
    exact ⟨b, ob, h1, h2, by rw [take_get (blt_nat hu)]; exact h3, h4⟩
  | .pa o e off, v, hu, h => by
    obtain ⟨h1, ob, h3, h4⟩ := h
    exact ⟨h1, ob, by rw [take_get (blt_nat hu)]; exact h3, h4⟩
  | .rs o e m, v, hu, h => by
    obtain ⟨h1, ob, h3, h4⟩ := h
    exact ⟨h1, ob, by rw [take_get (blt_nat hu)]; exact h3, h4⟩
  | .mp o, v, hu, h => by
    obtain ⟨b, ob, h1, h2, h3, h4⟩ := h
    exact ⟨b, ob, h1, h2, by rw [take_get (blt_nat hu)]; exact h3, h4⟩
  | .clo f caps, v, hu, h => by
    obtain ⟨vs, h1, h2⟩ := h
    exact ⟨vs, h1, undersC hu h2⟩
theorem undersC {g : G} {w : World} {σ : St} {n : Nat} : ∀ {l : List C} {vs : List Value}, C.unders n l = true → CReps g w σ l vs → CReps g w (σ.take n) l vs
  | [], vs, _, h => h
  | c :: r, vs, hu, h => by
    simp only [C.unders] at hu
    split at hu
    · rename_i hc
      obtain ⟨v, vr, rfl, h1, h2⟩ := h
      exact ⟨v, vr, rfl, underC hc h1, undersC hu h2⟩
    · cases hu
end
mutual
theorem underV {g : G} {w : World} {σ : St} {n : Nat} : ∀ {c : V} {v : Value}, c.under n = true → VRep g w σ c v → VRep g w (σ.take n) c v
  | .c x, v, hu, h => underC hu h
  | .a l, v, hu, h => by obtain ⟨vs, h1, h2⟩ := h; exact ⟨vs, h1, undersC hu h2⟩
  | .t l, v, hu, h => by obtain ⟨vs, h1, h2⟩ := h; exact ⟨vs, h1, undersV hu h2⟩
theorem undersV {g : G} {w : World} {σ : St} {n : Nat} : ∀ {l : List V} {vs : List Value}, V.unders n l = true → VReps g w σ l vs → VReps g w (σ.take n) l vs
  | [], vs, _, h => h
  | c :: r, vs, hu, h => by
    simp only [V.unders] at hu
    split at hu
    · rename_i hc
      obtain ⟨v, vr, rfl, h1, h2⟩ := h
      exact ⟨v, vr, rfl, underV hc h1, undersV hu h2⟩
    · cases hu
end
theorem get_take {σ : St} {n i : Nat} {ob : Ob} (h : (σ.take n)[i]? = some ob) : i < n ∧ σ[i]? = some ob := by
  rw [List.getElem?_take] at h
  split at h
  · rename_i hi; exact ⟨hi, h⟩
  · cases h
theorem take_rep {g : G} {w : World} {σ : St} (hr : Rep g w σ) {n : Nat} (hu : (σ.take n).all (Ob.under n) = true) : Rep g w (σ.take n) where
  ob i ob h := by
    obtain ⟨hi, h1⟩ := get_take h
    have h2 := hr.ob i ob h1
    have h3 : Ob.under n ob = true := List.all_eq_true.1 hu ob (List.mem_of_getElem? h)
    cases ob with
    | cells l =>
      obtain ⟨b, vs, T, fz, q1, q2, q3, q4⟩ := h2
      exact ⟨b, vs, T, fz, q1, q2, q3, undersC h3 q4⟩
    | arr wr e sz l => exact h2
    | map kv =>
      obtain ⟨b, es, clock, q1, q2, q3⟩ := h2
      exact ⟨b, es, clock, q1, q2, KVRep.turn (fun b o hz => ⟨hz, rfl⟩) q3⟩
    | bld T u x =>
      obtain ⟨b, v, q1, q2, q3⟩ := h2
      exact ⟨b, v, q1, q2, underC h3 q3⟩
    | gone => trivial
  inj i j a b k hi hj := hr.inj i j a b k (get_take hi).2 (get_take hj).2
  apart b o hz ho := by
    obtain ⟨i, ob, h1, h2⟩ := ho
    exact hr.apart b o hz ⟨i, ob, (get_take h1).2, h2⟩
  inside := hr.inside
theorem take_turn {g g' : G} {w w' : World} {σ σ' : St} (h : Turn g w σ g' w' σ') : Turn g w σ g' w' (σ'.take σ.length) where
  os := h.os
  tape := h.tape
  output := h.output
  size := h.size
  whole := h.whole
  zs := h.zs
  znew := h.znew
  onew b o hb ho := by
    obtain ⟨i, ob, h1, h2⟩ := ho
    exact h.onew b o hb ⟨i, ob, (get_take h1).2, h2⟩
  turns i ob hi := by
    obtain ⟨ob', h1, h2⟩ := h.turns i ob hi
    exact ⟨ob', by rw [take_get (lt_of_get hi)]; exact h1, h2⟩
  blks := h.blks
theorem trim_end {g : G} {w : World} {σ : St} {o : List (V × St)} {v : Value} {w' : World} (h : CallEnd g w σ (fun r σ' => (r, σ') ∈ o) v w') : CallEnd g w σ (fun r σ' => (r, σ') ∈ o.map (trim σ.length)) v w' := by
  obtain ⟨r, σ', g', h1, h2, h3, h4⟩ := h
  have hm : trim σ.length (r, σ') ∈ o.map (trim σ.length) := List.mem_map.2 ⟨_, h1, rfl⟩
  unfold trim at hm
  split at hm
  · rename_i hu
    simp only [Bool.and_eq_true] at hu
    exact ⟨r, σ'.take σ.length, g', hm, take_rep h2 hu.2, take_turn h3, underV hu.1 h4⟩
  · exact ⟨r, σ', g', hm, h2, h3, h4⟩
theorem CallAt.ends {f : FuncId} {args : List V} {σ : St} {k k' : V → St → Prop} (h : CallAt P f args σ k) (hk : ∀ g w v w', CallEnd g w σ k v w' → CallEnd g w σ k' v w') : CallAt P f args σ k' := by
  intro g w vs hr hv
  rcases h g w vs hr hv with ⟨v, w', h1, h2⟩ | ⟨h1, h2⟩
  · exact .inl ⟨v, w', h1, hk _ _ _ _ h2⟩
  · exact .inr ⟨h1, h2.mono fun e w' ⟨v, h3, h4⟩ => ⟨v, h3, hk _ _ _ _ h4⟩⟩
theorem bareF {g g' : G} {w w' : World} : ∀ {x : F} {v : Value}, x.bare = true → FRep g w x v → FRep g' w' x v
  | .bool _, v, _, h => h
  | .int _ _, v, _, h => h
  | .flo _, v, _, h => h
  | .cpl _ _, v, _, h => h
  | .str _, v, _, h => h
  | .nils, v, _, h => h
  | .nilp, v, _, h => h
  | .nilm, v, _, h => h
  | .nilf, v, _, h => h
  | .fn _, v, _, h => h
  | .sl _ _, v, hb, h => by simp [F.bare] at hb
  | .obj _, v, hb, h => by simp [F.bare] at hb
theorem bareCs {g g' : G} {w w' : World} {σ σ' : St} : ∀ {l : List C} {vs : List Value}, l.all C.bare = true → CReps g w σ l vs → CReps g' w' σ' l vs
  | [], vs, _, h => h
  | c :: r, vs, hb, h => by
    simp only [List.all_cons, Bool.and_eq_true] at hb
    obtain ⟨v, vr, rfl, h1, h2⟩ := h
    refine ⟨v, vr, rfl, ?_, bareCs hb.2 h2⟩
    cases c <;> simp only [C.bare, Bool.false_eq_true, false_and] at hb
    exact bareF (g := g) (w := w) hb.1 h1
mutual
theorem bareV {g g' : G} {w w' : World} {σ σ' : St} : ∀ {x : V} {v : Value}, x.bare = true → VRep g w σ x v → VRep g' w' σ' x v
  | .c x, v, hb, h => by
    cases x <;> simp only [V.bare, C.bare, Bool.false_eq_true] at hb
    exact bareF (g := g) (w := w) hb h
  | .a l, v, hb, h => by obtain ⟨vs, h1, h2⟩ := h; exact ⟨vs, h1, bareCs hb h2⟩
  | .t l, v, hb, h => by obtain ⟨vs, h1, h2⟩ := h; exact ⟨vs, h1, baresV hb h2⟩
theorem baresV {g g' : G} {w w' : World} {σ σ' : St} : ∀ {l : List V} {vs : List Value}, V.bares l = true → VReps g w σ l vs → VReps g' w' σ' l vs
  | [], vs, _, h => h
  | c :: r, vs, hb, h => by
    simp only [V.bares] at hb
    split at hb
    · rename_i hc
      obtain ⟨v, vr, rfl, h1, h2⟩ := h
      exact ⟨v, vr, rfl, bareV hc h1, baresV hb h2⟩
    · cases hb
end
def allZ (g : G) (w : World) : G := { g with Z := fun b _ => b < w.heap.size }
theorem allZ_rep {g : G} {w : World} {σ : St} (hr : Rep g w σ) {x : F} {v : Value} (h : FRep g w x v) : FRep (ghost0 w) w x v :=
  FRep.turn (fun b o hz => ⟨hr.inside b o hz, rfl⟩) _ _ h
theorem allZ_row {g : G} {w : World} {σ : St} (hr : Rep g w σ) {cs : List F} {b o : Nat} (h : FRow g w b o cs) : FRow (ghost0 w) w b o cs :=
  FRow.turn (fun b o hz => ⟨hr.inside b o hz, rfl⟩) _ _ _ h
theorem snap_rs {g : G} {w : World} {σ : St} (hr : Rep g w σ) {i e n sz : Nat} {l : List F} {wr : Bool} {v : Value} (hi : σ[i]? = some (.arr wr e sz l)) (hv : CRep g w σ (.rs i e n) v) : FRep (ghost0 w) w (.sl n l) v := by
  have h1 := rs_frozen (g' := allZ g w) (w' := w) hr hi hv rfl rfl fun b hb => FRow.of fun j x hx => by
    rcases hr.ob i _ hi with ⟨h1, _, _⟩ | ⟨c, vs, T, fz, rest, h1, h2, h3, h4, h5, ⟨pre, h6, h7, h8⟩, h9⟩
    · rw [hb] at h1; cases h1
    · rw [hb] at h1; cases h1
      have hj := (List.getElem?_eq_some_iff.1 hx).1
      rw [Nat.zero_add]
      refine ⟨(Array.getElem?_eq_some_iff.1 h2).1, pre[j]'(by omega), ?_, ?_⟩
      · simp only [World.cell?, h2]
        simp
        rw [← Array.getElem?_toList, h6, List.getElem?_append_left (by omega)]
        exact List.getElem?_eq_getElem (by omega)
      · have := h8 j hj (by omega)
        rw [(List.getElem?_eq_some_iff.1 hx).2] at this
        exact FRep.turn (fun b o hz => ⟨hr.inside b o hz, rfl⟩) _ _ this
  exact FRep.turn (g := allZ g w) (g' := ghost0 w) (w := w) (w' := w) (fun b o hz => ⟨hz, rfl⟩) _ _ h1
mutual
theorem snapC_ok {g : G} {w : World} {σ : St} (hr : Rep g w σ) : ∀ (n : Nat) {c c' : C} {v : Value}, snapC n σ c = some c' → CRep g w σ c v → CRep (ghost0 w) w [] c' v
  | n, .f x, c', v, h, hv => by simp only [snapC, Option.some.injEq] at h; subst h; exact allZ_rep hr hv
  | n, .ep l o, c', v, h, hv => by
    simp only [snapC, Option.some.injEq] at h
    subst h
    obtain ⟨b, p, h1, h2⟩ := hv
    exact ⟨b, p, h1, allZ_row hr h2⟩
  | n, .un, c', v, h, hv => by simp only [snapC, Option.some.injEq] at h; subst h; trivial
  | n, .rs o e m, c', v, h, hv => by
    simp only [snapC, nth_eq] at h
    split at h
    · rename_i wr e0 sz l ho
      split at h
      · rename_i he
        have := beq_nat he
        subst this
        cases h
        exact snap_rs hr ho hv
      · cases h
    · cases h
  | n + 1, .ptr o off, c', v, h, hv => by
    simp only [snapC, nth_eq] at h
    split at h
    · rename_i cs ho
      split at h
      · rename_i l hl
        split at h
        · rename_i fs hf
          have hfs := frz_spec hf
          subst hfs
          obtain ⟨b, vs, T, fz, q1, q2, q3, q4⟩ := hr.ob o _ ho
          obtain ⟨b', ob, p1, p2, p3, p4⟩ := hv
          rw [q1] at p1
          cases p1
          have hs := snapCs_ok hr n hl q4
          have hrow : FRow (ghost0 w) w b 0 fs := FRow.of fun i x hx => by
            obtain ⟨u, r1, r2⟩ := hs.get (i := i) (c := .f x) (by simp [hx])
            exact ⟨(Array.getElem?_eq_some_iff.1 q2).1, u, by rw [Nat.zero_add, cell_of q2]; exact r1, r2⟩
          split at h
          · cases h
            exact ⟨b, p2, hrow⟩
          · cases h
            exact ⟨b, 0, by rw [Nat.zero_add]; exact p2, hrow⟩
        · cases h
      · cases h
    · cases h
  | n + 1, .clo f caps, c', v, h, hv => by
    simp only [snapC] at h
    split at h
    · rename_i l hl
      cases h
      obtain ⟨vs, h1, h2⟩ := hv
      exact ⟨vs, h1, snapCs_ok hr n hl h2⟩
    · cases h
  | 0, .ptr o off, c', v, h, hv => by simp [snapC] at h
  | 0, .clo f caps, c', v, h, hv => by simp [snapC] at h
  | n, .pa .., c', v, h, hv => by cases n <;> simp [snapC] at h
  | n, .mp .., c', v, h, hv => by cases n <;> simp [snapC] at h
theorem snapCs_ok {g : G} {w : World} {σ : St} (hr : Rep g w σ) : ∀ (n : Nat) {l l' : List C} {vs : List Value}, snapCs n σ l = some l' → CReps g w σ l vs → CReps (ghost0 w) w [] l' vs
  | n, [], l', vs, h, hv => by cases n <;> (simp only [snapCs, Option.some.injEq] at h; subst h; exact hv)
  | 0, x :: r, l', vs, h, hv => by simp [snapCs] at h
  | n + 1, x :: r, l', vs, h, hv => by
    simp only [snapCs] at h
    split at h
    · cases h
    · rename_i y hy
      split at h
      · rename_i l hl
        cases h
        obtain ⟨v, vr, rfl, h1, h2⟩ := hv
        exact ⟨v, vr, rfl, snapC_ok hr n hy h1, snapCs_ok hr n hl h2⟩
      · cases h
end
theorem snapVs_ok {g : G} {w : World} {σ : St} (hr : Rep g w σ) : ∀ {l l' : List V} {vs : List Value}, snapVs σ l = some l' → VReps g w σ l vs → VReps (ghost0 w) w [] l' vs
  | [], l', vs, h, hv => by simp only [snapVs, Option.some.injEq] at h; subst h; exact hv
  | x :: r, l', vs, h, hv => by
    simp only [snapVs] at h
    split at h
    · cases h
    · rename_i y hy
      split at h
      · rename_i l hl
        cases h
        obtain ⟨v, vr, rfl, h1, h2⟩ := hv
        refine ⟨v, vr, rfl, ?_, snapVs_ok hr hl h2⟩
        unfold snapV at hy
        split at hy
        · split at hy
          · rename_i c hc; cases hy; exact snapC_ok hr _ hc h1
          · cases hy
        · split at hy
          · rename_i c hc; cases hy; obtain ⟨us, h3, h4⟩ := h1; exact ⟨us, h3, snapCs_ok hr _ hc h4⟩
          · cases hy
        · cases hy
      · cases h
theorem below_of_turn {w w' : World} {g' : G} {σ' : St} {g0 : G} (h : Turn g0 w [] g' w' σ') : Below w.heap.size w w' :=
  ⟨h.os, h.tape, h.output, h.size, fun b hb => h.whole b hb fun o ho => by
    obtain ⟨i, ob, h7, _⟩ := own_iff.1 ho
    simp at h7⟩
theorem barely_spec {σ : St} : ∀ {l o : List (V × St)}, barely σ l = some o → ∀ p ∈ l, p.1.bare = true ∧ (p.1, σ) ∈ o
  | [], o, h, p, hp => by simp at hp
  | (v, τ) :: r, o, h, p, hp => by
    simp only [barely] at h
    split at h
    · rename_i l' hb hl
      cases h
      rcases List.mem_cons.1 hp with rfl | hp
      · exact ⟨hb, by simp⟩
      · obtain ⟨a, b⟩ := barely_spec hl p hp
        exact ⟨a, List.mem_cons_of_mem _ b⟩
    · cases h
theorem call_look {f : FuncId} {args args' : List V} {σ : St} (hs : snapVs σ args = some args') {o o' : List (V × St)} (h : CallAt P f args' [] fun r σ' => (r, σ') ∈ o) (hb : barely σ o = some o') : CallAt P f args σ fun r σ' => (r, σ') ∈ o' := by
  intro g w vs hr hv
  have hend : ∀ v w', CallEnd (ghost0 w) w [] (fun r σ' => (r, σ') ∈ o) v w' → CallEnd g w σ (fun r σ' => (r, σ') ∈ o') v w' := by
    rintro v w' ⟨r, σ1, g1, h1, h2, h3, h4⟩
    obtain ⟨b1, b2⟩ := barely_spec hb _ h1
    obtain ⟨t1, t2⟩ := turn_of_below hr (below_of_turn h3)
    exact ⟨r, σ, g, b2, t1, t2, bareV b1 h4⟩
  rcases h (ghost0 w) w vs (rep0 w) (snapVs_ok hr hs hv) with ⟨v, w', h1, h2⟩ | ⟨h1, h2⟩
  · exact .inl ⟨v, w', h1, hend v w' h2⟩
  · exact .inr ⟨h1, h2.mono fun e w' ⟨v, h3, h4⟩ => ⟨v, h3, hend v w' h4⟩⟩
end
end Go.Dm
namespace Go.Dm
open Go.RowKit
set_option linter.unusedVariables false
set_option linter.unusedSimpArgs false
section
variable {P : Program} {tb : Tab}
theorem at_self {w : World} {b : Nat} {O : Obj} (h : w.heap[b]? = some O) : w.at b O = w := by
  have hlt := (Array.getElem?_eq_some_iff.1 h).1
  have e : w.heap.setIfInBounds b O = w.heap := by
    apply Array.ext (by simp)
    intro i h1 h2
    rw [Array.getElem_setIfInBounds]
    split
    · rename_i hi; subst hi; exact ((Array.getElem?_eq_some_iff.1 h).2).symm
    · rfl
  show { w with heap := w.heap.setIfInBounds b O } = w
  rw [e]
theorem recast {g : G} {w : World} {σ : St} (hr : Rep g w σ) {i b : Nat} {l l' : List C} {vs : Array Value} {T : TypeId} {fz : Nat × Nat} (hi : σ[i]? = some (.cells l)) (hb : g.blk i = some b) (hO : w.heap[b]? = some (.cells vs T fz)) (hf : Free vs.size fz)
    (hl : CReps g w σ l' vs.toList) : Rep g w (σ.set i (.cells l')) ∧ Turn g w σ g w (σ.set i (.cells l')) := by
  have h := write_cells (vs' := vs.toList) hr hi hb hO hf (by simp) hl
  simp only [Array.toArray_toList] at h
  rw [at_self hO] at h
  exact h
mutual
theorem hardC_ok : ∀ (n : Nat) {g : G} {w : World} {σ σ' : St} {c c' : C} {v : Value}, Rep g w σ → hardC n c σ = some (c', σ') → CRep g w σ c v → ∃ g', Rep g' w σ' ∧ Turn g w σ g' w σ' ∧ CRep g' w σ' c' v
  | n, g, w, σ, σ', .f x, c', v, hr, h, hv => by cases n <;> (simp only [hardC, Option.some.injEq] at h; cases h; exact ⟨g, hr, Turn.refl _ _ _, hv⟩)
  | n, g, w, σ, σ', .ep l o, c', v, hr, h, hv => by cases n <;> (simp only [hardC, Option.some.injEq] at h; cases h; exact ⟨g, hr, Turn.refl _ _ _, hv⟩)
  | n, g, w, σ, σ', .un, c', v, hr, h, hv => by cases n <;> (simp only [hardC, Option.some.injEq] at h; cases h; exact ⟨g, hr, Turn.refl _ _ _, hv⟩)
  | n, g, w, σ, σ', .rs o e m, c', v, hr, h, hv => by
    have h' : (match nth σ o with
      | some (.arr _ e0 sz l) => (match Nat.beq e e0 with | true => some (C.f (.sl m l), put σ o (.arr false e0 sz l)) | false => none)
      | _ => none) = some (c', σ') := by cases n <;> (simp only [hardC] at h; exact h)
    simp only [nth_eq, put_eq] at h'
    split at h'
    · rename_i wr e0 sz l ho
      split at h'
      · rename_i he
        have := beq_nat he
        subst this
        cases h'
        obtain ⟨g1, k1, k2, k3, k4, k5⟩ := freeze_arr hr ho
        exact ⟨g1, k1, k2, rs_frozen (w' := w) hr ho hv k3 k4 k5⟩
      · cases h'
    · cases h'
  | n + 1, g, w, σ, σ', .ptr o off, c', v, hr, h, hv => by
    simp only [hardC, nth_eq, put_eq] at h
    split at h
    · split at h
      · rename_i cs ho
        split at h
        · rename_i l σ1 hl
          split at h
          · rename_i fs cs2 hf ho2
            cases h
            have hfs := frz_spec hf
            subst hfs
            obtain ⟨b, vs, T, fz, q1, q2, q3, q4⟩ := hr.ob o _ ho
            obtain ⟨b', ob, p1, p2, p3, p4⟩ := hv
            rw [q1] at p1
            cases p1
            obtain ⟨g1, k1, k2, k3⟩ := hardCs_ok n hr hl q4
            have hb1 : g1.blk o = some b := (k2.blks o _ ho rfl).trans q1
            obtain ⟨m1, m2⟩ := recast k1 ho2 hb1 q2 q3 k3
            have hget : (σ1.set o (.cells (fs.map .f)))[o]? = some (.cells (fs.map .f)) := by
              rw [List.getElem?_set, if_pos rfl, if_pos (lt_of_get ho2)]
            obtain ⟨g2, r1, r2, r3, r4, r5⟩ := freeze_obj m1 hget hb1
            rw [List.set_set] at r1 r2
            exact ⟨g2, r1, k2.trans (m2.trans r2), ⟨b, p2, r5⟩⟩
          · cases h
        · cases h
      · cases h
    · cases h
  | n + 1, g, w, σ, σ', .clo f caps, c', v, hr, h, hv => by
    simp only [hardC] at h
    split at h
    · rename_i l σ1 hl
      cases h
      obtain ⟨vs, h1, h2⟩ := hv
      obtain ⟨g1, k1, k2, k3⟩ := hardCs_ok n hr hl h2
      exact ⟨g1, k1, k2, ⟨vs, h1, k3⟩⟩
    · cases h
  | 0, g, w, σ, σ', .ptr o off, c', v, hr, h, hv => by simp [hardC] at h
  | 0, g, w, σ, σ', .clo f caps, c', v, hr, h, hv => by simp [hardC] at h
  | n, g, w, σ, σ', .pa .., c', v, hr, h, hv => by cases n <;> simp [hardC] at h
  | n, g, w, σ, σ', .mp .., c', v, hr, h, hv => by cases n <;> simp [hardC] at h
theorem hardCs_ok : ∀ (n : Nat) {g : G} {w : World} {σ σ' : St} {l l' : List C} {vs : List Value}, Rep g w σ → hardCs n l σ = some (l', σ') → CReps g w σ l vs → ∃ g', Rep g' w σ' ∧ Turn g w σ g' w σ' ∧ CReps g' w σ' l' vs
  | n, g, w, σ, σ', [], l', vs, hr, h, hv => by cases n <;> (simp only [hardCs, Option.some.injEq] at h; cases h; exact ⟨g, hr, Turn.refl _ _ _, hv⟩)
  | 0, g, w, σ, σ', x :: r, l', vs, hr, h, hv => by simp [hardCs] at h
  | n + 1, g, w, σ, σ', x :: r, l', vs, hr, h, hv => by
    simp only [hardCs] at h
    split at h
    · cases h
    · rename_i y σ1 hy
      split at h
      · rename_i l2 σ2 hl
        cases h
        obtain ⟨v, vr, rfl, h1, h2⟩ := hv
        obtain ⟨g1, k1, k2, k3⟩ := hardC_ok n hr hy h1
        obtain ⟨g2, m1, m2, m3⟩ := hardCs_ok n k1 hl (CReps.turn k2 _ _ h2)
        exact ⟨g2, m1, k2.trans m2, ⟨v, vr, rfl, CRep.turn m2 _ _ k3, m3⟩⟩
      · cases h
end
mutual
theorem hardV_ok : ∀ {g : G} {w : World} {σ σ' : St} {c c' : V} {v : Value}, Rep g w σ → hardV c σ = some (c', σ') → VRep g w σ c v → ∃ g', Rep g' w σ' ∧ Turn g w σ g' w σ' ∧ VRep g' w σ' c' v
  | g, w, σ, σ', .c x, c', v, hr, h, hv => by
    simp only [hardV] at h
    split at h
    · rename_i y σ1 hy; cases h; exact hardC_ok _ hr hy hv
    · cases h
  | g, w, σ, σ', .a l, c', v, hr, h, hv => by
    simp only [hardV] at h
    split at h
    · rename_i y σ1 hy
      cases h
      obtain ⟨vs, h1, h2⟩ := hv
      obtain ⟨g1, k1, k2, k3⟩ := hardCs_ok _ hr hy h2
      exact ⟨g1, k1, k2, ⟨vs, h1, k3⟩⟩
    · cases h
  | g, w, σ, σ', .t l, c', v, hr, h, hv => by
    simp only [hardV] at h
    split at h
    · rename_i y σ1 hy
      cases h
      obtain ⟨vs, h1, h2⟩ := hv
      obtain ⟨g1, k1, k2, k3⟩ := hardVs_ok hr hy h2
      exact ⟨g1, k1, k2, ⟨vs, h1, k3⟩⟩
    · cases h
theorem hardVs_ok : ∀ {g : G} {w : World} {σ σ' : St} {l l' : List V} {vs : List Value}, Rep g w σ → hardVs l σ = some (l', σ') → VReps g w σ l vs → ∃ g', Rep g' w σ' ∧ Turn g w σ g' w σ' ∧ VReps g' w σ' l' vs
  | g, w, σ, σ', [], l', vs, hr, h, hv => by simp only [hardVs, Option.some.injEq] at h; cases h; exact ⟨g, hr, Turn.refl _ _ _, hv⟩
  | g, w, σ, σ', x :: r, l', vs, hr, h, hv => by
    simp only [hardVs] at h
    split at h
    · cases h
    · rename_i y σ1 hy
      split at h
      · rename_i l2 σ2 hl
        cases h
        obtain ⟨v, vr, rfl, h1, h2⟩ := hv
        obtain ⟨g1, k1, k2, k3⟩ := hardV_ok hr hy h1
        obtain ⟨g2, m1, m2, m3⟩ := hardVs_ok k1 hl (VReps.turn k2 _ _ h2)
        exact ⟨g2, m1, k2.trans m2, ⟨v, vr, rfl, VRep.turn m2 _ _ k3, m3⟩⟩
      · cases h
end
section
variable {g g' : G} {w w' : World} {σ σ' : St}
def Keeps (g : G) (w : World) (g' : G) (w' : World) : Prop := ∀ b o, g.Z b o → g'.Z b o ∧ w'.cell? ⟨b, o, none⟩ = w.cell? ⟨b, o, none⟩
mutual
theorem freeC (hz : Keeps g w g' w') : ∀ {c : C} {v : Value}, c.free = true → CRep g w σ c v → CRep g' w' σ' c v
  | .f x, v, _, h => FRep.turn hz _ _ h
  | .ep l o, v, _, h => by obtain ⟨b, p, h1, h2⟩ := h; exact ⟨b, p, h1, FRow.turn hz _ _ _ h2⟩
  | .un, v, _, h => trivial
  | .clo f caps, v, hf, h => by obtain ⟨vs, h1, h2⟩ := h; exact ⟨vs, h1, freeCs hz hf h2⟩
  | .ptr .., v, hf, h => by simp [C.free] at hf
  | .pa .., v, hf, h => by simp [C.free] at hf
  | .rs .., v, hf, h => by simp [C.free] at hf
  | .mp .., v, hf, h => by simp [C.free] at hf
theorem freeCs (hz : Keeps g w g' w') : ∀ {l : List C} {vs : List Value}, C.frees l = true → CReps g w σ l vs → CReps g' w' σ' l vs
  | [], vs, _, h => h
  | c :: r, vs, hf, h => by
    simp only [C.frees] at hf
    split at hf
    · rename_i hc
      obtain ⟨v, vr, rfl, h1, h2⟩ := h
      exact ⟨v, vr, rfl, freeC hz hc h1, freeCs hz hf h2⟩
    · cases hf
end
mutual
theorem freeV (hz : Keeps g w g' w') : ∀ {c : V} {v : Value}, c.free = true → VRep g w σ c v → VRep g' w' σ' c v
  | .c x, v, hf, h => freeC hz hf h
  | .a l, v, hf, h => by obtain ⟨vs, h1, h2⟩ := h; exact ⟨vs, h1, freeCs hz hf h2⟩
  | .t l, v, hf, h => by obtain ⟨vs, h1, h2⟩ := h; exact ⟨vs, h1, freeVs hz hf h2⟩
theorem freeVs (hz : Keeps g w g' w') : ∀ {l : List V} {vs : List Value}, V.frees l = true → VReps g w σ l vs → VReps g' w' σ' l vs
  | [], vs, _, h => h
  | c :: r, vs, hf, h => by
    simp only [V.frees] at hf
    split at hf
    · rename_i hc
      obtain ⟨v, vr, rfl, h1, h2⟩ := h
      exact ⟨v, vr, rfl, freeV hz hc h1, freeVs hz hf h2⟩
    · cases hf
end
end
theorem hardly_spec {σ : St} : ∀ {l o : List (V × St)}, hardly σ l = some o → ∀ p ∈ l, ∃ u τ, hardV p.1 p.2 = some (u, τ) ∧ u.free = true ∧ (u, σ) ∈ o
  | [], o, h, p, hp => by simp at hp
  | (v, τ) :: r, o, h, p, hp => by
    simp only [hardly] at h
    split at h
    · cases h
    · rename_i u τ' hu
      split at h
      · rename_i l' hf hl
        cases h
        rcases List.mem_cons.1 hp with rfl | hp
        · exact ⟨u, τ', hu, hf, by simp⟩
        · obtain ⟨u', τ2, a, b, c⟩ := hardly_spec hl p hp
          exact ⟨u', τ2, a, b, List.mem_cons_of_mem _ c⟩
      · cases h
theorem call_from {f : FuncId} {args l : List V} {σ σ' : St} (hst : ∀ g w vs, Rep g w σ → VReps g w σ args vs → ∃ g1, Rep g1 w σ' ∧ Turn g w σ g1 w σ' ∧ VReps g1 w σ' l vs) (hf : V.frees l = true) {o o' : List (V × St)} (h : CallAt P f l [] fun r σ' => (r, σ') ∈ o) (hh : hardly σ' o = some o') :
    CallAt P f args σ fun r σ' => (r, σ') ∈ o' := by
  intro g w vs hr hv
  obtain ⟨g1, r1, t1, v1⟩ := hst g w vs hr hv
  let g0 : G := ⟨g1.Z, fun _ => none, fun _ => 0⟩
  have rep0 : Rep g0 w [] := ⟨fun i ob h => by simp at h, fun i j a b k h => by simp at h, fun b o _ ho => by obtain ⟨i, ob, h, _⟩ := own_iff.1 ho; simp at h, r1.inside⟩
  have v0 : VReps g0 w [] l vs := freeVs (g := g1) (g' := g0) (w := w) (w' := w) (fun b o hz => ⟨hz, rfl⟩) hf v1
  have hend : ∀ v w', CallEnd g0 w [] (fun r σ' => (r, σ') ∈ o) v w' → CallEnd g w σ (fun r σ' => (r, σ') ∈ o') v w' := by
    rintro v w' ⟨r, σ2, g2, h1, h2, h3, h4⟩
    obtain ⟨u, τ, e1, e2, e3⟩ := hardly_spec hh _ h1
    obtain ⟨g3, k1, k2, k3⟩ := hardV_ok h2 e1 h4
    have T := h3.trans k2
    have hb := below_of_turn T
    let g' : G := ⟨fun b o => g1.Z b o ∨ (w.heap.size ≤ b ∧ g3.Z b o), g1.blk, g1.cap⟩
    have hT : Turn g1 w σ' g' w' σ' :=
      { os := hb.os, tape := hb.tape, output := hb.output, size := hb.size, whole := fun b h _ => hb.block b h, zs := fun b o hz => ⟨.inl hz, (T.zs b o hz).2⟩,
        znew := fun b o hlt hz => by
          rcases hz with hz | ⟨hz, _⟩
          · exact .inl hz
          · omega
        onew := fun _ _ _ h => h,
        turns := fun i ob h => ⟨ob, h, by cases ob <;> simp [ObTurn, g']⟩,
        blks := fun _ _ _ _ => rfl }
    have hR : Rep g' w' σ' := by
      refine ⟨fun i ob h => ?_, r1.inj, fun b o hz ho => ?_, fun b o hz => ?_⟩
      · by_cases hl : live ob = true
        · exact (r1.ob i ob h).keep hT (fun b hbk => hb.block b ((r1.ob i ob h).inside hl hbk)) rfl rfl
        · cases ob <;> simp_all [live, ObRep]
      · have ho' : Own g1 σ' b o := ho
        rcases hz with hz | ⟨hz, _⟩
        · exact r1.apart b o hz ho'
        · have := Own.inside r1 ho'; omega
      · rcases hz with hz | ⟨_, hz⟩
        · exact Nat.lt_of_lt_of_le (r1.inside b o hz) hb.size
        · exact k1.inside b o hz
    refine ⟨u, σ', g', e3, hR, t1.trans hT, freeV (g := g3) (w := w') (fun b o hz => ⟨?_, rfl⟩) e2 k3⟩
    by_cases hlt : w.heap.size ≤ b
    · exact .inr ⟨hlt, hz⟩
    · rcases T.znew b o (by omega) hz with h | h
      · exact .inl h
      · obtain ⟨i, ob, h7, _⟩ := own_iff.1 h
        simp at h7
  rcases h g0 w vs rep0 v0 with ⟨v, w', h1, h2⟩ | ⟨h1, h2⟩
  · exact .inl ⟨v, w', h1, hend v w' h2⟩
  · exact .inr ⟨h1, h2.mono fun e w' ⟨v, h3, h4⟩ => ⟨v, h3, hend v w' h4⟩⟩
theorem call_hard {f : FuncId} {args l : List V} {σ σ' : St} (hs : hardVs args σ = some (l, σ')) (hf : V.frees l = true) {o o' : List (V × St)} (h : CallAt P f l [] fun r σ' => (r, σ') ∈ o) (hh : hardly σ' o = some o') :
    CallAt P f args σ fun r σ' => (r, σ') ∈ o' := call_from (fun g w vs hr hv => hardVs_ok hr hs hv) hf h hh
theorem call_free {f : FuncId} {args : List V} {σ : St} (hf : V.frees args = true) {o o' : List (V × St)} (h : CallAt P f args [] fun r σ' => (r, σ') ∈ o) (hh : hardly σ o = some o') :
    CallAt P f args σ fun r σ' => (r, σ') ∈ o' := call_from (fun g w vs hr hv => ⟨g, hr, Turn.refl _ _ _, hv⟩) hf h hh
theorem hardly_still {σ : St} : ∀ {l o : List (V × St)}, hardly σ l = some o → ∀ p ∈ o, p.2 = σ
  | [], o, h, p, hp => by simp only [hardly, Option.some.injEq] at h; subst h; simp at hp
  | (v, τ) :: r, o, h, p, hp => by
    simp only [hardly] at h
    split at h
    · cases h
    · split at h
      · rename_i l' hb hl
        cases h
        rcases List.mem_cons.1 hp with rfl | hp
        · rfl
        · exact hardly_still hl p hp
      · cases h
def SpecOk (P : Program) (E : Env) : Prop := ∀ f s, E.spec f = some s → ∀ l σ o, s l σ = some o → CallAt P f l σ fun r σ' => (r, σ') ∈ o
def isPs : Mode → Bool
  | .ps => true
  | .pg => true
  | _ => false
def psOf (E : Env) (f : FuncId) : Bool := match E.spec f with | some _ => false | none => isPs (E.mode f)
theorem barely_still {σ : St} : ∀ {l o : List (V × St)}, barely σ l = some o → ∀ p ∈ o, p.2 = σ
  | [], o, h, p, hp => by simp only [barely, Option.some.injEq] at h; subst h; simp at hp
  | (v, τ) :: r, o, h, p, hp => by
    simp only [barely] at h
    split at h
    · rename_i l' hb hl
      cases h
      rcases List.mem_cons.1 hp with rfl | hp
      · rfl
      · exact barely_still hl p hp
    · cases h
theorem nub_sub {α : Type} {eq : α → α → Bool} : ∀ {l : List α} {x : α}, x ∈ nub eq l → x ∈ l
  | [], x, h => h
  | [a], x, h => h
  | a :: b :: r, x, h => by
    simp only [nub] at h
    split at h
    · exact List.mem_cons_of_mem _ (nub_sub h)
    · rcases List.mem_cons.1 h with rfl | h
      · simp
      · exact List.mem_cons_of_mem _ (nub_sub h)
def MemoOk (P : Program) (E : Env) : Prop := ∀ c ∈ E.memo, CallAt P c.1 c.2.1 c.2.2.1 (fun r σ' => (r, σ') ∈ c.2.2.2) ∧ (psOf E c.1 = true → ∀ p ∈ c.2.2.2, p.2 = c.2.2.1)
theorem memoAt_spec {f : FuncId} {args : List V} {σ : St} {o : List (V × St)} : ∀ {l : List (Nat × List V × St × List (V × St))}, memoAt f args σ l = some o → (f, args, σ, o) ∈ l
  | [], h => by simp [memoAt] at h
  | (f', args', σ', o') :: r, h => by
    simp only [memoAt] at h
    split at h
    · exact List.mem_cons_of_mem _ (memoAt_spec h)
    · rename_i e1
      split at h
      · exact List.mem_cons_of_mem _ (memoAt_spec h)
      · rename_i e2
        split at h
        · rename_i e3
          cases h
          rw [← beq_nat e1, V.eqbs_ok e2, stEqb_ok e3]
          simp
        · exact List.mem_cons_of_mem _ (memoAt_spec h)
theorem xcall_still {E : Env} (hM : MemoOk P E) : ∀ (n : Nat), CallStill (psOf E) (xcall P tb E n)
  | 0 => fun f _ l σ o h => by simp [xcall] at h
  | n + 1 => fun f hf l σ o h p hp => by
    simp only [xcall] at h
    split at h
    · rename_i o1 hmm
      cases h
      exact (hM _ (memoAt_spec hmm)).2 hf p hp
    unfold psOf at hf
    split at h
    · rename_i s hs; rw [hs] at hf; cases hf
    · rename_i hs
      rw [hs] at hf
      simp only at hf
      split at h
      · cases h
      · split at h
        · rename_i hm; rw [hm] at hf; cases hf
        · split at h
          · cases h
          · split at h
            · split at h
              · cases h
              · rename_i o1 hb
                cases h
                exact barely_still hb p (nub_sub hp)
            · cases h
        · rename_i hm; rw [hm] at hf; cases hf
        · split at h
          · cases h
          · split at h
            · split at h
              · cases h
              · rename_i o1 hb
                cases h
                exact hardly_still hb p (nub_sub hp)
            · cases h
theorem xcall_ok (hm : P.follows .mixedOrders = true) (tok : TabOk P tb) {E : Env} (hE : E.stl = stlOf tb (psOf E)) (hs : SpecOk P E) (hM : MemoOk P E) : ∀ (n : Nat), CallOk P (xcall P tb E n)
  | 0 => fun f l σ o h => by simp [xcall] at h
  | n + 1 => fun f l σ o h => by
    have ih := xcall_ok hm tok hE hs hM n
    have ihs := xcall_still (P := P) (tb := tb) (E := E) hM n
    simp only [xcall, hE] at h
    split at h
    · rename_i o1 hmm
      cases h
      exact (hM _ (memoAt_spec hmm)).1
    split at h
    · rename_i s hsp; exact hs f s hsp l σ o h
    · split at h
      · cases h
      · rename_i F hF
        split at h
        · split at h
          · cases h
          · rename_i o1 hb
            cases h
            exact ((xbody_ok hm tok ih ihs hF hb).ends fun g w v w' he => trim_end he).mono fun r σ' hh => nub_mem vsEqb_ok hh
        · split at h
          · cases h
          · rename_i l' hl
            split at h
            · rename_i o1 hfr hb
              split at h
              · cases h
              · rename_i o2 hba
                cases h
                exact (call_look hl (xbody_ok hm tok ih ihs hF hb) hba).mono fun r σ' hh => nub_mem vsEqb_ok hh
            · cases h
        · split at h
          · cases h
          · rename_i l' σ1 hl
            split at h
            · rename_i o1 hfr hb
              split at h
              · cases h
              · rename_i o2 hba
                cases h
                exact (call_hard hl hfr (xbody_ok hm tok ih ihs hF hb) hba).mono fun r σ' hh => nub_mem vsEqb_ok hh
            · cases h
        · split at h
          · cases h
          · rename_i hfr
            split at h
            · rename_i o1 hb
              split at h
              · cases h
              · rename_i o2 hba
                cases h
                exact (call_free hfr (xbody_ok hm tok ih ihs hF hb) hba).mono fun r σ' hh => nub_mem vsEqb_ok hh
            · cases h
end
end Go.Dm
namespace Go.Dm
set_option linter.unusedVariables false
abbrev Spec := List V → St → Rs (V × St)
def spSame : Spec := fun l σ => match l with | [x] => some [(x, σ)] | _ => none
def idxFrom (c : Nat) : List UInt8 → Nat → Int
  | [], _ => -1
  | x :: r, i => match Nat.beq x.toNat c with | true => i | false => idxFrom c r (i + 1)
def spIndex : Spec := fun l σ =>
  match l with
  | [.c (.f (.str s)), .c (.f (.int .u8 (.ofNat c)))] => (match Nat.blt c 256 with | true => some [(vint' .i64 (idxFrom c s 0), σ)] | false => none)
  | _ => none
def cntOf (c : Nat) : List UInt8 → Nat → Nat
  | [], n => n
  | x :: r, n => match Nat.beq x.toNat c with | true => cntOf c r (n + 1) | false => cntOf c r n
def spCount : Spec := fun l σ =>
  match l with
  | [.c (.f (.str s)), .c (.f (.int .u8 (.ofNat c)))] => (match Nat.blt c 256 with | true => some [(vint' .i64 (cntOf c s 0), σ)] | false => none)
  | _ => none
theorem find_range {s : List UInt8} {c : UInt8} : ∀ (k n : Nat), k + n = s.length → ((match ((List.range' k n).find? fun i => (⟨s.toArray⟩ : ByteArray)[i]! == c) with | some i => (i : Int) | none => -1) = idxFrom c.toNat (s.drop k) k)
  | k, 0, h => by
    have : s.drop k = [] := List.drop_eq_nil_of_le (by omega)
    rw [this]
    rfl
  | k, n + 1, h => by
    have hk : k < s.length := by omega
    have hg : (⟨s.toArray⟩ : ByteArray)[k]! = s[k] := by
      rw [getElem!_pos _ _ (by simpa [ByteArray.size] using hk)]
      rfl
    rw [List.range'_succ, List.find?_cons, hg, List.drop_eq_getElem_cons hk]
    simp only [idxFrom]
    by_cases e : s[k] = c
    · subst e
      rw [Nat.beq_refl]
      simp
    · have h1 : (s[k] == c) = false := by simpa using e
      have h2 : Nat.beq s[k].toNat c.toNat = false := nbeq_false fun h => e (UInt8.toNat_inj.1 h)
      rw [h1, h2]
      exact find_range (k + 1) n (by omega)
theorem firstIdx_eq (s : List UInt8) (c : UInt8) : firstIdx ⟨s.toArray⟩ c = idxFrom c.toNat s 0 := by
  have := find_range (s := s) (c := c) 0 s.length (by omega)
  unfold firstIdx
  rw [List.range_eq_range']
  exact this
theorem count_eq (c : UInt8) : ∀ (s : List UInt8) (n : Nat), n + s.count c = cntOf c.toNat s n
  | [], n => rfl
  | x :: r, n => by
    simp only [List.count_cons, cntOf]
    by_cases e : x = c
    · subst e
      rw [Nat.beq_refl]
      have := count_eq x r (n + 1)
      simp only [beq_self_eq_true, if_true]
      omega
    · have h1 : (x == c) = false := by simpa using e
      have h2 : Nat.beq x.toNat c.toNat = false := nbeq_false fun h => e (UInt8.toNat_inj.1 h)
      rw [h1, h2]
      simpa using count_eq c r n
section
variable {P : Program}
structure Ext (P : Program) (f : FuncId) (e : Array Value → Sem Value) : Prop where
  run : ∀ (args : Array Value) (w : World), (callFunc f args).run P w = ((e args).run P w).andThen fun v w' => .ok (.value v) w'
theorem ext_of {f : FuncId} {fn : Func} {e : Array Value → Sem Value} (hf : P.funcs[f]? = some fn) (hname : (fn.name == "runtime.NumGoroutine") = false)
    (hb : fn.body.isNone = true) (hn : Extern.findNext fn = none) (he : Extern.find fn = some e) : Ext P f e := ⟨fun args w => run_callFunc_extern hf hname hb hn he args w⟩
theorem ext_at {f : FuncId} {e : Array Value → Sem Value} (he : Ext P f e) {l : List V} {σ : St} {r : V} (h : ∀ g w vs, Rep g w σ → VReps g w σ l vs → ∃ v, (e vs.toArray).run P w = .ok v w ∧ VRep g w σ r v) {k : V → St → Prop} (hk : k r σ) : CallAt P f l σ k := by
  intro g w vs hr hv
  obtain ⟨v, h1, h2⟩ := h g w vs hr hv
  exact .inl ⟨v, w, by rw [he.run, h1]; rfl, r, σ, g, hk, hr, Turn.refl _ _ _, h2⟩
theorem same_ok {f : FuncId} (he : Ext P f Extern.AbiNoEscape.same) {l : List V} {σ : St} {o : List (V × St)} (h : spSame l σ = some o) : CallAt P f l σ fun r σ' => (r, σ') ∈ o := by
  unfold spSame at h
  split at h
  · rename_i x
    cases h
    refine ext_at he (r := x) (fun g w vs hr hv => ?_) (List.mem_singleton.2 rfl)
    obtain ⟨v, vr, rfl, h1, h2⟩ := hv
    simp only [VReps] at h2; subst h2
    exact ⟨v, rfl, h1⟩
  · cases h
theorem byte_back {c : Nat} (h : Nat.blt c 256 = true) : ((c : Int).toNat.toUInt8).toNat = c := by
  have := blt_nat h
  simp
  omega
theorem index_ok' {f : FuncId} (he : Ext P f Extern.BytealgIndexByte.indexByte) {l : List V} {σ : St} {o : List (V × St)} (h : spIndex l σ = some o) : CallAt P f l σ fun r σ' => (r, σ') ∈ o := by
  unfold spIndex at h
  split at h
  · rename_i s c
    split at h
    · rename_i hc
      cases h
      refine ext_at he (r := vint' .i64 (idxFrom c s 0)) (fun g w vs hr hv => ?_) (List.mem_singleton.2 rfl)
      obtain ⟨v, vr, rfl, h1, u, vr', rfl, h2, h3⟩ := hv
      simp only [VReps] at h3; subst h3
      have e1 : v = .string ⟨s.toArray⟩ := h1
      have e2 : u = .int .u8 (c : Nat) := h2
      subst e1 e2
      refine ⟨_, run_indexByte_string _ _ w, ?_⟩
      rw [firstIdx_eq, byte_back hc]
      rfl
    · cases h
  · cases h
theorem count_ok {f : FuncId} (he : Ext P f Extern.BytealgCount.count) {l : List V} {σ : St} {o : List (V × St)} (h : spCount l σ = some o) : CallAt P f l σ fun r σ' => (r, σ') ∈ o := by
  unfold spCount at h
  split at h
  · rename_i s c
    split at h
    · rename_i hc
      cases h
      refine ext_at he (r := vint' .i64 (cntOf c s 0)) (fun g w vs hr hv => ?_) (List.mem_singleton.2 rfl)
      obtain ⟨v, vr, rfl, h1, u, vr', rfl, h2, h3⟩ := hv
      simp only [VReps] at h3; subst h3
      have e1 : v = .string ⟨s.toArray⟩ := h1
      have e2 : u = .int .u8 (c : Nat) := h2
      subst e1 e2
      refine ⟨_, Lib.run_countString _ _ w, ?_⟩
      have := count_eq (c : Int).toNat.toUInt8 s 0
      rw [byte_back hc, Nat.zero_add] at this
      rw [← this]
      rfl
    · cases h
  · cases h
def specOf (l : List (Nat × Spec)) (f : FuncId) : Option Spec :=
  match l with
  | [] => none
  | (i, s) :: r => match Nat.beq i f with | true => some s | false => specOf r f
theorem specOf_ok {E : Env} {l : List (Nat × Spec)} (hE : E.spec = specOf l) (h : ∀ p ∈ l, ∀ a σ o, p.2 a σ = some o → CallAt P p.1 a σ fun r σ' => (r, σ') ∈ o) : SpecOk P E := by
  intro f s hs a σ o ho
  rw [hE] at hs
  clear hE
  induction l with
  | nil => simp [specOf] at hs
  | cons p r ih =>
    simp only [specOf] at hs
    split at hs
    · rename_i e
      have := beq_nat e
      cases hs
      rw [← this]
      exact h p (by simp) a σ o ho
    · exact ih (fun q hq => h q (List.mem_cons_of_mem _ hq)) hs
def Env.with (E : Env) (L : List (Nat × List V × St × List (V × St))) : Env := { E with memo := L }
theorem memo_nil {E : Env} : MemoOk P (E.with []) := fun c hc => by cases hc
theorem memo_cons (hm : P.follows .mixedOrders = true) {tb : Tab} (tok : TabOk P tb) {E : Env} (hE : E.stl = stlOf tb (psOf E)) (hs : SpecOk P E) {L : List (Nat × List V × St × List (V × St))} (hM : MemoOk P (E.with L))
    {n : Nat} {c : Nat × List V × St × List (V × St)} (h : xcall P tb (E.with L) n c.1 c.2.1 c.2.2.1 = some c.2.2.2) : MemoOk P (E.with (c :: L)) := by
  intro d hd
  rcases List.mem_cons.1 hd with rfl | hd
  · exact ⟨xcall_ok hm tok (E := E.with L) hE hs hM n _ _ _ _ h, fun hp p hpo => xcall_still (E := E.with L) hM n _ hp _ _ _ h p hpo⟩
  · exact hM d hd
end
end Go.Dm
namespace Go.Dm
open Go.RowKit
set_option linter.unusedVariables false
set_option linter.unusedSimpArgs false
mutual
def C.ren (ρ : Nat → Nat) : C → C
  | .f x => .f x
  | .ep l n => .ep l n
  | .clo fn caps => .clo fn (C.rens ρ caps)
  | .un => .un
  | .ptr o k => .ptr (ρ o) k
  | .pa o e k => .pa (ρ o) e k
  | .rs o e n => .rs (ρ o) e n
  | .mp o => .mp (ρ o)
def C.rens (ρ : Nat → Nat) : List C → List C
  | [] => []
  | x :: r => C.ren ρ x :: C.rens ρ r
end
mutual
def V.ren (ρ : Nat → Nat) : V → V
  | .c x => .c (x.ren ρ)
  | .a l => .a (C.rens ρ l)
  | .t l => .t (V.rens ρ l)
def V.rens (ρ : Nat → Nat) : List V → List V
  | [] => []
  | x :: r => V.ren ρ x :: V.rens ρ r
end
def Ob.ren (ρ : Nat → Nat) : Ob → Ob
  | .cells l => .cells (C.rens ρ l)
  | .bld T u x => .bld T u (x.ren ρ)
  | .arr w e sz l => .arr w e sz l
  | .map kv => .map kv
  | .gone => .gone
mutual
def C.refs : C → List Nat → List Nat
  | .f _, acc => acc
  | .ep _ _, acc => acc
  | .clo _ caps, acc => C.refss caps acc
  | .un, acc => acc
  | .ptr o _, acc => o :: acc
  | .pa o _ _, acc => o :: acc
  | .rs o _ _, acc => o :: acc
  | .mp o, acc => o :: acc
def C.refss : List C → List Nat → List Nat
  | [], acc => acc
  | x :: r, acc => C.refs x (C.refss r acc)
end
mutual
def V.refs : V → List Nat → List Nat
  | .c x, acc => x.refs acc
  | .a l, acc => C.refss l acc
  | .t l, acc => V.refss l acc
def V.refss : List V → List Nat → List Nat
  | [], acc => acc
  | x :: r, acc => V.refs x (V.refss r acc)
end
def Ob.refs : Ob → List Nat → List Nat
  | .cells l, acc => C.refss l acc
  | .bld _ _ x, acc => x.refs acc
  | _, acc => acc
def memN (o : Nat) : List Nat → Bool
  | [] => false
  | x :: r => match Nat.beq x o with | true => true | false => memN o r
def reach (n : Nat) (σ : St) : Nat → List Nat → List Nat → List Nat
  | 0, _, acc => acc
  | _ + 1, [], acc => acc
  | k + 1, o :: r, acc =>
    match Nat.blt o n || memN o acc with
    | true => reach n σ k r acc
    | false =>
      match nth σ o with
      | some ob => reach n σ k (ob.refs r) (acc ++ [o])
      | none => reach n σ k r acc
def obsRefs : St → List Nat → List Nat
  | [], a => a
  | x :: r, a => x.refs (obsRefs r a)
def placeN (o : Nat) : List Nat → Nat → Nat
  | [], i => i
  | x :: r, i => match Nat.beq x o with | true => i | false => placeN o r (i + 1)
def renOf (n : Nat) (ks : List Nat) (o : Nat) : Nat := match Nat.blt o n with | true => o | false => placeN o ks n
def inKs (n : Nat) (ks : List Nat) (o : Nat) : Bool := Nat.blt o n || memN o ks
def allIn (n : Nat) (ks : List Nat) : List Nat → Bool
  | [] => true
  | o :: r => match inKs n ks o with | true => allIn n ks r | false => false
def distinct : List Nat → Bool
  | [] => true
  | x :: r => match memN x r with | true => false | false => distinct r
def picks (σ : St) : List Nat → Option St
  | [] => some []
  | k :: r => match nth σ k, picks σ r with | some ob, some l => some (ob :: l) | _, _ => none
def ksOk (n : Nat) (ks : List Nat) : Bool :=
  distinct ks && ks.all fun k => Nat.ble n k
def canonSt (n : Nat) (ks : List Nat) (σ : St) : Option St :=
  match picks σ ks with
  | none => none
  | some new => some ((σ.take n).map (Ob.ren (renOf n ks)) ++ new.map (Ob.ren (renOf n ks)))
def canonOk (n : Nat) (ks : List Nat) (vrefs : List Nat) (σ : St) : Bool :=
  Nat.ble n σ.length && ksOk n ks && allIn n ks vrefs && allIn n ks (obsRefs (σ.take n) []) && (match picks σ ks with | some new => allIn n ks (obsRefs new []) | none => false)
theorem memN_iff {o : Nat} : ∀ {l : List Nat}, memN o l = true ↔ o ∈ l
  | [] => by simp [memN]
  | x :: r => by
    simp only [memN]
    split
    · rename_i h; simp [beq_nat h]
    · rename_i h
      rw [memN_iff (l := r)]
      have : x ≠ o := fun e => by subst e; rw [Nat.beq_refl] at h; cases h
      simp only [List.mem_cons]
      exact ⟨.inr, fun hh => hh.elim (fun e => absurd e.symm this) id⟩
theorem allIn_iff {n : Nat} {ks : List Nat} : ∀ {l : List Nat}, allIn n ks l = true ↔ ∀ o ∈ l, inKs n ks o = true
  | [] => by simp [allIn]
  | x :: r => by
    simp only [allIn]
    split
    · rename_i h; rw [allIn_iff]; simp [h]
    · rename_i h
      constructor
      · intro hh; cases hh
      · intro hh
        have := hh x (by simp)
        rw [h] at this; exact this
theorem placeN_spec {o : Nat} : ∀ {l : List Nat} {i : Nat}, o ∈ l → i ≤ placeN o l i ∧ placeN o l i < i + l.length ∧ l[placeN o l i - i]? = some o
  | [], i, h => by cases h
  | x :: r, i, h => by
    simp only [placeN]
    split
    · rename_i hb; simp [beq_nat hb]
    · rename_i hb
      have hx : x ≠ o := fun e => by subst e; rw [Nat.beq_refl] at hb; cases hb
      have : o ∈ r := by rcases List.mem_cons.1 h with e | h; exact absurd e.symm hx; exact h
      obtain ⟨a, b, c⟩ := placeN_spec (i := i + 1) this
      refine ⟨by omega, by simp; omega, ?_⟩
      rw [show placeN o r (i + 1) - i = (placeN o r (i + 1) - (i + 1)) + 1 from by omega]
      simpa using c
theorem distinct_inj : ∀ {l : List Nat}, distinct l = true → ∀ {i j : Nat} {o : Nat}, l[i]? = some o → l[j]? = some o → i = j
  | [], _, i, j, o, hi, _ => by simp at hi
  | x :: r, h, i, j, o, hi, hj => by
    simp only [distinct] at h
    split at h
    · cases h
    · rename_i hm
      have hx : x ∉ r := fun hh => by rw [memN_iff.2 hh] at hm; cases hm
      cases i with
      | zero =>
        cases j with
        | zero => rfl
        | succ j =>
          simp at hi hj
          subst hi
          exact absurd (List.mem_of_getElem? hj) hx
      | succ i =>
        cases j with
        | zero =>
          simp at hi hj
          subst hj
          exact absurd (List.mem_of_getElem? hi) hx
        | succ j =>
          simp at hi hj
          rw [distinct_inj h hi hj]
theorem picks_get {σ : St} : ∀ {ks : List Nat} {l : St}, picks σ ks = some l → l.length = ks.length ∧ ∀ (i k : Nat), ks[i]? = some k → ∃ ob : Ob, σ[k]? = some ob ∧ l[i]? = some ob
  | [], l, h => by simp only [picks, Option.some.injEq] at h; subst h; simp
  | k :: r, l, h => by
    simp only [picks] at h
    split at h
    · rename_i ob l' h1 h2
      cases h
      obtain ⟨a, b⟩ := picks_get h2
      refine ⟨by simp [a], fun i k' hk => ?_⟩
      cases i with
      | zero => simp at hk; subst hk; exact ⟨ob, by rw [← nth_eq]; exact h1, by simp⟩
      | succ i => simp at hk; simpa using b i k' hk
    · cases h
def backOf (n : Nat) (ks : List Nat) (i : Nat) : Nat := if i < n then i else (ks[i - n]?).getD 0
structure Canon (n : Nat) (ks : List Nat) (σ σ' : St) : Prop where
  le : n ≤ σ.length
  dis : distinct ks = true
  ge : ∀ k ∈ ks, n ≤ k
  low : ∀ i, i < n → ∃ ob : Ob, σ[i]? = some ob ∧ σ'[i]? = some (ob.ren (renOf n ks))
  new : ∀ (i k : Nat), ks[i]? = some k → ∃ ob : Ob, σ[k]? = some ob ∧ σ'[n + i]? = some (ob.ren (renOf n ks))
  len : σ'.length = n + ks.length
  inLow : ∀ (i : Nat) (ob : Ob), i < n → σ[i]? = some ob → ∀ o ∈ ob.refs [], inKs n ks o = true
  inNew : ∀ (k : Nat) (ob : Ob), k ∈ ks → σ[k]? = some ob → ∀ o ∈ ob.refs [], inKs n ks o = true
mutual
theorem C.refs_app : ∀ (c : C) (a : List Nat), c.refs a = c.refs [] ++ a
  | .f _, a => rfl
  | .ep _ _, a => rfl
  | .clo _ caps, a => C.refss_app caps a
  | .un, a => rfl
  | .ptr o _, a => rfl
  | .pa o _ _, a => rfl
  | .rs o _ _, a => rfl
  | .mp o, a => rfl
theorem C.refss_app : ∀ (l : List C) (a : List Nat), C.refss l a = C.refss l [] ++ a
  | [], a => rfl
  | x :: r, a => by
    simp only [C.refss]
    rw [C.refs_app x (C.refss r a), C.refs_app x (C.refss r []), C.refss_app r a, List.append_assoc]
end
theorem Ob.refs_app (ob : Ob) (a : List Nat) : ob.refs a = ob.refs [] ++ a := by
  cases ob with
  | cells l => exact C.refss_app l a
  | bld T u x => exact C.refs_app x a
  | _ => rfl
theorem obsRefs_mem : ∀ {l : St} {i : Nat} {ob : Ob}, l[i]? = some ob → ∀ o ∈ ob.refs [], o ∈ obsRefs l []
  | [], i, ob, h, o, ho => by simp at h
  | x :: r, i, ob, h, o, ho => by
    simp only [obsRefs]
    rw [Ob.refs_app]
    cases i with
    | zero => simp at h; subst h; exact List.mem_append_left _ ho
    | succ i => simp at h; exact List.mem_append_right _ (obsRefs_mem h o ho)
theorem canon_spec {n : Nat} {ks : List Nat} {vrefs : List Nat} {σ σ' : St} (h : canonOk n ks vrefs σ = true) (hs : canonSt n ks σ = some σ') : Canon n ks σ σ' ∧ ∀ o ∈ vrefs, inKs n ks o = true := by
  simp only [canonOk, ksOk, Bool.and_eq_true, List.all_eq_true] at h
  obtain ⟨⟨⟨⟨h1, h2, h3⟩, h4⟩, h5⟩, h6⟩ := h
  have h1 := Nat.le_of_ble_eq_true h1
  simp only [canonSt] at hs
  split at hs
  · cases hs
  · rename_i new hp
    cases hs
    rw [hp] at h6
    simp only at h6
    obtain ⟨q1, q2⟩ := picks_get hp
    have hlen : ((σ.take n).map (Ob.ren (renOf n ks))).length = n := by simp; omega
    refine ⟨⟨h1, h2, fun k hk => Nat.le_of_ble_eq_true (h3 k hk), fun i hi => ?_, fun i k hk => ?_, by simp [q1]; omega, fun i ob hi ho o hm => ?_, fun k ob hk ho o hm => ?_⟩, allIn_iff.1 h4⟩
    · refine ⟨σ[i]'(by omega), List.getElem?_eq_getElem (by omega), ?_⟩
      rw [List.getElem?_append_left (by rw [hlen]; exact hi), List.getElem?_map, List.getElem?_take, if_pos hi, List.getElem?_eq_getElem (by omega)]
      rfl
    · obtain ⟨ob, e1, e2⟩ := q2 i k hk
      refine ⟨ob, e1, ?_⟩
      rw [List.getElem?_append_right (by rw [hlen]; omega), hlen, show n + i - n = i from by omega, List.getElem?_map, e2]
      rfl
    · have : (σ.take n)[i]? = some ob := by rw [List.getElem?_take, if_pos hi]; exact ho
      exact allIn_iff.1 h5 o (obsRefs_mem this o hm)
    · obtain ⟨i, hi⟩ := List.mem_iff_getElem?.1 hk
      obtain ⟨ob', e1, e2⟩ := q2 i k hi
      rw [ho] at e1
      cases e1
      exact allIn_iff.1 h6 o (obsRefs_mem e2 o hm)
section
variable {n : Nat} {ks : List Nat} {σ σ' : St} {g : G} {w : World}
def gren (g : G) (n : Nat) (ks : List Nat) : G := ⟨g.Z, fun i => g.blk (backOf n ks i), fun i => g.cap (backOf n ks i)⟩
theorem ren_back (hc : Canon n ks σ σ') {o : Nat} (ho : inKs n ks o = true) : backOf n ks (renOf n ks o) = o := by
  unfold inKs at ho
  unfold renOf backOf
  cases hb : Nat.blt o n with
  | true => simp only; rw [if_pos (blt_nat hb)]
  | false =>
    rw [hb] at ho
    simp only [Bool.false_or] at ho
    have hm := memN_iff.1 ho
    obtain ⟨a, b, c⟩ := placeN_spec (i := n) hm
    simp only
    rw [if_neg (by omega), c]
    rfl
theorem ren_get (hc : Canon n ks σ σ') {o : Nat} (ho : inKs n ks o = true) {ob : Ob} (h : σ[o]? = some ob) : σ'[renOf n ks o]? = some (ob.ren (renOf n ks)) := by
  have hb := ren_back hc ho
  unfold inKs at ho
  cases hlt : Nat.blt o n with
  | true =>
    obtain ⟨ob', h1, h2⟩ := hc.low o (blt_nat hlt)
    rw [h] at h1; cases h1
    have : renOf n ks o = o := by unfold renOf; rw [hlt]
    rw [this]; exact h2
  | false =>
    rw [hlt] at ho
    simp only [Bool.false_or] at ho
    have hm := memN_iff.1 ho
    obtain ⟨a, b, c⟩ := placeN_spec (i := n) hm
    have e : renOf n ks o = n + (placeN o ks n - n) := by unfold renOf; rw [hlt]; simp only; omega
    obtain ⟨ob', h1, h2⟩ := hc.new _ _ c
    rw [h] at h1; cases h1
    rw [e]; exact h2
theorem ren_blk (hc : Canon n ks σ σ') {o : Nat} (ho : inKs n ks o = true) : (gren g n ks).blk (renOf n ks o) = g.blk o := by
  show g.blk (backOf n ks (renOf n ks o)) = _
  rw [ren_back hc ho]
theorem ren_cap (hc : Canon n ks σ σ') {o : Nat} (ho : inKs n ks o = true) : (gren g n ks).cap (renOf n ks o) = g.cap o := by
  show g.cap (backOf n ks (renOf n ks o)) = _
  rw [ren_back hc ho]
theorem renF {x : F} {v : Value} (h : FRep g w x v) : FRep (gren g n ks) w x v := FRep.turn (g := g) (g' := gren g n ks) (w := w) (w' := w) (fun b o hz => ⟨hz, rfl⟩) _ _ h
theorem renRow {cs : List F} {b o : Nat} (h : FRow g w b o cs) : FRow (gren g n ks) w b o cs := FRow.turn (g := g) (g' := gren g n ks) (w := w) (w' := w) (fun b o hz => ⟨hz, rfl⟩) _ _ _ h
theorem row_ren {ob : Ob} {ρ : Nat → Nat} : (ob.ren ρ).row = ob.row := by cases ob <;> rfl
mutual
theorem renC (hc : Canon n ks σ σ') : ∀ {c : C} {v : Value}, (∀ o ∈ c.refs [], inKs n ks o = true) → CRep g w σ c v → CRep (gren g n ks) w σ' (c.ren (renOf n ks)) v
  | .f x, v, _, h => renF h
  | .ep l o, v, _, h => by obtain ⟨b, o', h1, h2⟩ := h; exact ⟨b, o', h1, renRow h2⟩
  | .un, v, _, h => trivial
  | .ptr o off, v, hi, h => by
    have ho := hi o (by simp [C.refs])
    obtain ⟨b, ob, h1, h2, h3, h4⟩ := h
    exact ⟨b, _, (ren_blk hc ho).trans h1, h2, ren_get hc ho h3, by rw [row_ren]; exact h4⟩
  | .pa o e off, v, hi, h => by
    have ho := hi o (by simp [C.refs])
    obtain ⟨h1, ob, h3, h4⟩ := h
    refine ⟨h1, _, ren_get hc ho h3, ?_⟩
    cases ob with
    | arr wr e0 sz l => simp only [Ob.ren]; rw [ren_blk hc ho]; exact h4
    | gone => trivial
    | _ => exact h4.elim
  | .rs o e m, v, hi, h => by
    have ho := hi o (by simp [C.refs])
    obtain ⟨h1, ob, h3, h4⟩ := h
    refine ⟨h1, _, ren_get hc ho h3, ?_⟩
    cases ob with
    | arr wr e0 sz l => simp only [Ob.ren]; rw [ren_blk hc ho, ren_cap hc ho]; exact h4
    | gone => trivial
    | _ => exact h4.elim
  | .mp o, v, hi, h => by
    have ho := hi o (by simp [C.refs])
    obtain ⟨b, ob, h1, h2, h3, h4⟩ := h
    exact ⟨b, _, (ren_blk hc ho).trans h1, h2, ren_get hc ho h3, by rw [row_ren]; exact h4⟩
  | .clo f caps, v, hi, h => by
    obtain ⟨vs, h1, h2⟩ := h
    exact ⟨vs, h1, renCs hc hi h2⟩
theorem renCs (hc : Canon n ks σ σ') : ∀ {l : List C} {vs : List Value}, (∀ o ∈ C.refss l [], inKs n ks o = true) → CReps g w σ l vs → CReps (gren g n ks) w σ' (C.rens (renOf n ks) l) vs
  | [], vs, _, h => h
  | c :: r, vs, hi, h => by
    simp only [C.refss] at hi
    obtain ⟨v, vr, rfl, h1, h2⟩ := h
    refine ⟨v, vr, rfl, renC hc (fun o ho => hi o ?_) h1, renCs hc (fun o ho => hi o ?_) h2⟩
    · rw [C.refs_app]; exact List.mem_append_left _ ho
    · rw [C.refs_app]; exact List.mem_append_right _ ho
end
mutual
theorem V.refs_app : ∀ (c : V) (acc : List Nat), c.refs acc = c.refs [] ++ acc
  | .c x, acc => C.refs_app x acc
  | .a l, acc => C.refss_app l acc
  | .t l, acc => V.refss_app l acc
theorem V.refss_app : ∀ (l : List V) (acc : List Nat), V.refss l acc = V.refss l [] ++ acc
  | [], acc => rfl
  | x :: r, acc => by
    simp only [V.refss]
    rw [V.refs_app x (V.refss r acc), V.refs_app x (V.refss r []), V.refss_app r acc, List.append_assoc]
end
mutual
theorem renV (hc : Canon n ks σ σ') : ∀ {c : V} {v : Value}, (∀ o ∈ c.refs [], inKs n ks o = true) → VRep g w σ c v → VRep (gren g n ks) w σ' (c.ren (renOf n ks)) v
  | .c x, v, hi, h => renC hc hi h
  | .a l, v, hi, h => by obtain ⟨vs, h1, h2⟩ := h; exact ⟨vs, h1, renCs hc hi h2⟩
  | .t l, v, hi, h => by obtain ⟨vs, h1, h2⟩ := h; exact ⟨vs, h1, rensV hc hi h2⟩
theorem rensV (hc : Canon n ks σ σ') : ∀ {l : List V} {vs : List Value}, (∀ o ∈ V.refss l [], inKs n ks o = true) → VReps g w σ l vs → VReps (gren g n ks) w σ' (V.rens (renOf n ks) l) vs
  | [], vs, _, h => h
  | c :: r, vs, hi, h => by
    simp only [V.refss] at hi
    obtain ⟨v, vr, rfl, h1, h2⟩ := h
    refine ⟨v, vr, rfl, renV hc (fun o ho => hi o ?_) h1, rensV hc (fun o ho => hi o ?_) h2⟩
    · rw [V.refs_app]; exact List.mem_append_left _ ho
    · rw [V.refs_app]; exact List.mem_append_right _ ho
end
theorem back_get (hc : Canon n ks σ σ') {i : Nat} {ob : Ob} (h : σ'[i]? = some ob) : ∃ ob0, σ[backOf n ks i]? = some ob0 ∧ ob = ob0.ren (renOf n ks) ∧ (∀ o ∈ ob0.refs [], inKs n ks o = true) := by
  have hlt := (List.getElem?_eq_some_iff.1 h).1
  rw [hc.len] at hlt
  unfold backOf
  by_cases hi : i < n
  · rw [if_pos hi]
    obtain ⟨ob0, h1, h2⟩ := hc.low i hi
    rw [h] at h2
    exact ⟨ob0, h1, Option.some.inj h2, hc.inLow i ob0 hi h1⟩
  · rw [if_neg hi]
    have hk : ks[i - n]? = some (ks[i - n]'(by omega)) := List.getElem?_eq_getElem (by omega)
    obtain ⟨ob0, h1, h2⟩ := hc.new _ _ hk
    rw [show n + (i - n) = i from by omega, h] at h2
    rw [hk]
    exact ⟨ob0, h1, Option.some.inj h2, hc.inNew _ ob0 (List.mem_of_getElem? hk) h1⟩
theorem back_inj (hc : Canon n ks σ σ') {i j : Nat} (hi : i < σ'.length) (hj : j < σ'.length) (h : backOf n ks i = backOf n ks j) : i = j := by
  rw [hc.len] at hi hj
  unfold backOf at h
  by_cases h1 : i < n
  · by_cases h2 : j < n
    · rw [if_pos h1, if_pos h2] at h; exact h
    · rw [if_pos h1, if_neg h2] at h
      have hk : ks[j - n]? = some (ks[j - n]'(by omega)) := List.getElem?_eq_getElem (by omega)
      rw [hk] at h
      have := hc.ge _ (List.mem_of_getElem? hk)
      simp at h
      omega
  · have hk : ks[i - n]? = some (ks[i - n]'(by omega)) := List.getElem?_eq_getElem (by omega)
    by_cases h2 : j < n
    · rw [if_neg h1, if_pos h2, hk] at h
      have := hc.ge _ (List.mem_of_getElem? hk)
      simp at h
      omega
    · rw [if_neg h1, if_neg h2, hk] at h
      have hk2 : ks[j - n]? = some (ks[j - n]'(by omega)) := List.getElem?_eq_getElem (by omega)
      rw [hk2] at h
      simp at h
      rw [h] at hk
      have := distinct_inj hc.dis hk hk2
      omega
theorem own_back (hc : Canon n ks σ σ') {b o : Nat} (h : Own (gren g n ks) σ' b o) : Own g σ b o := by
  obtain ⟨i, ob, h1, h2, h3⟩ := own_iff.1 h
  obtain ⟨ob0, e1, e2, _⟩ := back_get hc h1
  refine own_iff.2 ⟨_, ob0, e1, h2, ?_⟩
  subst e2
  cases ob0 <;> exact h3
theorem live_ren {ob : Ob} {ρ : Nat → Nat} : live (ob.ren ρ) = live ob := by cases ob <;> rfl
theorem ren_rep (hc : Canon n ks σ σ') (hr : Rep g w σ) : Rep (gren g n ks) w σ' where
  ob i ob h := by
    obtain ⟨ob0, e1, e2, e3⟩ := back_get hc h
    have h2 := hr.ob _ _ e1
    subst e2
    cases ob0 with
    | cells l =>
      obtain ⟨b, vs, T, fz, q1, q2, q3, q4⟩ := h2
      exact ⟨b, vs, T, fz, q1, q2, q3, renCs hc e3 q4⟩
    | arr wr e sz l =>
      rcases h2 with h2 | ⟨b, vs, T, fz, rest, q1, q2, q3, q4, q5, ⟨pre, q6, q7, q8⟩, q9, q10⟩
      · exact .inl h2
      · exact .inr ⟨b, vs, T, fz, rest, q1, q2, q3, q4, q5, ⟨pre, q6, q7, fun j h h' => renF (q8 j h h')⟩, q9, q10⟩
    | map kv =>
      obtain ⟨b, es, clock, q1, q2, q3⟩ := h2
      exact ⟨b, es, clock, q1, q2, KVRep.turn (g := g) (g' := gren g n ks) (w := w) (w' := w) (fun b o hz => ⟨hz, rfl⟩) q3⟩
    | bld T u x =>
      obtain ⟨b, v, q1, q2, q3⟩ := h2
      exact ⟨b, v, q1, q2, renC hc e3 q3⟩
    | gone => trivial
  inj i j a b k hi hj la lb h1 h2 := by
    obtain ⟨a0, e1, e2, _⟩ := back_get hc hi
    obtain ⟨b0, e3, e4, _⟩ := back_get hc hj
    subst e2 e4
    rw [live_ren] at la lb
    exact back_inj hc (List.getElem?_eq_some_iff.1 hi).1 (List.getElem?_eq_some_iff.1 hj).1 (hr.inj _ _ _ _ k e1 e3 la lb h1 h2)
  apart b o hz ho := hr.apart b o hz (own_back hc ho)
  inside := hr.inside
theorem obturn_ren {g0 : G} {i : Nat} {ob ob' : Ob} (hi : i < n) (h : ObTurn g0 g i ob ob') : ObTurn g0 (gren g n ks) i ob (ob'.ren (renOf n ks)) := by
  have e1 : (gren g n ks).blk i = g.blk i := by show g.blk (backOf n ks i) = _; unfold backOf; rw [if_pos hi]
  have e2 : (gren g n ks).cap i = g.cap i := by show g.cap (backOf n ks i) = _; unfold backOf; rw [if_pos hi]
  cases ob <;> cases ob' <;> first
    | exact h
    | trivial
    | skip
  all_goals (simp only [ObTurn, Ob.ren] at h ⊢; rw [e1, e2]; exact h)
theorem ren_turn (hc : Canon n ks σ σ') {g0 : G} {w0 : World} {σ0 : St} (h : TurnN n g0 w0 σ0 g w σ) : TurnN n g0 w0 σ0 (gren g n ks) w σ' where
  os := h.os
  tape := h.tape
  output := h.output
  size := h.size
  whole := h.whole
  zs := h.zs
  znew := h.znew
  onew b o hb ho := h.onew b o hb (own_back hc ho)
  turns i ob hi ho := by
    obtain ⟨ob', h1, h2⟩ := h.turns i ob hi ho
    obtain ⟨ob2, h3, h4⟩ := hc.low i hi
    rw [h1] at h3
    cases h3
    exact ⟨_, h4, obturn_ren hi h2⟩
  blks i ob hi ho hrow := by
    show g.blk (backOf n ks i) = _
    unfold backOf
    rw [if_pos hi]
    exact h.blks i ob hi ho hrow
end
def canonV (n : Nat) (p : V × St) : V × St :=
  let ks := reach n p.2 (p.2.length * 8 + 64) (p.1.refs (obsRefs (p.2.take n) [])) []
  match canonOk n ks (p.1.refs []) p.2, canonSt n ks p.2 with
  | true, some σ' => (p.1.ren (renOf n ks), σ')
  | _, _ => p
def ftRefs : FT → List Nat → List Nat
  | [], a => a
  | x :: r, a => V.refss x (ftRefs r a)
def ftRen (ρ : Nat → Nat) (t : FT) : FT := t.map (V.rens ρ)
def canonF (n : Nat) (p : FT × St) : FT × St :=
  let ks := reach n p.2 (p.2.length * 8 + 64) (ftRefs p.1 (obsRefs (p.2.take n) [])) []
  match canonOk n ks (ftRefs p.1 []) p.2, canonSt n ks p.2 with
  | true, some σ' => (ftRen (renOf n ks) p.1, σ')
  | _, _ => p
theorem rens_get (ρ : Nat → Nat) : ∀ (l : List V) (j : Nat), (V.rens ρ l)[j]? = (l[j]?).map (V.ren ρ)
  | [], j => by simp [V.rens]
  | x :: r, 0 => by simp [V.rens]
  | x :: r, j + 1 => by simpa [V.rens] using rens_get ρ r j
theorem rens_len (ρ : Nat → Nat) : ∀ (l : List V), (V.rens ρ l).length = l.length
  | [] => rfl
  | x :: r => by simp [V.rens, rens_len ρ r]
theorem ftRen_get (ρ : Nat → Nat) (t : FT) (i : Nat) : (ftRen ρ t).get i = (t.get i).ren ρ := by
  rw [get_eq, get_eq]
  unfold ftRen
  rw [List.getElem?_map]
  cases t[i / 8]? with
  | none => rfl
  | some l =>
    simp only [Option.map_some, Option.bind_some]
    rw [rens_get]
    cases l[i % 8]? <;> rfl
theorem ftRefs_mem : ∀ {t : FT} {r : List V} {v : V}, r ∈ t → v ∈ r → ∀ o ∈ v.refs [], o ∈ ftRefs t []
  | [], r, v, h, _, o, _ => by cases h
  | x :: t, r, v, h, hv, o, ho => by
    have hrow : ∀ {l : List V}, v ∈ l → o ∈ V.refss l [] := by
      intro l
      induction l with
      | nil => intro h; cases h
      | cons y s ih =>
        intro h
        simp only [V.refss]
        rw [V.refs_app]
        rcases List.mem_cons.1 h with rfl | h
        · exact List.mem_append_left _ ho
        · exact List.mem_append_right _ (ih h)
    simp only [ftRefs]
    rw [V.refss_app]
    rcases List.mem_cons.1 h with rfl | h
    · exact List.mem_append_left _ (hrow hv)
    · exact List.mem_append_right _ (ftRefs_mem h hv o ho)
theorem get_refs {t : FT} {i : Nat} {o : Nat} (ho : o ∈ (t.get i).refs []) : o ∈ ftRefs t [] := by
  rw [get_eq] at ho
  cases hr : t[i / 8]? with
  | none => rw [hr] at ho; simp [V.refs, C.refs] at ho
  | some l =>
    rw [hr] at ho
    simp only [Option.bind_some] at ho
    cases hv : l[i % 8]? with
    | none => rw [hv] at ho; simp [V.refs, C.refs] at ho
    | some v => rw [hv] at ho; exact ftRefs_mem (List.mem_of_getElem? hr) (List.mem_of_getElem? hv) o ho
theorem canonV_end {g : G} {w : World} {σ : St} {o : List (V × St)} {v : Value} {w' : World} (h : CallEnd g w σ (fun r σ' => (r, σ') ∈ o) v w') : CallEnd g w σ (fun r σ' => (r, σ') ∈ o.map (canonV σ.length)) v w' := by
  obtain ⟨r, σ', g', h1, h2, h3, h4⟩ := h
  have hm : canonV σ.length (r, σ') ∈ o.map (canonV σ.length) := List.mem_map.2 ⟨_, h1, rfl⟩
  unfold canonV at hm
  simp only at hm
  split at hm
  · rename_i σ2 e1 e2
    obtain ⟨hc, hv⟩ := canon_spec e1 e2
    exact ⟨_, σ2, _, hm, ren_rep hc h2, (ren_turn hc (h3.n σ.length)).full, renV hc hv h4⟩
  · exact ⟨r, σ', g', hm, h2, h3, h4⟩
theorem OkT.ren {m : Nat} {t : FT} (h : OkT m t) (ρ : Nat → Nat) : OkT m (ftRen ρ t) where
  wide := by unfold ftRen; simpa using h.wide
  rows l hl := by
    unfold ftRen at hl
    obtain ⟨l0, h0, rfl⟩ := List.mem_map.1 hl
    rw [rens_len]
    exact h.rows l0 h0
  out i hi := by rw [ftRen_get, h.out i hi]; rfl
theorem renFr {m : Nat} {t : FT} (ht : OkT m t) {n : Nat} {ks : List Nat} {σ σ' : St} {g : G} {w : World} (hc : Canon n ks σ σ') (hi : ∀ o ∈ ftRefs t [], inKs n ks o = true) {tmps : Array Value} (h : FrRep g w σ (frT m t) tmps) :
    FrRep (gren g n ks) w σ' (frT m (ftRen (renOf n ks) t)) tmps := by
  refine ⟨by rw [← h.1]; simp [frT, toFr], fun i => ?_⟩
  have h1 := h.2 i
  have e : ∀ u : FT, OkT m u → (frT m u).getD i (.c .un) = u.get i := fun u hu => by
    unfold frT
    rw [toFr_get (tA_in u)]
    exact congrFun (tA_at hu) (.tmp i)
  rw [e t ht] at h1
  rw [e _ (ht.ren _), ftRen_get]
  exact renV hc (fun o ho => hi o (get_refs ho)) h1
end Go.Dm
namespace Go.Dm
set_option linter.unusedVariables false
inductive YT where
  | done
  | go (i : SItem) (c : Option Op) (p : YT)
  | alt (i : SItem) (p q : YT)
  | stop
  | sub (s p : YT)
  | goc (i : SItem) (p : YT)
  deriving Inhabited
inductive YCode where
  | skip
  | ops (l : List SItem)
  | tree (t : YT)
  | any (n : Nat) (fb : Unit → Plan)
  | seq (a b : YCode)
  | cond (c : Operand) (a b : YCode)
  | block (id : Nat) (c : YCode)
  | loop (c : YCode)
  | exit (id : Nat)
  | ret
  | bad
  deriving Inhabited
inductive PT where
  | done
  | go (i : Nat) (c : Bool) (p : PT)
  | alt (i : Nat) (p q : PT)
  | stop
  | sub (s p : PT)
  | goc (i : Nat) (p : PT)
  deriving Inhabited
abbrev Hints := List (Nat × PT)
def hintAt (id : Nat) : Hints → Option PT
  | [] => none
  | (j, s) :: r => match Nat.beq j id with | true => some s | false => hintAt id r
def ytree (tb : Tab) (ops : Array Oper) : PT → Option YT
  | .done => some .done
  | .stop => some .stop
  | .go i c p =>
    (match ops[i]? with
    | none => none
    | some o => (match ytree tb ops p with | none => none | some t => some (.go (sitem tb ops o) (match c with | true => none | false => some o.op) t)))
  | .alt i p q =>
    (match ops[i]? with
    | none => none
    | some o => (match ytree tb ops p with
      | none => none
      | some t => (match ytree tb ops q with | none => none | some u => some (.alt (sitem tb ops o) t u))))
  | .sub s p =>
    (match ytree tb ops s with
    | none => none
    | some t => (match ytree tb ops p with | none => none | some u => some (.sub t u)))
  | .goc i p =>
    (match ops[i]? with
    | none => none
    | some o => (match ytree tb ops p with | none => none | some t => some (.goc (sitem tb ops o) t)))
def PT.alts : PT → List Nat
  | .alt i _ q => i :: q.alts
  | _ => []
def nilB (l : List Nat) : Bool := match l with | [] => true | _ => false
def natsB : List Nat → List Nat → Bool
  | [], [] => true
  | a :: l, b :: r => (match Nat.beq a b with | true => natsB l r | false => false)
  | _, _ => false
def readS : SOp → Bool
  | .mv _ | .pick .. | .bin .. | .un .. | .load .. | .fa .. | .fld .. | .ixr .. | .ixa .. | .chr .. | .len .. | .ext .. | .nilc _ => true
  | _ => false
def addS : SOp → Bool
  | .alloc _ | .box _ => true
  | _ => false
def rowS : SOp → Bool
  | .app .. => true
  | .bsl _ _ _ _ parts => (match parts with | [] => true | _ => false)
  | _ => false
def calmY (tb : Tab) (stl : Op → Bool) (ops : Array Oper) (listed : Array Bool) (i : Nat) (o : Op) : Bool :=
  stl o && (calmAt stl ops listed i || (readS (comp tb o) && calmAt (fun o => stl o || addS (comp tb o)) ops listed i))
def ptOk (tb : Tab) (stl : Op → Bool) (ops : Array Oper) : PT → Bool → (Nat → Array Bool → Bool) → Nat → Array Bool → Bool
  | .done, top, k, n, listed => top && k n listed
  | .go i c p, top, k, n, listed =>
    (match n with
    | 0 => false
    | n + 1 =>
      match top && ((Region.ready .any ops listed).contains i && freeAt ops listed i && (match c, ops[i]? with | _, none => false | true, some o => calmY tb stl ops listed i o.op | false, some _ => true)) with
      | true => ptOk tb stl ops p true k n (listed.setIfInBounds i true)
      | false => false)
  | .alt i p q, top, k, n, listed =>
    (match n with
    | 0 => false
    | n + 1 =>
      match (match top with | true => natsB (Region.ready .any ops listed) (i :: q.alts) | false => true) with
      | true => (match ptOk tb stl ops p true k n (listed.setIfInBounds i true) with | true => ptOk tb stl ops q false k (n + 1) listed | false => false)
      | false => false)
  | .stop, top, _, _, _ => !top
  | .sub s p, top, k, n, listed => top && ptOk tb stl ops s true (fun n' l' => ptOk tb stl ops p true k n' l') n listed
  | .goc i p, top, k, n, listed =>
    (match n with
    | 0 => false
    | n + 1 =>
      match top && ((Region.ready .any ops listed).contains i && freeAt ops listed i && (match ops[i]? with | none => false | some o => stl o.op && calmAt (fun o => stl o || (addS (comp tb o) || rowS (comp tb o))) ops listed i)) with
      | true => ptOk tb stl ops p true k n (listed.setIfInBounds i true)
      | false => false)
def allRun (ops : Array Oper) (_ : Nat) (listed : Array Bool) : Bool := nilB (Region.ready .any ops listed)
def planOf (tb : Tab) (stl : Op → Bool) (ops : Array Oper) : Plan := plan stl (ops.toList.map (sitem tb ops)) ops ops.size (Array.replicate ops.size false)
def ycomp (tb : Tab) (stl : Op → Bool) (H : Hints) : Code → YCode
  | .skip => .skip
  | .region id ops draw =>
    (match draw with
    | false => .ops (ops.toList.map (sitem tb ops))
    | true =>
      match hintAt id H with
      | some s => (match ytree tb ops s with | some t => .tree t | none => .bad)
      | none => .any ops.size (fun _ => planOf tb stl ops))
  | .seq a b => .seq (ycomp tb stl H a) (ycomp tb stl H b)
  | .cond c a b => .cond c (ycomp tb stl H a) (ycomp tb stl H b)
  | .block id c => .block id (ycomp tb stl H c)
  | .loop c => .loop (ycomp tb stl H c)
  | .exit id => .exit id
  | .label _ => .skip
  | .ret => .ret
  | _ => .bad
def hintsOk (tb : Tab) (stl : Op → Bool) (H : Hints) : Code → Bool
  | .region id ops draw =>
    (match draw with
    | false => true
    | true => (match hintAt id H with | some s => ptOk tb stl ops s true (allRun ops) ops.size (Array.replicate ops.size false) | none => true))
  | .seq a b => (match hintsOk tb stl H a with | true => hintsOk tb stl H b | false => false)
  | .cond _ a b => (match hintsOk tb stl H a with | true => hintsOk tb stl H b | false => false)
  | .block _ c => hintsOk tb stl H c
  | .loop c => hintsOk tb stl H c
  | _ => true
structure YFun where
  m : Nat
  code : YCode
  rs : List ResultVar
  deriving Inhabited
def yfunOf (P : Program) (tb : Tab) (stl : Op → Bool) (H : Hints) (f : FuncId) : Option YFun :=
  match P.funcs[f]? with
  | none => none
  | some fn =>
    match fn.body with
    | none => none
    | some c => (match fn.name == "runtime.NumGoroutine" with | true => none | false => some ⟨fn.ntmps, ycomp tb stl H c, fn.results.toList⟩)
def yhintOk (P : Program) (tb : Tab) (stl : Op → Bool) (H : Hints) (f : FuncId) : Bool :=
  match P.funcs[f]? with
  | none => false
  | some fn => (match fn.body with | none => false | some c => hintsOk tb stl H c)
noncomputable def nthR {α : Type} (l : List α) : Nat → Option α := List.rec (fun _ => none) (fun x _ ih n => Nat.rec (some x) (fun n _ => ih n) n) l
theorem nthR_eq {α : Type} : ∀ (l : List α) (n : Nat), nthR l n = nth l n
  | [], _ => rfl
  | x :: r, 0 => rfl
  | x :: r, n + 1 => nthR_eq r n
noncomputable def rowGet (l : List V) : Nat → V := List.rec (fun _ => .c .un) (fun x _ ih n => Nat.rec x (fun n _ => ih n) n) l
noncomputable def tabGet (t : FT) : Nat → Nat → V := List.rec (fun _ _ => .c .un) (fun r _ ih n j => Nat.rec (rowGet r j) (fun n _ => ih n j) n) t
noncomputable def ftGet (t : FT) (i : Nat) : V := tabGet t (i / 8) (i % 8)
theorem rowGet_eq : ∀ (l : List V) (n : Nat), rowGet l n = (match nth l n with | some v => v | none => .c .un)
  | [], _ => rfl
  | x :: r, 0 => rfl
  | x :: r, n + 1 => rowGet_eq r n
theorem tabGet_eq : ∀ (t : FT) (n j : Nat), tabGet t n j = (match nth t n with | some l => (match nth l j with | some v => v | none => .c .un) | none => .c .un)
  | [], _, _ => rfl
  | x :: r, 0, j => rowGet_eq x j
  | x :: r, n + 1, j => tabGet_eq r n j
theorem ftGet_eq (t : FT) (i : Nat) : ftGet t i = t.get i := tabGet_eq t _ _
noncomputable def rowPutK {R : Type} (l : List V) : Nat → V → (List V → R) → R :=
  List.rec (fun _ _ k => k []) (fun x r ih n v k => Nat.rec (k (v :: r)) (fun n _ => ih n v fun r' => k (x :: r')) n) l
noncomputable def tabPutK {R : Type} (t : FT) : Nat → Nat → V → (FT → R) → R :=
  List.rec (fun _ _ _ k => k []) (fun x r ih n j v k => Nat.rec (rowPutK x j v fun x' => k (x' :: r)) (fun n _ => ih n j v fun r' => k (x :: r')) n) t
noncomputable def ftPutK {R : Type} (m : Nat) (t : FT) (dst : Option Tmp) (v : V) (k : FT → R) : R :=
  Option.rec (k t) (fun d => Bool.rec (k t) (tabPutK t (d / 8) (d % 8) v k) (Nat.blt d m)) dst
theorem rowPutK_eq {R : Type} : ∀ (l : List V) (n : Nat) (v : V) (k : List V → R), rowPutK l n v k = k (put l n v)
  | [], _, _, _ => rfl
  | x :: r, 0, _, _ => rfl
  | x :: r, n + 1, v, k => rowPutK_eq r n v fun r' => k (x :: r')
theorem tabPutK_eq {R : Type} : ∀ (t : FT) (n j : Nat) (v : V) (k : FT → R), tabPutK t n j v k = k (upd t n fun l => put l j v)
  | [], _, _, _, _ => rfl
  | x :: r, 0, j, v, k => rowPutK_eq x j v fun x' => k (x' :: r)
  | x :: r, n + 1, j, v, k => tabPutK_eq r n j v fun r' => k (x :: r')
theorem ftPutK_eq {R : Type} (m : Nat) (t : FT) (dst : Option Tmp) (v : V) (k : FT → R) : ftPutK m t dst v k = k (t.set m dst v) := by
  cases dst with
  | none => rfl
  | some d =>
    revert d
    intro (d : Nat)
    show Bool.rec (k t) (tabPutK t (d / 8) (d % 8) v k) (Nat.blt d m) = k (match Nat.blt d m with | true => upd t (d / 8) fun l => put l (d % 8) v | false => t)
    cases Nat.blt d m with
    | false => rfl
    | true => exact tabPutK_eq t _ _ v k
noncomputable def ftAt (t : FT) (x : Operand) : V := Operand.rec (fun i => ftGet t i) (fun v => ofConst v) (fun _ => .c .un) (fun f => .c (.f (.fn f))) x
theorem ftAt_eq (t : FT) : ftAt t = t.at := funext fun x => by
  cases x with
  | tmp i => exact ftGet_eq t i
  | _ => rfl
abbrev OpR := Caller → Tab → (Operand → V) → St → Rs (V × St)
noncomputable def yop (s : SOp) : OpR :=
  SOp.rec (motive := fun _ => OpR)
    (fun x _ _ ρ σ => some [(ρ x, σ)])
    (fun c a b call tb ρ σ => xop call tb (.pick c a b) ρ σ)
    (fun d op x y _ _ ρ σ => still (xbin d op (ρ x) (ρ y)) σ)
    (fun op x _ _ ρ σ => still (xun op (ρ x)) σ)
    (fun z _ _ _ σ => some [(.c (.ptr σ.length 0), σ ++ [.cells (z.map .f)])])
    (fun x call tb ρ σ => xop call tb (.box x) ρ σ)
    (fun agg n x _ _ ρ σ => still (xload agg n (addr (ρ x)) σ) σ)
    (fun n a x call tb ρ σ => xop call tb (.store n a x) ρ σ)
    (fun x args call tb ρ σ => xop call tb (.call x args) ρ σ)
    (fun off x _ _ ρ σ => still (xfield (addr (ρ x)) off σ) σ)
    (fun agg off n x call tb ρ σ => xop call tb (.fld agg off n x) ρ σ)
    (fun sz x i _ _ ρ σ => still (xixrow sz (addr (ρ x)) (ρ i) σ) σ)
    (fun n sz x i _ _ ρ σ => still (xixarr n sz (addr (ρ x)) (ρ i) σ) σ)
    (fun x i _ _ ρ σ => still (xchr (ρ x) (ρ i)) σ)
    (fun d x _ _ ρ σ => still (xlen d (ρ x) σ) σ)
    (fun d ty sz bytes x y _ _ ρ σ => one (xappend d ty sz bytes (ρ x) (ρ y) σ))
    (fun d sz x lo hi _ _ ρ σ => one (xslice d sz (ρ x) (lo.map ρ) (hi.map ρ) σ))
    (fun x i call tb ρ σ => xop call tb (.ext x i) ρ σ)
    (fun x _ _ ρ σ => still (xnil (ρ x) σ) σ)
    (fun b ts args _ _ ρ σ => one (xbi b (args.map ρ) σ))
    (fun z parts call tb ρ σ => xop call tb (.bld z parts) ρ σ)
    (fun n ty sz z parts call tb ρ σ => xop call tb (.bsl n ty sz z parts) ρ σ)
    (fun o call tb ρ σ => xop call tb (.raw o) ρ σ)
    s
theorem yop_eq (call : Caller) (tb : Tab) (s : SOp) (ρ : Operand → V) (σ : St) : yop s call tb ρ σ = xop call tb s ρ σ := by
  cases s <;> rfl
abbrev ItR := Caller → Tab → FT → St → Rs (V × St)
noncomputable def yguard (r : Option Bool) (a b : Rs (V × St)) : Rs (V × St) := Option.rec none (fun t => Bool.rec b a t) r
noncomputable def yitem (i : SItem) : ItR :=
  SItem.rec (motive := fun _ => ItR) (fun _ g o call tb t σ =>
    Option.rec (motive := fun _ => Rs (V × St)) (yop o call tb (ftAt t) σ) (fun gw => yguard (xguard t (some gw)) (yop o call tb (ftAt t) σ) (some [(.t [], σ)])) g) i
theorem yitem_eq (call : Caller) (tb : Tab) (i : SItem) (t : FT) (σ : St) : yitem i call tb t σ = xitem call tb i t σ := by
  obtain ⟨d, g, o⟩ := i
  cases g with
  | none => simp only [yitem, xitem, xguard, yop_eq, ftAt_eq]
  | some gw =>
    simp only [yitem, xitem, yop_eq, ftAt_eq]
    cases xguard t (some gw) with
    | none => rfl
    | some b => cases b <;> rfl
abbrev SeqR := Caller → Tab → Nat → FT → St → Rs (FT × St)
noncomputable def oneK {α β : Type} (o : Rs α) (k : α → Rs β) (g : List α → Rs β) : Rs β :=
  Option.rec none (fun l => List.rec (g []) (fun x r _ => List.rec (k x) (fun y s _ => g (x :: y :: s)) r) l) o
noncomputable def yseq (l : List SItem) : SeqR :=
  List.rec (motive := fun _ => SeqR) (fun _ _ _ t σ => some [(t, σ)]) (fun i _ ih call tb m t σ =>
    oneK (yitem i call tb t σ) (fun p => ftPutK m t i.dst p.1 fun t' => ih call tb m t' p.2) (fun l => bindL l fun p => ih call tb m (t.set m i.dst p.1) p.2)) l
theorem yseq_eq (call : Caller) (tb : Tab) (m : Nat) : ∀ (l : List SItem) (t : FT) (σ : St), yseq l call tb m t σ = xseq call tb m l t σ
  | [], t, σ => rfl
  | i :: r, t, σ => by
    show oneK (yitem i call tb t σ) (fun p => ftPutK m t i.dst p.1 fun t' => yseq r call tb m t' p.2) (fun l => bindL l fun p => yseq r call tb m (t.set m i.dst p.1) p.2) = _
    simp only [xseq, yitem_eq, yseq_eq call tb m r, ftPutK_eq]
    cases xitem call tb i t σ with
    | none => rfl
    | some l =>
      cases l with
      | nil => rfl
      | cons p l => cases l with | nil => rfl | cons q l => rfl
noncomputable def yjoin (a b : Rs (FT × St)) : Rs (FT × St) :=
  Option.rec none (fun l => Option.rec none (fun l' => List.rec (some l) (fun y s _ => some (nub fsEqb (l ++ (y :: s)))) l') b) a
def callOp : Op → Bool
  | .call { callee := .value (.func _), .. } => true
  | _ => false
def movOp : Op → Bool
  | .move _ | .assign _ => true
  | _ => false
def tlessY (tb : Tab) (o : Op) (t : FT) : Bool :=
  movOp o || match callOp o with
  | true => (match o with | .call { args, .. } => V.frees (args.toList.map t.at) | _ => false)
  | false => tlessT tb o t
def ysoft (o : Op) (p : V × St) : Option V :=
  match callOp o with
  | false => some p.1
  | true =>
    match hardV p.1 p.2 with
    | none => none
    | some (u, _) => (match u.free with | true => some u | false => none)
noncomputable def ynub (a : Rs (FT × St)) : Rs (FT × St) := oneK a (fun p => some [p]) fun l => some (nub fsEqb l)
noncomputable def bindR {α β : Type} (o : Rs α) (f : α → Rs β) : Rs β := oneK o f fun l => bindL l f
theorem bindR_eq {α β : Type} (o : Rs α) (f : α → Rs β) : bindR o f = Rs.bind o f := by
  cases o with
  | none => rfl
  | some l =>
    cases l with
    | nil => rfl
    | cons p l => cases l with | nil => rfl | cons q l => rfl
noncomputable def yrun (t : YT) : SeqR :=
  YT.rec (motive := fun _ => SeqR)
    (fun _ _ _ t σ => some [(t, σ)])
    (fun i c _ ih call tb m t σ =>
      Option.rec (motive := fun _ => Rs (FT × St))
        (oneK (yitem i call tb t σ) (fun p => ftPutK m t i.dst p.1 fun t' => ih call tb m t' σ) fun _ => none)
        (fun o => Bool.rec none (oneK (yitem i call tb t []) (fun p => Option.rec none (fun u => ftPutK m t i.dst u fun t' => ih call tb m t' σ) (ysoft o p)) fun _ => none) (tlessY tb o t)) c)
    (fun i _ _ ihp ihq call tb m t σ =>
      yjoin (Rs.bind (yitem i call tb t σ) fun p => ihp call tb m (t.set m i.dst p.1) p.2) (ihq call tb m t σ))
    (fun _ _ _ _ _ => some [])
    (fun _ _ ihs ihp call tb m t σ => bindR (ynub (ihs call tb m t σ)) fun p => ihp call tb m p.1 p.2)
    (fun _ _ _ _ _ _ _ _ => none)
    t
noncomputable def ynorm (n : Nat) (o : Rs (FT × St)) : Rs (XE × FT × St) :=
  oneK o (fun p => some [(.norm, p.1, p.2)]) fun l => some ((nub fsEqb (l.map (canonF n))).map fun p => (.norm, p.1, p.2))
abbrev CodeR := Caller → Tab → Nat → Nat → Nat → FT → St → Rs (XE × FT × St)
noncomputable def ynext (f : FT → St → Rs (XE × FT × St)) (p : XE × FT × St) : Rs (XE × FT × St) :=
  XE.rec (f p.2.1 p.2.2) (fun i => some [(.exit i, p.2.1, p.2.2)]) (some [(.ret, p.2.1, p.2.2)]) p.1
noncomputable def yblk (id : Nat) (p : XE × FT × St) : Rs (XE × FT × St) :=
  XE.rec (some [(.norm, p.2.1, p.2.2)]) (fun j => Bool.rec (some [(.exit j, p.2.1, p.2.2)]) (some [(.norm, p.2.1, p.2.2)]) (Nat.beq j id)) (some [(.ret, p.2.1, p.2.2)]) p.1
def ycond : V → (Unit → Rs (XE × FT × St)) → (Unit → Rs (XE × FT × St)) → Rs (XE × FT × St)
  | .c (.f (.bool true)) => fun a _ => a ()
  | .c (.f (.bool false)) => fun _ b => b ()
  | _ => fun _ _ => none
noncomputable def yloop (body : FT → St → Rs (XE × FT × St)) (n : Nat) : FT → St → Rs (XE × FT × St) :=
  Nat.rec (fun _ _ => none) (fun _ ih t σ => bindR (body t σ) fun p => ynext ih p) n
theorem yloop_eq (body : FT → St → Rs (XE × FT × St)) : ∀ (n : Nat) (t : FT) (σ : St), yloop body n t σ = xloop body n t σ
  | 0, t, σ => rfl
  | n + 1, t, σ => by
    show bindR (body t σ) (fun p => ynext (yloop body n) p) = _
    rw [bindR_eq]
    simp only [xloop]
    congr 1
    funext p
    obtain ⟨x, t', σ'⟩ := p
    cases x with
    | norm => exact yloop_eq body n t' σ'
    | _ => rfl
noncomputable def ycode (c : YCode) : CodeR :=
  YCode.rec (motive := fun _ => CodeR)
    (fun _ _ _ _ _ t σ => some [(.norm, t, σ)])
    (fun l call tb n0 m _ t σ => ynorm n0 (yseq l call tb m t σ))
    (fun r call tb n0 m _ t σ => ynorm n0 (yrun r call tb m t σ))
    (fun n fb call tb n0 m _ t σ => ynorm n0 (xany call tb m n (fb ()) t σ))
    (fun _ _ iha ihb call tb n0 m it t σ => bindR (iha call tb n0 m it t σ) (ynext (ihb call tb n0 m it)))
    (fun c _ _ iha ihb call tb n0 m it t σ => ycond (ftAt t c) (fun _ => iha call tb n0 m it t σ) (fun _ => ihb call tb n0 m it t σ))
    (fun id _ ih call tb n0 m it t σ => bindR (ih call tb n0 m it t σ) (yblk id))
    (fun _ ih call tb n0 m it t σ => yloop (ih call tb n0 m it) it t σ)
    (fun id _ _ _ _ _ t σ => some [(.exit id, t, σ)])
    (fun _ _ _ _ _ t σ => some [(.ret, t, σ)])
    (fun _ _ _ _ _ _ _ => none)
    c
noncomputable def ybody (F : YFun) (call : Caller) (tb : Tab) (it : Nat) (args : List V) (σ : St) : Rs (V × St) :=
  match Nat.ble args.length F.m with
  | false => none
  | true =>
    match bindR (ycode F.code call tb σ.length F.m it (start F.m 0 args (blank (F.m / 8))) σ) (xret tb F.rs) with
    | none => none
    | some [p] => some [p]
    | some o => some (nub vsEqb o)
def ytrim (n : Nat) (p : V × St) : V × St :=
  match Nat.beq p.2.length n with
  | true => p
  | false => trim n p
def yim (n : Nat) : Rs (V × St) → Rs (V × St)
  | none => none
  | some [p] => some [ytrim n p]
  | some o => some (nub vsEqb (o.map (canonV n)))
def yps (σ : St) : Rs (V × St) → Rs (V × St)
  | some o => (match barely σ o with | none => none | some [p] => some [p] | some o => some (nub vsEqb o))
  | none => none
def ypf (σ : St) : Rs (V × St) → Rs (V × St)
  | some o => (match hardly σ o with | none => none | some [p] => some [p] | some o => some (nub vsEqb o))
  | none => none
def ymode : Mode → (List V → St → Rs (V × St)) → List V → St → Rs (V × St)
  | .im => fun B args σ => yim σ.length (B args σ)
  | .ps => fun B args σ =>
    (match snapVs σ args with
    | none => none
    | some l => (match V.frees l with | true => yps σ (B l []) | false => none))
  | .pf => fun B args σ =>
    (match hardVs args σ with
    | none => none
    | some (l, σ') => (match V.frees l with | true => ypf σ' (B l []) | false => none))
  | .pg => fun B args σ => (match V.frees args with | true => ypf σ (B args []) | false => none)
abbrev Bodies := FuncId → Option (Caller → List V → St → Rs (V × St))
def yorelse : Option (List (V × St)) → (Unit → Rs (V × St)) → Rs (V × St)
  | some o => fun _ => some o
  | none => fun f => f ()
def ycallB (bd : Bodies) (E : Env) (call : Caller) (f : FuncId) (args : List V) (σ : St) : Rs (V × St) :=
  match E.spec f with
  | some s => s args σ
  | none =>
    match bd f with
    | none => none
    | some B => ymode (E.mode f) (B call) args σ
def ycall (bd : Bodies) (E : Env) : Nat → Caller
  | 0 => fun _ _ _ => none
  | n + 1 => fun f args σ => yorelse (memoAt f args σ E.memo) fun _ => ycallB bd E (ycall bd E n) f args σ
structure Ent (P : Program) (tb : Tab) (stl : Op → Bool) where
  f : Nat
  H : Hints
  F : YFun
  ok : yfunOf P tb stl H f = some F
  chk : yhintOk P tb stl H f = true
def entAt {P : Program} {tb : Tab} {stl : Op → Bool} (f : FuncId) (l : List (List (Option (Ent P tb stl)))) : Option YFun :=
  match nth l (f / 16) with
  | none => none
  | some r =>
    match nth r (f % 16) with
    | some (some e) => (match Nat.beq e.f f with | true => some e.F | false => none)
    | _ => none
noncomputable def bodies {P : Program} {tb : Tab} {stl : Op → Bool} (it : Nat) (l : List (List (Option (Ent P tb stl)))) : Bodies := fun f =>
  match entAt f l with
  | none => none
  | some F => some fun call args σ => ybody F call tb it args σ
end Go.Dm
namespace Go.Dm
open Go.RowKit
set_option linter.unusedVariables false
set_option linter.unusedSimpArgs false
section
variable {P : Program} {tb : Tab}
theorem nilB_eq {l : List Nat} (h : nilB l = true) : l = [] := by cases l with | nil => rfl | cons => cases h
theorem natsB_eq : ∀ {a b : List Nat}, natsB a b = true → a = b
  | [], [], _ => rfl
  | x :: l, y :: r, h => by
    simp only [natsB] at h
    split at h
    · rename_i hb; rw [beq_nat hb, natsB_eq h]
    · cases h
  | [], _ :: _, h => by cases h
  | _ :: _, [], h => by cases h
theorem oneK_spec {α β : Type} {o : Rs α} {k : α → Rs β} {out : List β} (h : oneK o k (fun _ => none) = some out) : ∃ x, o = some [x] ∧ k x = some out := by
  cases o with
  | none => cases h
  | some l =>
    cases l with
    | nil => cases h
    | cons x l => cases l with | nil => exact ⟨x, rfl, h⟩ | cons y l => cases h
theorem yjoin_spec {a b : Rs (FT × St)} {out : List (FT × St)} (h : yjoin a b = some out) : ∃ l l', a = some l ∧ b = some l' ∧ (∀ x ∈ l, x ∈ out) ∧ ∀ x ∈ l', x ∈ out := by
  cases a with
  | none => cases h
  | some l =>
    cases b with
    | none => cases h
    | some l' =>
      refine ⟨l, l', rfl, rfl, ?_⟩
      cases l' with
      | nil => cases h; exact ⟨fun x hx => hx, fun x hx => by cases hx⟩
      | cons y s =>
        have e : out = nub fsEqb (l ++ (y :: s)) := (Option.some.inj h).symm
        subst e
        exact ⟨fun x hx => nub_mem fsEqb_ok (List.mem_append_left _ hx), fun x hx => nub_mem fsEqb_ok (List.mem_append_right _ hx)⟩
theorem ynub_spec {a : Rs (FT × St)} {out : List (FT × St)} (h : ynub a = some out) : ∃ l, a = some l ∧ ∀ x ∈ l, x ∈ out := by
  cases a with
  | none => cases h
  | some l =>
    refine ⟨l, rfl, fun x hx => ?_⟩
    cases l with
    | nil => cases hx
    | cons p l =>
      cases l with
      | nil => have e : out = [p] := (Option.some.inj h).symm; subst e; exact hx
      | cons q l => have e : out = nub fsEqb (p :: q :: l) := (Option.some.inj h).symm; subst e; exact nub_mem fsEqb_ok hx
theorem get_add {σ new : St} {o : Nat} {ob : Ob} (h : nth σ o = some ob) : nth (σ ++ new) o = some ob := by
  rw [nth_eq] at h ⊢
  rw [List.getElem?_append_left (List.getElem?_eq_some_iff.1 h).1]
  exact h
theorem xload_add {agg : Bool} {n : Nat} {x r : V} {σ : St} (new : St) (h : xload agg n x σ = some r) : xload agg n x (σ ++ new) = some r := by
  unfold xload at h ⊢
  split at h
  · rename_i o off
    cases ho : nth σ o with
    | none => rw [ho] at h; cases h
    | some ob => rw [ho] at h; rw [get_add ho]; exact h
  · exact h
  · rename_i o e off
    cases ho : nth σ o with
    | none => rw [ho] at h; cases h
    | some ob => rw [ho] at h; rw [get_add ho]; exact h
  · cases h
theorem xfield_add {x r : V} {fo : Nat} {σ : St} (new : St) (h : xfield x fo σ = some r) : xfield x fo (σ ++ new) = some r := by
  unfold xfield at h ⊢
  split at h
  · exact h
  · exact h
  · rename_i o e off
    cases ho : nth σ o with
    | none => rw [ho] at h; cases h
    | some ob => rw [ho] at h; rw [get_add ho]; exact h
  · cases h
theorem xixrow_add {sz : Nat} {x i r : V} {σ : St} (new : St) (h : xixrow sz x i σ = some r) : xixrow sz x i (σ ++ new) = some r := by
  unfold xixrow at h ⊢
  split at h
  · exact h
  · rename_i o ep n kd j
    cases ho : nth σ o with
    | none => rw [ho] at h; cases h
    | some ob => rw [ho] at h; rw [get_add ho]; exact h
  · cases h
theorem xixarr_add {n sz : Nat} {x i r : V} {σ : St} (new : St) (h : xixarr n sz x i σ = some r) : xixarr n sz x i (σ ++ new) = some r := by
  unfold xixarr at h ⊢
  split at h
  · exact h
  · exact h
  · rename_i o ep off kd j
    cases ho : nth σ o with
    | none => rw [ho] at h; cases h
    | some ob => rw [ho] at h; rw [get_add ho]; exact h
  · cases h
theorem xlen_add {d : TD} {x r : V} {σ : St} (new : St) (h : xlen d x σ = some r) : xlen d x (σ ++ new) = some r := by
  unfold xlen at h ⊢
  split at h
  · exact h
  · exact h
  · exact h
  · rename_i o e n
    cases ho : nth σ o with
    | none => rw [ho] at h; cases h
    | some ob => rw [ho] at h; rw [get_add ho]; exact h
  · cases h
theorem xnil_add {x r : V} {σ : St} (new : St) (h : xnil x σ = some r) : xnil x (σ ++ new) = some r := by
  unfold xnil at h ⊢
  split at h
  · exact h
  · exact h
  · exact h
  · rename_i o e off
    cases ho : nth σ o with
    | none => rw [ho] at h; cases h
    | some ob => rw [ho] at h; rw [get_add ho]; exact h
  · cases h
theorem still_add {f : St → Option V} (hf : ∀ {σ : St} {r : V} (new : St), f σ = some r → f (σ ++ new) = some r) {σ : St} {v : V} {τ : St} (new : St) (h : still (f σ) σ = some [(v, τ)]) : still (f (σ ++ new)) (σ ++ new) = some [(v, σ ++ new)] := by
  unfold still at h
  split at h
  · rename_i u hu
    cases h
    unfold still
    rw [hf new hu]
  · cases h
theorem xop_add {call : Caller} {s : SOp} (hs : readS s = true) {ρ : Operand → V} {σ : St} {v : V} {τ : St} (new : St) (h : xop call tb s ρ σ = some [(v, τ)]) : xop call tb s ρ (σ ++ new) = some [(v, σ ++ new)] := by
  cases s <;> simp only [readS] at hs <;> first
    | cases hs
    | skip
  case mv x => cases h; rfl
  case pick c a b =>
    simp only [xop] at h ⊢
    split at h
    · split at h <;> (cases h; rfl)
    · cases h
  case bin d op x y => exact still_add (f := fun _ => xbin d op (ρ x) (ρ y)) (fun _ h => h) new h
  case un op x => exact still_add (f := fun _ => xun op (ρ x)) (fun _ h => h) new h
  case load agg n x => exact still_add (f := xload agg n (addr (ρ x))) (fun new h => xload_add new h) new h
  case fa off x => exact still_add (f := xfield (addr (ρ x)) off) (fun new h => xfield_add new h) new h
  case fld agg off n x =>
    simp only [xop] at h ⊢
    split at h
    · rename_i l hl
      exact still_add (f := fun _ => xpart agg l off n) (fun _ h => h) new h
    · cases h
  case ixr sz x i => exact still_add (f := xixrow sz (addr (ρ x)) (ρ i)) (fun new h => xixrow_add new h) new h
  case ixa n sz x i => exact still_add (f := xixarr n sz (addr (ρ x)) (ρ i)) (fun new h => xixarr_add new h) new h
  case chr x i => exact still_add (f := fun _ => xchr (ρ x) (ρ i)) (fun _ h => h) new h
  case len d x => exact still_add (f := xlen d (ρ x)) (fun new h => xlen_add new h) new h
  case ext x i =>
    simp only [xop] at h ⊢
    split at h
    · rename_i l hl
      exact still_add (f := fun _ => nth l i) (fun _ h => h) new h
    · cases h
  case nilc x => exact still_add (f := xnil (ρ x)) (fun new h => xnil_add new h) new h
theorem xitem_add {call : Caller} {ops : Array Oper} {o : Oper} (hs : readS (comp tb o.op) = true) {t : FT} {σ : St} {v : V} {τ : St} (new : St) (h : xitem call tb (sitem tb ops o) t σ = some [(v, τ)]) :
    xitem call tb (sitem tb ops o) t (σ ++ new) = some [(v, σ ++ new)] := by
  unfold xitem at h ⊢
  split at h
  · cases h
  · exact xop_add hs new h
  · cases h; rfl
theorem xop_adds {call : Caller} {s : SOp} (hs : addS s = true) {ρ : Operand → V} {σ : St} {out : List (V × St)} (h : xop call tb s ρ σ = some out) : ∀ p ∈ out, ∃ new, p.2 = σ ++ new := by
  cases s <;> simp only [addS] at hs <;> first
    | cases hs
    | skip
  case alloc z => cases h; intro p hp; rw [List.mem_singleton.1 hp]; exact ⟨_, rfl⟩
  case box x =>
    simp only [xop] at h
    split at h
    · cases h; intro p hp; rw [List.mem_singleton.1 hp]; exact ⟨_, rfl⟩
    · cases h
theorem xitem_adds {call : Caller} {ops : Array Oper} {o : Oper} (hs : addS (comp tb o.op) = true) {t : FT} {σ : St} {out : List (V × St)} (h : xitem call tb (sitem tb ops o) t σ = some out) : ∀ p ∈ out, ∃ new, p.2 = σ ++ new := by
  unfold xitem at h
  split at h
  · cases h
  · exact xop_adds hs h
  · cases h; intro p hp; rw [List.mem_singleton.1 hp]; exact ⟨[], by simp⟩
def Lv (stl : Op → Bool) (tb : Tab) (ops : Array Oper) (i : Nat) (σ σ' : St) : Prop :=
  ∀ o, ops[i]? = some o → (stl o.op = true → σ' = σ) ∧ (addS (comp tb o.op) = true → ∃ new, σ' = σ ++ new)
theorem Lv.refl {stl : Op → Bool} {ops : Array Oper} {i : Nat} {σ : St} : Lv stl tb ops i σ σ := fun o _ => ⟨fun _ => rfl, fun _ => ⟨[], by simp⟩⟩
def pAnyG (P : Program) (tb : Tab) (ops : Array Oper) (R : Nat → St → St → Prop) (K : Fr → St → Prop) : Nat → Array Bool → Fr → St → Prop
  | 0, listed, fr, σ => Region.ready .any ops listed = [] ∧ K fr σ
  | fuel + 1, listed, fr, σ => (Region.ready .any ops listed = [] → K fr σ) ∧
    ∀ i ∈ Region.ready .any ops listed, ∀ o, ops[i]? = some o → pOne P noF tb ops o (fun fr' σ' => R i σ σ' ∧ pAnyG P tb ops R K fuel (listed.setIfInBounds i true) fr' σ') fr σ
theorem pAnyG_weak {ops : Array Oper} {R : Nat → St → St → Prop} {K : Fr → St → Prop} : ∀ (fuel : Nat) {listed : Array Bool} {fr : Fr} {σ : St}, pAnyG P tb ops R K fuel listed fr σ → pAny P noF tb ops K fuel listed fr σ
  | 0, listed, fr, σ, h => h
  | fuel + 1, listed, fr, σ, h => ⟨h.1, fun i hi o ho => pOne_mono (h.2 i hi o ho) fun fr' σ' h' => pAnyG_weak fuel h'.2⟩
theorem pAnyG_first {ops : Array Oper} {R : Nat → St → St → Prop} (hR : ∀ i σ, R i σ σ) {K : Fr → St → Prop} {i : Nat} {oi : Oper} {r : V} (hi : ops[i]? = some oi) :
    ∀ (fuel : Nat) (listed : Array Bool) (fr : Fr) (σ : St),
      (∀ j oj, ops[j]? = some oj → j ≠ i → listed.getD j true = false → (∀ e ∈ oj.after, Region.binds .any e = true → e.on ≠ i) → oi.apart ops oj = true) →
      i ∈ Region.ready .any ops listed → PY P noF tb ops oi r fr →
      pAnyG P tb ops R K fuel (listed.setIfInBounds i true) (fr.put oi.dst r) σ → pAnyG P tb ops R K (fuel + 1) listed fr σ := by
  intro fuel
  induction fuel with
  | zero =>
    intro listed fr σ _ hr hy H
    refine ⟨fun h => (by rw [h] at hr; cases hr), fun j hj o ho => ?_⟩
    by_cases hji : j = i
    · subst hji
      rw [hi] at ho; cases ho
      exact hy σ _ ⟨hR _ _, H⟩
    · have := ready_mono hj hji
      rw [H.1] at this
      cases this
  | succ fuel ih =>
    intro listed fr σ hfree hr hy H
    refine ⟨fun h => (by rw [h] at hr; cases hr), fun j hj oj hoj => ?_⟩
    by_cases hji : j = i
    · subst hji
      rw [hi] at hoj; cases hoj
      exact hy σ _ ⟨hR _ _, H⟩
    · have h1 := H.2 j (ready_mono hj hji) oj hoj
      have hjun := (mem_ready.1 hj).1
      have h2 := pOne_put (hfree j oj hoj hji hjun (not_listed hr hoj hj)) hy h1
      refine pOne_mono h2 fun fr' σ' h3 => ⟨h3.2.1, ih (listed.setIfInBounds j true) fr' σ' (free_step hfree hjun) (ready_mono hr (Ne.symm hji)) h3.1 ?_⟩
      rw [Array.setIfInBounds_comm _ _ hji]
      exact h3.2.2
theorem pOne_putsQ {ops : Array Oper} {Q : St → St → Prop} (hQ : ∀ σ, Q σ σ) {oi oj : Oper} {r : V} {fr : Fr} (hap : oi.apart ops oj = true) {K : Fr → St → Prop} {σ : St} (hy : ∀ σ', Q σ σ' → PYs P tb ops oi r fr σ') (hT : ∀ {a b c}, Q a b → Q b c → Q a c)
    (h : pOne P noF tb ops oj (fun fr' σ' => Q σ σ' ∧ K fr' σ') (fr.put oi.dst r) σ) :
    pOne P noF tb ops oj (fun fr' σ' => Q σ σ' ∧ (∀ σ'', Q σ' σ'' → PYs P tb ops oi r fr' σ'') ∧ K (fr'.put oi.dst r) σ') fr σ := by
  obtain ⟨h1, h2, h3⟩ := Oper.apart_spec hap
  have hc : ∀ v, (fr.put oi.dst r).put oj.dst v = (fr.put oj.dst v).put oi.dst r := fun v => put_comm fr r v h2
  unfold pOne at h ⊢
  rw [vguard_put h1] at h
  simp only [hc] at h
  rcases vguard_cases h with ⟨q1, q2⟩ | ⟨q1, q2⟩
  · exact q2 _ _ (pdo_mono ((pdo_put h1).1 q1) fun v σ' hh => ⟨hh.1, fun σ'' hq => (hy σ'' (hT hh.1 hq)).put hap, hh.2⟩)
  · exact q2 _ _ ⟨hQ σ, fun σ'' hq => (hy σ'' hq).put hap, q1.2⟩
theorem pAnyG_calm {ops : Array Oper} {R : Nat → St → St → Prop} {Q : St → St → Prop} (hR : ∀ i σ, R i σ σ) (hQ : ∀ σ, Q σ σ) (hT : ∀ {a b c}, Q a b → Q b c → Q a c) {K : Fr → St → Prop} {i : Nat} {oi : Oper} {r : V} (hi : ops[i]? = some oi) (D : Nat → Bool)
    (hDr : ∀ j, D j = true → ∃ o, ops[j]? = some o) (hD : ∀ j oj, ops[j]? = some oj → D j = true → ∃ e ∈ oj.after, Region.binds .any e = true ∧ (e.on = i ∨ D e.on = true)) :
    ∀ (fuel : Nat) (listed : Array Bool) (fr : Fr) (σ : St),
      (∀ j oj, ops[j]? = some oj → j ≠ i → listed.getD j true = false → (∀ e ∈ oj.after, Region.binds .any e = true → e.on ≠ i) → oi.apart ops oj = true) →
      (∀ j oj, ops[j]? = some oj → D j = true → listed.getD j true = false) →
      (∀ j oj, ops[j]? = some oj → D j = false → j ≠ i → listed.getD j true = false → ∀ a b, R j a b → Q a b) →
      i ∈ Region.ready .any ops listed → (∀ σ', Q σ σ' → PYs P tb ops oi r fr σ') →
      pAnyG P tb ops R K fuel (listed.setIfInBounds i true) (fr.put oi.dst r) σ → pAnyG P tb ops R K (fuel + 1) listed fr σ := by
  intro fuel
  induction fuel with
  | zero =>
    intro listed fr σ _ _ _ hr hy H
    refine ⟨fun h => (by rw [h] at hr; cases hr), fun j hj o ho => ?_⟩
    by_cases hji : j = i
    · subst hji
      rw [hi] at ho; cases ho
      exact hy σ (hQ σ) _ ⟨hR _ _, H⟩
    · have := ready_mono hj hji
      rw [H.1] at this
      cases this
  | succ fuel ih =>
    intro listed fr σ hfree hDl hst hr hy H
    refine ⟨fun h => (by rw [h] at hr; cases hr), fun j hj oj hoj => ?_⟩
    by_cases hji : j = i
    · subst hji
      rw [hi] at hoj; cases hoj
      exact hy σ (hQ σ) _ ⟨hR _ _, H⟩
    · have h1 := H.2 j (ready_mono hj hji) oj hoj
      obtain ⟨hjun, oj', hoj', hall⟩ := mem_ready.1 hj
      rw [hoj] at hoj'; cases hoj'
      have hDj : D j = false := by
        cases hd : D j with
        | false => rfl
        | true =>
          obtain ⟨e, he, hb, hor⟩ := hD j oj hoj hd
          rcases hor with h | h
          · exact absurd h (not_listed hr hoj hj e he hb)
          · have l1 := hall e he hb
            obtain ⟨oe, ho⟩ := hDr e.on h
            have l2 := hDl e.on oe ho h
            rcases Nat.lt_or_ge e.on listed.size with h' | h'
            · simp [h'] at l1 l2; rw [l2] at l1; cases l1
            · simp [Array.getElem?_eq_none h'] at l1
      have hS := hst j oj hoj hDj hji hjun
      have h2 := pOne_putsQ (Q := Q) hQ (hfree j oj hoj hji hjun (not_listed hr hoj hj)) hy hT (K := fun fr' σ' => R j σ σ' ∧ pAnyG P tb ops R K fuel ((listed.setIfInBounds i true).setIfInBounds j true) fr' σ') (pOne_mono h1 fun fr' σ' h => ⟨hS _ _ h.1, h⟩)
      refine pOne_mono h2 fun fr' σ' h3 => ⟨h3.2.2.1, ?_⟩
      obtain ⟨e, h4, h5⟩ := h3
      refine ih (listed.setIfInBounds j true) fr' σ' (free_step hfree hjun) ?_ ?_ (ready_mono hr (Ne.symm hji)) h4 ?_
      · intro k ok hk hdk
        by_cases hjk : j = k
        · subst hjk; rw [hDj] at hdk; cases hdk
        · rw [getD_set_ne true hjk]; exact hDl k ok hk hdk
      · intro k ok hk hdk hki hun
        refine hst k ok hk hdk hki ?_
        by_cases hjk : j = k
        · subst hjk; exact hjun
        · rw [getD_set_ne true hjk] at hun; exact hun
      · rw [Array.setIfInBounds_comm _ _ hji]
        exact h5.2
def Adds (σ σ' : St) : Prop := ∃ new, σ' = σ ++ new
theorem calm_first {ps : FuncId → Bool} {call : Caller} (hc : CallOk P call) (hst : CallStill ps call) {ops : Array Oper} {m : Nat} {K : Fr → St → Prop} {i : Nat} {o : Oper} (ho : ops[i]? = some o) {n : Nat} {listed : Array Bool} {t : FT} {σ : St} (ht : OkT m t)
    (hi : i ∈ Region.ready .any ops listed) (hfr : freeAt ops listed i = true) (hcm : calmY tb (stlOf tb ps) ops listed i o.op = true) {v : V} {τ : St} (hx : xitem call tb (sitem tb ops o) t σ = some [(v, τ)])
    (ih : pAnyG P tb ops (Lv (stlOf tb ps) tb ops) K n (listed.setIfInBounds i true) ((frT m t).put o.dst v) σ) : pAnyG P tb ops (Lv (stlOf tb ps) tb ops) K (n + 1) listed (frT m t) σ := by
  simp only [calmY, Bool.and_eq_true, Bool.or_eq_true] at hcm
  obtain ⟨hs, hcm⟩ := hcm
  have hτ : τ = σ := xitem_still hst hs hx (v, τ) (List.mem_singleton.2 rfl)
  subst hτ
  have py : ∀ σ', xitem call tb (sitem tb ops o) t σ' = some [(v, σ')] → PYs P tb ops o v (frT m t) σ' := by
    intro σ' hx' K hK
    refine pOne_mono (xitem_ok hc ht hx') fun fr' σ2 ⟨u, e, hu⟩ => ?_
    have := List.mem_singleton.1 hu
    cases this
    rw [e, frT_set ht]
    exact hK
  rcases hcm with hcm | ⟨hrd, hcm⟩
  · exact pAnyG_calm (Q := fun a b => b = a) (fun _ _ => Lv.refl) (fun _ => rfl) (fun h k => k.trans h) ho (Dof ops i) (fun j hd => Dof_lt hd) (fun j oj hj hd => ((calm_spec hcm hj).1 hd).2) n listed _ τ (fun j oj hj hne hun hno => Region.free_spec ho hfr j oj hj hne hun hno)
      (fun j oj hj hd => ((calm_spec hcm hj).1 hd).1) (fun j oj hj hd hne hun a b hl => (hl oj hj).1 ((calm_spec hcm hj).2 hd hne hun)) hi (fun σ' e => by subst e; exact py _ hx) ih
  · exact pAnyG_calm (Q := Adds) (fun _ _ => Lv.refl) (fun σ => ⟨[], by simp⟩) (fun ⟨x, h⟩ ⟨y, k⟩ => ⟨x ++ y, by rw [k, h, List.append_assoc]⟩) ho (Dof ops i) (fun j hd => Dof_lt hd) (fun j oj hj hd => ((calm_spec hcm hj).1 hd).2) n listed _ τ (fun j oj hj hne hun hno => Region.free_spec ho hfr j oj hj hne hun hno)
      (fun j oj hj hd => ((calm_spec hcm hj).1 hd).1) (fun j oj hj hd hne hun a b hl => by
        have := (calm_spec hcm hj).2 hd hne hun
        rcases Bool.or_eq_true _ _ ▸ this with h | h
        · exact ⟨[], by rw [(hl oj hj).1 h]; simp⟩
        · exact (hl oj hj).2 h) hi (fun σ' ⟨new, e⟩ => by subst e; exact py _ (xitem_add hrd new hx)) ih
theorem tlessY_ok {call : Caller} (hc : CallOk P call) {ops : Array Oper} {o : Oper} {m : Nat} {t : FT} (ht : OkT m t) (hl : tlessY tb o.op t = true) {v u : V} {τ : St} (h : xitem call tb (sitem tb ops o) t [] = some [(v, τ)]) (hu : ysoft o.op (v, τ) = some u) : PY P noF tb ops o u (frT m t) := by
  unfold tlessY at hl
  unfold ysoft at hu
  rw [Bool.or_eq_true] at hl
  rcases hl with hl | hl
  · have hco : callOp o.op = false := by
      cases ho : o.op <;> rw [ho] at hl <;> first
        | rfl
        | (simp [movOp] at hl; done)
    rw [hco] at hu
    simp only [Option.some.injEq] at hu
    subst hu
    have hc2 : ∃ x, comp tb o.op = .mv x := by
      cases ho : o.op <;> rw [ho] at hl <;> first
        | (simp [movOp] at hl; done)
        | exact ⟨_, rfl⟩
    obtain ⟨x, hcx⟩ := hc2
    intro σ K hK
    have hx : xitem call tb (sitem tb ops o) t σ = some [(v, σ)] := by
      unfold xitem at h ⊢
      split at h
      · cases h
      · rename_i hg
        simp only [sitem, hcx, xop] at h ⊢
        cases h
        rfl
      · rename_i hg
        cases h
        rfl
    refine pOne_mono (xitem_ok hc ht hx) fun fr' σ2 ⟨u2, e, hu2⟩ => ?_
    have := List.mem_singleton.1 hu2
    cases this
    rw [e, frT_set ht]
    exact hK
  cases hco : callOp o.op with
  | false =>
    rw [hco] at hl hu
    simp only [Option.some.injEq] at hu
    subst hu
    exact xitem_tless hc ht hl h
  | true =>
    rw [hco] at hl hu
    simp only at hl hu
    obtain ⟨dst, op, ty, pos, after, guard⟩ := o
    cases op <;> first
      | (simp [callOp] at hco; done)
      | skip
    rename_i cl
    obtain ⟨cal, args, at'⟩ := cl
    cases cal <;> first
      | (simp [callOp] at hco; done)
      | skip
    rename_i x
    cases x <;> first
      | (simp [callOp] at hco; done)
      | skip
    rename_i f
    simp only at hl
    split at hu
    · cases hu
    · rename_i u' τ' hh
      split at hu
      · rename_i hfree
        cases hu
        have hcomp : comp tb (.call { callee := .value (.func f), args := args, argTypes := at' }) = .call (.func f) args.toList := by
          simp [comp, extraB, comp0]
        have hA := tA_in (m := m) t
        have hlk : ∀ i, lk (tA t m) i = t.get i := fun i => congrFun (tA_at ht) (.tmp i)
        unfold xitem at h
        split at h
        · cases h
        · rename_i hgd
          have hcall : call f (args.toList.map t.at) [] = some [(v, τ)] := by
            have := h
            simp only [sitem, hcomp, xop, FT.at, callee] at this
            exact this
          intro σ K hK
          -- a caller that knows this call alone
          let call' : Caller := fun f' l' σ' => @ite _ (f' = f ∧ l' = args.toList.map t.at) (Classical.propDecidable _) (some [(u, σ')]) none
          have hc' : CallOk P call' := by
            intro f' l' σ' o' ho'
            by_cases hfl : f' = f ∧ l' = args.toList.map t.at
            · simp only [call', if_pos hfl] at ho'
              obtain ⟨rfl, rfl⟩ := hfl
              cases ho'
              have hhard : hardly σ' [(v, τ)] = some [(u, σ')] := by
                simp only [hardly, hh, hfree]
              exact call_free hl (hc _ _ _ _ hcall) hhard
            · simp only [call', if_neg hfl] at ho'
              cases ho'
          have hx1 : xitem call' tb (sitem tb ops ⟨dst, .call { callee := .value (.func f), args := args, argTypes := at' }, ty, pos, after, guard⟩) t σ = some [(u, σ)] := by
            unfold xitem
            rw [hgd]
            simp only [sitem, hcomp, xop, FT.at, callee]
            exact if_pos ⟨rfl, rfl⟩
          refine pOne_mono (xitem_ok hc' ht hx1) fun fr' σ2 ⟨u2, e, hu2⟩ => ?_
          have := List.mem_singleton.1 hu2
          cases this
          rw [e, frT_set ht]
          exact hK
        · rename_i hgd
          cases h
          simp only [hardV, hardVs] at hh
          cases hh
          intro σ K hK
          exact sg hA (xguard_ok hlk hgd (fun e => by cases e) (fun _ => hK))
      · cases hu
def PTSays (P : Program) (tb : Tab) (ps : FuncId → Bool) (ops : Array Oper) (m : Nat) (K : Fr → St → Prop) (s : PT) (top : Bool) (n : Nat) (listed : Array Bool) (t : FT) (σ : St) : Prop :=
  match top with
  | true => pAnyG P tb ops (Lv (stlOf tb ps) tb ops) K n listed (frT m t) σ
  | false => ∀ n', n = n' + 1 → ∀ i ∈ s.alts, ∀ o, ops[i]? = some o →
      pOne P noF tb ops o (fun fr' σ' => (Lv (stlOf tb ps) tb ops i σ σ') ∧ pAnyG P tb ops (Lv (stlOf tb ps) tb ops) K n' (listed.setIfInBounds i true) fr' σ') (frT m t) σ
theorem yrun_ok {ps : FuncId → Bool} {call : Caller} (hc : CallOk P call) (hst : CallStill ps call) {ops : Array Oper} {m : Nat} {K : Fr → St → Prop} : ∀ (s : PT) (top : Bool) (k : Nat → Array Bool → Bool) (n : Nat) (listed : Array Bool) {y : YT} {t : FT} {σ : St} {out : List (FT × St)}, OkT m t →
    ptOk tb (stlOf tb ps) ops s top k n listed = true → ytree tb ops s = some y → yrun y call tb m t σ = some out →
    (∀ n' l' t' σ', k n' l' = true → OkT m t' → (t', σ') ∈ out → pAnyG P tb ops (Lv (stlOf tb ps) tb ops) K n' l' (frT m t') σ') → PTSays P tb ps ops m K s top n listed t σ
  | .done, top, k, n, listed, y, t, σ, out, ht, hg, hy, h, hk => by
    simp only [ytree, Option.some.injEq] at hy
    subst hy
    simp only [ptOk, Bool.and_eq_true] at hg
    obtain ⟨rfl, hr⟩ := hg
    have h' : out = [(t, σ)] := (Option.some.inj h).symm
    subst h'
    exact hk n listed t σ hr ht (List.mem_singleton.2 rfl)
  | .stop, top, k, n, listed, y, t, σ, out, ht, hg, hy, h, hk => by
    simp only [ptOk, Bool.not_eq_true'] at hg
    subst hg
    intro n' _ i hi
    simp only [PT.alts] at hi
    cases hi
  | .goc i p, top, k, n, listed, y, t, σ, out, ht, hg, hy, h, hk => by
    simp only [ytree] at hy
    split at hy
    · cases hy
    · split at hy
      · cases hy
      · cases hy
        cases h
  | .sub s p, top, k, n, listed, y, t, σ, out, ht, hg, hy, h, hk => by
    simp only [ptOk, Bool.and_eq_true] at hg
    obtain ⟨rfl, hg⟩ := hg
    simp only [ytree] at hy
    split at hy
    · cases hy
    · rename_i ys hys
      split at hy
      · cases hy
      · rename_i yp hyp
        cases hy
        have h' : bindR (ynub (yrun ys call tb m t σ)) (fun p => yrun yp call tb m p.1 p.2) = some out := h
        rw [bindR_eq] at h'
        obtain ⟨l, h1, h2⟩ := bind_mem h'
        obtain ⟨l0, h3, h4⟩ := ynub_spec h1
        exact yrun_ok hc hst s true _ n listed ht hg hys h3 fun n' l' t' σ' hk' ht' hm => by
          obtain ⟨lx, h5, h6⟩ := h2 _ (h4 _ hm)
          exact yrun_ok hc hst p true k n' l' ht' hk' hyp h5 fun n2 l2 t2 σ2 a b c => hk n2 l2 t2 σ2 a b (h6 _ c)
  | .go i c p, top, k, n, listed, y, t, σ, out, ht, hg, hy, h, hk => by
    simp only [ptOk] at hg
    cases n with
    | zero => cases hg
    | succ n =>
    simp only at hg
    split at hg
    · rename_i hb
      simp only [Bool.and_eq_true, List.contains_eq_mem, decide_eq_true_eq] at hb
      obtain ⟨rfl, ⟨hi, hfr⟩, hcc⟩ := hb
      simp only [ytree] at hy
      split at hy
      · cases hy
      · rename_i o ho
        split at hy
        · cases hy
        · rename_i y' hy'
          cases hy
          rw [ho] at hcc
          show pAnyG P tb ops (Lv (stlOf tb ps) tb ops) K (n + 1) listed (frT m t) σ
          cases c with
          | true =>
            have h' : oneK (yitem (sitem tb ops o) call tb t σ) (fun q => ftPutK m t (sitem tb ops o).dst q.1 fun t' => yrun y' call tb m t' σ) (fun _ => none) = some out := h
            obtain ⟨⟨v, τ⟩, hx, h2⟩ := oneK_spec h'
            rw [ftPutK_eq] at h2
            rw [yitem_eq] at hx
            have ih : pAnyG P tb ops (Lv (stlOf tb ps) tb ops) K n (listed.setIfInBounds i true) (frT m (t.set m o.dst v)) σ := yrun_ok hc hst p true k n (listed.setIfInBounds i true) (ht.set o.dst v) hg hy' h2 hk
            rw [frT_set ht] at ih
            exact calm_first hc hst ho ht hi hfr hcc hx ih
          | false =>
            have h' : Bool.rec none (oneK (yitem (sitem tb ops o) call tb t []) (fun q => Option.rec none (fun u => ftPutK m t (sitem tb ops o).dst u fun t' => yrun y' call tb m t' σ) (ysoft o.op q)) fun _ => none) (tlessY tb o.op t) = some out := h
            cases htl : tlessY tb o.op t with
            | false => rw [htl] at h'; cases h'
            | true =>
              rw [htl] at h'
              obtain ⟨⟨v, τ⟩, hx, h2⟩ := oneK_spec h'
              rw [yitem_eq] at hx
              cases hu : ysoft o.op (v, τ) with
              | none => rw [hu] at h2; cases h2
              | some u =>
                rw [hu] at h2
                have h2 : ftPutK m t (sitem tb ops o).dst u (fun t' => yrun y' call tb m t' σ) = some out := h2
                rw [ftPutK_eq] at h2
                have ih : pAnyG P tb ops (Lv (stlOf tb ps) tb ops) K n (listed.setIfInBounds i true) (frT m (t.set m o.dst u)) σ := yrun_ok hc hst p true k n (listed.setIfInBounds i true) (ht.set o.dst u) hg hy' h2 hk
                rw [frT_set ht] at ih
                exact pAnyG_first (fun _ _ => Lv.refl) ho n listed _ σ (fun j oj hj hne hun hno => Region.free_spec ho hfr j oj hj hne hun hno) hi (tlessY_ok hc ht htl hx hu) ih
    · cases hg
  | .alt i p q, top, k, n, listed, y, t, σ, out, ht, hg, hy, h, hk => by
    simp only [ptOk] at hg
    cases n with
    | zero => cases hg
    | succ n =>
    simp only at hg
    split at hg
    · rename_i htop
      split at hg
      · rename_i hp
        simp only [ytree] at hy
        split at hy
        · cases hy
        · rename_i o ho
          split at hy
          · cases hy
          · rename_i yp hyp
            split at hy
            · cases hy
            · rename_i yq hyq
              cases hy
              have h' : yjoin (Rs.bind (yitem (sitem tb ops o) call tb t σ) fun r => yrun yp call tb m (t.set m (sitem tb ops o).dst r.1) r.2) (yrun yq call tb m t σ) = some out := h
              obtain ⟨l, l', h1, h2, h3, h4⟩ := yjoin_spec h'
              have key : PTSays P tb ps ops m K (.alt i p q) false (n + 1) listed t σ := by
                intro n' e j hj oj hoj
                cases e
                simp only [PT.alts] at hj
                rcases List.mem_cons.1 hj with rfl | hj
                · rw [ho] at hoj
                  cases hoj
                  obtain ⟨o1, e1, e2⟩ := bind_mem h1
                  rw [yitem_eq] at e1
                  refine pOne_mono (xitem_ok hc ht e1) fun fr' σ' ⟨v, e, hv⟩ => ?_
                  subst e
                  obtain ⟨lx, e3, e4⟩ := e2 _ hv
                  refine ⟨fun o' ho' => ?_, ?_⟩
                  · rw [ho] at ho'
                    cases ho'
                    exact ⟨fun hs => xitem_still hst hs e1 _ hv, fun hs => xitem_adds hs e1 _ hv⟩
                  · exact yrun_ok hc hst p true k n _ (ht.set o.dst v) hp hyp e3 fun n2 l2 t2 σ2 a b c => hk n2 l2 t2 σ2 a b (h3 _ (e4 _ c))
                · have ih := yrun_ok hc hst q false k (n + 1) listed ht hg hyq h2 fun n2 l2 t2 σ2 a b c => hk n2 l2 t2 σ2 a b (h4 _ c)
                  exact ih n rfl j hj oj hoj
              cases top with
              | false => exact key
              | true =>
                have hr := natsB_eq htop
                refine ⟨fun hn => (by rw [hr] at hn; cases hn), fun j hj oj hoj => ?_⟩
                rw [hr] at hj
                exact key n rfl j hj oj hoj
      · cases hg
    · cases hg
theorem yrun_all {ps : FuncId → Bool} {call : Caller} (hc : CallOk P call) (hst : CallStill ps call) {ops : Array Oper} {m : Nat} {s : PT} {n : Nat} {listed : Array Bool} {y : YT} {t : FT} {σ : St} {out : List (FT × St)} (ht : OkT m t)
    (hg : ptOk tb (stlOf tb ps) ops s true (allRun ops) n listed = true) (hy : ytree tb ops s = some y) (h : yrun y call tb m t σ = some out) : pAnyG P tb ops (Lv (stlOf tb ps) tb ops) (InO m out) n listed (frT m t) σ :=
  yrun_ok (K := InO m out) hc hst s true (allRun ops) n listed ht hg hy h fun n' l' t' σ' hk ht' hm => by
    have hr := nilB_eq hk
    cases n' with
    | zero => exact ⟨hr, t', ht', rfl, hm⟩
    | succ n' => exact ⟨fun _ => ⟨t', ht', rfl, hm⟩, fun i hi => by rw [hr] at hi; cases hi⟩
theorem hints_two {x y : Bool} (h : (match x with | true => y | false => false) = true) : x = true ∧ y = true := by cases x <;> cases y <;> first | exact ⟨rfl, rfl⟩ | cases h
theorem canonF_lifts {n m : Nat} {g : G} {w : World} {σ : St} {l : List (FT × St)} {a' : Act} {w' : World} (h : LiftsN n g w σ (InO m l) a' w') : LiftsN n g w σ (InO m (l.map (canonF n))) a' w' := by
  obtain ⟨fr', σ', g', ⟨t, ht, rfl, hm⟩, h2, h3, h4, h5⟩ := h
  have hm : canonF n (t, σ') ∈ l.map (canonF n) := List.mem_map.2 ⟨_, hm, rfl⟩
  unfold canonF at hm
  simp only at hm
  split at hm
  · rename_i σ2 e1 e2
    obtain ⟨hc, hv⟩ := canon_spec e1 e2
    exact ⟨_, σ2, _, ⟨_, ht.ren _, rfl, hm⟩, ren_rep hc h2, ren_turn hc h3, renFr ht hc hv h4, h5⟩
  · exact ⟨_, σ', g', ⟨t, ht, rfl, hm⟩, h2, h3, h4, h5⟩
theorem ynorm_spec {n m : Nat} {o : Rs (FT × St)} {out : List (XE × FT × St)} (h : ynorm n o = some out) : ∃ l, o = some l ∧
    ∀ {g : G} {w : World} {σ : St} {a' : Act} {w' : World}, LiftsN n g w σ (InO m l) a' w' → LiftsN n g w σ (InX m out .normal) a' w' := by
  cases o with
  | none => cases h
  | some l =>
    refine ⟨l, rfl, fun h' => ?_⟩
    cases l with
    | nil => obtain ⟨fr', σ', g', ⟨t, ht, rfl, hm⟩, _⟩ := h'; cases hm
    | cons q l =>
      cases l with
      | nil =>
        have e : out = [(XE.norm, q.1, q.2)] := (Option.some.inj h).symm
        subst e
        exact LiftsN.mono h' fun fr σ' ⟨t', q1, q2, q3⟩ => by
          subst q2
          have := List.mem_singleton.1 q3
          subst this
          exact inNorm q1 (List.mem_singleton.2 rfl)
      | cons q' l =>
        have e : out = (nub fsEqb ((q :: q' :: l).map (canonF n))).map fun p => (XE.norm, p.1, p.2) := (Option.some.inj h).symm
        subst e
        exact LiftsN.mono (canonF_lifts h') fun fr σ' ⟨t', q1, q2, q3⟩ => by
          subst q2
          exact inNorm q1 (List.mem_map.2 ⟨_, nub_mem fsEqb_ok q3, rfl⟩)
theorem ycond_spec {v : V} {a b : Unit → Rs (XE × FT × St)} {o : List (XE × FT × St)} (h : ycond v a b = some o) : (v = .c (.f (.bool true)) ∧ a () = some o) ∨ (v = .c (.f (.bool false)) ∧ b () = some o) := by
  cases v with
  | c c => cases c with
    | f f => cases f with
      | bool t => cases t with
        | true => exact .inl ⟨rfl, h⟩
        | false => exact .inr ⟨rfl, h⟩
      | _ => cases h
    | _ => cases h
  | _ => cases h
theorem ycode_ok (hm : P.follows .mixedOrders = true) (tok : TabOk P tb) {ps : FuncId → Bool} {call : Caller} (hc : CallOk P call) (hst : CallStill ps call) {m n it : Nat} {H : Hints} {c : Code} : ∀ {t : FT} {σ : St} {out : List (XE × FT × St)}, hintsOk tb (stlOf tb ps) H c = true → OkT m t →
    ycode (ycomp tb (stlOf tb ps) H c) call tb n m it t σ = some out → DWp P n c (InX m out) (frT m t) σ := by
  induction c with
  | skip =>
    intro t σ out hh0 ht h g w a hr hf hd
    simp only [ycomp, ycode, Option.some.injEq] at h
    subst h
    exact wp_skip (here_ok (inNorm ht (List.mem_singleton.2 rfl)) hr hf hd)
  | label l =>
    intro t σ out hh0 ht h g w a hr hf hd
    simp only [ycomp, ycode, Option.some.injEq] at h
    subst h
    exact wp_label (here_ok (inNorm ht (List.mem_singleton.2 rfl)) hr hf hd)
  | exit id =>
    intro t σ out hh0 ht h g w a hr hf hd
    simp only [ycomp, ycode, Option.some.injEq] at h
    subst h
    exact wp_exit (here_ok (inExit ht (List.mem_singleton.2 rfl)) hr hf hd)
  | ret =>
    intro t σ out hh0 ht h g w a hr hf hd
    simp only [ycomp, ycode, Option.some.injEq] at h
    subst h
    exact wp_ret (here_ok (inRet ht (List.mem_singleton.2 rfl)) hr hf hd)
  | region id ops draw =>
    intro t σ out hh0 ht h g w a hr hf hd
    cases draw with
    | false =>
      simp only [ycomp] at h
      obtain ⟨l, h1, h2⟩ := ynorm_spec (o := yseq _ call tb m t σ) h
      rw [yseq_eq] at h1
      refine wp_region ?_
      rw [List.range_eq_range']
      exact pSeq_sound tok ops.size 0 (by omega) hr hf hd (by rw [List.drop_zero]; exact xseq_ok hc _ ht h1) fun a' w' h' => show LiftsN n g w σ (InX m out .normal) a' w' from h2 (h'.n n)
    | true =>
      have key : ∃ l, (∀ {g : G} {w : World} {σ : St} {a' : Act} {w' : World}, LiftsN n g w σ (InO m l) a' w' → LiftsN n g w σ (InX m out .normal) a' w') ∧ pAny P noF tb ops (InO m l) ops.size (Array.replicate ops.size false) (frT m t) σ := by
        simp only [ycomp] at h
        simp only [hintsOk] at hh0
        split at h
        · rename_i s hs
          rw [hs] at hh0
          simp only at hh0
          split at h
          · rename_i y hy
            obtain ⟨l, h1, h2⟩ := ynorm_spec (o := yrun y call tb m t σ) h
            exact ⟨l, h2, pAnyG_weak _ (yrun_all hc hst ht hh0 hy h1)⟩
          · cases h
        · obtain ⟨l, h1, h2⟩ := ynorm_spec (o := xany call tb m ops.size (planOf tb (stlOf tb ps) ops) t σ) h
          exact ⟨l, h2, pAnyF_weak _ (xany_ok hc hst _ _ ht h1)⟩
      obtain ⟨l, h2, hp⟩ := key
      obtain ⟨d1, d2⟩ := drew_rep hr
      refine wp_region_any hm ?_
      exact pAny_sound tok _ _ d1 (hf.turn d2) hd hp fun a' w' h' => h2 ((h'.n n).trans (d2.n n))
  | seq x y ihx ihy =>
    intro t σ out hh0 ht h g w a hr hf hd
    have h : bindR (ycode (ycomp tb (stlOf tb ps) H x) call tb n m it t σ) (ynext (ycode (ycomp tb (stlOf tb ps) H y) call tb n m it)) = some out := h
    rw [bindR_eq] at h
    obtain ⟨hx0, hy0⟩ := hints_two (x := hintsOk tb (stlOf tb ps) H x) (y := hintsOk tb (stlOf tb ps) H y) hh0
    obtain ⟨l, h1, h2⟩ := bind_mem h
    refine wp_seq (wp_mono (ihx hx0 ht h1 g w a hr hf hd) fun e a' w' h' => ?_)
    obtain ⟨fr', σ', g', ⟨xe, t', hx, ht', rfl, hmm⟩, h4, h5, h6, h7⟩ := h'
    obtain ⟨lx, h8, h9⟩ := h2 _ hmm
    cases e with
    | normal =>
      cases xe <;> simp only [xeOf] at hx
      exact wp_mono (ihy hy0 ht' h8 g' w' a' h4 h6 h7) fun e a'' w'' h10 => (h10.mono fun fr σ hh => hh.mono h9).trans h5
    | exit i =>
      cases xe <;> simp only [xeOf] at hx
      subst hx
      have h8 := (Option.some.inj h8).symm
      subst h8
      exact ⟨_, σ', g', inExit ht' (h9 _ (List.mem_singleton.2 rfl)), h4, h5, h6, h7⟩
    | ret =>
      cases xe <;> simp only [xeOf] at hx
      have h8 := (Option.some.inj h8).symm
      subst h8
      exact ⟨_, σ', g', inRet ht' (h9 _ (List.mem_singleton.2 rfl)), h4, h5, h6, h7⟩
    | _ => cases xe <;> exact hx.elim
  | cond c x y ihx ihy =>
    intro t σ out hh0 ht h g w a hr hf hd
    have h : ycond (ftAt t c) (fun _ => ycode (ycomp tb (stlOf tb ps) H x) call tb n m it t σ) (fun _ => ycode (ycomp tb (stlOf tb ps) H y) call tb n m it t σ) = some out := h
    rw [ftAt_eq] at h
    obtain ⟨hx0, hy0⟩ := hints_two (x := hintsOk tb (stlOf tb ps) H x) (y := hintsOk tb (stlOf tb ps) H y) hh0
    have hcv := opd_rep hf c
    rw [frT_opd ht] at hcv
    rcases ycond_spec h with ⟨e, h⟩ | ⟨e, h⟩
    · rw [e] at hcv
      exact wp_cond_true (show a.eval c = .bool true from hcv) (ihx hx0 ht h g w a hr hf hd)
    · rw [e] at hcv
      exact wp_cond_false (show a.eval c = .bool false from hcv) (ihy hy0 ht h g w a hr hf hd)
  | block id c ih =>
    intro t σ out hh0 ht h g w a hr hf hd
    have h : bindR (ycode (ycomp tb (stlOf tb ps) H c) call tb n m it t σ) (yblk id) = some out := h
    rw [bindR_eq] at h
    obtain ⟨l, h1, h2⟩ := bind_mem h
    refine wp_block (wp_mono (ih hh0 ht h1 g w a hr hf hd) fun e a' w' h' => ?_)
    obtain ⟨fr', σ', g', ⟨xe, t', hx, ht', rfl, hmm⟩, h4⟩ := h'
    obtain ⟨lx, h8, h9⟩ := h2 _ hmm
    cases e with
    | normal =>
      cases xe <;> simp only [xeOf] at hx
      have h8 := (Option.some.inj h8).symm
      subst h8
      exact ⟨_, σ', g', inNorm ht' (h9 _ (List.mem_singleton.2 rfl)), h4⟩
    | exit j =>
      cases xe <;> simp only [xeOf] at hx
      subst hx
      simp only [Exit.inBlock]
      rename_i j
      have h8 : Bool.rec (some [(XE.exit j, t', σ')]) (some [(XE.norm, t', σ')]) (Nat.beq j id) = some lx := h8
      cases hj : Nat.beq j id with
      | true =>
        rw [hj] at h8
        have e8 : lx = [(XE.norm, t', σ')] := (Option.some.inj h8).symm
        subst e8
        have := Nat.eq_of_beq_eq_true hj
        subst this
        rw [if_pos rfl]
        exact ⟨_, σ', g', inNorm ht' (h9 _ (List.mem_singleton.2 rfl)), h4⟩
      | false =>
        rw [hj] at h8
        have e8 : lx = [(XE.exit j, t', σ')] := (Option.some.inj h8).symm
        subst e8
        rw [if_neg (fun e => by subst e; rw [Nat.beq_refl] at hj; cases hj)]
        exact ⟨_, σ', g', inExit ht' (h9 _ (List.mem_singleton.2 rfl)), h4⟩
    | ret =>
      cases xe <;> simp only [xeOf] at hx
      have h8 := (Option.some.inj h8).symm
      subst h8
      exact ⟨_, σ', g', inRet ht' (h9 _ (List.mem_singleton.2 rfl)), h4⟩
    | _ => cases xe <;> exact hx.elim
  | loop c ih =>
    intro t σ out hh0 ht h g w a hr hf hd b k cs
    have h : yloop (ycode (ycomp tb (stlOf tb ps) H c) call tb n m it) it t σ = some out := h
    rw [yloop_eq] at h
    obtain ⟨e, a', w', h1, h2⟩ := xloop_ok (n := n) (fun ht' h' => ih hh0 ht' h') it ht h g w a hr hf hd b k cs
    exact ⟨e, a', w', h1, .of_steps (.one step_loop) h2⟩
  | _ => intro t σ out hh0 ht h; simp [ycomp, ycode] at h
theorem yfunOf_spec {stl : Op → Bool} {H : Hints} {f : FuncId} {F : YFun} (h : yfunOf P tb stl H f = some F) : ∃ fn c, P.funcs[f]? = some fn ∧ fn.body = some c ∧ (fn.name == "runtime.NumGoroutine") = false ∧ F = ⟨fn.ntmps, ycomp tb stl H c, fn.results.toList⟩ := by
  unfold yfunOf at h
  split at h
  · cases h
  · rename_i fn hf
    split at h
    · cases h
    · rename_i c hb
      split at h
      · cases h
      · rename_i hn
        cases h
        exact ⟨fn, c, hf, hb, hn, rfl⟩
theorem ybody_ok (hm : P.follows .mixedOrders = true) (tok : TabOk P tb) {ps : FuncId → Bool} {call : Caller} (hc : CallOk P call) (hst : CallStill ps call) {it : Nat} {H : Hints} {f : FuncId} {F : YFun} (hF : yfunOf P tb (stlOf tb ps) H f = some F) (hH : yhintOk P tb (stlOf tb ps) H f = true) {args : List V} {σ : St} {o : List (V × St)}
    (h : ybody F call tb it args σ = some o) : CallAt P f args σ fun r σ' => (r, σ') ∈ o := by
  obtain ⟨fn, c, hf, hb, hn, rfl⟩ := yfunOf_spec hF
  have hH' : hintsOk tb (stlOf tb ps) H c = true := by
    unfold yhintOk at hH
    rw [hf] at hH
    simp only [hb] at hH
    exact hH
  unfold ybody at h
  split at h
  · cases h
  · rename_i hle
    simp only at h
    have key : ∃ o', bindR (ycode (ycomp tb (stlOf tb ps) H c) call tb σ.length fn.ntmps it (start fn.ntmps 0 args (blank (fn.ntmps / 8))) σ) (xret tb fn.results.toList) = some o' ∧ ∀ x ∈ o', x ∈ o := by
      revert h
      generalize bindR (ycode (ycomp tb (stlOf tb ps) H c) call tb σ.length fn.ntmps it (start fn.ntmps 0 args (blank (fn.ntmps / 8))) σ) (xret tb fn.results.toList) = y
      intro h
      cases y with
      | none => cases h
      | some o' =>
        refine ⟨o', rfl, fun x hx => ?_⟩
        cases o' with
        | nil => cases hx
        | cons p o1 =>
          cases o1 with
          | nil => simp only [Option.some.injEq] at h; subst h; exact hx
          | cons q o2 => simp only [Option.some.injEq] at h; subst h; exact nub_mem vsEqb_ok hx
    obtain ⟨o', hx, hsub⟩ := key
    rw [bindR_eq] at hx
    obtain ⟨l, h1, h2⟩ := bind_mem hx
    have hw := ycode_ok (n := σ.length) hm tok hc hst hH' (start_ok args 0 (blank_ok fn.ntmps)) h1
    rw [frT_start (ble_nat hle)] at hw
    refine call_of hm tok hf hb hn (hw.mono fun e fr σ' ⟨x, t, hxe, ht, hfr, hmem⟩ => ?_)
    subst hfr
    obtain ⟨lx, h3, h4⟩ := h2 _ hmem
    have fin : xret tb fn.results.toList (.norm, t, σ') = some lx → resVs prims tb fn.results.toList (frT fn.ntmps t) σ' fun l => match l with | [v] => (v, σ') ∈ o | l => (V.t l, σ') ∈ o := by
      intro h3
      unfold xret at h3
      simp only at h3
      split at h3
      · cases h3
      · rename_i v hr
        cases h3
        exact xres_ok ht hr (hsub _ (h4 _ (List.mem_singleton.2 rfl)))
      · rename_i l' hno hr
        cases h3
        refine xres_ok ht hr ?_
        have := hsub _ (h4 _ (List.mem_singleton.2 rfl))
        split
        · rename_i v; exact (hno v rfl).elim
        · exact this
    cases e with
    | normal =>
      cases x <;> simp only [xeOf] at hxe
      exact fin h3
    | ret =>
      cases x <;> simp only [xeOf] at hxe
      exact fin h3
    | exit i =>
      cases x <;> simp only [xeOf] at hxe
      simp [xret] at h3
    | _ => cases x <;> exact hxe.elim
theorem ytrim_eq (n : Nat) (p : V × St) : ytrim n p = trim n p := by
  unfold ytrim
  split
  · rename_i h
    have h := Nat.eq_of_beq_eq_true h
    obtain ⟨v, σ⟩ := p
    simp only at h
    unfold trim
    split
    · simp only; rw [List.take_of_length_le (by omega)]
    · rfl
  · rfl
theorem yim_spec {σ : St} {x : Rs (V × St)} {o : List (V × St)} (h : yim σ.length x = some o) : ∃ o1, x = some o1 ∧ ∀ {g : G} {w : World} {v : Value} {w' : World}, CallEnd g w σ (fun r σ' => (r, σ') ∈ o1) v w' → CallEnd g w σ (fun r σ' => (r, σ') ∈ o) v w' := by
  unfold yim at h
  split at h
  · cases h
  · rename_i p
    cases h
    refine ⟨_, rfl, fun h' => ?_⟩
    have := trim_end h'
    rw [ytrim_eq]
    exact this
  · rename_i o1 _
    cases h
    exact ⟨_, rfl, fun h' => (canonV_end h').mono fun r σ' hh => nub_mem vsEqb_ok hh⟩
theorem yps_spec {σ : St} {x : Rs (V × St)} {o : List (V × St)} (h : yps σ x = some o) : ∃ o1 o2, x = some o1 ∧ barely σ o1 = some o2 ∧ (∀ p ∈ o2, p ∈ o) ∧ ∀ p ∈ o, p ∈ o2 := by
  unfold yps at h
  split at h
  · rename_i o1
    split at h
    · cases h
    · rename_i p hb
      cases h
      exact ⟨_, _, rfl, hb, fun _ hq => hq, fun _ hq => hq⟩
    · rename_i o2 _ hb
      cases h
      exact ⟨_, _, rfl, hb, fun _ hq => nub_mem vsEqb_ok hq, fun _ hq => nub_sub hq⟩
  · cases h
theorem ypf_spec {σ : St} {x : Rs (V × St)} {o : List (V × St)} (h : ypf σ x = some o) : ∃ o1 o2, x = some o1 ∧ hardly σ o1 = some o2 ∧ (∀ p ∈ o2, p ∈ o) ∧ ∀ p ∈ o, p ∈ o2 := by
  unfold ypf at h
  split at h
  · rename_i o1
    split at h
    · cases h
    · rename_i p hb
      cases h
      exact ⟨_, _, rfl, hb, fun _ hq => hq, fun _ hq => hq⟩
    · rename_i o2 _ hb
      cases h
      exact ⟨_, _, rfl, hb, fun _ hq => nub_mem vsEqb_ok hq, fun _ hq => nub_sub hq⟩
  · cases h
def BodiesOk (P : Program) (ps : FuncId → Bool) (bd : Bodies) : Prop := ∀ f B, bd f = some B → ∀ call, CallOk P call → CallStill ps call → ∀ args σ o, B call args σ = some o → CallAt P f args σ fun r σ' => (r, σ') ∈ o
theorem yorelse_spec {a : Option (List (V × St))} {f : Unit → Rs (V × St)} {o : List (V × St)} (h : yorelse a f = some o) : a = some o ∨ f () = some o := by
  cases a with
  | none => exact .inr h
  | some x => exact .inl h
theorem ycall_still {bd : Bodies} {E : Env} (hM : MemoOk P E) : ∀ (n : Nat), CallStill (psOf E) (ycall bd E n)
  | 0 => fun f _ l σ o h => by simp [ycall] at h
  | n + 1 => fun f hf l σ o h p hp => by
    simp only [ycall] at h
    rcases yorelse_spec h with h | h
    · exact (hM _ (memoAt_spec h)).2 hf p hp
    · unfold psOf at hf
      unfold ycallB at h
      split at h
      · rename_i s hs; rw [hs] at hf; cases hf
      · rename_i hs
        rw [hs] at hf
        simp only at hf
        split at h
        · cases h
        · rename_i B hB
          revert hf h
          cases E.mode f with
          | im => intro hf; cases hf
          | pf => intro hf; cases hf
          | ps =>
            intro _ h
            simp only [ymode] at h
            split at h
            · cases h
            · split at h
              · obtain ⟨o1, o2, h1, h2, h3, h4⟩ := yps_spec h
                exact barely_still h2 p (h4 p hp)
              · cases h
          | pg =>
            intro _ h
            simp only [ymode] at h
            split at h
            · obtain ⟨o1, o2, h1, h2, h3, h4⟩ := ypf_spec h
              exact hardly_still h2 p (h4 p hp)
            · cases h
theorem ycall_ok {E : Env} {bd : Bodies} (hb : BodiesOk P (psOf E) bd) (hs : SpecOk P E) (hM : MemoOk P E) : ∀ (n : Nat), CallOk P (ycall bd E n)
  | 0 => fun f l σ o h => by simp [ycall] at h
  | n + 1 => fun f l σ o h => by
    have ih := ycall_ok hb hs hM n
    have ihs := ycall_still (P := P) (bd := bd) (E := E) hM n
    simp only [ycall] at h
    rcases yorelse_spec h with h | h
    · exact (hM _ (memoAt_spec h)).1
    · unfold ycallB at h
      split at h
      · rename_i s hsp; exact hs f s hsp l σ o h
      · split at h
        · cases h
        · rename_i B hB
          have hB := hb f B hB _ ih ihs
          revert h
          cases E.mode f with
          | im =>
            intro h
            simp only [ymode] at h
            obtain ⟨o1, h1, h2⟩ := yim_spec h
            exact (hB _ _ _ h1).ends fun g w v w' he => h2 he
          | ps =>
            intro h
            simp only [ymode] at h
            split at h
            · cases h
            · rename_i l' hl
              split at h
              · obtain ⟨o1, o2, h1, h2, h3, h4⟩ := yps_spec h
                exact (call_look hl (hB _ _ _ h1) h2).mono fun r σ' hh => h3 _ hh
              · cases h
          | pf =>
            intro h
            simp only [ymode] at h
            split at h
            · cases h
            · rename_i l' σ1 hl
              split at h
              · rename_i hfr
                obtain ⟨o1, o2, h1, h2, h3, h4⟩ := ypf_spec h
                exact (call_hard hl hfr (hB _ _ _ h1) h2).mono fun r σ' hh => h3 _ hh
              · cases h
          | pg =>
            intro h
            simp only [ymode] at h
            split at h
            · rename_i hfr
              obtain ⟨o1, o2, h1, h2, h3, h4⟩ := ypf_spec h
              exact (call_free hfr (hB _ _ _ h1) h2).mono fun r σ' hh => h3 _ hh
            · cases h
theorem entAt_spec {stl : Op → Bool} {f : FuncId} {l : List (List (Option (Ent P tb stl)))} {F : YFun} (h : entAt f l = some F) : ∃ H, yfunOf P tb stl H f = some F ∧ yhintOk P tb stl H f = true := by
  unfold entAt at h
  split at h
  · cases h
  · split at h
    · rename_i e _
      split at h
      · rename_i he
        cases h
        have := Nat.eq_of_beq_eq_true he
        subst this
        exact ⟨_, e.ok, e.chk⟩
      · cases h
    · cases h
theorem bodies_ok (hm : P.follows .mixedOrders = true) (tok : TabOk P tb) {ps : FuncId → Bool} (it : Nat) (l : List (List (Option (Ent P tb (stlOf tb ps))))) : BodiesOk P ps (bodies it l) := by
  intro f B h call hc hst args σ o ho
  unfold bodies at h
  split at h
  · cases h
  · rename_i F hF
    cases h
    obtain ⟨H, h1, h2⟩ := entAt_spec hF
    exact ybody_ok hm tok hc hst h1 h2 ho
end
end Go.Dm
