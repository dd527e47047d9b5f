/- The plain machine: the operations on memory; one step of a region. -/
import Derived.Test.YtdioidceogjalaaGreatDoorDe
namespace Go.Dm
set_option linter.unusedVariables false

/-- The cells of a value. -/
def V.cells : V → Option (List C)
  | .c .un => none
  | .c x => some [x]
  | .a l => some l
  | .t _ => none

def V.cap : V → C
  | .c x => x
  | _ => .un

/-- Frozen cells, if all are. -/
def frz : List C → Option (List F)
  | [] => some []
  | .f x :: r => (match frz r with | some l => some (x :: l) | none => none)
  | _ :: _ => none

def cut (l : List C) (off n : Nat) : Option (List C) :=
  if off + n ≤ l.length then some ((l.drop off).take n) else none

def splice (l : List C) (off : Nat) (r : List C) : Option (List C) :=
  if off + r.length ≤ l.length then some (l.take off ++ r ++ l.drop (off + r.length)) else none

def vload (T : Pr) (agg : Bool) (n : Nat) (x : V) (σ : St) (k : V → Prop) : Prop :=
  match x with
  | .c (.ptr o off) =>
    (match σ[o]? with
    | some (.cells l) =>
      (match agg with
      | true => (match cut l off n with | some r => k (.a r) | none => False)
      | false => (match l[off]? with | some c => k (.c c) | none => False))
    | some (.bld _ u y) =>
      (match agg, off with
      | false, 0 => k (match u with | true => .c (.ptr o 0) | false => .c (.f .nilp))
      | false, 1 => k (.c y)
      | _, _ => False)
    | _ => False)
  | .c (.ep cs off) =>
    (match agg with
    | true => T.cutK cs off n fun r => k (.a (r.map .f))
    | false => T.getK cs off fun x => k (.c (.f x)))
  | .c (.pa o e off) =>
    (match σ[o]? with
    | some (.arr _ e0 _ l) => T.eqN e e0 ∧
      (match agg with
      | true => T.cutK l off n fun r => k (.a (r.map .f))
      | false => T.getK l off fun x => k (.c (.f x)))
    | _ => False)
  | _ => False

/-- A frozen pointer is an address into its cells. -/
def addr : V → V
  | .c (.f (.obj cs)) => .c (.ep cs 0)
  | x => x

/-- Frozen: a row of one's own is frozen where it stands; a block of frozen cells to which nobody else writes is a frozen one. -/
def vfrzs (T : Pr) : List C → St → (List F → St → Prop) → Prop
  | [], σ, k => k [] σ
  | .f x :: r, σ, k => vfrzs T r σ fun l σ' => k (x :: l) σ'
  | .rs o e n :: r, σ, k =>
    (match σ[o]? with
    | some (.arr _ e0 sz l) => T.eqN e e0 ∧ vfrzs T r (σ.set o (.arr false e0 sz l)) fun l' σ' => k (.sl n l :: l') σ'
    | _ => False)
  | .ptr o 0 :: r, σ, k =>
    (match σ[o]? with
    | some (.cells cs) =>
      (match frz cs with
      | some fs => vfrzs T r (σ.set o .gone) fun l' σ' => k (.obj fs :: l') σ'
      | none => False)
    | _ => False)
  | _, _, _ => False

/-- What is handed to a call that only reads: rows of one's own are frozen where they stand. -/
def vsoft (T : Pr) : List C → St → (List C → St → Prop) → Prop
  | [], σ, k => k [] σ
  | .rs o e n :: r, σ, k =>
    (match σ[o]? with
    | some (.arr _ e0 sz l) => T.eqN e e0 ∧ vsoft T r (σ.set o (.arr false e0 sz l)) fun l' σ' => k (.f (.sl n l) :: l') σ'
    | _ => False)
  | x :: r, σ, k => vsoft T r σ fun l' σ' => k (x :: l') σ'

def vsofts (T : Pr) : List V → St → (List V → St → Prop) → Prop
  | [], σ, k => k [] σ
  | .c (.rs o e n) :: r, σ, k =>
    (match σ[o]? with
    | some (.arr _ e0 sz l) => T.eqN e e0 ∧ vsofts T r (σ.set o (.arr false e0 sz l)) fun l' σ' => k (.c (.f (.sl n l)) :: l') σ'
    | _ => False)
  | .c x :: r, σ, k => vsofts T r σ fun l' σ' => k (.c x :: l') σ'
  | .a l :: r, σ, k => vsoft T l σ fun l2 σ' => vsofts T r σ' fun l' σ'' => k (.a l2 :: l') σ''
  | .t l :: r, σ, k => vsofts T r σ fun l' σ' => k (.t l :: l') σ'

def C.isRs : C → Bool
  | .rs .. => true
  | _ => false

def V.hasRs : V → Bool
  | .c x => x.isRs
  | .a l => l.any C.isRs
  | .t _ => false

def vstore (T : Pr) (x : V) (v : V) (n : Nat) (σ : St) (k : St → Prop) : Prop :=
  match v.cells with
  | some r => if r.length = n ∧ r.all C.solid = true then
    (match x with
    | .c (.ptr o off) =>
      (match σ[o]? with
      | some (.cells l) => (match splice l off r with | some l' => k (σ.set o (.cells l')) | none => False)
      | some (.bld b u y) =>
        (match off, r with
        | 0, [.ptr o' 0] => (match Nat.beq o' o with | true => k (σ.set o (.bld b true y)) | false => False)
        | 1, [c] => k (σ.set o (.bld b u c))
        | _, _ => False)
      | _ => False)
    | .c (.pa o e off) => vfrzs T r σ fun fs σ' =>
      (match σ'[o]? with
      | some (.arr true e0 sz l) => T.eqN e e0 ∧ T.le (T.nadd off n) (T.flen l) ∧ k (σ'.set o (.arr true e0 sz (T.fput l off fs)))
      | _ => False)
    | _ => False) else False
  | none => False

def vmore (T : Pr) (off : Nat) (fo : Nat) : Nat :=
  match fo with
  | 0 => off
  | m + 1 => T.nadd off (m + 1)

def vfield (T : Pr) (x : V) (fo : Nat) (σ : St) (k : V → Prop) : Prop :=
  match x with
  | .c (.ptr o off) => k (.c (.ptr o (off + fo)))
  | .c (.ep cs off) => k (.c (.ep cs (vmore T off fo)))
  | .c (.pa o e off) =>
    (match σ[o]? with
    | some (.arr _ e0 _ _) => T.eqN e e0 ∧ k (.c (.pa o e (vmore T off fo)))
    | _ => False)
  | _ => False

/-- The cells of a struct that is built: its zero cells, some of them put. -/
def vfill (tb : Tab) (fs : List (Nat × TypeId)) (fr : Fr) : List (Nat × Operand) → List C → Option (List C)
  | [], cs => some cs
  | (i, x) :: r, cs =>
    match fs[i]?, (opd fr x).cells with
    | some (off, t), some l => if l.length = (tb t).size then (match splice cs off l with | some cs' => vfill tb fs fr r cs' | none => none) else none
    | _, _ => none

def vfillRow (sz : Nat) (fr : Fr) : List (Nat × Operand) → List C → Option (List C)
  | [], cs => some cs
  | (i, x) :: r, cs =>
    match (opd fr x).cells with
    | some l => if l.length = sz then (match splice cs (i * sz) l with | some cs' => vfillRow sz fr r cs' | none => none) else none
    | none => none

def rep (n : Nat) (l : List C) : List C :=
  match n with
  | 0 => []
  | n + 1 => l ++ rep n l

/-- A part of an aggregate. -/
def vpart (agg : Bool) (l : List C) (off n : Nat) (k : V → Prop) : Prop :=
  match agg with
  | true => (match cut l off n with | some r => k (.a r) | none => False)
  | false => (match l[off]? with | some c => k (.c c) | none => False)

def vindexAddr (T : Pr) (tb : Tab) (t : TypeId) (x : V) (i : V) (σ : St) (k : V → Prop) : Prop :=
  match (tb t).d, x, i with
  | .slice e, .c (.f (.sl n cs)), .c (.f (.int _ j)) =>
    (match (tb e).d with
    | .no => False
    | _ => T.idx j (Int.ofNat n) ∧ k (.c (.ep cs (T.atp j (tb e).size))))
  | .slice e, .c (.rs o ep n), .c (.f (.int _ j)) =>
    (match (tb e).d, σ[o]? with
    | .no, _ => False
    | _, some (.arr _ e0 _ _) => T.eqN ep e0 ∧ T.idx j (Int.ofNat n) ∧ k (.c (.pa o ep (T.atp j (tb e).size)))
    | _, _ => False)
  | .array n e, .c (.ptr o off), .c (.f (.int _ j)) =>
    (match (tb e).d with
    | .no => False
    | _ => T.caseK j n fun i => k (.c (.ptr o (off + i * (tb e).size))))
  | .array n e, .c (.ep cs off), .c (.f (.int _ j)) =>
    (match (tb e).d with
    | .no => False
    | _ => T.caseK j n fun i => k (.c (.ep cs (vmore T off (i * (tb e).size)))))
  | .array n e, .c (.pa o ep off), .c (.f (.int _ j)) =>
    (match (tb e).d, σ[o]? with
    | .no, _ => False
    | _, some (.arr _ e0 _ _) => T.eqN ep e0 ∧ T.caseK j n fun i => k (.c (.pa o ep (vmore T off (i * (tb e).size))))
    | _, _ => False)
  | _, _, _ => False

def vindex (T : Pr) (tb : Tab) (t : TypeId) (x : V) (i : V) (k : V → Prop) : Prop :=
  match (tb t).d, x, i with
  | .str, .c (.f (.str s)), .c (.f (.int _ j)) => T.idx j (T.slen s) ∧ k (.c (.f (.int .u8 (T.sget s j))))
  | .array n e, .a l, .c (.f (.int _ j)) =>
    (match (tb e).d with
    | .no => False
    | _ => T.caseK j n fun i => vpart ((tb e).agg) l (i * (tb e).size) (tb e).size k)
  | _, _, _ => False

def vlen (T : Pr) (d : TD) (x : V) (σ : St) (k : V → Prop) : Prop :=
  match d, x with
  | .str, .c (.f (.str s)) => k (.c (.f (.int .i64 (T.slen s))))
  | .slice _, .c (.f .nils) => k (.c (.f (.int .i64 0)))
  | .slice _, .c (.f (.sl n cs)) => k (.c (.f (.int .i64 (Int.ofNat n))))
  | .slice _, .c (.rs o e n) =>
    (match σ[o]? with
    | some (.arr _ e0 _ _) => T.eqN e e0 ∧ k (.c (.f (.int .i64 (Int.ofNat n))))
    | _ => False)
  | _, _ => False

/-- The elements of what is appended. -/
def vsrc (T : Pr) (d : TD) (sz : Nat) (x : V) (σ : St) (k : Nat → List F → Prop) : Prop :=
  match d, x with
  | .slice _, .c (.f .nils) => k 0 []
  | .slice _, .c (.f (.sl n cs)) => T.eqN (T.flen cs) (T.atp (Int.ofNat n) sz) ∧ k n cs
  | .slice _, .c (.rs o e n) =>
    (match σ[o]? with
    | some (.arr _ e0 s0 l) => T.eqN e e0 ∧ T.eqN sz s0 ∧ k n l
    | _ => False)
  | .str, .c (.f (.str s)) => T.eqN sz 1 ∧ k (T.toNat (T.slen s)) (T.sbytes s)
  | _, _ => False

def vappend (T : Pr) (d : TD) (ty sz bytes : Nat) (x y : V) (σ : St) (k : V → St → Prop) : Prop :=
  vsrc T d sz y σ fun m new =>
  match x with
  | .c (.f .nils) =>
    (match m with
    | 0 => k (.c (.f .nils)) σ
    | _ => T.le (T.atp (Int.ofNat m) bytes) 140737488355328 ∧ T.le m 9223372036854775807 ∧ T.le ty 4294967295 ∧ k (.c (.rs σ.length ty m)) (σ ++ [.arr true ty sz new]))
  | .c (.rs o e n) =>
    (match σ[o]? with
    | some (.arr w e0 s0 l) => T.eqN e e0 ∧ T.eqN sz s0 ∧ T.le (T.atp (Int.ofNat (T.nadd n m)) bytes) 140737488355328 ∧ T.le (T.nadd n m) 9223372036854775807 ∧ T.eqN (e0 % 4294967296) ty ∧
        k (.c (.rs o (e0 + 4294967296) (T.nadd n m))) (σ.set o (.arr w (e0 + 4294967296) sz (T.fapp l new)))
    | _ => False)
  | _ => False

def vslice (T : Pr) (tb : Tab) (t : TypeId) (x : V) (lo hi : Option V) (σ : St) (k : V → St → Prop) : Prop :=
  match (tb t).d, x with
  | .str, .c (.f (.str s)) =>
    (match lo, hi with
    | none, none => k (.c (.f (.str s))) σ
    | some (.c (.f (.int _ a))), none => T.rng 0 a (T.slen s) ∧ k (.c (.f (.str (T.ssub s a (T.slen s))))) σ
    | none, some (.c (.f (.int _ b))) => T.rng 0 b (T.slen s) ∧ k (.c (.f (.str (T.ssub s 0 b)))) σ
    | some (.c (.f (.int _ a))), some (.c (.f (.int _ b))) => T.rng 0 b (T.slen s) ∧ T.rng 0 a b ∧ k (.c (.f (.str (T.ssub s a b)))) σ
    | _, _ => False)
  | .slice e, .c (.f .nils) => if (tb e).d.isNo = true then False else
    (match lo, hi with
    | some (.c (.f (.int _ a))), none => T.rng 0 a 0 ∧ k (.c (.f .nils)) σ
    | none, some (.c (.f (.int _ b))) => T.rng 0 b 0 ∧ k (.c (.f .nils)) σ
    | some (.c (.f (.int _ a))), some (.c (.f (.int _ b))) => T.rng 0 b 0 ∧ T.rng 0 a b ∧ k (.c (.f .nils)) σ
    | none, none => k (.c (.f .nils)) σ
    | _, _ => False)
  | .slice e, .c (.f (.sl n cs)) => if (tb e).d.isNo = true then False else
    (match lo, hi with
    | some (.c (.f (.int _ a))), none => T.rng 0 a (Int.ofNat n) ∧ k (.c (.f (.sl (T.nsub n (T.toNat a)) (T.fcut cs (T.atp a (tb e).size) (T.atp (Int.ofNat (T.nsub n (T.toNat a))) (tb e).size))))) σ
    | none, some (.c (.f (.int _ b))) => T.rng 0 b (Int.ofNat n) ∧ k (.c (.f (.sl (T.toNat b) (T.fcut cs 0 (T.atp b (tb e).size))))) σ
    | some (.c (.f (.int _ a))), some (.c (.f (.int _ b))) => T.rng 0 b (Int.ofNat n) ∧ T.rng 0 a b ∧
        k (.c (.f (.sl (T.nsub (T.toNat b) (T.toNat a)) (T.fcut cs (T.atp a (tb e).size) (T.atp (Int.ofNat (T.nsub (T.toNat b) (T.toNat a))) (tb e).size))))) σ
    | none, none => k (.c (.f (.sl n cs))) σ
    | _, _ => False)
  | .slice e, .c (.rs o ep n) => if (tb e).d.isNo = true then False else
    (match σ[o]?, lo, hi with
    | some (.arr true e0 sz l), none, some (.c (.f (.int _ b))) => T.eqN ep e0 ∧ T.rng 0 b (Int.ofNat n) ∧ k (.c (.rs o (e0 + 4294967296) (T.toNat b))) (σ.set o (.arr true (e0 + 4294967296) sz (T.fcut l 0 (T.atp b sz))))
    | _, _, _ => False)
  | _, _ => False

def ints : List V → Option (List Int)
  | [] => some []
  | .c (.f (.int _ n)) :: r => (match ints r with | some l => some (n :: l) | none => none)
  | _ => none

/-- Bytes as a text. -/
def vbytes (T : Pr) (x : V) (σ : St) (k : V → Prop) : Prop :=
  match x with
  | .c (.f .nils) => k (.c (.f (.str [])))
  | .c (.f (.sl n cs)) => T.bytesK cs n fun s => k (.c (.f (.str s)))
  | .c (.rs o e n) =>
    (match σ[o]? with
    | some (.arr _ e0 _ l) => T.eqN e e0 ∧ T.bytesK l n fun s => k (.c (.f (.str s)))
    | _ => False)
  | _ => False

def vconv (T : Pr) (tb : Tab) (s d : TypeId) (x : V) (σ : St) (k : V → St → Prop) : Prop :=
  match (tb s).d, (tb d).d, x with
  | .int _, .int j, .c (.f (.int _ n)) => k (.c (.f (.int j (T.wrap j n)))) σ
  | .int _, .flo, .c (.f (.int _ n)) => k (.c (.f (.flo (T.fofi n)))) σ
  | .flo, .int .i64, .c (.f (.flo b)) => (match T.foi b with | some n => k (.c (.f (.int .i64 n))) σ | none => False)
  | .str, .str, .c (.f (.str x)) => k (.c (.f (.str x))) σ
  | .slice e, .str, x => (match (tb e).d with | .int .u8 => vbytes T x σ fun v => k v σ | _ => False)
  | .str, .slice e, .c (.f (.str x)) => (match (tb e).d with | .int .u8 => T.le (T.toNat (T.slen x)) 9223372036854775807 ∧ T.le e 4294967295 ∧ k (.c (.rs σ.length e (T.toNat (T.slen x)))) (σ ++ [.arr true e 1 (T.sbytes x)]) | _ => False)
  | _, _, _ => False

def vbi (T : Pr) (tb : Tab) (b : Builtin) (argTypes : Array TypeId) (vals : List V) (σ : St) (k : V → St → Prop) : Prop :=
  match b, vals with
  | .len, [x] => (match argTypes.toList with | [t] => vlen T (tb t).d x σ fun v => k v σ | _ => False)
  | .append, [x, y] =>
    (match argTypes.toList with
    | [t, u] =>
      (match (tb t).d with
      | .slice e => (match (tb e).d with | .no => False | _ => vappend T (tb u).d e (tb e).size (tb e).bytes x y σ k)
      | _ => False)
    | _ => False)
  | .min, .c (.f (.int i a)) :: r => (match ints r with | some l => k (.c (.f (.int i (l.foldl T.imin a)))) σ | none => False)
  | .max, .c (.f (.int i a)) :: r => (match ints r with | some l => k (.c (.f (.int i (l.foldl T.imax a)))) σ | none => False)
  | .complex, [.c (.f (.flo a)), .c (.f (.flo b))] => k (.c (.f (.cpl a b))) σ
  | .real, [.c (.f (.cpl a b))] => k (.c (.f (.flo a))) σ
  | .imag, [.c (.f (.cpl a b))] => k (.c (.f (.flo b))) σ
  | _, _ => False

def vop (T : Pr) (tb : Tab) (o : Op) (fr : Fr) (σ : St) (k : V → St → Prop) : Prop :=
  match o with
  | .move x | .assign x => k (opd fr x) σ
  | .pick c a b => vpick (opd fr c) (opd fr a) (opd fr b) fun v => k v σ
  | .binOp op t x y _ => vbin T (tb t).d op (opd fr x) (opd fr y) fun v => k v σ
  | .unOp op _ x => vun T op (opd fr x) fun v => k v σ
  | .alloc t =>
    (match (tb t).d with
    | .no => False
    | _ => k (.c (.ptr σ.length 0)) (σ ++ [.cells ((tb t).zero.map .f)]))
  | .box _ x =>
    (match (opd fr x).cells with
    | some l => k (.c (.ptr σ.length 0)) (σ ++ [.cells l])
    | none => False)
  | .build t parts =>
    (match (tb t).d with
    | .struct fs => if fs.all (fun p => !(tb p.2).d.isNo) = true then (match vfill tb fs fr parts.toList ((tb t).zero.map .f) with | some l => k (.a l) σ | none => False) else False
    | .array _ e => (match vfillRow (tb e).size fr parts.toList ((tb t).zero.map .f) with | some l => (match (tb e).d with | .no => False | _ => k (.a l) σ) | none => False)
    | _ => False)
  | .buildSlice t n parts =>
    (match (tb t).d with
    | .slice e =>
      (match (tb e).d with
      | .no => False
      | _ => if n * (tb e).size ≤ 16777216 ∧ n ≤ 16777216 ∧ e ≤ 4294967295 then
        (match vfillRow (tb e).size fr parts.toList (rep n ((tb e).zero.map .f)) with
        | some l => vfrzs T l σ fun fs σ' => k (.c (.rs σ'.length e n)) (σ' ++ [.arr true e (tb e).size fs])
        | none => False) else False)
    | _ => False)
  | .load t a =>
    (match (tb t).d with
    | .no => False
    | _ => vload T (tb t).agg (tb t).size (addr (opd fr a)) σ fun v => k v σ)
  | .store t a x =>
    (match (tb t).d with
    | .no => False
    | _ => vstore T (opd fr a) (opd fr x) (tb t).size σ fun σ' => k (.c .un) σ')
  | .nilCheck x =>
    (match opd fr x with
    | .c (.ptr o off) => k (.c (.ptr o off)) σ
    | .c (.f (.obj cs)) => k (.c (.f (.obj cs))) σ
    | .c (.ep cs off) => k (.c (.ep cs off)) σ
    | .c (.pa o e off) =>
      (match σ[o]? with
      | some (.arr _ e0 _ _) => T.eqN e e0 ∧ k (.c (.pa o e off)) σ
      | _ => False)
    | _ => False)
  | .fieldAddr t x i =>
    (match (tb t).d with
    | .struct fs =>
      (match fs[i]? with
      | some (off, u) => (match (tb u).size with | 0 => False | _ => (match (tb u).d with | .no => False | _ => vfield T (addr (opd fr x)) off σ fun v => k v σ))
      | none => False)
    | _ => False)
  | .field t x i =>
    (match (tb t).d, opd fr x with
    | .struct fs, .a l =>
      (match fs[i]? with
      | some (off, u) =>
        (match (tb u).d with
        | .no => False
        | _ =>
          vpart (tb u).agg l off (tb u).size fun v => k v σ)
      | none => False)
    | _, _ => False)
  | .indexAddr t x i => vindexAddr T tb t (addr (opd fr x)) (opd fr i) σ fun v => k v σ
  | .index t x i => vindex T tb t (opd fr x) (opd fr i) fun v => k v σ
  | .slice t x lo hi none => vslice T tb t (opd fr x) (lo.map (opd fr)) (hi.map (opd fr)) σ k
  | .extract x i =>
    (match opd fr x with
    | .t l => (match l[i]? with | some v => k v σ | none => False)
    | _ => False)
  | .makeFunc (.func f) first captured =>
    (match first.toList with
    | [] => k (.c (.clo f (captured.toList.map fun x => (opd fr x).cap))) σ
    | _ => False)
  | .convert s d x => vconv T tb s d (opd fr x) σ k
  | .call { callee := .builtin b, args, argTypes } => vbi T tb b argTypes (args.toList.map (opd fr)) σ k
  | _ => False
end Go.Dm
