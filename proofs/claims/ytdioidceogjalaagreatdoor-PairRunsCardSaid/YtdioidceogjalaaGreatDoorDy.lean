/- The plain machine: code made small ahead of a walk: types looked up, guards told by their temporaries, no places; frames as rows of what was put, the newest first. -/
import Derived.Test.YtdioidceogjalaaGreatDoorDx
namespace Go.Dm
set_option linter.unusedVariables false
set_option linter.unusedSimpArgs false

abbrev AF := List (Nat × V)

def lk : AF → Nat → V
  | [], _ => .c .un
  | (j, v) :: r, i => (match Nat.beq j i with | true => v | false => lk r i)

def putA (m : Nat) (A : AF) (dst : Option Tmp) (v : V) : AF :=
  match dst with
  | none => A
  | some d => (match Nat.blt d m with | true => (d, v) :: A | false => A)

def opA (A : AF) : Operand → V
  | .tmp t => lk A t
  | .const v => ofConst v
  | .func f => .c (.f (.fn f))
  | .global _ => .c .un

def toFr (m : Nat) (A : AF) : Fr := (List.range m).map (lk A)

/-- All that was put is within. -/
def inA (m : Nat) (A : AF) : Prop := ∀ i, m ≤ i → lk A i = .c .un

theorem toFr_get {m : Nat} {A : AF} (h : inA m A) (i : Nat) : (toFr m A).getD i (.c .un) = lk A i := by
  unfold toFr
  rw [List.getD_eq_getElem?_getD]
  by_cases hi : i < m
  · simp [hi]
  · rw [h i (by omega)]
    simp [hi]

theorem toFr_opd {m : Nat} {A : AF} (h : inA m A) (x : Operand) : opd (toFr m A) x = opA A x := by
  cases x with
  | tmp t => exact toFr_get h t
  | _ => rfl

theorem lk_cons (j : Nat) (v : V) (r : AF) (i : Nat) : lk ((j, v) :: r) i = if j = i then v else lk r i := by
  show (match Nat.beq j i with | true => v | false => lk r i) = _
  by_cases h : j = i
  · subst h; rw [if_pos rfl, Nat.beq_refl]
  · rw [if_neg h]
    have : Nat.beq j i = false := by
      cases hb : Nat.beq j i with
      | true => exact absurd (Nat.eq_of_beq_eq_true hb) h
      | false => rfl
    rw [this]

theorem blt_true {a b : Nat} (h : a < b) : Nat.blt a b = true := by
  unfold Nat.blt; rw [Nat.ble_eq]; exact h
theorem blt_false {a b : Nat} (h : ¬ a < b) : Nat.blt a b = false := by
  cases hb : Nat.blt a b with
  | true => unfold Nat.blt at hb; rw [Nat.ble_eq] at hb; exact absurd hb h
  | false => rfl

theorem putA_in {m : Nat} {A : AF} (h : inA m A) (dst : Option Tmp) (v : V) : inA m (putA m A dst v) := by
  cases dst with
  | none => exact h
  | some d =>
    revert d
    intro (d : Nat)
    unfold putA
    simp only
    by_cases hd : d < m
    · rw [blt_true hd]
      intro i hi
      simp only
      rw [lk_cons, if_neg (by omega)]
      exact h i hi
    · rw [blt_false hd]; exact h

theorem toFr_put {m : Nat} {A : AF} (dst : Option Tmp) (v : V) : toFr m (putA m A dst v) = (toFr m A).put dst v := by
  cases dst with
  | none => rfl
  | some d =>
    revert d
    intro (d : Nat)
    unfold putA
    simp only
    by_cases hd : d < m
    · rw [blt_true hd]
      simp only
      apply List.ext_getElem?
      intro i
      simp only [toFr, Fr.put, List.getElem?_set, List.getElem?_map, List.length_map, List.length_range]
      by_cases hi : i < m
      · by_cases hdi : d = i
        · subst hdi; simp [hd, lk_cons]
        · simp [hi, hdi, lk_cons]
      · by_cases hdi : d = i
        · omega
        · simp [hi, hdi]
    · rw [blt_false hd]
      simp only [Fr.put]
      rw [List.set_eq_of_length_le]
      simp [toFr]; omega

inductive SOp where
  | mv (x : Operand)
  | pick (c a b : Operand)
  | bin (d : TD) (op : BinOp) (x y : Operand)
  | un (op : UnOp) (x : Operand)
  | alloc (z : List F)
  | box (x : Operand)
  | load (agg : Bool) (n : Nat) (x : Operand)
  | store (n : Nat) (a x : Operand)
  | call (x : Operand) (args : List Operand)
  | fa (off : Nat) (x : Operand)
  | fld (agg : Bool) (off n : Nat) (x : Operand)
  | ixr (sz : Nat) (x i : Operand)
  | ixa (n sz : Nat) (x i : Operand)
  | chr (x i : Operand)
  | len (d : TD) (x : Operand)
  | app (d : TD) (ty sz bytes : Nat) (x y : Operand)
  | slc (d : TD) (sz : Nat) (x : Operand) (lo hi : Option Operand)
  | ext (x : Operand) (i : Nat)
  | nilc (x : Operand)
  | bi (b : Builtin) (ts : Array TypeId) (args : List Operand)
  | bld (z : List F) (parts : List (Nat × Nat × Operand))
  | bsl (n ty sz : Nat) (z : List F) (parts : List (Nat × Operand))
  | raw (o : Op)
  deriving Inhabited

/-- The parts of a struct, their places and sizes looked up. -/
def cparts (tb : Tab) (fs : List (Nat × TypeId)) : List (Nat × Operand) → Option (List (Nat × Nat × Operand))
  | [] => some []
  | (i, x) :: r =>
    match fs[i]?, cparts tb fs r with
    | some (off, t), some l => some ((off, (tb t).size, x) :: l)
    | _, _ => none

def comp0 (tb : Tab) (o : Op) : SOp :=
  match o with
  | .move x => .mv x
  | .assign x => .mv x
  | .pick c a b => .pick c a b
  | .binOp op t x y _ => .bin (tb t).d op x y
  | .unOp op _ x => .un op x
  | .alloc t => (match (tb t).d.isNo with | true => .raw o | false => .alloc (tb t).zero)
  | .box _ x => .box x
  | .load t x => (match (tb t).d.isNo with | true => .raw o | false => .load (tb t).agg (tb t).size x)
  | .store t a x => (match (tb t).d.isNo with | true => .raw o | false => .store (tb t).size a x)
  | .fieldAddr t x i =>
    (match (tb t).d with
    | .struct fs =>
      (match fs[i]? with
      | some (off, u) => (match (tb u).size with | 0 => .raw o | _ => (match (tb u).d.isNo with | true => .raw o | false => .fa off x))
      | none => .raw o)
    | _ => .raw o)
  | .field t x i =>
    (match (tb t).d with
    | .struct fs =>
      (match fs[i]? with
      | some (off, u) => (match (tb u).d.isNo with | true => .raw o | false => .fld (tb u).agg off (tb u).size x)
      | none => .raw o)
    | _ => .raw o)
  | .indexAddr t x i =>
    (match (tb t).d with
    | .slice e => (match (tb e).d.isNo with | true => .raw o | false => .ixr (tb e).size x i)
    | .array n e => (match (tb e).d.isNo with | true => .raw o | false => .ixa n (tb e).size x i)
    | _ => .raw o)
  | .index t x i => (match (tb t).d with | .str => .chr x i | _ => .raw o)
  | .extract x i => .ext x i
  | .nilCheck x => .nilc x
  | .slice t x lo hi none =>
    (match (tb t).d with
    | .str => .slc .str 0 x lo hi
    | .slice e => (match (tb e).d.isNo with | true => .raw o | false => .slc (.slice e) (tb e).size x lo hi)
    | _ => .raw o)
  | .build t parts =>
    (match (tb t).d with
    | .struct fs => (match fs.all (fun p => !(tb p.2).d.isNo), cparts tb fs parts.toList with | true, some l => .bld (tb t).zero l | _, _ => .raw o)
    | _ => .raw o)
  | .buildSlice t n parts =>
    (match (tb t).d with
    | .slice e => (match (tb e).d.isNo, Nat.ble (n * (tb e).size) 16777216, Nat.ble n 16777216 && Nat.ble e 4294967295 with | false, true, true => .bsl n e (tb e).size (tb e).zero parts.toList | _, _, _ => .raw o)
    | _ => .raw o)
  | .call { callee := .value x, args, argTypes } => .call x args.toList
  | .call { callee := .builtin b, args, argTypes } =>
    (match b, args.toList, argTypes.toList with
    | .len, [x], [t] => .len (tb t).d x
    | .append, [x, y], [t, u] => (match (tb t).d with | .slice e => (match (tb e).d.isNo with | true => .raw o | false => .app (tb u).d e (tb e).size (tb e).bytes x y) | _ => .raw o)
    | _, l, _ => .bi b argTypes l)
  | o => .raw o

def comp (tb : Tab) (o : Op) : SOp := match extraB tb o with | true => .raw o | false => comp0 tb o

def sfill (ρ : Operand → V) : List (Nat × Nat × Operand) → List C → Option (List C)
  | [], cs => some cs
  | (off, n, x) :: r, cs =>
    match (ρ x).cells with
    | some l => if l.length = n then (match splice cs off l with | some cs' => sfill ρ r cs' | none => none) else none
    | none => none

def sfillRow (sz : Nat) (ρ : Operand → V) : List (Nat × Operand) → List C → Option (List C)
  | [], cs => some cs
  | (i, x) :: r, cs =>
    match (ρ x).cells with
    | some l => if l.length = sz then (match splice cs (i * sz) l with | some cs' => sfillRow sz ρ r cs' | none => none) else none
    | none => none

def ixrow (T : Pr) (sz : Nat) (x i : V) (σ : St) (k : V → Prop) : Prop :=
  match x, i with
  | .c (.f (.sl n cs)), .c (.f (.int _ j)) => T.idx j (Int.ofNat n) ∧ k (.c (.ep cs (T.atp j sz)))
  | .c (.rs o ep n), .c (.f (.int _ j)) =>
    (match σ[o]? with
    | some (.arr _ e0 _ _) => T.eqN ep e0 ∧ T.idx j (Int.ofNat n) ∧ k (.c (.pa o ep (T.atp j sz)))
    | _ => False)
  | _, _ => False

def ixarr (T : Pr) (n sz : Nat) (x i : V) (σ : St) (k : V → Prop) : Prop :=
  match x, i with
  | .c (.ptr o off), .c (.f (.int _ j)) => T.caseK j n fun i => k (.c (.ptr o (off + i * sz)))
  | .c (.ep cs off), .c (.f (.int _ j)) => T.caseK j n fun i => k (.c (.ep cs (vmore T off (i * sz))))
  | .c (.pa o ep off), .c (.f (.int _ j)) =>
    (match σ[o]? with
    | some (.arr _ e0 _ _) => T.eqN ep e0 ∧ T.caseK j n fun i => k (.c (.pa o ep (vmore T off (i * sz))))
    | _ => False)
  | _, _ => False

def ixchr (T : Pr) (x i : V) (k : V → Prop) : Prop :=
  match x, i with
  | .c (.f (.str s)), .c (.f (.int _ j)) => T.idx j (T.slen s) ∧ k (.c (.f (.int .u8 (T.sget s j))))
  | _, _ => False

def sslice (T : Pr) (d : TD) (sz0 : Nat) (x : V) (lo hi : Option V) (σ : St) (k : V → St → Prop) : Prop :=
  match d, x with
  | .str, .c (.f (.str s)) =>
    (match lo, hi with
    | none, none => k (.c (.f (.str s))) σ
    | some (.c (.f (.int _ a))), none => T.rng 0 a (T.slen s) ∧ k (.c (.f (.str (T.ssub s a (T.slen s))))) σ
    | none, some (.c (.f (.int _ b))) => T.rng 0 b (T.slen s) ∧ k (.c (.f (.str (T.ssub s 0 b)))) σ
    | some (.c (.f (.int _ a))), some (.c (.f (.int _ b))) => T.rng 0 b (T.slen s) ∧ T.rng 0 a b ∧ k (.c (.f (.str (T.ssub s a b)))) σ
    | _, _ => False)
  | .slice e, .c (.f .nils) =>
    (match lo, hi with
    | some (.c (.f (.int _ a))), none => T.rng 0 a 0 ∧ k (.c (.f .nils)) σ
    | none, some (.c (.f (.int _ b))) => T.rng 0 b 0 ∧ k (.c (.f .nils)) σ
    | some (.c (.f (.int _ a))), some (.c (.f (.int _ b))) => T.rng 0 b 0 ∧ T.rng 0 a b ∧ k (.c (.f .nils)) σ
    | none, none => k (.c (.f .nils)) σ
    | _, _ => False)
  | .slice e, .c (.f (.sl n cs)) => 
    (match lo, hi with
    | some (.c (.f (.int _ a))), none => T.rng 0 a (Int.ofNat n) ∧ k (.c (.f (.sl (T.nsub n (T.toNat a)) (T.fcut cs (T.atp a sz0) (T.atp (Int.ofNat (T.nsub n (T.toNat a))) sz0))))) σ
    | none, some (.c (.f (.int _ b))) => T.rng 0 b (Int.ofNat n) ∧ k (.c (.f (.sl (T.toNat b) (T.fcut cs 0 (T.atp b sz0))))) σ
    | some (.c (.f (.int _ a))), some (.c (.f (.int _ b))) => T.rng 0 b (Int.ofNat n) ∧ T.rng 0 a b ∧
        k (.c (.f (.sl (T.nsub (T.toNat b) (T.toNat a)) (T.fcut cs (T.atp a sz0) (T.atp (Int.ofNat (T.nsub (T.toNat b) (T.toNat a))) sz0))))) σ
    | none, none => k (.c (.f (.sl n cs))) σ
    | _, _ => False)
  | .slice e, .c (.rs o ep n) => 
    (match σ[o]?, lo, hi with
    | some (.arr true e0 sz l), none, some (.c (.f (.int _ b))) => T.eqN ep e0 ∧ T.rng 0 b (Int.ofNat n) ∧ k (.c (.rs o (e0 + 4294967296) (T.toNat b))) (σ.set o (.arr true (e0 + 4294967296) sz (T.fcut l 0 (T.atp b sz))))
    | _, _, _ => False)
  | _, _ => False

def sguard (A : AF) (g : Option (Option Tmp × Bool)) (x y : Prop) : Prop :=
  match g with
  | none => x
  | some (d, want) =>
    match d with
    | none => y
    | some d =>
      match lk A d with
      | .c (.f (.bool b)) => (match want with | true => (match b with | true => x | false => y) | false => (match b with | true => y | false => x))
      | .t _ => y
      | _ => False

def vopA (X : Mx) (pf : FuncId → Bool) (tb : Tab) (m : Nat) (s : SOp) (A : AF) (σ : St) (k : V → St → Prop) : Prop :=
  match s with
  | .mv x => k (opA A x) σ
  | .pick c a b => vpick (opA A c) (opA A a) (opA A b) fun v => k v σ
  | .bin d op x y => vbin X.T d op (opA A x) (opA A y) fun v => k v σ
  | .un op x => vun X.T op (opA A x) fun v => k v σ
  | .alloc z => k (.c (.ptr σ.length 0)) (σ ++ [.cells (z.map .f)])
  | .box x => (match (opA A x).cells with | some l => k (.c (.ptr σ.length 0)) (σ ++ [.cells l]) | none => False)
  | .load agg n x => vload X.T agg n (addr (opA A x)) σ fun v => k v σ
  | .store n a x => vstore X.T (opA A a) (opA A x) n σ fun σ' => k (.c .un) σ'
  | .call x args =>
    (match callee (opA A x) (args.map (opA A)) with
    | some (f, l) => (match pf f with | true => vsofts X.T l σ fun l' σ' => X.pk f l' fun r => k r σ' | false => X.ca f l σ k)
    | none => False)
  | .fa off x => vfield X.T (addr (opA A x)) off σ fun v => k v σ
  | .fld agg off n x => (match opA A x with | .a l => vpart agg l off n fun v => k v σ | _ => False)
  | .ixr sz x i => ixrow X.T sz (addr (opA A x)) (opA A i) σ fun v => k v σ
  | .ixa n sz x i => ixarr X.T n sz (addr (opA A x)) (opA A i) σ fun v => k v σ
  | .chr x i => ixchr X.T (opA A x) (opA A i) fun v => k v σ
  | .len d x => vlen X.T d (opA A x) σ fun v => k v σ
  | .app d ty sz bytes x y => vappend X.T d ty sz bytes (opA A x) (opA A y) σ k
  | .slc d sz x lo hi => sslice X.T d sz (opA A x) (lo.map (opA A)) (hi.map (opA A)) σ k
  | .ext x i => (match opA A x with | .t l => (match l[i]? with | some v => k v σ | none => False) | _ => False)
  | .nilc x =>
    (match opA A x with
    | .c (.ptr o off) => k (.c (.ptr o off)) σ
    | .c (.f (.obj cs)) => k (.c (.f (.obj cs))) σ
    | .c (.ep cs off) => k (.c (.ep cs off)) σ
    | .c (.pa o e off) =>
      (match σ[o]? with
      | some (.arr _ e0 _ _) => X.T.eqN e e0 ∧ k (.c (.pa o e off)) σ
      | _ => False)
    | _ => False)
  | .bi b ts args => vbi X.T tb b ts (args.map (opA A)) σ k
  | .bld z parts => (match sfill (opA A) parts (z.map .f) with | some l => k (.a l) σ | none => False)
  | .bsl n ty sz z parts =>
    (match sfillRow sz (opA A) parts (rep n (z.map .f)) with
    | some l => vfrzs X.T l σ fun fs σ' => k (.c (.rs σ'.length ty n)) (σ' ++ [.arr true ty sz fs])
    | none => False)
  | .raw o => vdo X pf tb o (toFr m A) σ k
end Go.Dm
