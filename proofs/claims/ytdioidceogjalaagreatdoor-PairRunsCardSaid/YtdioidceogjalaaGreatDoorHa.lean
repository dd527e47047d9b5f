/- The plain machine, run by the kernel: code compiled ahead, open regions planned ahead. -/
import Derived.Test.YtdioidceogjalaaGreatDoorGb
namespace Go.Dm
set_option linter.unusedVariables false

/-- A region, planned. -/
inductive YT where
  | done
  | go (i : SItem) (c : Option Op) (p : YT)
  | alt (i : SItem) (p q : YT)
  | stop
  | sub (s p : YT)
  deriving Inhabited

inductive YCode where
  | skip
  | ops (l : List SItem)
  | tree (t : YT)
  | any (n : Nat) (fb : Unit → Plan)
  | seq (a b : YCode)
  | cond (c : Operand) (a b : YCode)
  | block (id : Nat) (c : YCode)
  | loop (c : YCode)
  | exit (id : Nat)
  | ret
  | bad
  deriving Inhabited

/-! ### The plan of a region: which operation goes first, and why (go true: calm; go false: timeless, looked at when it is run; alt .. stop: each of those that are ready) -/
inductive PT where
  | done
  | go (i : Nat) (c : Bool) (p : PT)
  | alt (i : Nat) (p q : PT)
  | stop
  /-- s as far as its ends, where all ways have come together; then p -/
  | sub (s p : PT)
  deriving Inhabited

abbrev Hints := List (Nat × PT)

def hintAt (id : Nat) : Hints → Option PT
  | [] => none
  | (j, s) :: r => match Nat.beq j id with | true => some s | false => hintAt id r

def ytree (tb : Tab) (ops : Array Oper) : PT → Option YT
  | .done => some .done
  | .stop => some .stop
  | .go i c p =>
    (match ops[i]? with
    | none => none
    | some o => (match ytree tb ops p with | none => none | some t => some (.go (sitem tb ops o) (match c with | true => none | false => some o.op) t)))
  | .alt i p q =>
    (match ops[i]? with
    | none => none
    | some o => (match ytree tb ops p with
      | none => none
      | some t => (match ytree tb ops q with | none => none | some u => some (.alt (sitem tb ops o) t u))))
  | .sub s p =>
    (match ytree tb ops s with
    | none => none
    | some t => (match ytree tb ops p with | none => none | some u => some (.sub t u)))

/-- The operations that are tried, one beside the other. -/
def PT.alts : PT → List Nat
  | .alt i _ q => i :: q.alts
  | _ => []

def nilB (l : List Nat) : Bool := match l with | [] => true | _ => false

def natsB : List Nat → List Nat → Bool
  | [], [] => true
  | a :: l, b :: r => (match Nat.beq a b with | true => natsB l r | false => false)
  | _, _ => false

/-- What reads alone; what adds an object alone. -/
def readS : SOp → Bool
  | .mv _ | .pick .. | .bin .. | .un .. | .load .. | .fa .. | .fld .. | .ixr .. | .ixa .. | .chr .. | .len .. | .ext .. | .nilc _ => true
  | _ => false
def addS : SOp → Bool
  | .alloc _ | .box _ => true
  | _ => false

/-- All that may come ahead of it leaves what it looks at. -/
def calmY (tb : Tab) (stl : Op → Bool) (ops : Array Oper) (listed : Array Bool) (i : Nat) (o : Op) : Bool :=
  stl o && (calmAt stl ops listed i || (readS (comp tb o) && calmAt (fun o => stl o || addS (comp tb o)) ops listed i))

/-- top: this is a state of the region; else a row of ways out of one. k: what is asked where it ends. -/
def ptOk (tb : Tab) (stl : Op → Bool) (ops : Array Oper) : PT → Bool → (Nat → Array Bool → Bool) → Nat → Array Bool → Bool
  | .done, top, k, n, listed => top && k n listed
  | .go i c p, top, k, n, listed =>
    (match n with
    | 0 => false
    | n + 1 =>
      match top && ((Region.ready .any ops listed).contains i && freeAt ops listed i && (match c, ops[i]? with | _, none => false | true, some o => calmY tb stl ops listed i o.op | false, some _ => true)) with
      | true => ptOk tb stl ops p true k n (listed.setIfInBounds i true)
      | false => false)
  | .alt i p q, top, k, n, listed =>
    (match n with
    | 0 => false
    | n + 1 =>
      match (match top with | true => natsB (Region.ready .any ops listed) (i :: q.alts) | false => true) with
      | true => (match ptOk tb stl ops p true k n (listed.setIfInBounds i true) with | true => ptOk tb stl ops q false k (n + 1) listed | false => false)
      | false => false)
  | .stop, top, _, _, _ => !top
  | .sub s p, top, k, n, listed => top && ptOk tb stl ops s true (fun n' l' => ptOk tb stl ops p true k n' l') n listed

/-- Nothing is left. -/
def allRun (ops : Array Oper) (_ : Nat) (listed : Array Bool) : Bool := nilB (Region.ready .any ops listed)

def planOf (tb : Tab) (stl : Op → Bool) (ops : Array Oper) : Plan := plan stl (ops.toList.map (sitem tb ops)) ops ops.size (Array.replicate ops.size false)

def ycomp (tb : Tab) (stl : Op → Bool) (H : Hints) : Code → YCode
  | .skip => .skip
  | .region id ops draw =>
    (match draw with
    | false => .ops (ops.toList.map (sitem tb ops))
    | true =>
      match hintAt id H with
      | some s => (match ytree tb ops s with | some t => .tree t | none => .bad)
      | none => .any ops.size (fun _ => planOf tb stl ops))
  | .seq a b => .seq (ycomp tb stl H a) (ycomp tb stl H b)
  | .cond c a b => .cond c (ycomp tb stl H a) (ycomp tb stl H b)
  | .block id c => .block id (ycomp tb stl H c)
  | .loop c => .loop (ycomp tb stl H c)
  | .exit id => .exit id
  | .label _ => .skip
  | .ret => .ret
  | _ => .bad

def hintsOk (tb : Tab) (stl : Op → Bool) (H : Hints) : Code → Bool
  | .region id ops draw =>
    (match draw with
    | false => true
    | true => (match hintAt id H with | some s => ptOk tb stl ops s true (allRun ops) ops.size (Array.replicate ops.size false) | none => true))
  | .seq a b => (match hintsOk tb stl H a with | true => hintsOk tb stl H b | false => false)
  | .cond _ a b => (match hintsOk tb stl H a with | true => hintsOk tb stl H b | false => false)
  | .block _ c => hintsOk tb stl H c
  | .loop c => hintsOk tb stl H c
  | _ => true

structure YFun where
  m : Nat
  code : YCode
  rs : List ResultVar
  deriving Inhabited

def yfunOf (P : Program) (tb : Tab) (stl : Op → Bool) (H : Hints) (f : FuncId) : Option YFun :=
  match P.funcs[f]? with
  | none => none
  | some fn =>
    match fn.body with
    | none => none
    | some c => (match fn.name == "runtime.NumGoroutine" with | true => none | false => some ⟨fn.ntmps, ycomp tb stl H c, fn.results.toList⟩)

def yhintOk (P : Program) (tb : Tab) (stl : Op → Bool) (H : Hints) (f : FuncId) : Bool :=
  match P.funcs[f]? with
  | none => false
  | some fn => (match fn.body with | none => false | some c => hintsOk tb stl H c)

/-! ### Rows and frames, by recursors: the kernel goes through them in few steps -/
noncomputable def nthR {α : Type} (l : List α) : Nat → Option α := List.rec (fun _ => none) (fun x _ ih n => Nat.rec (some x) (fun n _ => ih n) n) l

theorem nthR_eq {α : Type} : ∀ (l : List α) (n : Nat), nthR l n = nth l n
  | [], _ => rfl
  | x :: r, 0 => rfl
  | x :: r, n + 1 => nthR_eq r n

noncomputable def rowGet (l : List V) : Nat → V := List.rec (fun _ => .c .un) (fun x _ ih n => Nat.rec x (fun n _ => ih n) n) l
noncomputable def tabGet (t : FT) : Nat → Nat → V := List.rec (fun _ _ => .c .un) (fun r _ ih n j => Nat.rec (rowGet r j) (fun n _ => ih n j) n) t
noncomputable def ftGet (t : FT) (i : Nat) : V := tabGet t (i / 8) (i % 8)

theorem rowGet_eq : ∀ (l : List V) (n : Nat), rowGet l n = (match nth l n with | some v => v | none => .c .un)
  | [], _ => rfl
  | x :: r, 0 => rfl
  | x :: r, n + 1 => rowGet_eq r n

theorem tabGet_eq : ∀ (t : FT) (n j : Nat), tabGet t n j = (match nth t n with | some l => (match nth l j with | some v => v | none => .c .un) | none => .c .un)
  | [], _, _ => rfl
  | x :: r, 0, j => rowGet_eq x j
  | x :: r, n + 1, j => tabGet_eq r n j

theorem ftGet_eq (t : FT) (i : Nat) : ftGet t i = t.get i := tabGet_eq t _ _

/-- A row with one thing put, handed on. -/
noncomputable def rowPutK {R : Type} (l : List V) : Nat → V → (List V → R) → R :=
  List.rec (fun _ _ k => k []) (fun x r ih n v k => Nat.rec (k (v :: r)) (fun n _ => ih n v fun r' => k (x :: r')) n) l
noncomputable def tabPutK {R : Type} (t : FT) : Nat → Nat → V → (FT → R) → R :=
  List.rec (fun _ _ _ k => k []) (fun x r ih n j v k => Nat.rec (rowPutK x j v fun x' => k (x' :: r)) (fun n _ => ih n j v fun r' => k (x :: r')) n) t
noncomputable def ftPutK {R : Type} (m : Nat) (t : FT) (dst : Option Tmp) (v : V) (k : FT → R) : R :=
  Option.rec (k t) (fun d => Bool.rec (k t) (tabPutK t (d / 8) (d % 8) v k) (Nat.blt d m)) dst

theorem rowPutK_eq {R : Type} : ∀ (l : List V) (n : Nat) (v : V) (k : List V → R), rowPutK l n v k = k (put l n v)
  | [], _, _, _ => rfl
  | x :: r, 0, _, _ => rfl
  | x :: r, n + 1, v, k => rowPutK_eq r n v fun r' => k (x :: r')

theorem tabPutK_eq {R : Type} : ∀ (t : FT) (n j : Nat) (v : V) (k : FT → R), tabPutK t n j v k = k (upd t n fun l => put l j v)
  | [], _, _, _, _ => rfl
  | x :: r, 0, j, v, k => rowPutK_eq x j v fun x' => k (x' :: r)
  | x :: r, n + 1, j, v, k => tabPutK_eq r n j v fun r' => k (x :: r')

theorem ftPutK_eq {R : Type} (m : Nat) (t : FT) (dst : Option Tmp) (v : V) (k : FT → R) : ftPutK m t dst v k = k (t.set m dst v) := by
  cases dst with
  | none => rfl
  | some d =>
    revert d
    intro (d : Nat)
    show Bool.rec (k t) (tabPutK t (d / 8) (d % 8) v k) (Nat.blt d m) = k (match Nat.blt d m with | true => upd t (d / 8) fun l => put l (d % 8) v | false => t)
    cases Nat.blt d m with
    | false => rfl
    | true => exact tabPutK_eq t _ _ v k

noncomputable def ftAt (t : FT) (x : Operand) : V := Operand.rec (fun i => ftGet t i) (fun v => ofConst v) (fun _ => .c .un) (fun f => .c (.f (.fn f))) x

theorem ftAt_eq (t : FT) : ftAt t = t.at := funext fun x => by
  cases x with
  | tmp i => exact ftGet_eq t i
  | _ => rfl

/-! ### Operations: what is asked first stands first -/
abbrev OpR := Caller → Tab → (Operand → V) → St → Rs (V × St)

noncomputable def yop (s : SOp) : OpR :=
  SOp.rec (motive := fun _ => OpR)
    (fun x _ _ ρ σ => some [(ρ x, σ)])
    (fun c a b call tb ρ σ => xop call tb (.pick c a b) ρ σ)
    (fun d op x y _ _ ρ σ => still (xbin d op (ρ x) (ρ y)) σ)
    (fun op x _ _ ρ σ => still (xun op (ρ x)) σ)
    (fun z _ _ _ σ => some [(.c (.ptr σ.length 0), σ ++ [.cells (z.map .f)])])
    (fun x call tb ρ σ => xop call tb (.box x) ρ σ)
    (fun agg n x _ _ ρ σ => still (xload agg n (addr (ρ x)) σ) σ)
    (fun n a x call tb ρ σ => xop call tb (.store n a x) ρ σ)
    (fun x args call tb ρ σ => xop call tb (.call x args) ρ σ)
    (fun off x _ _ ρ σ => still (xfield (addr (ρ x)) off σ) σ)
    (fun agg off n x call tb ρ σ => xop call tb (.fld agg off n x) ρ σ)
    (fun sz x i _ _ ρ σ => still (xixrow sz (addr (ρ x)) (ρ i) σ) σ)
    (fun n sz x i _ _ ρ σ => still (xixarr n sz (addr (ρ x)) (ρ i) σ) σ)
    (fun x i _ _ ρ σ => still (xchr (ρ x) (ρ i)) σ)
    (fun d x _ _ ρ σ => still (xlen d (ρ x) σ) σ)
    (fun d ty sz bytes x y _ _ ρ σ => one (xappend d ty sz bytes (ρ x) (ρ y) σ))
    (fun d sz x lo hi _ _ ρ σ => one (xslice d sz (ρ x) (lo.map ρ) (hi.map ρ) σ))
    (fun x i call tb ρ σ => xop call tb (.ext x i) ρ σ)
    (fun x _ _ ρ σ => still (xnil (ρ x) σ) σ)
    (fun b ts args _ _ ρ σ => one (xbi b (args.map ρ) σ))
    (fun z parts call tb ρ σ => xop call tb (.bld z parts) ρ σ)
    (fun n ty sz z parts call tb ρ σ => xop call tb (.bsl n ty sz z parts) ρ σ)
    (fun o call tb ρ σ => xop call tb (.raw o) ρ σ)
    s

theorem yop_eq (call : Caller) (tb : Tab) (s : SOp) (ρ : Operand → V) (σ : St) : yop s call tb ρ σ = xop call tb s ρ σ := by
  cases s <;> rfl

abbrev ItR := Caller → Tab → FT → St → Rs (V × St)

noncomputable def yguard (r : Option Bool) (a b : Rs (V × St)) : Rs (V × St) := Option.rec none (fun t => Bool.rec b a t) r

noncomputable def yitem (i : SItem) : ItR :=
  SItem.rec (motive := fun _ => ItR) (fun _ g o call tb t σ =>
    Option.rec (motive := fun _ => Rs (V × St)) (yop o call tb (ftAt t) σ) (fun gw => yguard (xguard t (some gw)) (yop o call tb (ftAt t) σ) (some [(.t [], σ)])) g) i

theorem yitem_eq (call : Caller) (tb : Tab) (i : SItem) (t : FT) (σ : St) : yitem i call tb t σ = xitem call tb i t σ := by
  obtain ⟨d, g, o⟩ := i
  cases g with
  | none => simp only [yitem, xitem, xguard, yop_eq, ftAt_eq]
  | some gw =>
    simp only [yitem, xitem, yop_eq, ftAt_eq]
    cases xguard t (some gw) with
    | none => rfl
    | some b => cases b <;> rfl

abbrev SeqR := Caller → Tab → Nat → FT → St → Rs (FT × St)

/-- One outcome, or more. -/
noncomputable def oneK {α β : Type} (o : Rs α) (k : α → Rs β) (g : List α → Rs β) : Rs β :=
  Option.rec none (fun l => List.rec (g []) (fun x r _ => List.rec (k x) (fun y s _ => g (x :: y :: s)) r) l) o

noncomputable def yseq (l : List SItem) : SeqR :=
  List.rec (motive := fun _ => SeqR) (fun _ _ _ t σ => some [(t, σ)]) (fun i _ ih call tb m t σ =>
    oneK (yitem i call tb t σ) (fun p => ftPutK m t i.dst p.1 fun t' => ih call tb m t' p.2) (fun l => bindL l fun p => ih call tb m (t.set m i.dst p.1) p.2)) l

theorem yseq_eq (call : Caller) (tb : Tab) (m : Nat) : ∀ (l : List SItem) (t : FT) (σ : St), yseq l call tb m t σ = xseq call tb m l t σ
  | [], t, σ => rfl
  | i :: r, t, σ => by
    show oneK (yitem i call tb t σ) (fun p => ftPutK m t i.dst p.1 fun t' => yseq r call tb m t' p.2) (fun l => bindL l fun p => yseq r call tb m (t.set m i.dst p.1) p.2) = _
    simp only [xseq, yitem_eq, yseq_eq call tb m r, ftPutK_eq]
    cases xitem call tb i t σ with
    | none => rfl
    | some l =>
      cases l with
      | nil => rfl
      | cons p l => cases l with | nil => rfl | cons q l => rfl

noncomputable def yjoin (a b : Rs (FT × St)) : Rs (FT × St) :=
  Option.rec none (fun l => Option.rec none (fun l' => List.rec (some l) (fun y s _ => some (nub fsEqb (l ++ (y :: s)))) l') b) a

/-- Is it a call of a function? -/
def callOp : Op → Bool
  | .call { callee := .value (.func _), .. } => true
  | _ => false

def movOp : Op → Bool
  | .move _ | .assign _ => true
  | _ => false

def tlessY (tb : Tab) (o : Op) (t : FT) : Bool :=
  movOp o || match callOp o with
  | true => (match o with | .call { args, .. } => V.frees (args.toList.map t.at) | _ => false)
  | false => tlessT tb o t

/-- What came of it, frozen, if it is a call. -/
def ysoft (o : Op) (p : V × St) : Option V :=
  match callOp o with
  | false => some p.1
  | true =>
    match hardV p.1 p.2 with
    | none => none
    | some (u, _) => (match u.free with | true => some u | false => none)

noncomputable def ynub (a : Rs (FT × St)) : Rs (FT × St) := oneK a (fun p => some [p]) fun l => some (nub fsEqb l)

noncomputable def bindR {α β : Type} (o : Rs α) (f : α → Rs β) : Rs β := oneK o f fun l => bindL l f

theorem bindR_eq {α β : Type} (o : Rs α) (f : α → Rs β) : bindR o f = Rs.bind o f := by
  cases o with
  | none => rfl
  | some l =>
    cases l with
    | nil => rfl
    | cons p l => cases l with | nil => rfl | cons q l => rfl

noncomputable def yrun (t : YT) : SeqR :=
  YT.rec (motive := fun _ => SeqR)
    (fun _ _ _ t σ => some [(t, σ)])
    (fun i c _ ih call tb m t σ =>
      Option.rec (motive := fun _ => Rs (FT × St))
        (oneK (yitem i call tb t σ) (fun p => ftPutK m t i.dst p.1 fun t' => ih call tb m t' σ) fun _ => none)
        (fun o => Bool.rec none (oneK (yitem i call tb t []) (fun p => Option.rec none (fun u => ftPutK m t i.dst u fun t' => ih call tb m t' σ) (ysoft o p)) fun _ => none) (tlessY tb o t)) c)
    (fun i _ _ ihp ihq call tb m t σ =>
      yjoin (Rs.bind (yitem i call tb t σ) fun p => ihp call tb m (t.set m i.dst p.1) p.2) (ihq call tb m t σ))
    (fun _ _ _ _ _ => some [])
    (fun _ _ ihs ihp call tb m t σ => bindR (ynub (ihs call tb m t σ)) fun p => ihp call tb m p.1 p.2)
    t

noncomputable def ynorm (n : Nat) (o : Rs (FT × St)) : Rs (XE × FT × St) :=
  oneK o (fun p => some [(.norm, p.1, p.2)]) fun l => some ((nub fsEqb (l.map (canonF n))).map fun p => (.norm, p.1, p.2))

abbrev CodeR := Caller → Tab → Nat → Nat → Nat → FT → St → Rs (XE × FT × St)

noncomputable def ynext (f : FT → St → Rs (XE × FT × St)) (p : XE × FT × St) : Rs (XE × FT × St) :=
  XE.rec (f p.2.1 p.2.2) (fun i => some [(.exit i, p.2.1, p.2.2)]) (some [(.ret, p.2.1, p.2.2)]) p.1

noncomputable def yblk (id : Nat) (p : XE × FT × St) : Rs (XE × FT × St) :=
  XE.rec (some [(.norm, p.2.1, p.2.2)]) (fun j => Bool.rec (some [(.exit j, p.2.1, p.2.2)]) (some [(.norm, p.2.1, p.2.2)]) (Nat.beq j id)) (some [(.ret, p.2.1, p.2.2)]) p.1

def ycond : V → (Unit → Rs (XE × FT × St)) → (Unit → Rs (XE × FT × St)) → Rs (XE × FT × St)
  | .c (.f (.bool true)) => fun a _ => a ()
  | .c (.f (.bool false)) => fun _ b => b ()
  | _ => fun _ _ => none

noncomputable def yloop (body : FT → St → Rs (XE × FT × St)) (n : Nat) : FT → St → Rs (XE × FT × St) :=
  Nat.rec (fun _ _ => none) (fun _ ih t σ => bindR (body t σ) fun p => ynext ih p) n

theorem yloop_eq (body : FT → St → Rs (XE × FT × St)) : ∀ (n : Nat) (t : FT) (σ : St), yloop body n t σ = xloop body n t σ
  | 0, t, σ => rfl
  | n + 1, t, σ => by
    show bindR (body t σ) (fun p => ynext (yloop body n) p) = _
    rw [bindR_eq]
    simp only [xloop]
    congr 1
    funext p
    obtain ⟨x, t', σ'⟩ := p
    cases x with
    | norm => exact yloop_eq body n t' σ'
    | _ => rfl

noncomputable def ycode (c : YCode) : CodeR :=
  YCode.rec (motive := fun _ => CodeR)
    (fun _ _ _ _ _ t σ => some [(.norm, t, σ)])
    (fun l call tb n0 m _ t σ => ynorm n0 (yseq l call tb m t σ))
    (fun r call tb n0 m _ t σ => ynorm n0 (yrun r call tb m t σ))
    (fun n fb call tb n0 m _ t σ => ynorm n0 (xany call tb m n (fb ()) t σ))
    (fun _ _ iha ihb call tb n0 m it t σ => bindR (iha call tb n0 m it t σ) (ynext (ihb call tb n0 m it)))
    (fun c _ _ iha ihb call tb n0 m it t σ => ycond (ftAt t c) (fun _ => iha call tb n0 m it t σ) (fun _ => ihb call tb n0 m it t σ))
    (fun id _ ih call tb n0 m it t σ => bindR (ih call tb n0 m it t σ) (yblk id))
    (fun _ ih call tb n0 m it t σ => yloop (ih call tb n0 m it) it t σ)
    (fun id _ _ _ _ _ t σ => some [(.exit id, t, σ)])
    (fun _ _ _ _ _ t σ => some [(.ret, t, σ)])
    (fun _ _ _ _ _ _ _ => none)
    c

noncomputable def ybody (F : YFun) (call : Caller) (tb : Tab) (it : Nat) (args : List V) (σ : St) : Rs (V × St) :=
  match Nat.ble args.length F.m with
  | false => none
  | true =>
    match bindR (ycode F.code call tb σ.length F.m it (start F.m 0 args (blank (F.m / 8))) σ) (xret tb F.rs) with
    | none => none
    | some [p] => some [p]
    | some o => some (nub vsEqb o)

/-! ### Calls -/
def ytrim (n : Nat) (p : V × St) : V × St :=
  match Nat.beq p.2.length n with
  | true => p
  | false => trim n p

def yim (n : Nat) : Rs (V × St) → Rs (V × St)
  | none => none
  | some [p] => some [ytrim n p]
  | some o => some (nub vsEqb (o.map (canonV n)))

def yps (σ : St) : Rs (V × St) → Rs (V × St)
  | some o => (match barely σ o with | none => none | some [p] => some [p] | some o => some (nub vsEqb o))
  | none => none

def ypf (σ : St) : Rs (V × St) → Rs (V × St)
  | some o => (match hardly σ o with | none => none | some [p] => some [p] | some o => some (nub vsEqb o))
  | none => none

def ymode : Mode → (List V → St → Rs (V × St)) → List V → St → Rs (V × St)
  | .im => fun B args σ => yim σ.length (B args σ)
  | .ps => fun B args σ =>
    (match snapVs σ args with
    | none => none
    | some l => (match V.frees l with | true => yps σ (B l []) | false => none))
  | .pf => fun B args σ =>
    (match hardVs args σ with
    | none => none
    | some (l, σ') => (match V.frees l with | true => ypf σ' (B l []) | false => none))
  | .pg => fun B args σ => (match V.frees args with | true => ypf σ (B args []) | false => none)

abbrev Bodies := FuncId → Option (Caller → List V → St → Rs (V × St))

def yorelse : Option (List (V × St)) → (Unit → Rs (V × St)) → Rs (V × St)
  | some o => fun _ => some o
  | none => fun f => f ()

def ycallB (bd : Bodies) (E : Env) (call : Caller) (f : FuncId) (args : List V) (σ : St) : Rs (V × St) :=
  match E.spec f with
  | some s => s args σ
  | none =>
    match bd f with
    | none => none
    | some B => ymode (E.mode f) (B call) args σ

def ycall (bd : Bodies) (E : Env) : Nat → Caller
  | 0 => fun _ _ _ => none
  | n + 1 => fun f args σ => yorelse (memoAt f args σ E.memo) fun _ => ycallB bd E (ycall bd E n) f args σ

/-! ### The table of bodies -/
structure Ent (P : Program) (tb : Tab) (stl : Op → Bool) where
  f : Nat
  H : Hints
  F : YFun
  ok : yfunOf P tb stl H f = some F
  chk : yhintOk P tb stl H f = true

def entAt {P : Program} {tb : Tab} {stl : Op → Bool} (f : FuncId) (l : List (List (Option (Ent P tb stl)))) : Option YFun :=
  match nth l (f / 16) with
  | none => none
  | some r =>
    match nth r (f % 16) with
    | some (some e) => (match Nat.beq e.f f with | true => some e.F | false => none)
    | _ => none

noncomputable def bodies {P : Program} {tb : Tab} {stl : Op → Bool} (it : Nat) (l : List (List (Option (Ent P tb stl)))) : Bodies := fun f =>
  match entAt f l with
  | none => none
  | some F => some fun call args σ => ybody F call tb it args σ
end Go.Dm
