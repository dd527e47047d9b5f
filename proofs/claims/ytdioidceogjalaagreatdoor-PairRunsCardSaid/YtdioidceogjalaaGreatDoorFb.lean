/- The plain machine, run by the kernel: regions, code, calls. -/
import Derived.Test.YtdioidceogjalaaGreatDoorFa
namespace Go.Dm
set_option linter.unusedVariables false

/-! ### Equality -/
mutual
def C.eqb : C → C → Bool
  | .f x, .f y => F.eqb x y
  | .ptr x y, .ptr x' y' => Nat.beq x x' && Nat.beq y y'
  | .pa x y z, .pa x' y' z' => Nat.beq x x' && Nat.beq y y' && Nat.beq z z'
  | .ep l n, .ep l' n' => Nat.beq n n' && F.eqbs l l'
  | .rs x y z, .rs x' y' z' => Nat.beq x x' && Nat.beq y y' && Nat.beq z z'
  | .mp x, .mp y => Nat.beq x y
  | .clo x l, .clo x' l' => Nat.beq x x' && C.eqbs l l'
  | .un, .un => true
  | _, _ => false
def C.eqbs : List C → List C → Bool
  | [], [] => true
  | x :: r, y :: s => C.eqb x y && C.eqbs r s
  | _, _ => false
end

mutual
def V.eqb : V → V → Bool
  | .c x, .c y => C.eqb x y
  | .a x, .a y => C.eqbs x y
  | .t x, .t y => V.eqbs x y
  | _, _ => false
def V.eqbs : List V → List V → Bool
  | [], [] => true
  | x :: r, y :: s => V.eqb x y && V.eqbs r s
  | _, _ => false
end

def kvEqb : List (List F × List F) → List (List F × List F) → Bool
  | [], [] => true
  | (a, b) :: r, (c, d) :: s => F.eqbs a c && F.eqbs b d && kvEqb r s
  | _, _ => false

def Ob.eqb : Ob → Ob → Bool
  | .cells l, .cells l' => C.eqbs l l'
  | .arr w e sz l, .arr w' e' sz' l' => (w == w') && Nat.beq e e' && Nat.beq sz sz' && F.eqbs l l'
  | .map kv, .map kv' => kvEqb kv kv'
  | .bld T u x, .bld T' u' x' => Nat.beq T T' && (u == u') && C.eqb x x'
  | .gone, .gone => true
  | _, _ => false

def stEqb : St → St → Bool
  | [], [] => true
  | x :: r, y :: s => Ob.eqb x y && stEqb r s
  | _, _ => false

def ftEqb : FT → FT → Bool
  | [], [] => true
  | x :: r, y :: s => V.eqbs x y && ftEqb r s
  | _, _ => false

def nub {α : Type} (eq : α → α → Bool) : List α → List α
  | [] => []
  | [x] => [x]
  | x :: y :: r =>
    let l := nub eq (y :: r)
    match l.any (eq x) with
    | true => l
    | false => x :: l

def vsEqb (a b : V × St) : Bool := V.eqb a.1 b.1 && stEqb a.2 b.2
def fsEqb (a b : FT × St) : Bool := ftEqb a.1 b.1 && stEqb a.2 b.2

/-! ### Regions -/
def xguard (t : FT) (g : Option (Option Tmp × Bool)) : Option Bool :=
  match g with
  | none => some true
  | some (d, want) =>
    match d with
    | none => some false
    | some d =>
      match t.get d with
      | .c (.f (.bool b)) => some (match want, b with | true, true => true | false, false => true | _, _ => false)
      | .t _ => some false
      | _ => none

def xitem (call : Caller) (tb : Tab) (i : SItem) (t : FT) (σ : St) : Rs (V × St) :=
  match xguard t i.g with
  | none => none
  | some true => xop call tb i.o t.at σ
  | some false => some [(.t [], σ)]

def xseq (call : Caller) (tb : Tab) (m : Nat) : List SItem → FT → St → Rs (FT × St)
  | [], t, σ => some [(t, σ)]
  | i :: r, t, σ =>
    match xitem call tb i t σ with
    | none => none
    | some [(v, σ')] => xseq call tb m r (t.set m i.dst v) σ'
    | some l => bindL l fun p => xseq call tb m r (t.set m i.dst p.1) p.2

/-- Which operations wait for one, directly or not. -/
def depGo (i : Nat) : List Oper → Nat → List Bool → List Bool
  | [], _, acc => acc
  | o :: r, j, acc => depGo i r (j + 1) (acc ++ [o.after.any fun e => Region.binds .any e && (Nat.beq e.on i || (match nth acc e.on with | some b => b | none => false))])

/-- Which kinds of operations leave the store as it is. -/
def stlOf (tb : Tab) (ps : FuncId → Bool) (o : Op) : Bool :=
  match o with
  | .call { callee := .value x, .. } => (match x with | .func f => ps f | _ => false)
  | .slice t _ lo hi mx => (match mx, (tb t).d with | none, .str => true | _, _ => false)
  | .binOp _ t _ _ _ => (match (tb t).d with | .slice _ => false | _ => true)
  | o => !extraB tb o && stillOp tb o

def depB (D : List Bool) (j : Nat) : Bool := match nth D j with | some b => b | none => false

def calmAt (stl : Op → Bool) (ops : Array Oper) (listed : Array Bool) (i : Nat) : Bool :=
  let D := depGo i ops.toList 0 []
  (List.range ops.size).all fun j =>
    match ops[j]? with
    | none => true
    | some o =>
      match depB D j with
      | true => !listed.getD j true && o.after.any fun e => Region.binds .any e && (Nat.beq e.on i || depB D e.on)
      | false => Nat.beq j i || listed.getD j true || stl o.op

structure Ch where
  it : SItem
  op : Op
  free : Bool
  calm : Bool
  still : Bool
  deriving Inhabited

inductive Plan where
  | bad
  | node (l : List (Ch × (Unit → Plan)))
  deriving Inhabited

def choice (stl : Op → Bool) (l : List SItem) (ops : Array Oper) (listed : Array Bool) (i : Nat) : Ch :=
  match ops[i]?, nth l i with
  | some o, some s => ⟨s, o.op, freeAt ops listed i, calmAt stl ops listed i, stl o.op⟩
  | _, _ => ⟨⟨none, none, .raw (.ready 0)⟩, .ready 0, false, false, false⟩

def plan (stl : Op → Bool) (l : List SItem) (ops : Array Oper) : Nat → Array Bool → Plan
  | 0, listed => (match Region.ready .any ops listed with | [] => .node [] | _ => .bad)
  | n + 1, listed => .node ((Region.ready .any ops listed).map fun i => (choice stl l ops listed i, fun _ => plan stl l ops n (listed.setIfInBounds i true)))

def tlessT (tb : Tab) (o : Op) (t : FT) : Bool :=
  match o with
  | .call { callee := .value _, .. } => false
  | .load _ x => !farV (t.at x) && !ptrV (t.at x)
  | o => !extraB tb o && stillOp tb o && o.operands.toList.all fun x => !farV (t.at x)

/-- What may be taken first; true: whatever the store is. -/
def pickX (tb : Tab) (t : FT) : List (Ch × (Unit → Plan)) → Option (Bool × Ch × (Unit → Plan))
  | [] => none
  | (c, p) :: r =>
    match c.free with
    | false => pickX tb t r
    | true =>
      match tlessT tb c.op t with
      | true => some (true, c, p)
      | false => (match c.still && c.calm with | true => some (false, c, p) | false => pickX tb t r)

def branchX {α : Type} (f : Ch → (Unit → Plan) → Rs α) : List (Ch × (Unit → Plan)) → Rs α
  | [] => some []
  | (c, p) :: r =>
    match f c p with
    | none => none
    | some l => (match branchX f r with | none => none | some l' => some (l ++ l'))

def xany (call : Caller) (tb : Tab) (m : Nat) : Nat → Plan → FT → St → Rs (FT × St)
  | 0, .node [], t, σ => some [(t, σ)]
  | 0, _, _, _ => none
  | _ + 1, .bad, _, _ => none
  | _ + 1, .node [], t, σ => some [(t, σ)]
  | n + 1, .node l, t, σ =>
    match pickX tb t l with
    | some (tl, c, p) =>
      (match xitem call tb c.it t (match tl with | true => [] | false => σ) with
      | some [(v, _)] => xany call tb m n (p ()) (t.set m c.it.dst v) σ
      | _ => none)
    | none =>
      match branchX (fun c p => match xitem call tb c.it t σ with
        | none => none
        | some o => bindL o fun q => xany call tb m n (p ()) (t.set m c.it.dst q.1) q.2) l with
      | none => none
      | some o => some (nub fsEqb o)

/-! ### Code -/
inductive XE where
  | norm
  | exit (id : Nat)
  | ret
  deriving Inhabited

def xloop (body : FT → St → Rs (XE × FT × St)) : Nat → FT → St → Rs (XE × FT × St)
  | 0, _, _ => none
  | n + 1, t, σ => Rs.bind (body t σ) fun p =>
    match p with
    | (.norm, t', σ') => xloop body n t' σ'
    | p => some [p]

def xcode (call : Caller) (tb : Tab) (stl : Op → Bool) (m it : Nat) : SCode → FT → St → Rs (XE × FT × St)
  | .skip, t, σ => some [(.norm, t, σ)]
  | .ops l, t, σ => (match xseq call tb m l t σ with | some [(t', σ')] => some [(.norm, t', σ')] | some o => some (o.map fun p => (.norm, p.1, p.2)) | none => none)
  | .any l ops, t, σ => (match xany call tb m ops.size (plan stl l ops ops.size (Array.replicate ops.size false)) t σ with | some [(t', σ')] => some [(.norm, t', σ')] | some o => some (o.map fun p => (.norm, p.1, p.2)) | none => none)
  | .seq a b, t, σ => Rs.bind (xcode call tb stl m it a t σ) fun p =>
    match p with
    | (.norm, t', σ') => xcode call tb stl m it b t' σ'
    | p => some [p]
  | .cond c a b, t, σ =>
    (match t.at c with
    | .c (.f (.bool x)) => (match x with | true => xcode call tb stl m it a t σ | false => xcode call tb stl m it b t σ)
    | _ => none)
  | .block id c, t, σ => Rs.bind (xcode call tb stl m it c t σ) fun p =>
    match p with
    | (.exit j, t', σ') => (match Nat.beq j id with | true => some [(.norm, t', σ')] | false => some [(.exit j, t', σ')])
    | p => some [p]
  | .loop c, t, σ => xloop (xcode call tb stl m it c) it t σ
  | .exit id, t, σ => some [(.exit id, t, σ)]
  | .ret, t, σ => some [(.ret, t, σ)]
  | .bad, _, _ => none

/-! ### Calls -/
def xres (tb : Tab) : List ResultVar → FT → St → Option (List V)
  | [], _, _ => some []
  | .tmp i :: r, t, σ => (match xres tb r t σ with | some l => some (t.get i :: l) | none => none)
  | .cell x ty :: r, t, σ =>
    match (tb ty).d.isNo with
    | true => none
    | false => match xload (tb ty).agg (tb ty).size (addr (t.get x)) σ, xres tb r t σ with
      | some v, some l => some (v :: l)
      | _, _ => none

def xret (tb : Tab) (rs : List ResultVar) (p : XE × FT × St) : Rs (V × St) :=
  match p with
  | (.exit _, _, _) => none
  | (_, t, σ) =>
    match xres tb rs t σ with
    | none => none
    | some [v] => some [(v, σ)]
    | some l => some [(.t l, σ)]

/-- A function's code, made small. -/
structure Fun where
  m : Nat
  code : SCode
  rs : List ResultVar
  deriving Inhabited

def funOf (P : Program) (tb : Tab) (f : FuncId) : Option Fun :=
  match P.funcs[f]? with
  | none => none
  | some fn =>
    match fn.body with
    | none => none
    | some c => (match fn.name == "runtime.NumGoroutine" with | true => none | false => some ⟨fn.ntmps, scode tb c, fn.results.toList⟩)

/-- A body, run. -/
def xbody (call : Caller) (tb : Tab) (stl : Op → Bool) (it : Nat) (F : Fun) (args : List V) (σ : St) : Rs (V × St) :=
  match Nat.ble args.length F.m with
  | false => none
  | true =>
    match Rs.bind (xcode call tb stl F.m it F.code (start F.m 0 args (blank (F.m / 8))) σ) (xret tb F.rs) with
    | none => none
    | some o => some (nub vsEqb o)
end Go.Dm
