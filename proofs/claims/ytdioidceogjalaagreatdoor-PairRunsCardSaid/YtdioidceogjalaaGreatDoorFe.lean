/- The plain machine, run by the kernel: calls in their modes. -/
import Derived.Test.YtdioidceogjalaaGreatDoorFd
namespace Go.Dm
set_option linter.unusedVariables false

/-! ### What leads nowhere into the store -/
mutual
def C.free : C → Bool
  | .f _ => true
  | .ep _ _ => true
  | .clo _ caps => C.frees caps
  | .un => true
  | .ptr _ _ => false
  | .pa _ _ _ => false
  | .rs _ _ _ => false
  | .mp _ => false
def C.frees : List C → Bool
  | [] => true
  | x :: r => (match C.free x with | true => C.frees r | false => false)
end

mutual
def V.free : V → Bool
  | .c x => x.free
  | .a l => C.frees l
  | .t l => V.frees l
def V.frees : List V → Bool
  | [] => true
  | x :: r => (match V.free x with | true => V.frees r | false => false)
end

/-! ### What has no address at all -/
def F.bare : F → Bool
  | .bool _ | .int _ _ | .flo _ | .cpl _ _ | .str _ | .nils | .nilp | .nilm | .nilf | .fn _ => true
  | .sl _ _ | .obj _ => false

def C.bare : C → Bool
  | .f x => x.bare
  | _ => false

mutual
def V.bare : V → Bool
  | .c x => x.bare
  | .a l => l.all C.bare
  | .t l => V.bares l
def V.bares : List V → Bool
  | [] => true
  | x :: r => (match V.bare x with | true => V.bares r | false => false)
end

/-! ### A look at what is there: frozen for one call -/
mutual
def snapC : Nat → St → C → Option C
  | _, _, .f x => some (.f x)
  | _, _, .ep l n => some (.ep l n)
  | _, _, .un => some .un
  | _, σ, .rs o e n =>
    (match nth σ o with
    | some (.arr _ e0 sz l) => (match Nat.beq e e0 with | true => some (.f (.sl n l)) | false => none)
    | _ => none)
  | n + 1, σ, .ptr o off =>
    (match nth σ o with
    | some (.cells cs) =>
      (match snapCs n σ cs with
      | some l => (match frz l with | some fs => (match off with | 0 => some (.f (.obj fs)) | off => some (.ep fs off)) | none => none)
      | none => none)
    | _ => none)
  | n + 1, σ, .clo f caps => (match snapCs n σ caps with | some l => some (.clo f l) | none => none)
  | _, _, _ => none
def snapCs : Nat → St → List C → Option (List C)
  | _, _, [] => some []
  | 0, _, _ => none
  | n + 1, σ, x :: r =>
    match snapC n σ x with
    | none => none
    | some y => (match snapCs n σ r with | some l => some (y :: l) | none => none)
end

def snapV (σ : St) : V → Option V
  | .c x => (match snapC 1000 σ x with | some y => some (.c y) | none => none)
  | .a l => (match snapCs 1000 σ l with | some l' => some (.a l') | none => none)
  | .t _ => none

def snapVs (σ : St) : List V → Option (List V)
  | [] => some []
  | x :: r =>
    match snapV σ x with
    | none => none
    | some y => (match snapVs σ r with | some l => some (y :: l) | none => none)

/-! ### Frozen for good -/
mutual
def hardC : Nat → C → St → Option (C × St)
  | _, .f x, σ => some (.f x, σ)
  | _, .ep l n, σ => some (.ep l n, σ)
  | _, .un, σ => some (.un, σ)
  | _, .rs o e n, σ =>
    (match nth σ o with
    | some (.arr _ e0 sz l) => (match Nat.beq e e0 with | true => some (.f (.sl n l), put σ o (.arr false e0 sz l)) | false => none)
    | _ => none)
  | n + 1, .ptr o off, σ =>
    (match off with
    | 0 =>
      (match nth σ o with
      | some (.cells cs) =>
        (match hardCs n cs σ with
        | some (l, σ') =>
          (match frz l, nth σ' o with
          | some fs, some (.cells _) => some (.f (.obj fs), put σ' o .gone)
          | _, _ => none)
        | none => none)
      | _ => none)
    | _ => none)
  | n + 1, .clo f caps, σ => (match hardCs n caps σ with | some (l, σ') => some (.clo f l, σ') | none => none)
  | _, _, _ => none
def hardCs : Nat → List C → St → Option (List C × St)
  | _, [], σ => some ([], σ)
  | 0, _, _ => none
  | n + 1, x :: r, σ =>
    match hardC n x σ with
    | none => none
    | some (y, σ') => (match hardCs n r σ' with | some (l, σ'') => some (y :: l, σ'') | none => none)
end

mutual
def hardV : V → St → Option (V × St)
  | .c x, σ => (match hardC 1000 x σ with | some (y, σ') => some (.c y, σ') | none => none)
  | .a l, σ => (match hardCs 1000 l σ with | some (l', σ') => some (.a l', σ') | none => none)
  | .t l, σ => (match hardVs l σ with | some (l', σ') => some (.t l', σ') | none => none)
def hardVs : List V → St → Option (List V × St)
  | [], σ => some ([], σ)
  | x :: r, σ =>
    match hardV x σ with
    | none => none
    | some (y, σ') => (match hardVs r σ' with | some (l, σ'') => some (y :: l, σ'') | none => none)
end

/-! ### What is not reached any more -/
mutual
def C.under (n : Nat) : C → Bool
  | .f _ => true
  | .ep _ _ => true
  | .clo _ caps => C.unders n caps
  | .un => true
  | .ptr o _ => Nat.blt o n
  | .pa o _ _ => Nat.blt o n
  | .rs o _ _ => Nat.blt o n
  | .mp o => Nat.blt o n
def C.unders (n : Nat) : List C → Bool
  | [] => true
  | x :: r => (match C.under n x with | true => C.unders n r | false => false)
end

mutual
def V.under (n : Nat) : V → Bool
  | .c x => x.under n
  | .a l => C.unders n l
  | .t l => V.unders n l
def V.unders (n : Nat) : List V → Bool
  | [] => true
  | x :: r => (match V.under n x with | true => V.unders n r | false => false)
end

def Ob.under (n : Nat) : Ob → Bool
  | .cells l => C.unders n l
  | .bld _ _ x => C.under n x
  | _ => true

def trim (n : Nat) (p : V × St) : V × St :=
  match p.1.under n && (p.2.take n).all (Ob.under n) with
  | true => (p.1, p.2.take n)
  | false => p

/-! ### Calls -/
inductive Mode where
  /-- in the store as it is -/
  | im
  /-- a look: what comes back is bare -/
  | ps
  /-- all that is handed in is frozen, for good, ahead of it -/
  | pf
  /-- all that is handed in is frozen already: what comes back is frozen, the store is left -/
  | pg
  deriving Inhabited

structure Env where
  mode : FuncId → Mode
  stl : Op → Bool
  it : Nat
  spec : FuncId → Option (List V → St → Rs (V × St))
  /-- calls that are known: function, arguments, store, outcomes -/
  memo : List (Nat × List V × St × List (V × St)) := []

def memoAt (f : FuncId) (args : List V) (σ : St) : List (Nat × List V × St × List (V × St)) → Option (List (V × St))
  | [] => none
  | (f', args', σ', o) :: r =>
    match Nat.beq f' f with
    | false => memoAt f args σ r
    | true =>
      match V.eqbs args' args with
      | false => memoAt f args σ r
      | true => (match stEqb σ' σ with | true => some o | false => memoAt f args σ r)

def barely (σ : St) : List (V × St) → Rs (V × St)
  | [] => some []
  | (v, _) :: r => (match v.bare, barely σ r with | true, some l => some ((v, σ) :: l) | _, _ => none)

def hardly (σ : St) : List (V × St) → Rs (V × St)
  | [] => some []
  | (v, τ) :: r =>
    match hardV v τ with
    | none => none
    | some (u, _) => (match u.free, hardly σ r with | true, some l => some ((u, σ) :: l) | _, _ => none)

def xcall (P : Program) (tb : Tab) (E : Env) : Nat → Caller
  | 0 => fun _ _ _ => none
  | n + 1 => fun f args σ =>
    match memoAt f args σ E.memo with
    | some o => some o
    | none =>
    match E.spec f with
    | some s => s args σ
    | none =>
      match funOf P tb f with
      | none => none
      | some F =>
        match E.mode f with
        | .im => (match xbody (xcall P tb E n) tb E.stl E.it F args σ with | none => none | some o => some (nub vsEqb (o.map (trim σ.length))))
        | .ps =>
          (match snapVs σ args with
          | none => none
          | some l =>
            match V.frees l, xbody (xcall P tb E n) tb E.stl E.it F l [] with
            | true, some o => (match barely σ o with | none => none | some o => some (nub vsEqb o))
            | _, _ => none)
        | .pf =>
          (match hardVs args σ with
          | none => none
          | some (l, σ') =>
            match V.frees l, xbody (xcall P tb E n) tb E.stl E.it F l [] with
            | true, some o => (match hardly σ' o with | none => none | some o => some (nub vsEqb o))
            | _, _ => none)
        | .pg =>
          (match V.frees args with
          | false => none
          | true =>
            match xbody (xcall P tb E n) tb E.stl E.it F args [] with
            | some o => (match hardly σ o with | none => none | some o => some (nub vsEqb o))
            | none => none)
end Go.Dm
