/- Printed by merge2.py: many texts in one. -/
import Derived.Test.YtpoegfkajdbplaaMc
import Derived.Test.YtpoegfkajdbplaaMb
import Derived.Laws.Externs
import Derived.Lib.Builder
import Derived.Lib.Bytealg
import GoSem.Core.Float

namespace Go.Dm.Sx
open Go.Dm
set_option linter.unusedVariables false
set_option linter.unusedSimpArgs false
def osCaps : List (Nat × Nat) → List SC → List (Option Nat) → List (Option Nat)
  | (o, _) :: r, .ptr p _ :: l, os => osCaps r l (put os o (.some p))
  | _ :: r, _ :: l, os => osCaps r l os
  | _, _, os => os
def osArgs : List In → List SV → List (Option Nat) → List (Option Nat)
  | .ptr o _ :: r, .c (.ptr p _) :: vs, os => osArgs r vs (put os o (.some p))
  | .cloP _ l :: r, .c (.clo _ cs) :: vs, os => osArgs r vs (osCaps l cs os)
  | .st _ _ :: r, vs, os => osArgs r vs os
  | _ :: r, _ :: vs, os => osArgs r vs os
  | _, _, os => os
def osCells : List IC → List SC → List (Option Nat) → List (Option Nat)
  | .row o _ :: r, .rs p _ :: l, os => osCells r l (put os o (.some p))
  | .ptr o _ :: r, .ptr p _ :: l, os => osCells r l (put os o (.some p))
  | _ :: r, _ :: l, os => osCells r l os
  | _, _, os => os
def osFind (S : SSt) : List IO → Nat → List (Option Nat) → List (Option Nat)
  | [], _, os => os
  | .cells l :: r, o, os =>
    (match nth os o with
    | .some (.some p) => (match nth S p with | .some (.cells cs) => osFind S r (o + 1) (osCells l cs os) | _ => osFind S r (o + 1) os)
    | _ => osFind S r (o + 1) os)
  | .row .. :: r, o, os => osFind S r (o + 1) os
def osAll : List (Option Nat) → Option (List Nat)
  | [] => .some []
  | .some p :: r => (match osAll r with | .some l => .some (p :: l) | .none => .none)
  | .none :: _ => .none
def notIn (p : Nat) : List Nat → Bool
  | [] => true
  | q :: r => (match Nat.beq p q with | true => false | false => notIn p r)
def nodupB : List Nat → Bool
  | [] => true
  | p :: r => (match notIn p r with | true => nodupB r | false => false)
inductive Loc where
  | cell (o i : Nat)
  | row (o : Nat)
def Loc.eqb : Loc → Loc → Bool
  | .cell o i, .cell o' i' => (match Nat.beq o o' with | true => Nat.beq i i' | false => false)
  | .row o, .row o' => Nat.beq o o'
  | _, _ => false
theorem Loc.eqb_ok {a b : Loc} (h : Loc.eqb a b = true) : a = b := by
  cases a <;> cases b <;> simp only [Loc.eqb, Bool.false_eq_true] at h
  · split at h
    · rename_i h1; rw [beq_nat h1, beq_nat h]
    · cases h
  · rw [beq_nat h]
def locC (j o : Nat) : List IC → Nat → Option Loc
  | [], _ => .none
  | .d j' :: r, i => (match Nat.beq j j' with | true => .some (.cell o i) | false => locC j o r (i + 1))
  | _ :: r, i => locC j o r (i + 1)
def locOf (j : Nat) : List IO → Nat → Option Loc
  | [], _ => .none
  | .cells l :: r, o => (match locC j o l 0 with | .some q => .some q | .none => locOf j r (o + 1))
  | .row _ _ _ _ j' :: r, o => (match Nat.beq j j' with | true => .some (.row o) | false => locOf j r (o + 1))
def isLoc (obs : List IO) (j : Nat) (q : Loc) : Bool := match locOf j obs 0 with | .some q' => Loc.eqb q' q | .none => false
def isLstT (lb : List Ty) (j : Nat) (t : Ty) : Bool := match nth lb j with | .some t' => Ty.eqb t' (.list t) | .none => false
def fldAt (S : SSt) (os : List Nat) : Loc → Option SC
  | .cell o i =>
    (match nth os o with
    | .some p => (match nth S p with | .some (.cells l) => (match nth l i with | .some x => (match keepC x with | true => .some x | false => .none) | .none => .none) | _ => .none)
    | .none => .none)
  | .row o => (match nth os o with | .some p => (match nth S p with | .some (.arr _ _ _ _ t x) => .some (.d (.list t) x) | _ => .none) | .none => .none)
def fldsAt (S : SSt) (os : List Nat) (obs : List IO) : Nat → Nat → Option (List SC)
  | _, 0 => .some []
  | j, n + 1 =>
    (match locOf j obs 0 with
    | .some q => (match fldAt S os q with | .some x => (match fldsAt S os obs (j + 1) n with | .some l => .some (x :: l) | .none => .none) | .none => .none)
    | .none => .none)
def isRow (obs : List IO) (o j : Nat) : Bool := match nth obs o with | .some (.row _ _ _ _ j') => Nat.beq j' j | _ => false
def atOs (os : List Nat) (o p : Nat) : Bool := match nth os o with | .some q => Nat.beq q p | .none => false
def chkC (lb : List Ty) (obs : List IO) (os : List Nat) (S : SSt) (o : Nat) : List IC → List SC → Nat → Bool
  | [], [], _ => true
  | .d j :: r, x :: l, i => (match isLoc obs j (.cell o i), keepC x, Nat.blt j lb.length with | true, true, true => chkC lb obs os S o r l (i + 1) | _, _, _ => false)
  | .row o' j :: r, .rs p k :: l, i => (match atOs os o' p, freshS S p k, isRow obs o' j with | true, true, true => chkC lb obs os S o r l (i + 1) | _, _, _ => false)
  | .ptr o' off :: r, .ptr p off' :: l, i => (match atOs os o' p, Nat.beq off off' with | true, true => chkC lb obs os S o r l (i + 1) | _, _ => false)
  | _, _, _ => false
def sameB (a b : Bool) : Bool := match a, b with | true, true => true | false, false => true | _, _ => false
def chkO (lb : List Ty) (obs : List IO) (os : List Nat) (S : SSt) (o : Nat) (io : IO) : Bool :=
  match nth os o with
  | .none => false
  | .some p =>
    match io with
    | .cells l => (match nth S p with | .some (.cells l') => chkC lb obs os S o l l' 0 | _ => false)
    | .row w ty sz t j =>
      (match nth S p with
      | .some (.arr w' k ty' sz' t' x) => (match sameB w w', Nat.beq ty ty', Nat.beq sz sz', Ty.eqb t t', isLoc obs j (.row o), isLstT lb j t with | true, true, true, true, true, true => true | _, _, _, _, _, _ => false)
      | _ => false)
def chkOs (lb : List Ty) (obs : List IO) (os : List Nat) (S : SSt) : List IO → Nat → Bool
  | [], _ => true
  | io :: r, o => (match chkO lb obs os S o io with | true => chkOs lb obs os S r (o + 1) | false => false)
def newC (lay : Nat → List Ty) (e : SE) (i0 : Nat) (os : List Nat) (S : SSt) : IC → SC
  | .d j => cellOf lay e i0 j
  | .row o _ => (match nth os o with | .some p => (match nth S p with | .some (.arr _ k _ _ _ _) => .rs p (k + 1) | _ => .un) | .none => .un)
  | .ptr o off => (match nth os o with | .some p => .ptr p off | .none => .un)
  | .mp _ => .un
def newO (lay : Nat → List Ty) (e : SE) (i0 : Nat) (os : List Nat) (S : SSt) (p : Nat) : IO → SOb
  | .cells l => .cells (l.map (newC lay e i0 os S))
  | .row w ty sz t j => (match nth S p with | .some (.arr _ k _ _ _ _) => .arr w (k + 1) ty sz t (.fld i0 j) | _ => .any)
def newS (lay : Nat → List Ty) (e : SE) (i0 : Nat) (os : List Nat) (S0 : SSt) : List IO → Nat → SSt → SSt
  | [], _, S => S
  | io :: r, o, S => newS lay e i0 os S0 r (o + 1) (match nth os o with | .some p => put S p (newO lay e i0 os S0 p io) | .none => S)
def ownO : List (Nat × Nat × Nat × Nat × Ty) → (Nat → List Ty) → SSt → Option SSt
  | [], _, S => .some S
  | (o, j, ty, sz, t) :: r, lay, S =>
    match nth S o with
    | .some (.cells l) =>
      (match nth l j with
      | .some .nil => (match Nat.beq sz (wid lay t), Nat.ble ty 4294967295 with | true, true => ownO r lay (put (S ++ [.arr true 0 ty sz t (.nil t)]) o (.cells (put l j (.rs S.length 0)))) | _, _ => .none)
      | _ => ownO r lay S)
    | _ => ownO r lay S
def nilsOf (obs : List IO) (p : Nat) : List IC → List SC → Nat → List (Nat × Nat × Nat × Nat × Ty)
  | .row o _ :: r, .nil :: l, i => (match nth obs o with | .some (.row _ ty sz t _) => (p, i, ty, sz, t) :: nilsOf obs p r l (i + 1) | _ => nilsOf obs p r l (i + 1))
  | _ :: r, _ :: l, i => nilsOf obs p r l (i + 1)
  | _, _, _ => []
def nilAll (obs : List IO) (S : SSt) (os : List (Option Nat)) : List IO → Nat → List (Nat × Nat × Nat × Nat × Ty)
  | [], _ => []
  | .cells l :: r, o =>
    (match nth os o with
    | .some (.some p) => (match nth S p with | .some (.cells cs) => nilsOf obs p l cs 0 ++ nilAll obs S os r (o + 1) | _ => nilAll obs S os r (o + 1))
    | _ => nilAll obs S os r (o + 1))
  | .row .. :: r, o => nilAll obs S os r (o + 1)
def chkCaps (os : List Nat) : List (Nat × Nat) → List SC → Bool
  | [], [] => true
  | (o, off) :: r, .ptr p i :: l => (match atOs os o p, Nat.beq off i with | true, true => chkCaps os r l | _, _ => false)
  | _, _ => false
def splitA (os : List Nat) : List In → List SV → Option (List In × List SV)
  | [], [] => .some ([], [])
  | .ptr o off :: r, .c (.ptr p i) :: vs => (match atOs os o p, Nat.beq off i with | true, true => splitA os r vs | _, _ => .none)
  | .ptr _ _ :: _, _ => .none
  | .cloP f l :: r, .c (.clo g cs) :: vs => (match Nat.beq f g, chkCaps os l cs with | true, true => splitA os r vs | _, _ => .none)
  | .cloP _ _ :: _, _ => .none
  | .st _ _ :: _, _ => .none
  | x :: r, v :: vs => (match splitA os r vs with | .some (l, m) => .some (x :: l, v :: m) | .none => .none)
  | _, _ => .none
def callSt0 (lay : Nat → List Ty) (sg : Sig) (b : Nat) (obs : List IO) (i : Nat) (args : List SV) (e : SE) (S : SSt) (k : K1) : Tr :=
  match osAll (osFind S obs 0 (osArgs sg.ins args (List.replicate obs.length .none))) with
  | .none => .fail
  | .some os =>
    match sg.outs with
    | [] => .fail
    | t0 :: outs =>
    match Nat.beq os.length obs.length, nodupB os, chkOs (lay b) obs os S obs 0, Ty.eqb t0 (.base b) with
    | true, true, true, true =>
      (match fldsAt S os obs 0 (lay b).length, splitA os (sg.ins.drop 1) args with
      | .some fl, .some (ins', args') =>
        (match args'.all dataV with
        | true => dataK lay e (.base b) fl fun e y => argsK lay S ins' args' e fun e l =>
            .call i (y :: l) (k (e.pushes sg.outs) (oneOf (resVs lay (e.pushes sg.outs) (e.n + 1) outs)) (newS lay (e.pushes sg.outs) e.n os S obs 0 S))
        | false => .fail)
      | _, _ => .fail)
    | _, _, _, _ => .fail
def callSt (lay : Nat → List Ty) (sg : Sig) (b : Nat) (obs : List IO) (i : Nat) (args : List SV) (e : SE) (S : SSt) (k : K1) : Tr :=
  match ownO (nilAll obs S (osFind S obs 0 (osArgs sg.ins args (List.replicate obs.length .none))) obs 0) lay S with
  | .some S' => callSt0 lay sg b obs i args e S' k
  | .none => .fail
variable {U : Uni} {c c' c'' : Cx U} {e : SE} {Sp : List (FSpec U)} {Post : List (Dyn U.B) → Prop} {Go : Nat → List (Dyn U.B) → Prop} {P : Program}
theorem list_of' {α : Type} {Q : Nat → α → Prop} : ∀ (n s : Nat), (∀ o, o < n → ∃ a, Q (s + o) a) → ∃ l : List α, l.length = n ∧ ∀ o a, l[o]? = some a → Q (s + o) a
  | 0, s, _ => ⟨[], rfl, fun o a h => by simp at h⟩
  | n + 1, s, h => by
    obtain ⟨a, ha⟩ := h 0 (by omega)
    obtain ⟨l, h1, h2⟩ := list_of' n (s + 1) fun o ho => by
      have := h (o + 1) (by omega)
      rwa [show s + (o + 1) = s + 1 + o from by omega] at this
    refine ⟨a :: l, by simp [h1], fun o b hb => ?_⟩
    cases o with
    | zero => simp at hb; subst hb; exact ha
    | succ o =>
      have := h2 o b (by simpa using hb)
      rwa [show s + 1 + o = s + (o + 1) from by omega] at this
theorem list_of {α : Type} {Q : Nat → α → Prop} (n : Nat) (h : ∀ o, o < n → ∃ a, Q o a) : ∃ l : List α, l.length = n ∧ ∀ (o : Nat) a, l[o]? = some a → Q o a := by
  obtain ⟨l, h1, h2⟩ := list_of' (Q := Q) n 0 fun o ho => by rw [Nat.zero_add]; exact h o ho
  exact ⟨l, h1, fun o a ha => by have := h2 o a ha; rwa [Nat.zero_add] at this⟩
theorem notIn_ok {p : Nat} : ∀ {l : List Nat}, notIn p l = true → p ∉ l
  | [], _ => by simp
  | q :: r, h => by
    simp only [notIn] at h
    split at h
    · cases h
    · rename_i hb
      have : p ≠ q := fun e => by subst e; rw [Nat.beq_refl] at hb; cases hb
      simp [this, notIn_ok h]
theorem nodup_ok : ∀ {l : List Nat}, nodupB l = true → l.Nodup
  | [], _ => List.nodup_nil
  | q :: r, h => by
    simp only [nodupB] at h
    split at h
    · rename_i hb; exact List.nodup_cons.2 ⟨notIn_ok hb, nodup_ok h⟩
    · cases h
def emOf (os : List Nat) (E1 E : Nat → Nat) : Em := ⟨os.length, fun j => os.getD j 0, fun i => if i ∈ os then some (os.idxOf i) else none, E1, E⟩
theorem emOf_ok {os : List Nat} (h : os.Nodup) (E1 E : Nat → Nat) : (emOf os E1 E).Ok where
  inv_os j hj := by
    have hj : j < os.length := hj
    have e : os.getD j 0 = os[j] := by rw [List.getD_eq_getElem?_getD, List.getElem?_eq_getElem hj]; rfl
    show (if os.getD j 0 ∈ os then some (os.idxOf (os.getD j 0)) else none) = some j
    rw [e, if_pos (List.getElem_mem hj)]
    congr 1
    exact h.idxOf_getElem j hj
  os_inv i j hi := by
    have hi : (if i ∈ os then some (os.idxOf i) else none) = some j := hi
    split at hi
    · rename_i hm
      cases hi
      have hl := List.idxOf_lt_length_of_mem hm
      refine ⟨hl, ?_⟩
      show os.getD (os.idxOf i) 0 = i
      rw [List.getD_eq_getElem?_getD, List.getElem?_eq_getElem hl]
      exact List.getElem_idxOf hl
    · cases hi
theorem chkOs_ok {lb : List Ty} {obs : List IO} {os : List Nat} {S : SSt} : ∀ {l : List IO} {s : Nat}, chkOs lb obs os S l s = true → ∀ (o : Nat) io, l[o]? = some io → chkO lb obs os S (s + o) io = true
  | [], s, h, o, io, ho => by simp at ho
  | x :: r, s, h, o, io, ho => by
    simp only [chkOs] at h
    split at h
    · rename_i hc
      cases o with
      | zero => simp at ho; subst ho; exact hc
      | succ o =>
        have := chkOs_ok h o io (by simpa using ho)
        rwa [show s + 1 + o = s + (o + 1) from by omega] at this
    · cases h
theorem getD_nth {os : List Nat} {o p : Nat} (h : nth os o = some p) : os.getD o 0 = p := by
  rw [nth_eq] at h; rw [List.getD_eq_getElem?_getD, h]; rfl
def AtLoc (c : Cx U) (os : List Nat) : Loc → F → Prop
  | .cell o i, f => ∃ p l, nth os o = some p ∧ c.σ[p]? = some (.cells l) ∧ l[i]? = some (.f f)
  | .row o, f => ∃ p w k ty sz t x, ∃ ys : List (T U.B t), ∃ fs, nth os o = some p ∧ nth c.S p = some (.arr w k ty sz t x) ∧ c.σ[p]? = some (.arr w (c.β p + k * 4294967296) sz fs) ∧ c.ι p = some (k, ys.length) ∧ f = .sl ys.length fs
theorem fldAt_ok (ok : Ok c e) {os : List Nat} {q : Loc} {x : SC} (h : fldAt c.S os q = some x) : ∃ f, c.cr x (.f f) ∧ AtLoc c os q f := by
  cases q with
  | cell o i =>
    simp only [fldAt] at h
    split at h
    · rename_i p hp
      split at h
      · rename_i l hl
        split at h
        · rename_i y hy
          split at h
          · rename_i hk
            cases h
            obtain ⟨ob, h1, l', rfl, h2⟩ := ok.get hl
            rw [nth_eq] at hy
            obtain ⟨z, h3, h4⟩ := h2.get hy
            obtain ⟨f, rfl⟩ := keep_f hk h4
            exact ⟨f, h4, p, l', hp, h1, h3⟩
          · cases h
        · cases h
      · cases h
    · cases h
  | row o =>
    simp only [fldAt] at h
    split at h
    · rename_i p hp
      split at h
      · rename_i w k ty sz t a hl
        cases h
        obtain ⟨ys, gs, q1, q2, q3, q4, q5, q6⟩ := arr_at ok hl
        refine ⟨.sl ys.length gs, ?_, p, w, k, ty, sz, t, a, ys, gs, hp, hl, q2, q6, rfl⟩
        simp only [Cx.cr, CR]
        exact ⟨_, ⟨.list t, ys⟩, rfl, q1, rfl, by simp only [FD]; exact ⟨t, ys, rfl, rfl, q5⟩⟩
      · cases h
    · cases h
theorem fldsAt_ok (ok : Ok c e) {os : List Nat} {obs : List IO} : ∀ (n j : Nat) {fl : List SC}, fldsAt c.S os obs j n = some fl → ∃ gs : List F, c.crs fl (gs.map Dm.C.f) ∧ gs.length = n ∧ ∀ (m : Nat) g, gs[m]? = some g → ∃ q, locOf (j + m) obs 0 = some q ∧ AtLoc c os q g
  | 0, j, fl, h => by
    simp only [fldsAt, Option.some.injEq] at h
    subst h
    exact ⟨[], by simp only [Cx.crs, CRs, List.map_nil], rfl, fun m g hm => by simp at hm⟩
  | n + 1, j, fl, h => by
    simp only [fldsAt] at h
    split at h
    · rename_i q hq
      split at h
      · rename_i x hx
        split at h
        · rename_i l hl
          cases h
          obtain ⟨f, f1, f2⟩ := fldAt_ok ok hx
          obtain ⟨gs, g1, g2, g3⟩ := fldsAt_ok ok n (j + 1) hl
          refine ⟨f :: gs, by simp only [Cx.crs, CRs, List.map_cons]; exact ⟨_, _, rfl, f1, g1⟩, by simp [g2], fun m g hm => ?_⟩
          cases m with
          | zero => simp at hm; subst hm; exact ⟨q, hq, f2⟩
          | succ m =>
            obtain ⟨q', q1, q2⟩ := g3 m g (by simpa using hm)
            exact ⟨q', by rwa [show j + 1 + m = j + (m + 1) from by omega] at q1, q2⟩
        · cases h
      · cases h
    · cases h
theorem isLoc_ok {obs : List IO} {j : Nat} {q : Loc} (h : isLoc obs j q = true) : locOf j obs 0 = some q := by
  unfold isLoc at h
  split at h
  · rename_i q' hq; rw [hq, Loc.eqb_ok h]
  · cases h
def FldOk (c : Cx U) (os : List Nat) (obs : List IO) (lb : List Ty) (d : Dyn U.B) : Prop :=
  ∀ (j : Nat) q, locOf j obs 0 = some q → j < lb.length → ∃ d' f, (cells U d)[j]? = some d' ∧ AtLoc c os q f ∧ FD U f d' ∧ lb[j]? = some d'.t
def epOf (c : Cx U) (os : List Nat) (o : Nat) : Nat := match nth os o with | some p => (match nth c.S p with | some (.arr _ k _ _ _ _) => c.β p + k * 4294967296 | _ => 0) | none => 0
theorem epOf_at {os : List Nat} {o p : Nat} (hp : nth os o = some p) {w : Bool} {k ty sz : Nat} {t : Ty} {x : Tm} (h : nth c.S p = some (.arr w k ty sz t x)) : epOf c os o = c.β p + k * 4294967296 := by
  unfold epOf; rw [hp]; simp only [h]
theorem atOs_nth {os : List Nat} {o p : Nat} (h : atOs os o p = true) : nth os o = some p := by
  unfold atOs at h
  split at h
  · rename_i q hq; rw [hq, beq_nat h]
  · cases h
theorem nth_lt {os : List Nat} {o p : Nat} (h : nth os o = some p) : o < os.length := by
  rw [nth_eq] at h; exact (List.getElem?_eq_some_iff.1 h).1
theorem isRow_ok {obs : List IO} {o j : Nat} (h : isRow obs o j = true) : ∃ w ty sz t, obs[o]? = some (.row w ty sz t j) := by
  unfold isRow at h
  split at h
  · rename_i w ty sz t j' ho; rw [nth_eq] at ho; rw [beq_nat h] at ho; exact ⟨w, ty, sz, t, ho⟩
  · cases h
theorem sameB_ok {a b : Bool} (h : sameB a b = true) : a = b := by
  cases a <;> cases b <;> first | rfl | (cases h)
theorem chk_row {lb : List Ty} {obs : List IO} {os : List Nat} {S : SSt} {o : Nat} {w : Bool} {ty sz : Nat} {t : Ty} {j : Nat} (h : chkO lb obs os S o (.row w ty sz t j) = true) :
    ∃ p k x, nth os o = some p ∧ nth S p = some (.arr w k ty sz t x) ∧ locOf j obs 0 = some (.row o) ∧ lb[j]? = some (.list t) := by
  unfold chkO at h
  split at h
  · cases h
  · rename_i p hp
    simp only at h
    split at h
    · rename_i w' k ty' sz' t' x hS
      split at h
      · rename_i e1 e2 e3 e4 e5 e6
        have := sameB_ok e1; subst this
        have := beq_nat e2; subst this
        have := beq_nat e3; subst this
        have := Ty.eqb_ok e4; subst this
        refine ⟨p, k, x, hp, hS, isLoc_ok e5, ?_⟩
        unfold isLstT at e6
        split at e6
        · rename_i t' ht; rw [nth_eq] at ht; rw [ht, Ty.eqb_ok e6]
        · cases e6
      · cases h
    · cases h
theorem chk_cells {lb : List Ty} {obs : List IO} {os : List Nat} {S : SSt} {o : Nat} {l : List IC} (h : chkO lb obs os S o (.cells l) = true) : ∃ p l', nth os o = some p ∧ nth S p = some (.cells l') ∧ chkC lb obs os S o l l' 0 = true := by
  unfold chkO at h
  split at h
  · cases h
  · rename_i p hp
    simp only at h
    split at h
    · rename_i l' hS; exact ⟨p, l', hp, hS, h⟩
    · cases h
section
variable {os : List Nat} {obs : List IO} {lb : List Ty} {d : Dyn U.B}
theorem canon_cells (ok : Ok c e) (hf : FldOk c os obs lb d) (hall : ∀ (o : Nat) io, obs[o]? = some io → chkO lb obs os c.S o io = true) {o p : Nat} {full : List Dm.C} (hp : nth os o = some p) (hσ : c.σ[p]? = some (.cells full)) :
    ∀ {lc : List IC} {l : List SC} {i : Nat} {l' : List Dm.C}, chkC lb obs os c.S o lc l i = true → c.crs l l' → (∀ (m : Nat) y, l'[m]? = some y → full[i + m]? = some y) → ∃ l1, RnCs (emOf os (epOf c os) (epOf c os)) l1 l' ∧ ICRs U (epOf c os) d lc l1
  | [], [], i, l', h, hx, hfull => by simp only [Cx.crs, CRs] at hx; subst hx; exact ⟨[], rfl, rfl⟩
  | [], x :: l, i, l', h, hx, hfull => by cases h
  | .d j :: r, [], i, l', h, hx, hfull => by cases h
  | .row _ _ :: r, [], i, l', h, hx, hfull => by cases h
  | .ptr _ _ :: r, [], i, l', h, hx, hfull => by cases h
  | .mp _ :: r, [], i, l', h, hx, hfull => by cases h
  | .mp _ :: r, x :: l, i, l', h, hx, hfull => by cases h
  | .d j :: r, x :: l, i, l', h, hx, hfull => by
    simp only [Cx.crs, CRs] at hx
    obtain ⟨y, l'', rfl, h1, h2⟩ := hx
    simp only [chkC] at h
    split at h
    · rename_i e1 e2 e3
      obtain ⟨f, rfl⟩ := keep_f e2 h1
      obtain ⟨l1, r1, r2⟩ := canon_cells ok hf hall hp hσ h h2 fun m y hm => by
        have := hfull (m + 1) y (by simpa using hm)
        rwa [show i + (m + 1) = i + 1 + m from by omega] at this
      obtain ⟨d', f', q1, ⟨p', l0, q2, q3, q4⟩, q5, _⟩ := hf j _ (isLoc_ok e1) (blt_nat e3)
      rw [hp] at q2; cases q2
      rw [hσ] at q3; cases q3
      have := hfull 0 (.f f) (by simp)
      rw [Nat.add_zero, q4] at this
      have e4 : f' = f := by simpa using this
      subst e4
      exact ⟨.f f' :: l1, ⟨_, _, rfl, rfl, r1⟩, _, _, rfl, ⟨f', d', q1, rfl, q5⟩, r2⟩
    · cases h
  | .row o' j :: r, x :: l, i, l', h, hx, hfull => by
    cases x <;> simp only [chkC] at h <;> first | (cases h; done) | skip
    rename_i p' k
    simp only [Cx.crs, CRs] at hx
    obtain ⟨y, l'', rfl, h1, h2⟩ := hx
    split at h
    · rename_i e1 e2 e3
      obtain ⟨l1, r1, r2⟩ := canon_cells ok hf hall hp hσ h h2 fun m y hm => by
        have := hfull (m + 1) y (by simpa using hm)
        rwa [show i + (m + 1) = i + 1 + m from by omega] at this
      have hp' := atOs_nth e1
      obtain ⟨w, ty, sz, t, ho'⟩ := isRow_ok e3
      obtain ⟨p2, k2, x2, a1, a2, a3, a4⟩ := chk_row (hall o' _ ho')
      rw [hp'] at a1; cases a1
      obtain ⟨w3, ty3, sz3, t3, x3, b1⟩ := fresh_ok ok e2
      rw [a2] at b1; cases b1
      obtain ⟨d', f', q1, ⟨p4, w4, k4, ty4, sz4, t4, x4, ys, fs, q2, q3, q4, q5, q6⟩, q7, _⟩ := hf j _ a3 (List.getElem?_eq_some_iff.1 a4).1
      rw [hp'] at q2; cases q2
      rw [a2] at q3; cases q3
      have h1' : ∃ n kc len, y = .rs p' (c.β p' + k * 4294967296) n ∧ c.ι p' = some (kc, len) ∧ k ≤ kc ∧ (k = kc → n = len) := h1
      obtain ⟨n, kc, len, rfl, g1, g2, g3⟩ := h1'
      rw [q5] at g1; cases g1
      have hn := g3 rfl
      subst hn q6
      have hlen : lenOf d' = ys.length := by
        simp only [FD] at q7
        obtain ⟨t', xs, rfl, e, _⟩ := q7
        exact e.symm
      refine ⟨.rs o' (epOf c os o') ys.length :: l1, ⟨_, _, rfl, ⟨nth_lt hp', rfl, ?_⟩, r1⟩, _, _, rfl, ⟨d', q1, by rw [hlen]⟩, r2⟩
      show _ = Dm.C.rs (os.getD o' 0) (epOf c os o') _
      rw [getD_nth hp', epOf_at hp' a2]
    · cases h
  | .ptr o' off :: r, x :: l, i, l', h, hx, hfull => by
    cases x <;> simp only [chkC] at h <;> first | (cases h; done) | skip
    rename_i p' off'
    simp only [Cx.crs, CRs] at hx
    obtain ⟨y, l'', rfl, h1, h2⟩ := hx
    split at h
    · rename_i e1 e2
      obtain ⟨l1, r1, r2⟩ := canon_cells ok hf hall hp hσ h h2 fun m y hm => by
        have := hfull (m + 1) y (by simpa using hm)
        rwa [show i + (m + 1) = i + 1 + m from by omega] at this
      have hp' := atOs_nth e1
      have := beq_nat e2; subst this
      simp only [CR] at h1
      subst h1
      refine ⟨.ptr o' off :: l1, ⟨_, _, rfl, ⟨nth_lt hp', ?_⟩, r1⟩, _, _, rfl, rfl, r2⟩
      show _ = Dm.C.ptr (os.getD o' 0) off
      rw [getD_nth hp']
    · cases h
theorem canon_st (ok : Ok c e) (hf : FldOk c os obs lb d) (hlen : os.length = obs.length) (hnd : os.Nodup) (hall : ∀ (o : Nat) io, obs[o]? = some io → chkO lb obs os c.S o io = true) :
    ∃ σ1, Part (emOf os (epOf c os) (epOf c os)) σ1 c.σ ∧ σ1.length = obs.length ∧ StR U (epOf c os) d obs σ1 := by
  have key : ∀ o, o < obs.length → ∃ ob1, (∃ ob, c.σ[os.getD o 0]? = some ob ∧ RnO (emOf os (epOf c os) (epOf c os)) o ob1 ob) ∧ ∀ io, obs[o]? = some io → IOR U (epOf c os) d o io ob1 := by
    intro o ho
    have hio : obs[o]? = some obs[o] := List.getElem?_eq_getElem ho
    have hc := hall o _ hio
    generalize obs[o] = io at hio hc
    cases io with
    | cells l =>
      obtain ⟨p, l', a1, a2, a3⟩ := chk_cells hc
      obtain ⟨ob, b1, l2, rfl, b2⟩ := ok.get a2
      obtain ⟨l1, r1, r2⟩ := canon_cells ok hf hall a1 b1 a3 b2 fun m y hm => by rwa [Nat.zero_add]
      exact ⟨.cells l1, ⟨_, by rw [getD_nth a1]; exact b1, _, rfl, r1⟩, fun io h => by rw [hio] at h; cases h; exact ⟨l1, rfl, r2⟩⟩
    | row w ty sz t j =>
      obtain ⟨p, k, x, a1, a2, a3, a4⟩ := chk_row hc
      obtain ⟨ys, gs, q1, q2, q3, q4, q5, q6⟩ := arr_at ok a2
      obtain ⟨d', f', r1, ⟨p4, w4, k4, ty4, sz4, t4, x4, zs, fs, s1, s2, s3, s4, s5⟩, r3, r4⟩ := hf j _ a3 (List.getElem?_eq_some_iff.1 a4).1
      rw [a1] at s1; cases s1
      rw [a2] at s2; cases s2
      rw [q2] at s3; cases s3
      subst s5
      have ht : d'.t = .list t := by rw [a4] at r4; exact (Option.some.inj r4).symm
      refine ⟨.arr w (epOf c os o) sz gs, ⟨_, by rw [getD_nth a1]; exact q2, rfl, ?_⟩, fun io h => by
        rw [hio] at h; cases h
        refine ⟨d', gs, r1, ht, rfl, ?_, by rw [epOf_at a1 a2, Nat.add_mul_mod_self_right]; exact q4, q3⟩
        simp only [FD] at r3
        obtain ⟨t', xs, rfl, _, e⟩ := r3
        exact e⟩
      show _ = Ob.arr w (epOf c os o) sz gs
      rw [epOf_at a1 a2]
  obtain ⟨σ1, h1, h2⟩ := list_of obs.length key
  refine ⟨σ1, ⟨emOf_ok hnd _ _, by rw [h1]; exact hlen.symm, fun j ob1 hj => ?_⟩, h1, fun o io ho => ?_⟩
  · exact (h2 j ob1 hj).1
  · obtain ⟨ob1, hb⟩ : ∃ ob1, σ1[o]? = some ob1 := ⟨_, List.getElem?_eq_getElem (h1 ▸ (List.getElem?_eq_some_iff.1 ho).1)⟩
    exact ⟨ob1, hb, (h2 o ob1 hb).2 io ho⟩
end
theorem nodup_inj {os : List Nat} (h : os.Nodup) {a b p : Nat} (ha : nth os a = some p) (hb : nth os b = some p) : a = b := by
  rw [nth_eq] at ha hb
  obtain ⟨h1, h2⟩ := List.getElem?_eq_some_iff.1 ha
  obtain ⟨h3, h4⟩ := List.getElem?_eq_some_iff.1 hb
  have hp := List.pairwise_iff_getElem.1 h
  rcases Nat.lt_trichotomy a b with hab | hab | hab
  · exact absurd (h2.trans h4.symm) (hp a b h1 h3 hab)
  · exact hab
  · exact absurd (h4.trans h2.symm) (hp b a h3 h1 hab)
theorem put_at {α : Type} {l : List α} {p : Nat} {x : α} (h : p < l.length) : nth (put l p x) p = some x := by rw [nth_eq, put_eq, List.getElem?_set_self h]
theorem put_ne {α : Type} {l : List α} {p q : Nat} {x : α} (h : q ≠ p) : nth (put l q x) p = nth l p := by rw [nth_eq, nth_eq, put_eq, List.getElem?_set_ne h]
theorem putL {α : Type} (l : List α) (i : Nat) (v : α) : (put l i v).length = l.length := by rw [put_eq]; simp
section
variable {lay : Nat → List Ty} {i0 : Nat} {os : List Nat} {S0 : SSt}
theorem newS_len : ∀ (r : List IO) (s : Nat) (S : SSt), (newS lay e i0 os S0 r s S).length = S.length
  | [], s, S => rfl
  | io :: r, s, S => by
    simp only [newS]
    rw [newS_len r]
    split
    · rw [putL]
    · rfl
theorem newS_other : ∀ (r : List IO) (s : Nat) (S : SSt) {p : Nat}, (∀ o, s ≤ o → o < s + r.length → nth os o ≠ some p) → nth (newS lay e i0 os S0 r s S) p = nth S p
  | [], s, S, p, h => rfl
  | io :: r, s, S, p, h => by
    simp only [newS]
    rw [newS_other r (s + 1) _ fun o h1 h2 => h o (by omega) (by simp only [List.length_cons]; omega)]
    split
    · rename_i q hq
      exact put_ne fun e1 => h s (Nat.le_refl _) (by simp) (e1 ▸ hq)
    · rfl
theorem newS_at (hnd : os.Nodup) : ∀ (r : List IO) (s : Nat) (S : SSt) {o p : Nat} {io : IO}, r[o]? = some io → nth os (s + o) = some p → p < S.length → nth (newS lay e i0 os S0 r s S) p = some (newO lay e i0 os S0 p io)
  | [], s, S, o, p, io, h, _, _ => by simp at h
  | x :: r, s, S, 0, p, io, h, hp, hl => by
    simp at h; subst h
    rw [Nat.add_zero] at hp
    simp only [newS, hp]
    rw [newS_other r (s + 1) _ fun o h1 h2 hh => by have := nodup_inj hnd hp hh; omega]
    exact put_at hl
  | x :: r, s, S, o + 1, p, io, h, hp, hl => by
    simp only [newS]
    refine newS_at hnd r (s + 1) _ (by simpa using h) (by rwa [show s + 1 + o = s + (o + 1) from by omega]) ?_
    split
    · rw [putL]; exact hl
    · exact hl
end
def setAll : List Nat → List Ob → St → St
  | p :: os, ob :: obs, σ => setAll os obs (σ.set p ob)
  | _, _, σ => σ
theorem setAll_len : ∀ (os : List Nat) (obs : List Ob) (σ : St), (setAll os obs σ).length = σ.length
  | [], _, σ => rfl
  | _ :: _, [], σ => rfl
  | p :: os, ob :: obs, σ => by simp only [setAll]; rw [setAll_len os obs]; simp
theorem setAll_other : ∀ (os : List Nat) (obs : List Ob) (σ : St) {p : Nat}, p ∉ os → (setAll os obs σ)[p]? = σ[p]?
  | [], _, σ, p, _ => rfl
  | _ :: _, [], σ, p, _ => rfl
  | q :: os, ob :: obs, σ, p, h => by
    simp only [List.mem_cons, not_or] at h
    simp only [setAll]
    rw [setAll_other os obs _ h.2, List.getElem?_set_ne (Ne.symm h.1)]
theorem setAll_at : ∀ (os : List Nat) (obs : List Ob) (σ : St), os.Nodup → ∀ {o p : Nat} {ob : Ob}, os[o]? = some p → obs[o]? = some ob → p < σ.length → (setAll os obs σ)[p]? = some ob
  | [], _, σ, _, o, p, ob, h, _, _ => by simp at h
  | _ :: _, [], σ, _, o, p, ob, _, h, _ => by simp at h
  | q :: os, x :: obs, σ, hn, 0, p, ob, h1, h2, hl => by
    simp at h1 h2; subst h1 h2
    simp only [setAll]
    rw [setAll_other os obs _ (List.nodup_cons.1 hn).1, List.getElem?_set_self hl]
  | q :: os, x :: obs, σ, hn, o + 1, p, ob, h1, h2, hl => by
    simp only [setAll]
    exact setAll_at os obs _ (List.nodup_cons.1 hn).2 (by simpa using h1) (by simpa using h2) (by simpa using hl)
theorem pcells_base {d : Dyn U.B} {b : Nat} (h : d.t = .base b) : pcells U d = cells U d := by
  obtain ⟨t, x⟩ := d; simp only at h; subst h; rfl
structure Back (U : Uni) (c : Cx U) (e : SE) (os : List Nat) (obs : List IO) (lb : List Ty) (d' : Dyn U.B) (b i0 : Nat) (E' : Nat → Nat) (σ1 : St) : Prop where
  ok : Ok c e
  nd : os.Nodup
  len : os.length = obs.length
  all : ∀ (o : Nat) io, obs[o]? = some io → chkO lb obs os c.S o io = true
  ty : d'.t = .base b
  at_ : c.ρ[i0]? = some d'
  st : StR U E' d' obs σ1
section
variable {os : List Nat} {obs : List IO} {lb : List Ty} {d' : Dyn U.B} {b i0 : Nat} {E' : Nat → Nat} {σ1 : St}
abbrev nS (c : Cx U) (e : SE) (os : List Nat) (obs : List IO) (i0 : Nat) : SSt := newS U.lay e i0 os c.S obs 0 c.S
theorem Back.get (B : Back U c e os obs lb d' b i0 E' σ1) {o : Nat} {io : IO} (ho : obs[o]? = some io) : ∃ p, nth os o = some p ∧ p < c.S.length := by
  have hc := B.all o io ho
  cases io with
  | cells l =>
    obtain ⟨p, l', a1, a2, a3⟩ := chk_cells hc
    rw [nth_eq] at a2
    exact ⟨p, a1, (List.getElem?_eq_some_iff.1 a2).1⟩
  | row w ty sz t j =>
    obtain ⟨p, k, x, a1, a2, a3, a4⟩ := chk_row hc
    rw [nth_eq] at a2
    exact ⟨p, a1, (List.getElem?_eq_some_iff.1 a2).1⟩
theorem Back.new (B : Back U c e os obs lb d' b i0 E' σ1) {o p : Nat} {io : IO} (ho : obs[o]? = some io) (hp : nth os o = some p) : nth (nS c e os obs i0) p = some (newO U.lay e i0 os c.S p io) := by
  obtain ⟨p', h1, h2⟩ := B.get ho
  rw [hp] at h1; cases h1
  exact newS_at B.nd obs 0 c.S ho (by rwa [Nat.zero_add]) h2
theorem Back.old (B : Back U c e os obs lb d' b i0 E' σ1) {p : Nat} (hp : p ∉ os) : nth (nS c e os obs i0) p = nth c.S p :=
  newS_other obs 0 c.S fun o _ _ h => hp (by rw [nth_eq] at h; exact List.mem_of_getElem? h)
theorem Back.fld (B : Back U c e os obs lb d' b i0 E' σ1) {j : Nat} {d2 : Dyn U.B} (h : (cells U d')[j]? = some d2) : (Tm.fld i0 j).den? c.ρ = some d2 := by
  simp only [Tm.den?, B.at_]
  rw [pcells_base B.ty]; exact h
theorem mem_nth {p : Nat} {os : List Nat} (h : p ∈ os) : ∃ o, nth os o = some p := by
  obtain ⟨o, ho⟩ := List.mem_iff_getElem?.1 h
  exact ⟨o, by rw [nth_eq]; exact ho⟩
theorem Back.io (B : Back U c e os obs lb d' b i0 E' σ1) {o p : Nat} (h : nth os o = some p) : ∃ io, obs[o]? = some io :=
  ⟨_, List.getElem?_eq_getElem (B.len ▸ nth_lt h)⟩
theorem Back.row (B : Back U c e os obs lb d' b i0 E' σ1) {o j : Nat} {w : Bool} {ty sz : Nat} {t : Ty} (ho : obs[o]? = some (.row w ty sz t j)) :
    ∃ p k x d2 fs, nth os o = some p ∧ nth c.S p = some (.arr w k ty sz t x) ∧ nth (nS c e os obs i0) p = some (.arr w (k + 1) ty sz t (.fld i0 j)) ∧ (cells U d')[j]? = some d2 ∧ d2.t = .list t ∧ σ1[o]? = some (.arr w (E' o) sz fs) ∧ FDs U fs (rowOf d2) ∧ E' o % 4294967296 = ty ∧ sz = width U t ∧ inf c.ρ (nS c e os obs i0) p = some (k + 1, lenOf d2) ∧ c.β p % 4294967296 = ty ∧ c.ι p = some (k, (lenOf ((x.den? c.ρ).getD (noD U)))) := by
  obtain ⟨p, k, x, a1, a2, a3, a4⟩ := chk_row (B.all o _ ho)
  obtain ⟨ob, h1, d2, fs, h2, h3, rfl, h5, h6, h7⟩ := B.st o _ ho
  have hn := B.new ho a1
  have hn' : nth (nS c e os obs i0) p = some (.arr w (k + 1) ty sz t (.fld i0 j)) := by rw [hn]; simp only [newO, a2]
  obtain ⟨ys, gs, q1, q2, q3, q4, q5, q6⟩ := arr_at B.ok a2
  refine ⟨p, k, x, d2, fs, a1, a2, hn', h2, h3, h1, h5, h6, h7, ?_, q4, ?_⟩
  · rw [nth_eq] at hn'
    simp only [inf, hn', B.fld h2]
  · rw [q6, q1]; rfl
theorem Back.later (B : Back U c e os obs lb d' b i0 E' σ1) : Later c.ρ c.β c.ι c.ρ c.β (inf c.ρ (nS c e os obs i0)) := by
  refine ⟨fun x d h => h, fun p kc len h => ⟨rfl, ?_⟩⟩
  by_cases hm : p ∈ os
  · obtain ⟨o, ho⟩ := mem_nth hm
    obtain ⟨io, hio⟩ := B.io ho
    cases io with
    | cells l =>
      obtain ⟨p', l', a1, a2, a3⟩ := chk_cells (B.all o _ hio)
      rw [ho] at a1; cases a1
      rw [no_inf a2 (by simp)] at h; cases h
    | row w ty sz t j =>
      obtain ⟨p', k, x, d2, fs, a1, a2, a3, a4, a5, a6, a7, a8, a9, a10, a11, a12⟩ := B.row hio
      rw [ho] at a1; cases a1
      rw [a12] at h; cases h
      exact ⟨_, _, a10, .inl (by omega)⟩
  · refine ⟨kc, len, ?_, .inr ⟨rfl, rfl⟩⟩
    have := B.old hm
    rw [nth_eq, nth_eq] at this
    have h' : inf c.ρ c.S p = some (kc, len) := h
    unfold inf at h' ⊢
    rw [this]; exact h'
abbrev mOf (c : Cx U) (os : List Nat) (E' : Nat → Nat) : Em := emOf os E' fun o => epOf c os o + 4294967296
theorem Back.cells (B : Back U c e os obs lb d' b i0 E' σ1) {o : Nat} : ∀ {lc : List IC} {l : List SC} {i : Nat} {l1 : List Dm.C}, chkC lb obs os c.S o lc l i = true → ICRs U E' d' lc l1 →
    ∃ l2, RnCs (mOf c os E') l1 l2 ∧ CRs c.ρ c.β (inf c.ρ (nS c e os obs i0)) (lc.map (newC U.lay e i0 os c.S)) l2
  | [], l, i, l1, h, hx => by simp only [ICRs] at hx; subst hx; exact ⟨[], rfl, rfl⟩
  | .d j :: r, [], i, l1, h, hx => by cases h
  | .row _ _ :: r, [], i, l1, h, hx => by cases h
  | .ptr _ _ :: r, [], i, l1, h, hx => by cases h
  | .mp _ :: r, [], i, l1, h, hx => by cases h
  | .mp _ :: r, x :: l, i, l1, h, hx => by cases h
  | .d j :: r, x :: l, i, l1, h, hx => by
    obtain ⟨y, l', rfl, ⟨f, d2, h1, rfl, h2⟩, h3⟩ := hx
    simp only [chkC] at h
    split at h
    · obtain ⟨l2, r1, r2⟩ := B.cells h h3
      have := cellOf_ok B.ok B.at_ (by rw [pcells_base B.ty]; exact h1) h2
      exact ⟨.f f :: l2, ⟨_, _, rfl, rfl, r1⟩, _, _, rfl, CR.later B.later this, r2⟩
    · cases h
  | .row o' j :: r, x :: l, i, l1, h, hx => by
    obtain ⟨y, l', rfl, ⟨d2, h1, rfl⟩, h3⟩ := hx
    cases x <;> simp only [chkC] at h <;> first | (cases h; done) | skip
    split at h
    · rename_i e1 e2 e3
      obtain ⟨l2, r1, r2⟩ := B.cells h h3
      obtain ⟨w, ty, sz, t, ho'⟩ := isRow_ok e3
      obtain ⟨p', k, x, d3, fs, a1, a2, a3, a4, a5, a6, a7, a8, a9, a10, a11, a12⟩ := B.row ho'
      rw [h1] at a4; cases a4
      refine ⟨.rs p' (c.β p' + (k + 1) * 4294967296) (lenOf d2) :: l2, ⟨_, _, rfl, ⟨nth_lt a1, rfl, ?_⟩, r1⟩, _, _, rfl, ?_, r2⟩
      · show _ = Dm.C.rs (os.getD o' 0) (epOf c os o' + 4294967296) _
        rw [getD_nth a1, epOf_at a1 a2]
        congr 1
        omega
      · simp only [newC, a1, a2, CR]
        exact ⟨lenOf d2, k + 1, lenOf d2, rfl, a10, Nat.le_refl _, fun _ => rfl⟩
    · cases h
  | .ptr o' off :: r, x :: l, i, l1, h, hx => by
    obtain ⟨y, l', rfl, rfl, h3⟩ := hx
    cases x <;> simp only [chkC] at h <;> first | (cases h; done) | skip
    split at h
    · rename_i e1 e2
      obtain ⟨l2, r1, r2⟩ := B.cells h h3
      have hp' := atOs_nth e1
      refine ⟨.ptr (os.getD o' 0) off :: l2, ⟨_, _, rfl, ⟨nth_lt hp', rfl⟩, r1⟩, _, _, rfl, ?_, r2⟩
      simp only [newC, hp', CR]
      rw [getD_nth hp']
    · cases h
theorem Back.store {σ2 : St} (B : Back U c e os obs lb d' b i0 E' σ1) : ∃ σ', Fwd (emOf os (epOf c os) (epOf c os)) (mOf c os E') σ2 σ1 c.σ σ' ∧ Ok ⟨c.ρ, c.β, nS c e os obs i0, σ'⟩ e ∧ Le c ⟨c.ρ, c.β, nS c e os obs i0, σ'⟩ := by
  have key : ∀ o, o < obs.length → ∃ ob, ∀ io p, obs[o]? = some io → nth os o = some p → (∃ ob1, σ1[o]? = some ob1 ∧ RnO (mOf c os E') o ob1 ob) ∧ OR c.ρ c.β (inf c.ρ (nS c e os obs i0)) p (newO U.lay e i0 os c.S p io) ob := by
    intro o ho
    have hio : obs[o]? = some obs[o] := List.getElem?_eq_getElem ho
    generalize obs[o] = io at hio
    obtain ⟨ob1, g1, g2⟩ := B.st o io hio
    cases io with
    | cells lc =>
      obtain ⟨l1, rfl, h1⟩ := g2
      obtain ⟨p, l', a1, a2, a3⟩ := chk_cells (B.all o _ hio)
      obtain ⟨l2, r1, r2⟩ := B.cells a3 h1
      refine ⟨.cells l2, fun io p' hi hp' => ?_⟩
      rw [hio] at hi; cases hi
      exact ⟨⟨_, g1, l2, rfl, r1⟩, l2, rfl, r2⟩
    | row w ty sz t j =>
      obtain ⟨p, k, x, d2, fs, a1, a2, a3, a4, a5, a6, a7, a8, a9, a10, a11, a12⟩ := B.row hio
      refine ⟨.arr w (epOf c os o + 4294967296) sz fs, fun io p' hi hp' => ?_⟩
      rw [hio] at hi; cases hi
      rw [a1] at hp'; cases hp'
      refine ⟨⟨_, a6, rfl, rfl⟩, ?_⟩
      simp only [newO, a2]
      refine ⟨d2, fs, B.fld a4, a5, ?_, a9, a11, a7⟩
      rw [epOf_at a1 a2]
      congr 1
      omega
  obtain ⟨obs', h1, h2⟩ := list_of obs.length key
  have hσ : ∀ {p o}, nth os o = some p → ∃ ob, (setAll os obs' c.σ)[p]? = some ob ∧ obs'[o]? = some ob := fun {p o} hp => by
    obtain ⟨io, hio⟩ := B.io hp
    obtain ⟨p', q1, q2⟩ := B.get hio
    rw [hp] at q1; cases q1
    have hob : obs'[o]? = some (obs'[o]'(by rw [h1, ← B.len]; exact nth_lt hp)) := List.getElem?_eq_getElem _
    exact ⟨_, setAll_at os obs' c.σ B.nd (by rw [nth_eq] at hp; exact hp) hob (B.ok.len ▸ q2), hob⟩
  have hle : Le c ⟨c.ρ, c.β, nS c e os obs i0, setAll os obs' c.σ⟩ := B.later
  refine ⟨setAll os obs' c.σ, ⟨rfl, rfl, rfl, fun j hj => ?_, fun i hi => ?_, fun j hj w E sz fs hs => ?_⟩, ⟨B.ok.tys, B.ok.kn, B.ok.ne, ?_, fun p so hp => ?_⟩, hle⟩
  · have hj : j < os.length := hj
    have hp : nth os j = some os[j] := by rw [nth_eq]; exact List.getElem?_eq_getElem hj
    obtain ⟨io, hio⟩ := B.io hp
    obtain ⟨ob, q1, q2⟩ := hσ hp
    obtain ⟨⟨ob1, q3, q4⟩, _⟩ := h2 j ob q2 io _ hio hp
    refine ⟨ob1, ob, q3, ?_, q4⟩
    show (setAll os obs' c.σ)[os.getD j 0]? = _
    rw [getD_nth hp]; exact q1
  · have hi : (if i ∈ os then some (os.idxOf i) else none) = none := hi
    split at hi
    · cases hi
    · rename_i hm; exact setAll_other os obs' c.σ hm
  · have hj : j < os.length := hj
    have hp : nth os j = some os[j] := by rw [nth_eq]; exact List.getElem?_eq_getElem hj
    obtain ⟨io, hio⟩ := B.io hp
    refine ⟨by show epOf c os j < epOf c os j + 4294967296; omega, ?_⟩
    show E' j % 4294967296 = (epOf c os j + 4294967296) % 4294967296
    cases io with
    | cells lc =>
      obtain ⟨ob1, g1, l1, rfl, _⟩ := B.st j _ hio
      rw [hs] at g1; cases g1
    | row w ty sz t j' =>
      obtain ⟨p, k, x, d2, fs, a1, a2, a3, a4, a5, a6, a7, a8, a9, a10, a11, a12⟩ := B.row hio
      rw [a8, Nat.add_mod_right, epOf_at a1 a2, Nat.add_mul_mod_self_right, a11]
  · show (nS c e os obs i0).length = (setAll os obs' c.σ).length
    rw [setAll_len, newS_len, B.ok.len]
  · by_cases hm : p ∈ os
    · obtain ⟨o, ho⟩ := mem_nth hm
      obtain ⟨io, hio⟩ := B.io ho
      have hn := B.new hio ho
      rw [nth_eq] at hn
      have hp' : (nS c e os obs i0)[p]? = some so := hp
      rw [hn] at hp'; cases hp'
      obtain ⟨ob, q1, q2⟩ := hσ ho
      obtain ⟨_, q4⟩ := h2 o ob q2 io p hio ho
      exact ⟨ob, q1, q4⟩
    · have ho := B.old hm
      rw [nth_eq, nth_eq] at ho
      have hp' : (nS c e os obs i0)[p]? = some so := hp
      rw [ho] at hp'
      obtain ⟨ob, q1, q2⟩ := B.ok.st p so hp'
      exact ⟨ob, by show (setAll os obs' c.σ)[p]? = _; rw [setAll_other os obs' c.σ hm]; exact q1, q2.later hle rfl⟩
end
theorem ghost_nilo {fr : Fr} {σ : St} {o j ep sz : Nat} {l : List C} (ho : σ[o]? = some (.cells l)) (hj : l[j]? = some (.f .nils)) :
    Ghost fr σ fr ((σ ++ [Ob.arr true ep sz []]).set o (Ob.cells (l.set j (.rs σ.length ep 0)))) := by
  intro g w tmps hr hf
  let g' : G := ⟨g.Z, fun i => if i = σ.length then none else g.blk i, fun i => if i = σ.length then 0 else g.cap i⟩
  have hb : ∀ i, i < σ.length → g'.blk i = g.blk i := fun i hi => if_neg (Nat.ne_of_lt hi)
  have hc : ∀ i, i < σ.length → g'.cap i = g.cap i := fun i hi => if_neg (Nat.ne_of_lt hi)
  have hn : g'.blk σ.length = none := if_pos rfl
  have hlt : o < σ.length := (List.getElem?_eq_some_iff.1 ho).1
  generalize hσ' : (σ ++ [Ob.arr true ep sz []]).set o (Ob.cells (l.set j (C.rs σ.length ep 0))) = σ'
  have go : σ'[o]? = some (.cells (l.set j (.rs σ.length ep 0))) := by rw [← hσ', List.getElem?_set_self (by simp; omega)]
  have gn : σ'[σ.length]? = some (Ob.arr true ep sz []) := by rw [← hσ', List.getElem?_set_ne (by omega), List.getElem?_append_right (Nat.le_refl _), Nat.sub_self]; rfl
  have gi : ∀ i, i ≠ o → i < σ.length → σ'[i]? = σ[i]? := fun i h1 h2 => by rw [← hσ', List.getElem?_set_ne (fun h => h1 h.symm), List.getElem?_append_left h2]
  have gl : σ'.length = σ.length + 1 := by rw [← hσ']; simp
  have back : ∀ i ob, σ'[i]? = some ob → i ≠ σ.length → ∃ ob0, σ[i]? = some ob0 ∧ (ob0 = ob ∨ (i = o ∧ ob0 = .cells l ∧ ob = .cells (l.set j (.rs σ.length ep 0)))) := fun i ob h hi => by
    have h1 := (List.getElem?_eq_some_iff.1 h).1
    by_cases he : i = o
    · subst he
      rw [go] at h
      cases h
      exact ⟨_, ho, .inr ⟨rfl, rfl, rfl⟩⟩
    · rw [gi i he (by omega)] at h
      exact ⟨ob, h, .inl rfl⟩
  have hown : ∀ b k, Own g' σ' b k → Own g σ b k := by
    rintro b k ⟨i, ob, h1, h2, h3⟩
    have hi : i ≠ σ.length := fun h => by subst h; rw [hn] at h2; cases h2
    have h5 := (List.getElem?_eq_some_iff.1 h1).1
    obtain ⟨ob0, h6, h7⟩ := back i ob h1 hi
    refine ⟨i, ob0, h6, by rw [← hb i (by omega)]; exact h2, ?_⟩
    rcases h7 with rfl | ⟨_, rfl, _⟩
    · exact h3
    · trivial
  have T : Turn g w σ g' w σ' :=
    { os := rfl, tape := rfl, output := rfl, size := Nat.le_refl _, whole := fun _ _ _ => rfl, zs := fun b o hz => ⟨hz, rfl⟩, znew := fun b o _ hz => .inl hz, onew := fun b o _ h => hown b o h,
      turns := fun i ob h => by
        have hi := (List.getElem?_eq_some_iff.1 h).1
        by_cases he : i = o
        · subst he
          rw [ho] at h
          cases h
          exact ⟨_, go, by simp [ObTurn]⟩
        · exact ⟨ob, by rw [gi i he hi]; exact h, by cases ob <;> simp [ObTurn, hb i hi, hc i hi]⟩
      blks := fun i ob h _ => hb i (List.getElem?_eq_some_iff.1 h).1 }
  refine ⟨g', ⟨fun i ob h => ?_, fun i k a b q h1 h2 h3 h4 h5 h6 => ?_, fun b k hz hk => hr.apart b k hz (hown b k hk), hr.inside⟩, T, hf.turn T⟩
  · have hi := (List.getElem?_eq_some_iff.1 h).1
    by_cases he : i = σ.length
    · subst he
      rw [gn] at h
      cases h
      exact .inl ⟨hn, rfl, if_pos rfl⟩
    · have hi : i < σ.length := by omega
      obtain ⟨ob0, h6, h7⟩ := back i ob h he
      have hk := (hr.ob i ob0 h6).keep T (fun _ _ => rfl) (hb i hi) (hc i hi)
      rcases h7 with rfl | ⟨rfl, rfl, rfl⟩
      · exact hk
      · obtain ⟨b, vs, T0, fz, k1, k2, k3, k4⟩ := hr.ob _ _ h6
        refine ⟨b, vs, T0, fz, by rw [hb _ hi]; exact k1, k2, k3, ?_⟩
        obtain ⟨v, hv, h0⟩ := k4.get hj
        have hv0 : v = .slice none 0 0 := h0
        have hset := (CReps.turn T _ _ k4).set j (c := .rs σ.length ep 0) (v := v) (by
          rw [hv0]
          refine ⟨rfl, .arr true ep sz [], gn, Nat.le_refl _, fun _ => ⟨?_, by simp, Nat.zero_le _⟩⟩
          rw [hn, show g'.cap σ.length = 0 from if_pos rfl]
          rfl)
        have e := List.getElem?_eq_some_iff.1 hv
        have : vs.toList.set j v = vs.toList := by rw [← e.2]; exact List.set_getElem_self e.1
        rwa [this] at hset
  · have n1 : i ≠ σ.length := fun e => by subst e; rw [hn] at h5; cases h5
    have n2 : k ≠ σ.length := fun e => by subst e; rw [hn] at h6; cases h6
    obtain ⟨a0, p1, p2⟩ := back i a h1 n1
    obtain ⟨b0, p3, p4⟩ := back k b h2 n2
    have l1 := (List.getElem?_eq_some_iff.1 p1).1
    have l2 := (List.getElem?_eq_some_iff.1 p3).1
    refine hr.inj i k a0 b0 q p1 p3 ?_ ?_ (by rw [← hb i l1]; exact h5) (by rw [← hb k l2]; exact h6)
    · rcases p2 with rfl | ⟨_, rfl, _⟩
      · exact h3
      · rfl
    · rcases p4 with rfl | ⟨_, rfl, _⟩
      · exact h4
      · rfl
theorem CRs.set {ρ : Rho U} {β : Nat → Nat} {ι : Inf} : ∀ {l : List SC} {l' : List Dm.C}, CRs ρ β ι l l' → ∀ (i : Nat) {x : SC} {y : Dm.C}, CR ρ β ι x y → CRs ρ β ι (l.set i x) (l'.set i y)
  | [], l', h, i, x, y, hx => by simp only [CRs] at h; subst h; simp [CRs]
  | a :: r, l', h, 0, x, y, hx => by
    simp only [CRs] at h
    obtain ⟨c0, l0, rfl, h1, h2⟩ := h
    exact ⟨y, l0, rfl, hx, h2⟩
  | a :: r, l', h, i + 1, x, y, hx => by
    simp only [CRs] at h
    obtain ⟨c0, l0, rfl, h1, h2⟩ := h
    exact ⟨c0, _, rfl, h1, h2.set i hx⟩
def Gh (σ σ' : St) : Prop := ∀ g w, Rep g w σ → ∃ g', Rep g' w σ' ∧ Turn g w σ g' w σ'
theorem Gh.refl (σ : St) : Gh σ σ := fun g w h => ⟨g, h, Turn.refl _ _ _⟩
theorem Gh.trans {a b d : St} (h : Gh a b) (k : Gh b d) : Gh a d := fun g w hr =>
  let ⟨g1, h1, h2⟩ := h g w hr
  let ⟨g2, k1, k2⟩ := k g1 w h1
  ⟨g2, k1, h2.trans k2⟩
theorem rnCs_f (m : Em) : ∀ (fs : List F), RnCs m (fs.map Dm.C.f) (fs.map Dm.C.f)
  | [] => rfl
  | f :: r => ⟨_, _, rfl, rfl, rnCs_f m r⟩
theorem rnV_dv (m : Em) {d : Dyn U.B} {v : V} (h : DV U d v) : RnV m v v := by
  unfold DV at h
  split at h
  · obtain ⟨fs, rfl, _⟩ := h; exact ⟨_, rfl, rnCs_f m fs⟩
  · obtain ⟨f, rfl, _⟩ := h; exact ⟨_, rfl, rfl⟩
theorem rnVs_dvs (m : Em) : ∀ {ds : List (Dyn U.B)} {vs : List V}, DVs U ds vs → RnVs m vs vs
  | [], vs, h => by simp only [DVs] at h; subst h; rfl
  | d :: ds, vs, h => by obtain ⟨v, vr, rfl, h1, h2⟩ := h; exact ⟨_, _, rfl, rnV_dv m h1, rnVs_dvs m h2⟩
theorem rnV_res (m : Em) {ds : List (Dyn U.B)} {r : V} (h : ResR U ds r) : RnV m r r := by
  obtain ⟨vs, h1, rfl⟩ := h
  have h2 := rnVs_dvs m h1
  match vs, h1, h2 with
  | [], _, _ => exact ⟨[], rfl, rfl⟩
  | [v], h1, h2 => obtain ⟨_, _, e, h3, _⟩ := h2; cases e; exact h3
  | v :: u :: r, h1, h2 => exact ⟨_, rfl, h2⟩
theorem caps_rn {os : List Nat} {E1 E : Nat → Nat} : ∀ {l : List (Nat × Nat)} {cs : List SC} {ys : List Dm.C}, chkCaps os l cs = true → CRs c.ρ c.β c.ι cs ys → RnCs (emOf os E1 E) (l.map fun p => Dm.C.ptr p.1 p.2) ys
  | [], [], ys, h, hv => by simp only [CRs] at hv; subst hv; rfl
  | [], x :: cs, ys, h, hv => by cases h
  | (o, off) :: r, [], ys, h, hv => by cases h
  | (o, off) :: r, x :: cs, ys, h, hv => by
    cases x <;> simp only [chkCaps] at h <;> first | (cases h; done) | skip
    split at h
    · rename_i e1 e2
      have := beq_nat e2; subst this
      simp only [CRs] at hv
      obtain ⟨y, yr, rfl, h1, h2⟩ := hv
      simp only [CR] at h1
      subst h1
      have hp' := atOs_nth e1
      exact ⟨_, _, rfl, ⟨nth_lt hp', by show _ = Dm.C.ptr (os.getD o 0) off; rw [getD_nth hp']⟩, caps_rn h h2⟩
    · cases h
theorem splitA_ok {os : List Nat} {E1 E : Nat → Nat} : ∀ {ins : List In} {args : List SV} {vs : List V} {ins' : List In} {args' : List SV}, splitA os ins args = some (ins', args') → c.vrs args vs →
    ∃ vs', c.vrs args' vs' ∧ insTys ins' = insTys ins ∧ ∀ ds, ArgsR U ins' ds vs' → ∃ vs1, ArgsR U ins ds vs1 ∧ RnVs (emOf os E1 E) vs1 vs
  | [], [], vs, ins', args', h, hv => by
    simp only [splitA, Option.some.injEq, Prod.mk.injEq] at h
    obtain ⟨rfl, rfl⟩ := h
    simp only [Cx.vrs, VRs] at hv
    subst hv
    exact ⟨[], by simp only [Cx.vrs, VRs], rfl, fun ds h => ⟨[], h, rfl⟩⟩
  | [], v :: r, vs, ins', args', h, hv => by cases h
  | .st _ _ :: _, args, vs, ins', args', h, hv => by cases args <;> cases h
  | .ptr o off :: r, args, vs, ins', args', h, hv => by
    cases args with
    | nil => cases h
    | cons a args =>
      cases a with
      | a l => cases h
      | t l => cases h
      | c x =>
        cases x with
        | ptr p i =>
          simp only [splitA] at h
          split at h
          · rename_i e1 e2
            simp only [Cx.vrs, VRs] at hv
            obtain ⟨v, vr, rfl, h1, h2⟩ := hv
            obtain ⟨vs', q1, q2, q3⟩ := splitA_ok h h2
            obtain ⟨y, rfl, h0⟩ := V_c (by simp) h1
            simp only [CR] at h0
            subst h0
            have := beq_nat e2; subst this
            refine ⟨vs', q1, q2, fun ds hd => ?_⟩
            obtain ⟨vs1, r1, r2⟩ := q3 ds hd
            have hp' := atOs_nth e1
            exact ⟨.c (.ptr o off) :: vs1, ⟨vs1, rfl, r1⟩, _, _, rfl, ⟨_, rfl, nth_lt hp', by show _ = Dm.C.ptr (os.getD o 0) off; rw [getD_nth hp']⟩, r2⟩
          · cases h
        | _ => cases h
  | .cloP f l :: r, args, vs, ins', args', h, hv => by
    cases args with
    | nil => cases h
    | cons a args =>
      cases a with
      | a l => cases h
      | t l => cases h
      | c x =>
        cases x with
        | clo g cs =>
          simp only [splitA] at h
          split at h
          · rename_i e1 e2
            have := beq_nat e1; subst this
            simp only [Cx.vrs, VRs] at hv
            obtain ⟨v, vr, rfl, h1, h2⟩ := hv
            obtain ⟨vs', q1, q2, q3⟩ := splitA_ok (E1 := E1) (E := E) h h2
            obtain ⟨y, rfl, h0⟩ := V_c (by simp) h1
            simp only [CR] at h0
            obtain ⟨l0, rfl, h0⟩ := h0
            refine ⟨vs', q1, q2, fun ds hd => ?_⟩
            obtain ⟨vs1, r1, r2⟩ := q3 ds hd
            exact ⟨_ :: vs1, ⟨vs1, rfl, r1⟩, _, _, rfl, ⟨_, rfl, _, rfl, caps_rn e2 h0⟩, r2⟩
          · cases h
        | _ => cases h
  | .ty t :: r, args, vs, ins', args', h, hv => by
    cases args with
    | nil => cases h
    | cons a args =>
      simp only [splitA] at h
      split at h
      · rename_i l m hlm
        cases h
        simp only [Cx.vrs, VRs] at hv
        obtain ⟨v, vr, rfl, h1, h2⟩ := hv
        obtain ⟨vs', q1, q2, q3⟩ := splitA_ok hlm h2
        refine ⟨v :: vs', by simp only [Cx.vrs, VRs]; exact ⟨_, _, rfl, h1, q1⟩, by simp only [insTys, q2], fun ds hd => ?_⟩
        obtain ⟨d, ds', v', vs2, rfl, e2, ht, hdv, hr⟩ := hd
        cases e2
        obtain ⟨vs1, r1, r2⟩ := q3 ds' hr
        exact ⟨v :: vs1, ⟨d, ds', v, vs1, rfl, rfl, ht, hdv, r1⟩, _, _, rfl, rnV_dv _ hdv, r2⟩
      · cases h
  | .fnc f :: r, args, vs, ins', args', h, hv => by
    cases args with
    | nil => cases h
    | cons a args =>
      simp only [splitA] at h
      split at h
      · rename_i l m hlm
        cases h
        simp only [Cx.vrs, VRs] at hv
        obtain ⟨v, vr, rfl, h1, h2⟩ := hv
        obtain ⟨vs', q1, q2, q3⟩ := splitA_ok hlm h2
        refine ⟨v :: vs', by simp only [Cx.vrs, VRs]; exact ⟨_, _, rfl, h1, q1⟩, by simp only [insTys, q2], fun ds hd => ?_⟩
        obtain ⟨vs2, e2, hr⟩ := hd
        cases e2
        obtain ⟨vs1, r1, r2⟩ := q3 ds hr
        exact ⟨_ :: vs1, ⟨vs1, rfl, r1⟩, _, _, rfl, ⟨_, rfl, rfl⟩, r2⟩
      · cases h
  | .clo f ts :: r, args, vs, ins', args', h, hv => by
    cases args with
    | nil => cases h
    | cons a args =>
      simp only [splitA] at h
      split at h
      · rename_i l m hlm
        cases h
        simp only [Cx.vrs, VRs] at hv
        obtain ⟨v, vr, rfl, h1, h2⟩ := hv
        obtain ⟨vs', q1, q2, q3⟩ := splitA_ok hlm h2
        refine ⟨v :: vs', by simp only [Cx.vrs, VRs]; exact ⟨_, _, rfl, h1, q1⟩, by simp only [insTys, q2], fun ds hd => ?_⟩
        obtain ⟨d1, ds', fs, vs2, rfl, e2, ht, hdv, hr⟩ := hd
        cases e2
        obtain ⟨vs1, r1, r2⟩ := q3 ds' hr
        exact ⟨_ :: vs1, ⟨d1, ds', fs, vs1, rfl, rfl, ht, hdv, r1⟩, _, _, rfl, ⟨_, rfl, _, rfl, rnCs_f _ fs⟩, r2⟩
      · cases h
theorem AtLoc.later {os : List Nat} (ok' : Ok c' e) (hl : Le c c') (hS : c'.S = c.S) (hσ : c'.σ = c.σ) {q : Loc} {f : F} (h : AtLoc c os q f) : AtLoc c' os q f := by
  cases q with
  | cell o i => obtain ⟨p, l, h1, h2, h3⟩ := h; exact ⟨p, l, h1, by rw [hσ]; exact h2, h3⟩
  | row o =>
    obtain ⟨p, w, k, ty, sz, t, x, ys, fs, h1, h2, h3, h4, h5⟩ := h
    obtain ⟨e1, kc', len', e2, e3⟩ := hl.2 p k ys.length h4
    have h2' : nth c'.S p = some (.arr w k ty sz t x) := by rw [hS]; exact h2
    obtain ⟨zs, gs, q1, q2, q3, q4, q5, q6⟩ := arr_at ok' h2'
    have e2' : c'.ι p = some (kc', len') := e2
    rw [q6] at e2'; cases e2'
    have hlen : zs.length = ys.length := by omega
    exact ⟨p, w, k, ty, sz, t, x, zs, fs, h1, h2', by rw [hσ, e1]; exact h3, q6, by rw [hlen]; exact h5⟩
theorem callSt0_ok (ok : Ok c e) {s : FSpec U} {b : Nat} {obs : List IO} (hst : stOf s.sig.ins = some (b, obs)) (hs : FTurn P s obs) {i : Nat} (hi : Sp[i]? = some s) {args : List SV} {vs : List V} (hv : c.vrs args vs) {k : K1} {K : V → St → Prop} (hk : FollS Sp Post Go c k K)
    (h : TDen Sp Post Go (callSt0 U.lay s.sig b obs i args e c.S k) c.ρ) : CallAt P s.sig.f vs c.σ K := by
  obtain ⟨⟨sf, sins, souts⟩, spre, sfn, sty⟩ := s
  cases sins with
  | nil => cases hst
  | cons i0 rest =>
  cases i0 with
  | ty _ => cases hst
  | fnc _ => cases hst
  | clo _ _ => cases hst
  | ptr _ _ => cases hst
  | cloP _ _ => cases hst
  | st b' obs' =>
  simp only [stOf, Option.some.injEq, Prod.mk.injEq] at hst
  obtain ⟨rfl, rfl⟩ := hst
  unfold callSt0 at h
  split at h
  · exact h.elim
  rename_i os hos
  simp only at h
  split at h
  · exact h.elim
  rename_i t0 outs
  split at h
  · rename_i c1 c2 c3 c4
    have hlen := beq_nat c1
    have hnd := nodup_ok c2
    have := Ty.eqb_ok c4; subst this
    have hall : ∀ (o : Nat) io, obs'[o]? = some io → chkO (U.lay b') obs' os c.S o io = true := fun o io ho => by
      have := chkOs_ok c3 o io ho
      rwa [Nat.zero_add] at this
    split at h
    · rename_i fl ins' args' hfl hsp
      split at h
      · rename_i hdt
        obtain ⟨gs, g1, g2, g3⟩ := fldsAt_ok ok _ 0 hfl
        obtain ⟨cA, eA, y, d, gs', p1, p2, p3, p4, p5, p6, p7, p8, p9⟩ := data_ok ok g1 h
        have := crs_map (ρ := c.ρ) (β := c.β) (ι := c.ι) (xs := fl) p5
        subst this
        obtain ⟨vs', v1, v2, v3⟩ := splitA_ok (E1 := epOf c os) (E := epOf c os) hsp hv
        rw [← p2] at p9
        obtain ⟨cB, eB, l, ds, vs'', q1, q2, q3, q4, q5, q6, q7, q8, q9, q10, q11⟩ := args_ok ins' p4 (p1.vrs v1) p9
        have := q6 hdt
        subst this
        have hle := p1.trans q1
        have hS : cB.S = c.S := q2.trans p2
        have hσ : cB.σ = c.σ := q3.trans p3
        simp only [TDen, hi] at q11
        obtain ⟨k1, k2⟩ := q11
        simp only [List.map_cons] at k1 k2
        rw [Tm.den_of (q1.den p6), den_map q8] at k1 k2
        have hx : HL.dyn (insTys (.st b' obs' :: rest)) (HL.of (insTys (.st b' obs' :: rest)) (d :: ds)) = d :: ds := dyn_of (by simp only [List.map_cons, insTys, In.tys, List.cons_append, List.nil_append, p7, q9, v2]; rfl)
        have hfo : FldOk cB os obs' (U.lay b') d := fun j q hq hj => by
          have hgl : gs[j]? = some (gs[j]'(by omega)) := List.getElem?_eq_getElem _
          obtain ⟨q', r1, r2⟩ := g3 j _ hgl
          rw [Nat.zero_add, hq] at r1; cases r1
          have hcl : (cells U d).length = (U.lay b').length := by rw [cells_len, p7]; rfl
          have hdj : (cells U d)[j]? = some ((cells U d)[j]'(by omega)) := List.getElem?_eq_getElem _
          obtain ⟨f, f1, f2⟩ := p8.get hdj
          rw [hgl] at f1; cases f1
          refine ⟨_, _, hdj, r2.later q4 hle hS hσ, f2, ?_⟩
          obtain ⟨dt, dx⟩ := d
          simp only at p7
          subst p7
          have := U.acc_t b' dx j _ (List.getElem?_eq_getElem hj)
          rw [List.getElem?_eq_getElem hj]
          congr 1
          rw [← this]
          congr 1
          simp [cells]
        have hallB : ∀ (o : Nat) io, obs'[o]? = some io → chkO (U.lay b') obs' os cB.S o io = true := by rw [hS]; exact hall
        obtain ⟨σ1, s1, s2, s3⟩ := canon_st q4 hfo hlen hnd hallB
        obtain ⟨vs1, w1, w2⟩ := v3 ds q10
        have hep : epOf cB os = epOf c os := by
          funext o
          unfold epOf
          rw [hS]
          split
          · rename_i p hp
            split
            · rename_i w kk ty sz t x hn
              obtain ⟨ys, fs, z1, z2, z3, z4, z5, z6⟩ := arr_at ok hn
              rw [(hle.2 p _ _ z6).1]
            · rfl
          · rfl
        rw [← hep] at w2
        have hcall := hs (HL.of _ (d :: ds)) vs1 (epOf cB os) σ1 d ds (by rw [hx]; exact ⟨d, ds, rfl, p7, w1⟩) hx s3 s2 k1
        rw [← hσ]
        refine call_part s1 (fun j w E sz fs _ => rfl) w2 hcall fun r σ1' ⟨E', d', rs, e1, e2, e3⟩ => ?_
        have hty : (sfn (HL.of (insTys (.st b' obs' :: rest)) (d :: ds))).map Dyn.t = .base b' :: outs := sty (HL.of _ (d :: ds))
        have e1 : sfn (HL.of (insTys (.st b' obs' :: rest)) (d :: ds)) = d' :: rs := e1
        rw [e1] at hty
        simp only [List.map_cons, List.cons.injEq] at hty
        obtain ⟨hty1, hty2⟩ := hty
        have k2 : TDen Sp Post Go (k (eB.pushes (.base b' :: outs)) (oneOf (resVs U.lay (eB.pushes (.base b' :: outs)) (eB.n + 1) outs)) (newS U.lay (eB.pushes (.base b' :: outs)) eB.n os cA.S obs' 0 cA.S)) (cB.ρ ++ sfn (HL.of (insTys (.st b' obs' :: rest)) (d :: ds))) := k2
        rw [e1] at k2
        obtain ⟨t1, t2⟩ := later_pushes q4 (d' :: rs)
        simp only [List.map_cons, hty1, hty2] at t2
        let cC : Cx U := { cB with ρ := cB.ρ ++ d' :: rs }
        have hi0 : cC.ρ[eB.n]? = some d' := by
          show (cB.ρ ++ d' :: rs)[eB.n]? = _
          rw [q4.n, List.getElem?_append_right (Nat.le_refl _)]; simp
        have BB : Back U cC (eB.pushes (.base b' :: outs)) os obs' (U.lay b') d' b' eB.n E' σ1' := ⟨t2, hnd, hlen, hallB, hty1, hi0, e3⟩
        obtain ⟨σ', F1, F2, F3⟩ := BB.store (σ2 := σ1)
        refine ⟨mOf cC os E', σ', r, F1, rnV_res _ e2, ?_⟩
        obtain ⟨us, u1, rfl⟩ := e2
        have hres : Cx.vrs cC (resVs U.lay (eB.pushes (.base b' :: outs)) (eB.n + 1) outs) us := by
          subst hty2
          refine resVs_ok t2 (fun j dd hj => ?_) u1
          show (cB.ρ ++ d' :: rs)[eB.n + 1 + j]? = _
          rw [q4.n, List.getElem?_append_right (by omega), show cB.ρ.length + 1 + j - cB.ρ.length = j + 1 from by omega]
          simpa using hj
        have hS' : nS cC (eB.pushes (.base b' :: outs)) os obs' eB.n = newS U.lay (eB.pushes (.base b' :: outs)) eB.n os c.S obs' 0 c.S := by
          show newS U.lay _ eB.n os cB.S obs' 0 cB.S = _
          rw [hS]
        have hpS : cA.S = c.S := p2
        refine hk ⟨cC.ρ, cC.β, nS cC (eB.pushes (.base b' :: outs)) os obs' eB.n, σ'⟩ _ _ _ ((hle.trans t1).trans F3) F2 (F3.vr (oneOf_ok hres)) ?_
        show TDen Sp Post Go (k _ _ (nS cC (eB.pushes (.base b' :: outs)) os obs' eB.n)) (cB.ρ ++ d' :: rs)
        rw [hS', ← hpS]
        exact k2
      · exact h.elim
    · exact h.elim
  · exact h.elim
theorem ownO_ok : ∀ (own : List (Nat × Nat × Nat × Nat × Ty)) {c : Cx U} (ok : Ok c e) {S2 : SSt} (h : ownO own U.lay c.S = some S2), ∃ c2, Gh c.σ c2.σ ∧ Ok c2 e ∧ c2.S = S2 ∧ c2.ρ = c.ρ ∧ Le c c2
  | [], c, ok, S2, h => by
    simp only [ownO, Option.some.injEq] at h
    subst h
    exact ⟨c, Gh.refl _, ok, rfl, rfl, Le.refl c⟩
  | (o, j, ty, sz, t) :: r, c, ok, S2, h => by
    simp only [ownO] at h
    split at h
    · rename_i l ho
      split at h
      · rename_i hj
        split at h
        · rename_i e1 e2
          have e1 := beq_nat e1
          rw [wid_eq] at e1
          have e2 := ble_nat e2
          obtain ⟨ob, h1, l', rfl, h2⟩ := ok.get ho
          rw [nth_eq] at ho hj
          have hlt := (List.getElem?_eq_some_iff.1 ho).1
          obtain ⟨y, hy, h0⟩ := h2.get hj
          simp only [CR] at h0
          subst h0
          obtain ⟨g1, g2, g3⟩ := add_arr ok (l := .nil t) (xs := ([] : List (T U.B t))) (fs := []) rfl rfl e1 e2
          have ho' : nth (c.add ty (.arr true 0 ty sz t (.nil t)) (.arr true ty sz [])).S o = some (.cells l) := by
            rw [nth_eq]
            show (c.S ++ [_])[o]? = _
            rw [List.getElem?_append_left hlt]; exact ho
          obtain ⟨y0, hy0, h3⟩ := V_c (by simp) g3
          cases hy0
          have h4 : CRs _ _ _ (l.set j (.rs c.S.length 0)) (l'.set j (.rs c.σ.length ty 0)) := (CRs.later g1 h2).set j h3
          obtain ⟨k1, k2⟩ := set_cells (so' := .cells (l.set j (.rs c.S.length 0))) (ob' := .cells (l'.set j (.rs c.σ.length ty 0))) g2 ho' (by simp) fun ρ β ι hl => ⟨_, rfl, CRs.later hl h4⟩
          have gh : Gh c.σ _ := fun g w hr => let ⟨g', q1, q2, _⟩ := ghost_nilo (fr := []) (σ := c.σ) (o := o) (j := j) (ep := ty) (sz := sz) h1 hy g w #[] hr ⟨rfl, fun i => by simp [VRep, CRep]⟩; ⟨g', q1, q2⟩
          rw [put_eq, put_eq] at h
          obtain ⟨c2, q1, q2, q3, q4, q5⟩ := ownO_ok r k2 h
          exact ⟨c2, gh.trans q1, q2, q3, q4, (g1.trans k1).trans q5⟩
        · cases h
      · exact ownO_ok r ok h
    · exact ownO_ok r ok h
theorem callSt_ok (ok : Ok c e) {s : FSpec U} {b : Nat} {obs : List IO} (hst : stOf s.sig.ins = some (b, obs)) (hs : FTurn P s obs) {i : Nat} (hi : Sp[i]? = some s) {args : List SV} {vs : List V} (hv : c.vrs args vs) {k : K1} {K : V → St → Prop} (hk : FollS Sp Post Go c k K)
    (h : TDen Sp Post Go (callSt U.lay s.sig b obs i args e c.S k) c.ρ) : CallAt P s.sig.f vs c.σ K := by
  unfold callSt at h
  split at h
  · rename_i S' hS'
    obtain ⟨c2, q1, q2, q3, q4, q5⟩ := ownO_ok _ ok hS'
    rw [← q3, ← q4] at h
    have := callSt0_ok q2 hst hs hi (q5.vrs hv) (k := k) (K := K) (fun c' e' sv v g1 g2 g3 g4 => hk c' e' sv v (q5.trans g1) g2 g3 g4) h
    exact call_ghost (fun g w us hr hu => let ⟨g1, r1, t1⟩ := q1 g w hr; ⟨g1, r1, t1, VReps.turn t1 _ _ hu⟩) this
  · exact h.elim
end Go.Dm.Sx
namespace Go.Dm.Sx
open Go.Dm
set_option linter.unusedVariables false
set_option linter.unusedSimpArgs false
set_option linter.unusedSectionVars false
def guardS (e : SE) (A : SA) (g : Option (Option Tmp × Bool)) (x y : SE → Tr) : Tr :=
  match g with
  | .none => x e
  | .some (d, want) =>
    match d with
    | .none => y e
    | .some d =>
      match lkS A d with
      | .c (.d .bool b) => (match want with | true => brK e b x y | false => brK e b y x)
      | .t _ => y e
      | _ => .fail
abbrev KS := SE → SA → SSt → Tr
def sxs (X : SEnv) (call : CallS) (m : Nat) : List SItem → SE → SA → SSt → KS → Tr
  | [], e, A, S, k => k e A S
  | i :: r, e, A, S, k => guardS e A i.g (fun e => sop X call i.o e A S fun e v S => sxs X call m r e (putS m A i.dst v) S k) (fun e => sxs X call m r e (putS m A i.dst (.t [])) S k)
def strictC : SC → Bool
  | .d _ _ | .nil | .nilp | .nilm | .nilf | .fn _ | .el _ _ | .ptr _ _ => true
  | _ => false
def ptrS : SV → Bool
  | .c (.ptr _ _) => true
  | _ => false
def strictV : SV → Bool
  | .c x => strictC x
  | .a l => l.all strictC
  | .t _ => false
def cleanC (x : SC) : SC := match strictC x with | true => x | false => .un
def cleanV : SV → SV
  | .c x => .c (cleanC x)
  | .a l => (match l.all strictC with | true => .a l | false => .c .un)
  | .t _ => .c .un
def cleanA (A : SA) : SA := A.map fun p => (p.1, cleanV p.2)
def tlessS (tb : Tab) (o : Op) (A : SA) : Bool :=
  match o with
  | .move _ => true
  | .assign _ => true
  | .call { callee := .value _, .. } => false
  | .load _ x => strictV (opS A x) && !ptrS (opS A x)
  | o => !extraB tb o && stillOp tb o && o.operands.toList.all fun x => strictV (opS A x)
def okS (s : SOp) (A : SA) : Bool := match s with | .slc _ _ x _ _ => strictV (opS A x) | _ => true
def nearS (x : SV) : Bool := match x with | .c x => strictC x | _ => true
def okCS (s : SOp) (A : SA) : Bool :=
  match s with
  | .load _ _ x | .fa _ x | .nilc x | .ixa _ _ x _ | .ixr _ x _ | .len _ x | .slc _ _ x _ _ => nearS (opS A x)
  | _ => true
def inMatch : List In → List SV → Bool
  | .fnc f :: r, .c (.fn g) :: vs => (match Nat.beq f g with | true => inMatch r vs | false => false)
  | .fnc _ :: _, _ => false
  | .clo f _ :: r, .c (.clo g _) :: vs => (match Nat.beq f g with | true => inMatch r vs | false => false)
  | .clo _ _ :: _, _ => false
  | .st _ _ :: r, vs => inMatch r vs
  | .ptr _ off :: r, .c (.ptr _ i) :: vs => (match Nat.beq off i with | true => inMatch r vs | false => false)
  | .ptr _ _ :: _, _ => false
  | .cloP f _ :: r, .c (.clo g _) :: vs => (match Nat.beq f g with | true => inMatch r vs | false => false)
  | .cloP _ _ :: _, _ => false
  | .ty _ :: r, _ :: vs => inMatch r vs
  | .ty _ :: _, [] => false
  | [], _ => true
def findSig (f : Nat) (args : List SV) : List Sig → Nat → Option (Nat × Sig)
  | [], _ => .none
  | s :: r, i => (match Nat.beq s.f f with | true => (match inMatch s.ins args with | true => .some (i, s) | false => findSig f args r (i + 1)) | false => findSig f args r (i + 1))
def sopP (X : SEnv) (all : Bool) (f : Nat) (args : List SV) (e : SE) (S : SSt) (k : SE → SV → Tr) : Tr :=
  match findSig f args X.sigs 0 with
  | .none => .fail
  | .some (i, sg) =>
    match stOf sg.ins with
    | .some _ => .fail
    | .none =>
    let fin : SE → List Tm → Tr := fun e l => .call i l (k (e.pushes sg.outs) (oneOf (resVs X.lay (e.pushes sg.outs) e.n sg.outs)))
    match args.all dataV with
    | true => argsK X.lay [] sg.ins args e fin
    | false => (match all, sg.outs.all bareT with | false, true => argsK X.lay S sg.ins args e fin | _, _ => .fail)
variable [Pures]
def sopR (X : SEnv) (call : CallS) (m : Nat) (all : Bool) (s : SOp) (e : SE) (A : SA) (S : SSt) (k : K1) : Tr :=
  match pcall s with
  | true => (match s with | .call (.func f) args => sopP X all f (args.map (opS A)) e S fun e v => k e v S | _ => .fail)
  | false => (match (match all with | true => okCS s A | false => okS s A) with | true => sop X call s e A S k | false => .fail)
def sxt (X : SEnv) (call : CallS) (m : Nat) : YT → KS → SE → SA → SSt → Tr
  | .done, k, e, A, S => k e A S
  | .go i .none p, k, e, A, S => guardS e A i.g (fun e => sopR X call m false i.o e A S fun e v S => sxt X call m p k e (putS m A i.dst v) S) (fun e => sxt X call m p k e (putS m A i.dst (.t [])) S)
  | .goc i p, k, e, A, S => guardS e A i.g (fun e => sopR X call m true i.o e A S fun e v S => sxt X call m p k e (putS m A i.dst v) S) (fun e => sxt X call m p k e (putS m A i.dst (.t [])) S)
  | .go i (.some o) p, k, e, A, S =>
    (match tlessS X.tb o A with
    | true => guardS e A i.g (fun e =>
        (match i.o with
        | .mv x => sxt X call m p k e (putS m A i.dst (opS A x)) S
        | s => sop X call s e (cleanA A) [] fun e v S' => (match S', strictV v with | [], true => sxt X call m p k e (putS m A i.dst v) S | _, _ => .fail)))
        (fun e => sxt X call m p k e (putS m A i.dst (.t [])) S)
    | false => .fail)
  | .alt i p q, k, e, A, S => .both (guardS e A i.g (fun e => sopR X call m false i.o e A S fun e v S => sxt X call m p k e (putS m A i.dst v) S) (fun e => sxt X call m p k e (putS m A i.dst (.t [])) S)) (sxt X call m q k e A S)
  | .stop, _, _, _, _ => .triv
  | .sub s p, k, e, A, S => sxt X call m s (fun e A S => sxt X call m p k e A S) e A S
inductive XEnd where
  | norm | exit (i : Nat) | ret
abbrev KC := XEnd → SE → SA → SSt → Tr
def nl : YCode → Nat
  | .seq a b => nl a + nl b
  | .cond _ a b => nl a + nl b
  | .block _ c => nl c
  | .loop c => nl c + 1
  | _ => 0
def thenK (k : KC) (f : KS) (x : XEnd) (e : SE) (A : SA) (S : SSt) : Tr := match x with | .norm => f e A S | .exit i => k (.exit i) e A S | .ret => k .ret e A S
def blockK (id : Nat) (k : KC) (x : XEnd) (e : SE) (A : SA) (S : SSt) : Tr := match x with | .exit j => (match Nat.beq j id with | true => k .norm e A S | false => k (.exit j) e A S) | .norm => k .norm e A S | .ret => k .ret e A S
def memI (x : Nat) : List Nat → Bool
  | [] => false
  | y :: r => (match Nat.beq x y with | true => true | false => memI x r)
def itemsU : YT → List SItem
  | .done => []
  | .go i _ p => i :: itemsU p
  | .goc i p => i :: itemsU p
  | .alt i p q => i :: (itemsU p ++ itemsU q)
  | .stop => []
  | .sub s p => itemsU s ++ itemsU p
def cutD (all : Bool) : List SItem → List Nat
  | [] => []
  | i :: r => (match i.o with | .slc _ _ (.tmp t) lo _ => (match all || lo.isSome with | true => t :: cutD all r | false => cutD all r) | _ => cutD all r)
def cutM (D : List Nat) : List SItem → List Nat
  | [] => []
  | i :: r => (match i.o, i.dst with | .mv (.tmp s), .some d => (match memI d D with | true => s :: cutM D r | false => cutM D r) | _, _ => cutM D r)
def cutL (all : Bool) (l : List SItem) : List Nat := match cutD all l with | [] => [] | D => cutM D l ++ D
def frzT (m : Nat) : List Nat → SA → SSt → SA × SSt
  | [], A, S => (A, S)
  | i :: r, A, S =>
    match lkS A i with
    | .c (.rs o kk) =>
      (match frzV (.c (.rs o kk)) S, Nat.blt i m with
      | .some (x, S'), true => frzT m r ((i, x) :: A) S'
      | _, _ => frzT m r A S)
    | _ => frzT m r A S
def sxc (X : SEnv) (call : CallS) (m : Nat) (lp : Nat → KS) : YCode → Nat → KC → KS
  | .skip, _, k, e, A, S => k .norm e A S
  | .ops l, _, k, e, A, S => (match frzT m (cutL false l) A S with | (A, S) => sxs X call m l e A S (k .norm))
  | .tree t, _, k, e, A, S => (match frzT m (cutL true (itemsU t)) A S with | (A, S) => sxt X call m t (k .norm) e A S)
  | .any _ _, _, _, _, _, _ => .fail
  | .seq a b, p, k, e, A, S => sxc X call m lp a p (thenK k fun e A S => sxc X call m lp b (p + nl a) k e A S) e A S
  | .cond c a b, p, k, e, A, S =>
    (match opS A c with
    | .c (.d .bool x) => brK e x (fun e => sxc X call m lp a p k e A S) (fun e => sxc X call m lp b (p + nl a) k e A S)
    | _ => .fail)
  | .block id c, p, k, e, A, S => sxc X call m lp c p (blockK id k) e A S
  | .loop _, p, _, e, A, S => lp p e A S
  | .exit id, _, k, e, A, S => k (.exit id) e A S
  | .ret, _, k, e, A, S => k .ret e A S
  | .bad, _, _, _, _, _ => .fail
def sxl (X : SEnv) (call : CallS) (m : Nat) (lp : Nat → KS) (q : Nat) : YCode → Nat → KC → KS
  | .seq a b, p, k, e, A, S =>
    (match Nat.blt q (p + nl a) with
    | true => sxl X call m lp q a p (thenK k fun e A S => sxc X call m lp b (p + nl a) k e A S) e A S
    | false => sxl X call m lp q b (p + nl a) k e A S)
  | .cond _ a b, p, k, e, A, S => (match Nat.blt q (p + nl a) with | true => sxl X call m lp q a p k e A S | false => sxl X call m lp q b (p + nl a) k e A S)
  | .block id c, p, k, e, A, S => sxl X call m lp q c p (blockK id k) e A S
  | .loop c, p, k, e, A, S =>
    (match Nat.beq q p with
    | true => sxc X call m lp c (p + 1) (thenK k (lp p)) e A S
    | false => sxl X call m lp q c (p + 1) (thenK k (lp p)) e A S)
  | _, _, _, _, _, _ => .fail
def argsA : Nat → List SV → SA
  | _, [] => []
  | i, x :: r => (i, x) :: argsA (i + 1) r
def resS (lay : Nat → List Ty) (tb : Tab) : List ResultVar → SE → SA → SSt → (SE → List SV → Tr) → Tr
  | [], e, A, S, k => k e []
  | .tmp t :: r, e, A, S, k => resS lay tb r e A S fun e l => k e (lkS A t :: l)
  | .cell x t :: r, e, A, S, k =>
    (match (tb t).d.isNo with
    | true => .fail
    | false => addrS e (lkS A x) fun e y => loadS lay e (tb t).agg (tb t).size y S fun e v => resS lay tb r e A S fun e l => k e (v :: l))
def kRet (lay : Nat → List Ty) (tb : Tab) (rs : List ResultVar) (k : K1) (x : XEnd) (e : SE) (A : SA) (S : SSt) : Tr :=
  match x with
  | .norm => resS lay tb rs e A S fun e l => k e (oneOf l) S
  | .ret => resS lay tb rs e A S fun e l => k e (oneOf l) S
  | .exit _ => .fail
def callN (X : SEnv) (n f : Nat) (args : List SV) (e : SE) (S : SSt) (k : K1) : Tr :=
  match n with
  | 0 => .fail
  | n + 1 =>
    match X.same f with
    | true => (match args with | [x] => k e x S | _ => .fail)
    | false =>
      match findSig f args X.sigs 0 with
      | .some (i, sg) => (match stOf sg.ins with | .some (b, obs) => callSt X.lay sg b obs i args e S k | .none => callSpec X.lay sg i args e S k)
      | .none =>
        match X.bodies f with
        | .none => .fail
        | .some F => (match Nat.ble args.length F.m with
          | true => sxc X (callN X n) F.m (fun _ _ _ _ => .fail) F.code 0 (kRet X.lay X.tb F.rs k) e (argsA 0 args) S
          | false => .fail)
structure Tmpl where
  tys : List Ty
  A : SA
  S : SSt
  own : List (Nat × Nat × Nat × Ty)
  owo : List (Nat × Nat × Nat × Nat × Ty) := []
  q : Nat := 0
  deriving Inhabited
abbrev Th := List (Option Tm)
def bindT (lay : Nat → List Ty) (e : SE) (tys : List Ty) (θ : Th) (i : Nat) (x : Tm) : Option Th :=
  match nth θ i with
  | .some .none => (match nth tys i, tmTy lay e x with | .some t, .some t' => (match Ty.eqb t t' with | true => .some (put θ i (.some x)) | false => .none) | _, _ => .none)
  | .some (.some y) => (match Tm.eqb y x with | true => .some θ | false => .none)
  | .none => .none
def mTm (lay : Nat → List Ty) (e : SE) (tys : List Ty) (p x : Tm) (θ : Th) : Option Th :=
  match p with
  | .at i => bindT lay e tys θ i x
  | .fld _ _ => .none
  | p => (match Tm.eqb p x with | true => .some θ | false => .none)
def isArr (S : SSt) (o : Nat) : Bool := match nth S o with | .some (.arr ..) => true | _ => false
mutual
def mC (lay : Nat → List Ty) (e : SE) (tm : Tmpl) (S : SSt) : SC → SC → Th → Option Th
  | .d t p, x, θ =>
    (match x with
    | .d t' y => (match Ty.eqb t t' with | true => mTm lay e tm.tys p y θ | false => .none)
    | .nil => (match t with | .list u => mTm lay e tm.tys p (.nil u) θ | _ => .none)
    | .nilp => (match t with | .opt u => mTm lay e tm.tys p (.none u) θ | _ => .none)
    | _ => .none)
  | .nil, x, θ => (match x with | .nil => .some θ | _ => .none)
  | .nilp, x, θ => (match x with | .nilp => .some θ | _ => .none)
  | .nilm, x, θ => (match x with | .nilm => .some θ | _ => .none)
  | .nilf, x, θ => (match x with | .nilf => .some θ | _ => .none)
  | .fn f, x, θ => (match x with | .fn g => (match Nat.beq f g with | true => .some θ | false => .none) | _ => .none)
  | .clo f caps, x, θ => (match x with | .clo g l => (match Nat.beq f g with | true => mCs lay e tm S caps l θ | false => .none) | _ => .none)
  | .ptr o i, x, θ => (match x with | .ptr o' i' => (match Nat.beq o o', Nat.beq i i' with | true, true => .some θ | _, _ => .none) | _ => .none)
  | .el p j, x, θ => (match x with | .el y j' => (match Nat.beq j j' with | true => mTm lay e tm.tys p y θ | false => .none) | _ => .none)
  | .rs o k, x, θ => (match x with | .rs o' k' => (match Nat.beq o o', Nat.beq k 0, freshS S o' k', isArr tm.S o with | true, true, true, true => .some θ | _, _, _, _ => .none) | _ => .none)
  | .mp _, _, _ => .none
  | .pa .., _, _ => .none
  | .un, _, _ => .none
def mCs (lay : Nat → List Ty) (e : SE) (tm : Tmpl) (S : SSt) : List SC → List SC → Th → Option Th
  | [], l, θ => (match l with | [] => .some θ | _ => .none)
  | p :: ps, l, θ => (match l with | [] => .none | x :: xs => (match mC lay e tm S p x θ with | .some θ' => mCs lay e tm S ps xs θ' | .none => .none))
end
def mV (lay : Nat → List Ty) (e : SE) (tm : Tmpl) (S : SSt) (p x : SV) (θ : Th) : Option Th :=
  match p, x with
  | .c p, .c x => mC lay e tm S p x θ
  | .a p, .a x => mCs lay e tm S p x θ
  | _, _ => .none
def mOb (lay : Nat → List Ty) (e : SE) (tm : Tmpl) (S : SSt) (p x : SOb) (θ : Th) : Option Th :=
  match p, x with
  | .cells p, .cells x => mCs lay e tm S p x θ
  | .arr w k ty sz t p, .arr w' k' ty' sz' t' x =>
    (match (match w, w' with | true, true => true | false, false => true | _, _ => false), Nat.beq k 0, Nat.beq ty ty', Nat.beq sz sz', Ty.eqb t t' with
    | true, true, true, true, true => mTm lay e tm.tys p x θ
    | _, _, _, _, _ => .none)
  | .bld T u p, .bld T' u' x => (match Nat.beq T T', (match u, u' with | true, true => true | false, false => true | _, _ => false) with | true, true => mC lay e tm S p x θ | _, _ => .none)
  | _, _ => .none
def mA (lay : Nat → List Ty) (e : SE) (tm : Tmpl) (A : SA) (S : SSt) : SA → Th → Option Th
  | [], θ => .some θ
  | (i, p) :: r, θ => (match mV lay e tm S p (lkS A i) θ with | .some θ' => mA lay e tm A S r θ' | .none => .none)
def mS (lay : Nat → List Ty) (e : SE) (tm : Tmpl) (S : SSt) : SSt → SSt → Th → Option Th
  | [], _, θ => .some θ
  | _ :: _, [], _ => .none
  | p :: ps, x :: xs, θ => (match mOb lay e tm S p x θ with | .some θ' => mS lay e tm S ps xs θ' | .none => .none)
def allSome : Th → Option (List Tm)
  | [] => .some []
  | .none :: _ => .none
  | .some x :: r => (match allSome r with | .some l => .some (x :: l) | .none => .none)
mutual
def inC (n : Nat) : SC → Bool
  | .ptr o _ => Nat.blt o n
  | .rs o _ => Nat.blt o n
  | .clo _ caps => inCs n caps
  | .pa .. => false
  | .mp _ => false
  | .un => false
  | _ => true
def inCs (n : Nat) : List SC → Bool
  | [] => true
  | x :: r => (match inC n x with | true => inCs n r | false => false)
end
def inV (n : Nat) : SV → Bool
  | .c x => inC n x
  | .a l => inCs n l
  | .t _ => false
def inOb (n : Nat) : SOb → Bool
  | .cells l => inCs n l
  | .arr .. => true
  | .bld _ _ x => inC n x
  | .any => false
def tmplOk (tm : Tmpl) : Bool := tm.A.all (fun p => inV tm.S.length p.2) && tm.S.all (inOb tm.S.length)
def ownS : List (Nat × Nat × Nat × Ty) → Nat → (Nat → List Ty) → SA → SSt → Option (SA × SSt)
  | [], _, _, A, S => .some (A, S)
  | (d, ty, sz, t) :: r, m, lay, A, S =>
    match lkS A d with
    | .c .nil => (match Nat.beq sz (wid lay t), Nat.ble ty 4294967295, Nat.blt d m with | true, true, true => ownS r m lay ((d, .c (.rs S.length 0)) :: A) (S ++ [.arr true 0 ty sz t (.nil t)]) | _, _, _ => .none)
    | _ => ownS r m lay A S
def go1 (lay : Nat → List Ty) (m : Nat) (tm : Tmpl) (i : Nat) (e : SE) (A : SA) (S : SSt) : Tr :=
  match tmplOk tm, ownS tm.own m lay A S with
  | true, .some (A, S0) =>
    (match ownO tm.owo lay S0 with
    | .none => .fail
    | .some S =>
    match mA lay e tm A S tm.A (List.replicate tm.tys.length .none) with
    | .none => .fail
    | .some θ =>
      match mS lay e tm S tm.S S θ with
      | .none => .fail
      | .some θ => (match allSome θ with | .some l => .go i l | .none => .fail))
  | _, _ => .fail
def goF (lay : Nat → List Ty) (m n j : Nat) (e : SE) (A : SA) (S : SSt) : List Tmpl → Nat → Tr
  | [], _ => .fail
  | tm :: r, i =>
    match Nat.beq tm.q j, Nat.ble n tm.S.length with
    | true, true => (match go1 lay m tm i e A S with | .fail => goF lay m n j e A S r (i + 1) | t => t)
    | _, _ => goF lay m n j e A S r (i + 1)
def goS (lay : Nat → List Ty) (m : Nat) (tms : List Tmpl) (j : Nat) (e : SE) (A : SA) (S : SSt) : Tr := goF lay m 0 j e A S tms 0
end Go.Dm.Sx
namespace Go.Dm.Sx
open Go.Dm
set_option linter.unusedVariables false
set_option linter.unusedSimpArgs false
set_option linter.unusedSectionVars false
mutual
def canon : F → F
  | .nils => .sl 0 []
  | .sl n cs => .sl n (canons cs)
  | .obj cs => .obj (canons cs)
  | x => x
def canons : List F → List F
  | [] => []
  | x :: r => canon x :: canons r
end
def canonC : Dm.C → Dm.C
  | .f x => .f (canon x)
  | x => x
mutual
def canonV : V → V
  | .c x => .c (canonC x)
  | .a l => .a (l.map canonC)
  | .t l => .t (canonVs l)
def canonVs : List V → List V
  | [] => []
  | x :: r => canonV x :: canonVs r
end
mutual
theorem FRep.canon {g : G} {w : World} : ∀ {x : F} {v : Value}, FRep g w x v → FRep g w (canon x) v
  | .bool _, _, h | .int _ _, _, h | .flo _, _, h | .cpl _ _, _, h | .str _, _, h | .nilp, _, h | .nilm, _, h | .nilf, _, h | .fn _, _, h => h
  | .nils, v, h => by simp only [FRep] at h; subst h; exact ⟨none, 0, rfl, Nat.le_refl _, Nat.zero_le _, .inl ⟨.inl rfl, rfl, rfl⟩⟩
  | .sl n cs, v, h => by
    obtain ⟨a, cap, rfl, h1, h2, h3⟩ := h
    refine ⟨a, cap, rfl, h1, h2, ?_⟩
    rcases h3 with ⟨q1, q2, rfl⟩ | ⟨b, o, rfl, h3⟩
    · exact .inl ⟨q1, q2, rfl⟩
    · exact .inr ⟨b, o, rfl, FRow.canon h3⟩
  | .obj cs, v, h => by
    obtain ⟨b, rfl, h3⟩ := h
    exact ⟨b, rfl, FRow.canon h3⟩
theorem FRow.canon {g : G} {w : World} : ∀ {cs : List F} {b o : Nat}, FRow g w b o cs → FRow g w b o (canons cs)
  | [], _, _, _ => trivial
  | x :: r, b, o, h => by
    obtain ⟨hz, ⟨u, hu, hx⟩, hr⟩ := h
    exact ⟨hz, ⟨u, hu, FRep.canon hx⟩, FRow.canon hr⟩
end
theorem CRep.canon {g : G} {w : World} {σ : St} {x : Dm.C} {v : Value} (h : CRep g w σ x v) : CRep g w σ (canonC x) v := by
  cases x <;> first | exact h | exact FRep.canon h
theorem CReps.canon {g : G} {w : World} {σ : St} : ∀ {l : List Dm.C} {vs : List Value}, CReps g w σ l vs → CReps g w σ (l.map canonC) vs
  | [], vs, h => h
  | x :: r, vs, h => by obtain ⟨v, vr, rfl, h1, h2⟩ := h; exact ⟨v, vr, rfl, CRep.canon h1, CReps.canon h2⟩
mutual
theorem VRep.canon {g : G} {w : World} {σ : St} : ∀ {x : V} {v : Value}, VRep g w σ x v → VRep g w σ (canonV x) v
  | .c x, v, h => CRep.canon h
  | .a l, v, h => by obtain ⟨vs, rfl, h1⟩ := h; exact ⟨vs, rfl, CReps.canon h1⟩
  | .t l, v, h => by obtain ⟨vs, rfl, h1⟩ := h; exact ⟨vs, rfl, VReps.canon h1⟩
theorem VReps.canon {g : G} {w : World} {σ : St} : ∀ {l : List V} {vs : List Value}, VReps g w σ l vs → VReps g w σ (canonVs l) vs
  | [], vs, h => h
  | x :: r, vs, h => by obtain ⟨v, vr, rfl, h1, h2⟩ := h; exact ⟨v, vr, rfl, VRep.canon h1, VReps.canon h2⟩
end
section
variable {U : Uni}
mutual
theorem FD.canon : ∀ {x : F} {d : Dyn U.B}, FD U x d → FD U (canon x) d
  | .bool _, _, h | .int _ _, _, h | .flo _, _, h | .cpl _ _, _, h | .str _, _, h | .nilp, _, h | .nilm, _, h | .nilf, _, h | .fn _, _, h => h
  | .nils, d, h => by simp only [FD] at h; obtain ⟨t, rfl⟩ := h; simp only [Sx.canon, FD]; exact ⟨t, [], rfl, rfl, rfl⟩
  | .sl n cs, d, h => by simp only [FD] at h; obtain ⟨t, xs, rfl, h1, h2⟩ := h; simp only [Sx.canon, FD]; exact ⟨t, xs, rfl, h1, FDs.canon h2⟩
  | .obj cs, d, h => by
    simp only [FD] at h
    simp only [Sx.canon, FD]
    rcases h with ⟨t, x, rfl, h2⟩ | ⟨t, x, rfl, h2⟩
    · exact .inl ⟨t, x, rfl, FDs.canon h2⟩
    · exact .inr ⟨t, x, rfl, FDs.canon h2⟩
theorem FDs.canon : ∀ {l : List F} {ds : List (Dyn U.B)}, FDs U l ds → FDs U (canons l) ds
  | [], ds, h => h
  | x :: r, ds, h => by simp only [FDs] at h; obtain ⟨d, l', rfl, h1, h2⟩ := h; exact ⟨d, l', rfl, FD.canon h1, FDs.canon h2⟩
end
mutual
theorem FD.one : ∀ {x y : F} {d : Dyn U.B}, FD U x d → FD U y d → canon x = canon y
  | .bool b, y, d, h, k => by simp only [FD] at h; subst h; rw [FD.bool k]
  | .int kd n, y, d, h, k => by simp only [FD] at h; subst h; rw [FD.int k]
  | .flo b, y, d, h, k => by simp only [FD] at h; subst h; rw [FD.flo k]
  | .cpl a b, y, d, h, k => by simp only [FD] at h; subst h; rw [FD.cpl k]
  | .str s, y, d, h, k => by simp only [FD] at h; subst h; rw [FD.str k]
  | .nils, y, d, h, k => by
    simp only [FD] at h; obtain ⟨t, rfl⟩ := h
    rcases FD.list k with ⟨rfl, _⟩ | ⟨fs, rfl, h2⟩
    · rfl
    · have : fs = [] := List.eq_nil_of_length_eq_zero (by rw [h2.len]; rfl)
      subst this; rfl
  | .sl n cs, y, d, h, k => by
    simp only [FD] at h; obtain ⟨t, xs, rfl, rfl, h2⟩ := h
    rcases FD.list k with ⟨rfl, rfl⟩ | ⟨fs, rfl, h3⟩
    · have : cs = [] := List.eq_nil_of_length_eq_zero (by rw [h2.len]; rfl)
      subst this; rfl
    · simp only [Sx.canon, FDs.one h2 h3]
  | .nilp, y, d, h, k => by
    simp only [FD] at h; obtain ⟨t, rfl⟩ := h
    rcases FD.opt k with ⟨rfl, _⟩ | ⟨y', fs, rfl, h2, _⟩
    · rfl
    · cases h2
  | .obj cs, y, d, h, k => by
    simp only [FD] at h
    rcases h with ⟨t, x, rfl, h2⟩ | ⟨t, x, rfl, h2⟩
    · rcases FD.opt k with ⟨rfl, h3⟩ | ⟨y', fs, rfl, h3, h4⟩
      · cases h3
      · cases h3
        simp only [Sx.canon, FDs.one h2 h4]
    · obtain ⟨fs, rfl, h4⟩ := FD.ptr k
      simp only [Sx.canon, FDs.one h2 h4]
  | .nilm, y, d, h, k => by simp only [FD] at h
  | .nilf, y, d, h, k => by simp only [FD] at h
  | .fn _, y, d, h, k => by simp only [FD] at h
theorem FDs.one : ∀ {l m : List F} {ds : List (Dyn U.B)}, FDs U l ds → FDs U m ds → canons l = canons m
  | [], m, ds, h, k => by
    simp only [FDs] at h; subst h
    have : m = [] := List.eq_nil_of_length_eq_zero (by rw [k.len]; rfl)
    subst this; rfl
  | x :: r, m, ds, h, k => by
    simp only [FDs] at h; obtain ⟨d, l', rfl, h1, h2⟩ := h
    cases m with
    | nil => have := k.len; simp at this
    | cons y s =>
      simp only [FDs] at k; obtain ⟨d', l2, e, k1, k2⟩ := k
      cases e
      simp only [canons, FD.one h1 k1, FDs.one h2 k2]
end
theorem canonC_f : ∀ (fs : List F), (fs.map Dm.C.f).map canonC = (canons fs).map Dm.C.f
  | [] => rfl
  | x :: r => by simp only [List.map_cons, canonC, canons, canonC_f r]
theorem DV.canon {d : Dyn U.B} {v : V} (h : DV U d v) : DV U d (canonV v) := by
  unfold DV at h ⊢
  split at h
  · obtain ⟨fs, rfl, h1⟩ := h
    exact ⟨canons fs, by simp only [canonV, canonC_f], h1.canon⟩
  · obtain ⟨f, rfl, h1⟩ := h
    exact ⟨Sx.canon f, rfl, h1.canon⟩
theorem DV.one {d : Dyn U.B} {v u : V} (h : DV U d v) (k : DV U d u) : canonV v = canonV u := by
  unfold DV at h k
  split at h
  · rename_i hb
    rw [hb] at k
    obtain ⟨fs, rfl, h1⟩ := h
    obtain ⟨gs, rfl, k1⟩ := k
    simp only [canonV, canonC_f, FDs.one h1 k1]
  · rename_i hb
    obtain ⟨f, rfl, h1⟩ := h
    split at k
    · rename_i b hb'; exact (hb _ hb').elim
    · obtain ⟨f', rfl, k1⟩ := k
      simp only [canonV, canonC, FD.one h1 k1]
theorem DVs.canon : ∀ {ds : List (Dyn U.B)} {vs : List V}, DVs U ds vs → DVs U ds (canonVs vs)
  | [], vs, h => by simp only [DVs] at h; subst h; rfl
  | d :: ds, vs, h => by obtain ⟨v, vr, rfl, h1, h2⟩ := h; exact ⟨_, _, rfl, h1.canon, DVs.canon h2⟩
theorem DVs.one : ∀ {ds : List (Dyn U.B)} {vs us : List V}, DVs U ds vs → DVs U ds us → canonVs vs = canonVs us
  | [], vs, us, h, k => by simp only [DVs] at h k; subst h k; rfl
  | d :: ds, vs, us, h, k => by
    obtain ⟨v, vr, rfl, h1, h2⟩ := h
    obtain ⟨u, ur, rfl, k1, k2⟩ := k
    simp only [canonVs, h1.one k1, DVs.one h2 k2]
theorem canon_oneV (l : List V) : canonV (oneV l) = oneV (canonVs l) := by
  match l with
  | [] => rfl
  | [v] => rfl
  | v :: u :: r => rfl
theorem ResR.canon {ds : List (Dyn U.B)} {r : V} (h : ResR U ds r) : ResR U ds (canonV r) := by
  obtain ⟨vs, h1, rfl⟩ := h
  exact ⟨_, h1.canon, canon_oneV vs⟩
theorem ResR.one {ds : List (Dyn U.B)} {r q : V} (h : ResR U ds r) (k : ResR U ds q) : canonV r = canonV q := by
  obtain ⟨vs, h1, rfl⟩ := h
  obtain ⟨us, k1, rfl⟩ := k
  rw [canon_oneV, canon_oneV, h1.one k1]
class FullU (U : Uni) : Prop where
  has : ∀ d : Dyn U.B, ∃ fs, FDs U fs (cells U d)
theorem DV.has [FullU U] (d : Dyn U.B) : ∃ v, DV U d v := by
  obtain ⟨fs, h⟩ := FullU.has d
  obtain ⟨t, x⟩ := d
  have one : ∀ {d : Dyn U.B} {fs : List F}, FDs U fs [d] → ∃ f, FD U f d := fun {d fs} h => by
    cases fs with
    | nil => simp only [FDs] at h; cases h
    | cons f r => simp only [FDs] at h; obtain ⟨d', l', e, h1, _⟩ := h; cases e; exact ⟨f, h1⟩
  cases t <;> first
    | exact ⟨.a (fs.map .f), fs, rfl, h⟩
    | exact (let ⟨f, h1⟩ := one h; ⟨.c (.f f), f, rfl, h1⟩)
theorem DVs.has [FullU U] : ∀ (ds : List (Dyn U.B)), ∃ vs, DVs U ds vs
  | [] => ⟨[], rfl⟩
  | d :: ds => let ⟨v, h1⟩ := DV.has d; let ⟨vs, h2⟩ := DVs.has ds; ⟨v :: vs, v, vs, rfl, h1, h2⟩
theorem ResR.has [FullU U] (ds : List (Dyn U.B)) : ∃ r, ResR U ds r ∧ ∀ q, ResR U ds q → canonV q = r :=
  let ⟨vs, h⟩ := DVs.has ds
  have h1 : ResR U ds (oneV vs) := ⟨vs, h, rfl⟩
  ⟨canonV (oneV vs), h1.canon, fun q hq => hq.one h1⟩
theorem CallAt.canon {P : Program} {f : FuncId} {vs : List V} {σ : St} {ds : List (Dyn U.B)} {r : V} (hr : ∀ q, ResR U ds q → canonV q = r) (h : CallAt P f vs σ fun q σ' => ResR U ds q ∧ σ' = σ) : CallAt P f vs σ fun q σ' => q = r ∧ σ' = σ := by
  intro g w us hr' hv
  have hend : ∀ v w', CallEnd g w σ (fun q σ' => ResR U ds q ∧ σ' = σ) v w' → CallEnd g w σ (fun q σ' => q = r ∧ σ' = σ) v w' := by
    rintro v w' ⟨q, σ', g', ⟨h1, h2⟩, h3, h4, h5⟩
    exact ⟨canonV q, σ', g', ⟨hr q h1, h2⟩, h3, h4, VRep.canon h5⟩
  rcases h g w us hr' hv with ⟨v, w', h1, h2⟩ | ⟨h1, h2⟩
  · exact .inl ⟨v, w', h1, hend v w' h2⟩
  · exact .inr ⟨h1, h2.mono fun e w' ⟨v, h3, h4⟩ => ⟨v, h3, hend v w' h4⟩⟩
end
section
variable {U : Uni}
def Has (U : Uni) (d : Dyn U.B) : Prop := ∃ fs, FDs U fs (cells U d)
def Has1 (U : Uni) (d : Dyn U.B) : Prop := ∃ f, FD U f d
theorem FDs.build : ∀ {ds : List (Dyn U.B)}, (∀ d ∈ ds, Has1 U d) → ∃ fs, FDs U fs ds
  | [], _ => ⟨[], rfl⟩
  | d :: ds, h =>
    let ⟨f, h1⟩ := h d (List.mem_cons_self ..)
    let ⟨fs, h2⟩ := FDs.build (ds := ds) fun x hx => h x (List.mem_cons_of_mem _ hx)
    ⟨f :: fs, d, ds, rfl, h1, h2⟩
theorem FDs.flatten {t : Ty} : ∀ {xs : List (T U.B t)}, (∀ x ∈ xs, Has U ⟨t, x⟩) → ∃ fs, FDs U fs (flat U xs)
  | [], _ => ⟨[], rfl⟩
  | x :: xs, h =>
    let ⟨fs, h1⟩ := h x (List.mem_cons_self ..)
    let ⟨gs, h2⟩ := FDs.flatten (xs := xs) fun y hy => h y (List.mem_cons_of_mem _ hy)
    ⟨fs ++ gs, by rw [flat_cons]; exact h1.append h2⟩
theorem has_one {d : Dyn U.B} (hc : cells U d = [d]) (h : Has1 U d) : Has U d := by
  obtain ⟨f, h⟩ := h
  exact ⟨[f], by rw [hc]; exact ⟨d, [], rfl, h, rfl⟩⟩
theorem has1_list {t : Ty} {xs : List (T U.B t)} (h : ∀ x ∈ xs, Has U ⟨t, x⟩) : Has1 U ⟨.list t, xs⟩ :=
  let ⟨fs, h1⟩ := FDs.flatten h
  ⟨.sl xs.length fs, t, xs, rfl, rfl, h1⟩
def tyBelow (n : Nat) : Ty → Bool
  | .list t => tyBelow n t
  | .ptr t => tyBelow n t
  | .opt t => tyBelow n t
  | .base m => Nat.blt m n
  | _ => true
theorem has_ty {n : Nat} (hb : ∀ m, m < n → ∀ x : U.B m, Has U ⟨.base m, x⟩) : ∀ (t : Ty), tyBelow n t = true → ∀ x : T U.B t, Has U ⟨t, x⟩
  | .int k, _, x => has_one rfl ⟨.int k x, rfl⟩
  | .bool, _, x => has_one rfl ⟨.bool x, rfl⟩
  | .str, _, x => has_one rfl ⟨.str x, rfl⟩
  | .flo, _, x => has_one rfl ⟨.flo x, rfl⟩
  | .cpl, _, x => has_one rfl ⟨.cpl x.1 x.2, rfl⟩
  | .list t, h, x => has_one rfl (has1_list fun y _ => has_ty hb t h y)
  | .ptr t, h, x => has_one rfl (let ⟨fs, h1⟩ := has_ty hb t h x; ⟨.obj fs, .inr ⟨t, x, rfl, h1⟩⟩)
  | .opt t, h, x => has_one rfl (match x with
    | none => ⟨.nilp, t, rfl⟩
    | some y => let ⟨fs, h1⟩ := has_ty hb t h y; ⟨.obj fs, .inl ⟨t, y, rfl, h1⟩⟩)
  | .base m, h, x => hb m (blt_nat h) x
theorem has1_ty {n : Nat} (hb : ∀ m, m < n → ∀ x : U.B m, Has U ⟨.base m, x⟩) {t : Ty} (h : tyBelow n t = true) (hn : ∀ m, t ≠ .base m) (x : T U.B t) : Has1 U ⟨t, x⟩ := by
  obtain ⟨fs, h1⟩ := has_ty hb t h x
  have hc : cells U ⟨t, x⟩ = [⟨t, x⟩] := by cases t <;> first | rfl | exact (hn _ rfl).elim
  rw [hc] at h1
  cases fs with
  | nil => cases h1
  | cons f r => obtain ⟨d', l', e, h2, _⟩ := h1; cases e; exact ⟨f, h2⟩
def noBase : Ty → Bool
  | .base _ => false
  | _ => true
theorem has_base {n : Nat} (hb : ∀ m, m < n → ∀ x : U.B m, Has U ⟨.base m, x⟩) (x : U.B n)
    (hx : ∀ j t, (U.lay n)[j]? = some t → noBase t = true ∧ (tyBelow n t = true ∨ ∃ xs : List (T U.B (.base n)), U.acc n x j = ⟨.list (.base n), xs⟩ ∧ ∀ y ∈ xs, Has U ⟨.base n, y⟩)) : Has U ⟨.base n, x⟩ := by
  refine FDs.build fun d hd => ?_
  obtain ⟨j, hj, rfl⟩ := List.mem_map.1 hd
  have hj := List.mem_range.1 hj
  have ht : (U.lay n)[j]? = some (U.lay n)[j] := List.getElem?_eq_getElem hj
  obtain ⟨h1, h2⟩ := hx j _ ht
  rcases h2 with h2 | ⟨xs, h3, h4⟩
  · have e := U.acc_t n x j _ ht
    generalize U.acc n x j = d at e ⊢
    obtain ⟨t, v⟩ := d
    simp only at e
    subst e
    exact has1_ty hb h2 (fun m e => by rw [e] at h1; cases h1) v
  · rw [h3]; exact has1_list h4
end
theorem nth_add {σ : St} {o : Nat} {ob : Ob} (h : nth σ o = some ob) (new : St) : nth (σ ++ new) o = some ob := by
  rw [nth_eq] at h ⊢; exact at_add h new
theorem snap_add (new : St) : ∀ (n : Nat), (∀ {σ : St} {x y : Dm.C}, snapC n σ x = some y → snapC n (σ ++ new) x = some y) ∧ (∀ {σ : St} {l m : List Dm.C}, snapCs n σ l = some m → snapCs n (σ ++ new) l = some m) := by
  have rs : ∀ (n : Nat) {σ : St} {o e k : Nat} {y : Dm.C}, snapC n σ (.rs o e k) = some y → snapC n (σ ++ new) (.rs o e k) = some y := fun n {σ o e k y} h => by
    cases n <;>
    · simp only [snapC] at h ⊢
      split at h
      · rename_i ho
        rw [nth_add ho new]
        exact h
      · cases h
  intro n
  induction n with
  | zero =>
    refine ⟨fun {σ x y} h => ?_, fun {σ l m} h => ?_⟩
    · cases x <;> first
        | exact rs 0 h
        | (simp only [snapC] at h ⊢; first | exact h | cases h)
    · cases l <;> simp only [snapCs] at h ⊢ <;> first | exact h | cases h
  | succ n ih =>
    refine ⟨fun {σ x y} h => ?_, fun {σ l m} h => ?_⟩
    · cases x <;> first
        | exact rs (n + 1) h
        | (simp only [snapC] at h ⊢; first | exact h | cases h; done)
        | skip
      · simp only [snapC] at h ⊢
        split at h
        · rename_i cs ho
          rw [nth_add ho new]
          simp only
          split at h
          · rename_i l hl
            rw [ih.2 hl]
            exact h
          · cases h
        · cases h
      · simp only [snapC] at h ⊢
        split at h
        · rename_i l hl
          rw [ih.2 hl]
          exact h
        · cases h
    · cases l with
      | nil => simp only [snapCs] at h ⊢; exact h
      | cons x r =>
        simp only [snapCs] at h ⊢
        split at h
        · cases h
        · rename_i y hy
          rw [ih.1 hy]
          simp only
          split at h
          · rename_i l hl
            rw [ih.2 hl]
            exact h
          · cases h
theorem snapVs_add (new : St) : ∀ {l m : List V} {σ : St}, snapVs σ l = some m → snapVs (σ ++ new) l = some m
  | [], m, σ, h => by simp only [snapVs] at h ⊢; exact h
  | x :: r, m, σ, h => by
    have one : ∀ {y : V}, snapV σ x = some y → snapV (σ ++ new) x = some y := fun {y} h => by
      cases x with
      | c x =>
        simp only [snapV] at h ⊢
        split at h
        · rename_i z hz
          rw [(snap_add new 1000).1 hz]
          exact h
        · cases h
      | a l =>
        simp only [snapV] at h ⊢
        split at h
        · rename_i z hz
          rw [(snap_add new 1000).2 hz]
          exact h
        · cases h
      | t l => simp only [snapV] at h; cases h
    simp only [snapVs] at h ⊢
    split at h
    · cases h
    · rename_i y hy
      rw [one hy]
      simp only
      split at h
      · rename_i l hl
        rw [snapVs_add new hl]
        exact h
      · cases h
variable {U : Uni} {P : Program} {Sp : List (FSpec U)} {Post : List (Dyn U.B) → Prop} {Go : Nat → List (Dyn U.B) → Prop} {X : SEnv} {c : Cx U} {e : SE}
def Fixed (P : Program) (all : Bool) (f : Nat) (vs : List V) (σ : St) (r : V) : Prop :=
  match all with
  | true => ∀ σ', CallAt P f vs σ' fun q σ'' => q = r ∧ σ'' = σ'
  | false => ∀ new, CallAt P f vs (σ ++ new) fun q σ'' => q = r ∧ σ'' = σ ++ new
def PureSOk (P : Program) (Sp : List (FSpec U)) (Post : List (Dyn U.B) → Prop) (Go : Nat → List (Dyn U.B) → Prop) (X : SEnv) : Prop :=
  ∀ (all : Bool) (c : Cx U) (e : SE) (f : Nat) (args : List SV) (vs : List V) (k : SE → SV → Tr) (K : V → Prop), Ok c e → c.vrs args vs → Foll Sp Post Go c k K → TDen Sp Post Go (sopP X all f args e c.S k) c.ρ → ∃ r, Fixed P all f vs c.σ r ∧ K r
theorem find_ok {f : Nat} {args : List SV} : ∀ {l : List Sig} {i j : Nat} {sg : Sig}, findSig f args l i = some (j, sg) → i ≤ j ∧ l[j - i]? = some sg ∧ sg.f = f
  | [], i, j, sg, h => by simp [findSig] at h
  | s :: r, i, j, sg, h => by
    simp only [findSig] at h
    split at h
    · rename_i hb
      split at h
      · cases h; exact ⟨Nat.le_refl _, by simp, beq_nat hb⟩
      · obtain ⟨h1, h2, h3⟩ := find_ok h
        exact ⟨by omega, by rw [show j - i = (j - (i + 1)) + 1 from by omega]; exact h2, h3⟩
    · obtain ⟨h1, h2, h3⟩ := find_ok h
      exact ⟨by omega, by rw [show j - i = (j - (i + 1)) + 1 from by omega]; exact h2, h3⟩
def Cx.bare (c : Cx U) : Cx U := ⟨c.ρ, c.β, [], []⟩
theorem Ok.bare (ok : Ok c e) : Ok c.bare e := ⟨ok.tys, ok.kn, ok.ne, rfl, fun o so h => by simp [Cx.bare] at h⟩
theorem back_ok (ok : Ok c e) {e' : SE} {c1 : Cx U} (hl : Le c.bare c1) (ok1 : Ok c1 e') : Le c { c with ρ := c1.ρ } ∧ Ok { c with ρ := c1.ρ } e' := by
  have hle : Le c { c with ρ := c1.ρ } := by
    refine ⟨hl.1, fun o kc len h => ⟨rfl, kc, len, ?_, .inr ⟨rfl, rfl⟩⟩⟩
    have h' : inf c.ρ c.S o = some (kc, len) := h
    show inf c1.ρ c.S o = _
    unfold inf at h' ⊢
    split at h'
    · split at h'
      · rename_i d hd
        rw [hl.1 _ _ hd]
        exact h'
      · cases h'
    · cases h'
  exact ⟨hle, ⟨ok1.tys, ok1.kn, ok1.ne, ok.len, fun o so ho => let ⟨ob, h1, h2⟩ := ok.st o so ho; ⟨ob, h1, h2.later hle rfl⟩⟩⟩
theorem data_cr {ρ : Rho U} {β β' : Nat → Nat} {ι ι' : Inf} {x : SC} {v : Dm.C} (hs : keepC x = true) (h : CR ρ β ι x v) : CR ρ β' ι' x v := by
  cases x <;> simp only [keepC] at hs <;> first | (cases hs; done) | (simpa only [CR] using h)
theorem data_crs {ρ : Rho U} {β β' : Nat → Nat} {ι ι' : Inf} : ∀ {x : List SC} {v : List Dm.C}, x.all keepC = true → CRs ρ β ι x v → CRs ρ β' ι' x v
  | [], v, _, h => by simpa only [CRs] using h
  | x :: r, v, hs, h => by
    simp only [List.all_cons, Bool.and_eq_true] at hs
    simp only [CRs] at h ⊢
    obtain ⟨y, yr, rfl, h1, h2⟩ := h
    exact ⟨y, yr, rfl, data_cr hs.1 h1, data_crs hs.2 h2⟩
theorem data_vr {ρ : Rho U} {β β' : Nat → Nat} {ι ι' : Inf} {x : SV} {v : V} (hs : dataV x = true) (h : VR ρ β ι x v) : VR ρ β' ι' x v := by
  cases x with
  | c x =>
    simp only [dataV] at hs
    obtain ⟨y, rfl, h1⟩ := V_c (fun e => by subst e; cases hs) h
    exact VR.c (data_cr hs h1)
  | a l => simp only [VR] at h ⊢; obtain ⟨l', rfl, h1⟩ := h; exact ⟨l', rfl, data_crs hs h1⟩
  | t l => cases hs
theorem data_vrs {ρ : Rho U} {β β' : Nat → Nat} {ι ι' : Inf} : ∀ {x : List SV} {v : List V}, x.all dataV = true → VRs ρ β ι x v → VRs ρ β' ι' x v
  | [], v, _, h => by simpa only [VRs] using h
  | x :: r, v, hs, h => by
    simp only [List.all_cons, Bool.and_eq_true] at hs
    simp only [VRs] at h ⊢
    obtain ⟨y, yr, rfl, h1, h2⟩ := h
    exact ⟨y, yr, rfl, data_vr hs.1 h1, data_vrs hs.2 h2⟩
theorem pure_end (ok : Ok c e) {outs : List Ty} {ds : List (Dyn U.B)} (hd : ds.map Dyn.t = outs) {k : SE → SV → Tr} {K : V → Prop} (hk : Foll Sp Post Go c k K) (h : TDen Sp Post Go (k (e.pushes outs) (oneOf (resVs U.lay (e.pushes outs) e.n outs))) (c.ρ ++ ds)) {r : V} (hr : ResR U ds r) : K r := by
  subst hd
  obtain ⟨g1, g2⟩ := later_pushes ok ds
  obtain ⟨vs, h1, rfl⟩ := hr
  refine hk { c with ρ := c.ρ ++ ds } _ _ _ g1 rfl rfl g2 (oneOf_ok (resVs_ok g2 (fun j d hj => ?_) h1)) h
  show (c.ρ ++ ds)[e.n + j]? = some d
  rw [ok.n, List.getElem?_append_right (by omega), Nat.add_sub_cancel_left]
  exact hj
theorem pure_ok [FullU U] (hl : X.lay = U.lay) (hs : X.sigs = Sp.map FSpec.sig) (hg : ∀ s ∈ Sp, FGood P s) : PureSOk P Sp Post Go X := by
  intro all c e f args vs k K ok hv hk h
  unfold sopP at h
  split at h
  · exact h.elim
  · rename_i i sg hf
    obtain ⟨_, h2, h3⟩ := find_ok hf
    rw [Nat.sub_zero, hs, List.getElem?_map] at h2
    cases hsp : Sp[i]? with
    | none => simp [hsp] at h2
    | some s =>
    simp only [hsp, Option.map_some, Option.some.injEq] at h2
    subst h2
    have good := hg s (List.mem_of_getElem? hsp)
    rw [hl] at h
    split at h
    · exact h.elim
    rename_i hst
    have good := good.still hst
    simp only at h
    subst h3
    split at h
    · rename_i hdt
      have hv0 : c.bare.vrs args vs := data_vrs hdt hv
      obtain ⟨c1, e1, l, ds, vs', q1, q2, q3, q4, q5, q6, q7, q8, q9, q10, q11⟩ := args_ok s.sig.ins ok.bare hv0 h
      have := q6 hdt
      subst this
      simp only [TDen, hsp] at q11
      obtain ⟨p1, p2⟩ := q11
      rw [den_map q8] at p1 p2
      have hx : HL.dyn _ (HL.of (insTys s.sig.ins) ds) = ds := dyn_of q9
      obtain ⟨r, r1, r2⟩ := ResR.has (U := U) (s.fn (HL.of _ ds))
      have hfix : ∀ σ', CallAt P s.sig.f vs' σ' fun q σ'' => q = r ∧ σ'' = σ' := fun σ' => CallAt.canon r2 (good (HL.of _ ds) vs' (by rw [hx]; exact q10) p1 σ')
      obtain ⟨b1, b2⟩ := back_ok ok q1 q4
      refine ⟨r, ?_, pure_end b2 (s.ty _) (hk.later b1 rfl rfl) p2 r1⟩
      cases all with
      | true => exact hfix
      | false => exact fun new => hfix _
    · split at h
      · rename_i hb
        obtain ⟨c1, e1, l, ds, vs', q1, q2, q3, q4, q5, q6, q7, q8, q9, q10, q11⟩ := args_ok s.sig.ins ok hv h
        simp only [TDen, hsp] at q11
        obtain ⟨p1, p2⟩ := q11
        rw [den_map q8] at p1 p2
        have hx : HL.dyn _ (HL.of (insTys s.sig.ins) ds) = ds := dyn_of q9
        obtain ⟨r, r1, r2⟩ := ResR.has (U := U) (s.fn (HL.of _ ds))
        have hgd := good (HL.of _ ds) vs' (by rw [hx]; exact q10) p1
        refine ⟨r, fun new => CallAt.canon r2 ((call_lookP (snapVs_add new q5) ((hgd []).mono fun q σ' h => h.1) fun q hq => hq.bare fun d hd => ?_)), pure_end q4 (s.ty _) (hk.later q1 q2 q3) p2 r1⟩
        have : d.t ∈ (s.fn (HL.of _ ds)).map Dyn.t := List.mem_map_of_mem hd
        rw [s.ty] at this
        exact List.all_eq_true.1 hb _ this
      · exact h.elim
end Go.Dm.Sx
namespace Go.Dm.Sx
open Go.Dm
set_option linter.unusedVariables false
set_option linter.unusedSimpArgs false
set_option linter.unusedSectionVars false
variable {U : Uni} {c c' c'' : Cx U} {e : SE} {Sp : List (FSpec U)} {Post : List (Dyn U.B) → Prop} {Go : Nat → List (Dyn U.B) → Prop} {P : Program} {X : SEnv} {call : CallS} {m : Nat}
theorem FrR.later {A : SA} {A' : AF} (h : FrR c A A') (hl : Le c c') : FrR c' A A' := fun i => hl.vr (h i)
theorem FrR.put {A : SA} {A' : AF} (h : FrR c A A') (dst : Option Tmp) {x : SV} {v : V} (hv : c.vr x v) : FrR c (putS m A dst x) (putA m A' dst v) := by
  cases dst with
  | none => exact h
  | some d =>
    revert d
    intro (d : Nat)
    intro i
    unfold putS putA
    simp only
    by_cases hd : d < m
    · rw [blt_true hd]
      simp only [lkS, lk]
      by_cases hi : d = i
      · subst hi; simp only [Nat.beq_refl]; exact hv
      · rw [nbeq_false hi]; exact h i
    · rw [blt_false hd]; exact h i
theorem vr_skip {ρ : Rho U} {β : Nat → Nat} {ι : Inf} : VR ρ β ι (.t []) (.t []) := by simp only [VR]; exact ⟨[], rfl, by simp only [VRs]⟩
theorem guard_okS (ok : Ok c e) {A : SA} {A' : AF} (hf : FrR c A A') {g : Option (Option Tmp × Bool)} {x y : SE → Tr} {px py : Prop} (h : TDen Sp Post Go (guardS e A g x y) c.ρ)
    (hx : ∀ e', Ok c e' → TDen Sp Post Go (x e') c.ρ → px) (hy : ∀ e', Ok c e' → TDen Sp Post Go (y e') c.ρ → py) : sguard A' g px py := by
  unfold guardS at h
  unfold sguard
  cases g with
  | none => exact hx e ok h
  | some gw =>
    obtain ⟨d, want⟩ := gw
    cases d with
    | none => exact hy e ok h
    | some d =>
      simp only at h ⊢
      have hd := hf d
      split at h
      · rename_i b hb
        rw [hb] at hd
        obtain ⟨t, e1, h1⟩ := vr_bool hd
        rw [e1]
        simp only
        cases want with
        | true =>
          simp only at h ⊢
          obtain ⟨e', ok', h'⟩ := br_ok ok h1 h
          cases t with
          | true => exact hx e' ok' h'
          | false => exact hy e' ok' h'
        | false =>
          simp only at h ⊢
          obtain ⟨e', ok', h'⟩ := br_ok ok h1 h
          cases t with
          | true => exact hy e' ok' h'
          | false => exact hx e' ok' h'
      · rename_i l hl
        rw [hl] at hd
        simp only [Cx.vr, VR] at hd
        obtain ⟨l', e1, _⟩ := hd
        rw [e1]
        exact hy e ok h
      · exact h.elim
def FollK (Sp : List (FSpec U)) (Post : List (Dyn U.B) → Prop) (Go : Nat → List (Dyn U.B) → Prop) (c : Cx U) (m : Nat) (k : KS) (K : AF → St → Prop) : Prop :=
  ∀ (c' : Cx U) e' A A', Le c c' → Ok c' e' → FrR c' A A' → TDen Sp Post Go (k e' A c'.S) c'.ρ → K A' c'.σ
theorem FollK.later {k : KS} {K : AF → St → Prop} (h : FollK Sp Post Go c m k K) (hl : Le c c') : FollK Sp Post Go c' m k K := fun c'' e' A A' h1 => h c'' e' A A' (hl.trans h1)
theorem sxs_ok (hcall : CallSOk (U := U) P Sp Post Go call) (hX : X.lay = U.lay) : ∀ (l : List SItem) {c : Cx U} {e : SE} {A : SA} {A' : AF} {k : KS} {K : AF → St → Prop}, Ok c e → inA m A' → FrR c A A' → FollK Sp Post Go c m k K →
    TDen Sp Post Go (sxs X call m l e A c.S k) c.ρ → wseq (wx P) (fun _ => false) X.tb m K l A' c.σ
  | [], c, e, A, A', k, K, ok, hA, hf, hk, h => hk c e A A' (Le.refl c) ok hf h
  | i :: r, c, e, A, A', k, K, ok, hA, hf, hk, h => by
    refine guard_okS ok hf h (fun e' ok' h' => ?_) (fun e' ok' h' => ?_)
    · refine sop_ok hcall hX ok' hA hf (K := fun v σ' => Next (wseq (wx P) (fun _ => false) X.tb m K r (putA m A' i.dst v) σ')) (fun c1 e1 sv v h1 h2 h3 h4 => ?_) h'
      exact sxs_ok hcall hX r h2 (putA_in hA _ _) ((hf.later h1).put i.dst h3) (hk.later h1) h4
    · exact sxs_ok hcall hX r ok' (putA_in hA _ _) (hf.put i.dst vr_skip) hk h'
theorem strict_cr {ρ : Rho U} {β β' : Nat → Nat} {ι ι' : Inf} {x : SC} {y : Dm.C} (hs : strictC x = true) (h : CR ρ β ι x y) : CR ρ β' ι' x y := by
  cases x <;> simp only [strictC] at hs <;> first
    | (cases hs; done)
    | (simp only [CR] at h ⊢; exact h)
theorem strict_crs {ρ : Rho U} {β β' : Nat → Nat} {ι ι' : Inf} : ∀ {x : List SC} {y : List Dm.C}, x.all strictC = true → CRs ρ β ι x y → CRs ρ β' ι' x y
  | [], y, _, h => by simpa only [CRs] using h
  | x :: r, y, hs, h => by
    simp only [List.all_cons, Bool.and_eq_true] at hs
    simp only [CRs] at h ⊢
    obtain ⟨c, l, rfl, h1, h2⟩ := h
    exact ⟨c, l, rfl, strict_cr hs.1 h1, strict_crs hs.2 h2⟩
theorem strict_vr {ρ : Rho U} {β β' : Nat → Nat} {ι ι' : Inf} {x : SV} {v : V} (hs : strictV x = true) (h : VR ρ β ι x v) : VR ρ β' ι' x v := by
  cases x with
  | c x =>
    by_cases hun : x = .un
    · subst hun; exact VR.un
    · obtain ⟨y, rfl, h1⟩ := V_c hun h
      exact VR.c (strict_cr hs h1)
  | a l =>
    simp only [VR] at h ⊢
    obtain ⟨l', rfl, h1⟩ := h
    exact ⟨l', rfl, strict_crs hs h1⟩
  | t l => cases hs
theorem clean_vr {ρ : Rho U} {β β' : Nat → Nat} {ι ι' : Inf} {x : SV} {v : V} (h : VR ρ β ι x v) : VR ρ β' ι' (cleanV x) v := by
  cases x with
  | c x =>
    simp only [cleanV, cleanC]
    split
    · rename_i hs; exact strict_vr (x := .c x) hs h
    · exact VR.un
  | a l =>
    simp only [cleanV]
    split
    · rename_i hs; exact strict_vr (x := .a l) hs h
    · exact VR.un
  | t l => exact VR.un
theorem lk_clean : ∀ (A : SA) (i : Nat), lkS (cleanA A) i = cleanV (lkS A i) ∨ lkS (cleanA A) i = .c .un
  | [], i => .inr rfl
  | (j, v) :: r, i => by
    simp only [cleanA, List.map_cons, lkS]
    cases Nat.beq j i with
    | true => exact .inl rfl
    | false => exact lk_clean r i
theorem far_strict {ρ : Rho U} {β : Nat → Nat} {ι : Inf} {x : SV} {v : V} (hs : strictV x = true) (h : VR ρ β ι x v) : farV v = false ∧ (ptrS x = false → ptrV v = false) := by
  cases x with
  | c x =>
    cases x <;> simp only [strictV, strictC] at hs <;> first
      | (cases hs; done)
      | (obtain ⟨y, rfl, h1⟩ := V_c (by simp) h
         simp only [CR] at h1
         first
           | (subst h1; exact ⟨rfl, fun _ => rfl⟩)
           | (subst h1; exact ⟨rfl, fun h => by cases h⟩)
           | (obtain ⟨f, d, rfl, _⟩ := h1; exact ⟨rfl, fun _ => rfl⟩)
           | (obtain ⟨cs, off, d, rfl, _⟩ := h1; exact ⟨rfl, fun _ => rfl⟩))
  | a l => simp only [VR] at h; obtain ⟨l', rfl, _⟩ := h; exact ⟨rfl, fun _ => rfl⟩
  | t l => cases hs
theorem tless_okS {A : SA} {A' : AF} (hf : FrR c A A') {o : Op} (h : tlessS X.tb o A = true) : tlessW X.tb o A' = true := by
  unfold tlessW
  unfold tlessS at h
  split at h
  · rfl
  · rfl
  · cases h
  · rename_i t x
    simp only [movOp, Bool.false_or, tlessA]
    simp only [Bool.and_eq_true, Bool.not_eq_true'] at h
    obtain ⟨h1, h2⟩ := far_strict h.1 (op_ok hf x)
    rw [h1, h2 h.2]; rfl
  · rename_i hn1 hn2 hn3 hn4
    rw [Bool.or_eq_true]
    right
    unfold tlessA
    split
    · rename_i x args at' ; exact (hn3 _ _ _ rfl).elim
    · exact (hn4 _ _ rfl).elim
    · simp only [Bool.and_eq_true, List.all_eq_true] at h ⊢
      refine ⟨h.1, fun x hx => ?_⟩
      rw [(far_strict (h.2 x hx) (op_ok hf x)).1]; rfl
variable [Pures]
theorem okS_ok {A : SA} {A' : AF} (hf : FrR c A A') {s : SOp} (h : okS s A = true) : okR s A' := by
  cases s <;> first
    | trivial
    | exact (far_strict h (op_ok hf _)).1
theorem near_ok {ρ : Rho U} {β : Nat → Nat} {ι : Inf} {x : SV} {v : V} (h : nearS x = true) (hv : VR ρ β ι x v) : farV v = false := by
  cases x with
  | c x => exact (far_strict (x := .c x) h hv).1
  | a l => simp only [VR] at hv; obtain ⟨l', rfl, _⟩ := hv; rfl
  | t l => simp only [VR] at hv; obtain ⟨l', rfl, _⟩ := hv; rfl
theorem okCS_ok {A : SA} {A' : AF} (hf : FrR c A A') {s : SOp} (h : okCS s A = true) : okC s A' := by
  cases s <;> first
    | trivial
    | exact near_ok h (op_ok hf _)
theorem sopR_ok (hcall : CallSOk (U := U) P Sp Post Go call) (hpure : PureSOk (U := U) P Sp Post Go X) (hX : X.lay = U.lay) {all : Bool} {s : SOp} (ok : Ok c e) {A : SA} {A' : AF} (hA : inA m A') (hf : FrR c A A') {k : K1} {K : V → St → Prop} (hk : FollS Sp Post Go c k K)
    (h : TDen Sp Post Go (sopR X call m all s e A c.S k) c.ρ) : wopR (wx P) X.tb m all s A' c.σ K := by
  unfold sopR at h
  unfold wopR
  split at h
  · rename_i hp
    rw [hp]
    simp only
    split at h
    · rename_i f args
      obtain ⟨r, h1, h2⟩ := hpure all c e f _ _ _ (fun v => K v c.σ) ok (ops_ok hf args) hk.foll h
      exact ⟨r, by cases all <;> exact h1, h2⟩
    · exact h.elim
  · rename_i hp
    rw [hp]
    simp only
    split at h
    · rename_i hok
      refine ⟨?_, sop_ok hcall hX ok hA hf hk h⟩
      cases all with
      | true => exact okCS_ok hf hok
      | false => exact okS_ok hf hok
    · exact h.elim
theorem sxt_ok (hcall : CallSOk (U := U) P Sp Post Go call) (hpure : PureSOk (U := U) P Sp Post Go X) (hX : X.lay = U.lay) : ∀ (t : YT) {c : Cx U} {e : SE} {A : SA} {A' : AF} {k : KS} {K : AF → St → Prop}, Ok c e → inA m A' → FrR c A A' → (∀ A A' c' e', Le c c' → Ok c' e' → FrR c' A A' → inA m A' → TDen Sp Post Go (k e' A c'.S) c'.ρ → K A' c'.σ) →
    TDen Sp Post Go (sxt X call m t k e A c.S) c.ρ → wtree (wx P) X.tb m t K A' c.σ
  | .done, c, e, A, A', k, K, ok, hA, hf, hk, h => hk A A' c e (Le.refl c) ok hf hA h
  | .stop, c, e, A, A', k, K, ok, hA, hf, hk, h => trivial
  | .go i none p, c, e, A, A', k, K, ok, hA, hf, hk, h => by
    refine guard_okS ok hf h (fun e' ok' h' => ?_) (fun e' ok' h' => ?_)
    · refine sopR_ok hcall hpure hX ok' hA hf (K := fun v σ' => Next (wtree (wx P) X.tb m p K (putA m A' i.dst v) σ')) (fun c1 e1 sv v h1 h2 h3 h4 => ?_) h'
      exact sxt_ok hcall hpure hX p h2 (putA_in hA _ _) ((hf.later h1).put i.dst h3) (fun A A' c' e' g1 => hk A A' c' e' (h1.trans g1)) h4
    · exact sxt_ok hcall hpure hX p ok' (putA_in hA _ _) (hf.put i.dst vr_skip) hk h'
  | .goc i p, c, e, A, A', k, K, ok, hA, hf, hk, h => by
    refine guard_okS ok hf h (fun e' ok' h' => ?_) (fun e' ok' h' => ?_)
    · refine sopR_ok hcall hpure hX ok' hA hf (K := fun v σ' => Next (wtree (wx P) X.tb m p K (putA m A' i.dst v) σ')) (fun c1 e1 sv v h1 h2 h3 h4 => ?_) h'
      exact sxt_ok hcall hpure hX p h2 (putA_in hA _ _) ((hf.later h1).put i.dst h3) (fun A A' c' e' g1 => hk A A' c' e' (h1.trans g1)) h4
    · exact sxt_ok hcall hpure hX p ok' (putA_in hA _ _) (hf.put i.dst vr_skip) hk h'
  | .go i (some o) p, c, e, A, A', k, K, ok, hA, hf, hk, h => by
    simp only [sxt] at h
    split at h
    · rename_i ht
      show (match tlessW X.tb o A' with | true => _ | false => False)
      rw [tless_okS hf ht]
      refine guard_okS ok hf h (fun e' ok' h' => ?_) (fun e' ok' h' => ?_)
      · split at h'
        · rename_i x hx
          rw [hx]
          exact sxt_ok hcall hpure hX p ok' (putA_in hA _ _) (hf.put i.dst (op_ok hf x)) hk h'
        · have hf0 : FrR c.bare (cleanA A) A' := fun j => by
            rcases lk_clean A j with e1 | e1
            · rw [e1]; exact clean_vr (hf j)
            · rw [e1]; exact VR.un
          refine sop_ok hcall hX ok'.bare hA hf0 (K := fun v _ => wtree (wx P) X.tb m p K (putA m A' i.dst v) c.σ) (fun c1 e1 sv v h1 h2 h3 h4 => ?_) h'
          split at h4
          · rename_i hS hs
            obtain ⟨g1, g2⟩ := back_ok ok' h1 h2
            exact sxt_ok (c := { c with ρ := c1.ρ }) hcall hpure hX p g2 (putA_in hA _ _) ((hf.later g1).put i.dst (strict_vr hs h3)) (fun A A' c' e' q1 => hk A A' c' e' (g1.trans q1)) h4
          · exact h4.elim
      · exact sxt_ok hcall hpure hX p ok' (putA_in hA _ _) (hf.put i.dst vr_skip) hk h'
    · exact h.elim
  | .alt i p q, c, e, A, A', k, K, ok, hA, hf, hk, h => by
    obtain ⟨h1, h2⟩ := h
    refine ⟨guard_okS ok hf h1 (fun e' ok' h' => ?_) (fun e' ok' h' => ?_), sxt_ok hcall hpure hX q ok hA hf hk h2⟩
    · refine sopR_ok hcall hpure hX ok' hA hf (K := fun v σ' => Next (wtree (wx P) X.tb m p K (putA m A' i.dst v) σ')) (fun c1 e1 sv v h1 h2 h3 h4 => ?_) h'
      exact sxt_ok hcall hpure hX p h2 (putA_in hA _ _) ((hf.later h1).put i.dst h3) (fun A A' c' e' g1 => hk A A' c' e' (h1.trans g1)) h4
    · exact sxt_ok hcall hpure hX p ok' (putA_in hA _ _) (hf.put i.dst vr_skip) hk h'
  | .sub s p, c, e, A, A', k, K, ok, hA, hf, hk, h => by
    refine sxt_ok hcall hpure hX s ok hA hf (fun A1 A1' c1 e1 g1 g2 g3 g4 g5 => ?_) h
    exact sxt_ok hcall hpure hX p g2 g4 g3 (fun A A' c' e' q1 => hk A A' c' e' (g1.trans q1)) g5
end Go.Dm.Sx
namespace Go.Dm.Sx
open Go.Dm
set_option linter.unusedVariables false
set_option linter.unusedSimpArgs false
def GhostN (n : Nat) (fr : Fr) (σ : St) (fr' : Fr) (σ' : St) : Prop :=
  ∀ g w tmps, Rep g w σ → FrRep g w σ fr tmps → ∃ g', Rep g' w σ' ∧ TurnN n g w σ g' w σ' ∧ FrRep g' w σ' fr' tmps
theorem GhostN.refl (n : Nat) (fr : Fr) (σ : St) : GhostN n fr σ fr σ := fun g w tmps hr hf => ⟨g, hr, (Turn.refl _ _ _).n n, hf⟩
theorem GhostN.trans {n : Nat} {fr fr' fr'' : Fr} {σ σ' σ'' : St} (h : GhostN n fr σ fr' σ') (k : GhostN n fr' σ' fr'' σ'') : GhostN n fr σ fr'' σ'' := fun g w tmps hr hf =>
  let ⟨g1, h1, h2, h3⟩ := h g w tmps hr hf
  let ⟨g2, k1, k2, k3⟩ := k g1 w tmps h1 h3
  ⟨g2, k1, h2.trans k2, k3⟩
theorem GhostN.of {n : Nat} {fr fr' : Fr} {σ σ' : St} (h : Ghost fr σ fr' σ') : GhostN n fr σ fr' σ' := fun g w tmps hr hf =>
  let ⟨g1, h1, h2, h3⟩ := h g w tmps hr hf
  ⟨g1, h1, h2.n n, h3⟩
theorem loop_ghostN {P : Program} {n : Nat} {c : Code} {K : Dm.Post} {fr fr' : Fr} {σ σ' : St} (hg : GhostN n fr σ fr' σ') (h : LoopAt P n c K fr' σ') : LoopAt P n c K fr σ := by
  intro g w a hr hf hd b k cs
  obtain ⟨g', h1, h2, h3⟩ := hg g w _ hr hf
  obtain ⟨e, a', w', h4, h5⟩ := h g' w a h1 h3 hd b k cs
  exact ⟨e, a', w', h4.trans h2, h5⟩
theorem ghost_nil {fr : Fr} {σ : St} {d ep sz : Nat} (hd : fr.getD d (.c .un) = .c (.f .nils)) : Ghost fr σ (fr.set d (.c (.rs σ.length ep 0))) (σ ++ [.arr true ep sz []]) := by
  intro g w tmps hr hf
  let g' : G := ⟨g.Z, fun i => if i = σ.length then none else g.blk i, fun i => if i = σ.length then 0 else g.cap i⟩
  have hb : ∀ i, i < σ.length → g'.blk i = g.blk i := fun i hi => if_neg (Nat.ne_of_lt hi)
  have hc : ∀ i, i < σ.length → g'.cap i = g.cap i := fun i hi => if_neg (Nat.ne_of_lt hi)
  have hown : ∀ b o, Own g' (σ ++ [.arr true ep sz []]) b o → Own g σ b o := by
    rintro b o ⟨i, ob, h1, h2, h3⟩
    by_cases hi : i < σ.length
    · rw [List.getElem?_append_left hi] at h1
      exact ⟨i, ob, h1, by rw [← hb i hi]; exact h2, h3⟩
    · have hlen := (List.getElem?_eq_some_iff.1 h1).1
      simp at hlen
      have : i = σ.length := by omega
      subst this
      have : g'.blk σ.length = none := if_pos rfl
      rw [this] at h2; cases h2
  have T : Turn g w σ g' w (σ ++ [.arr true ep sz []]) :=
    { os := rfl, tape := rfl, output := rfl, size := Nat.le_refl _, whole := fun _ _ _ => rfl, zs := fun b o hz => ⟨hz, rfl⟩, znew := fun b o _ hz => .inl hz, onew := fun b o _ h => hown b o h,
      turns := fun i ob h => by
        have hi := (List.getElem?_eq_some_iff.1 h).1
        refine ⟨ob, by rw [List.getElem?_append_left hi]; exact h, ?_⟩
        cases ob <;> simp [ObTurn, hb i hi, hc i hi]
      blks := fun i ob h _ => hb i (List.getElem?_eq_some_iff.1 h).1 }
  refine ⟨g', ⟨fun i ob h => ?_, fun i j a b k h1 h2 h3 h4 h5 h6 => ?_, fun b o hz ho => hr.apart b o hz (hown b o ho), hr.inside⟩, T, ?_⟩
  · by_cases hi : i < σ.length
    · rw [List.getElem?_append_left hi] at h
      exact (hr.ob i ob h).keep T (fun _ _ => rfl) (hb i hi) (hc i hi)
    · have hlen := (List.getElem?_eq_some_iff.1 h).1
      simp at hlen
      have : i = σ.length := by omega
      subst this
      rw [List.getElem?_append_right (Nat.le_refl _), Nat.sub_self] at h
      simp at h
      subst h
      exact .inl ⟨if_pos rfl, rfl, if_pos rfl⟩
  · have lt : ∀ {i : Nat} {k : Nat}, g'.blk i = some k → i ≠ σ.length := fun {i k} h e => by subst e; rw [show g'.blk σ.length = none from if_pos rfl] at h; cases h
    have l1 : i < σ.length := by
      have := (List.getElem?_eq_some_iff.1 h1).1
      simp at this
      have := lt h5
      omega
    have l2 : j < σ.length := by
      have := (List.getElem?_eq_some_iff.1 h2).1
      simp at this
      have := lt h6
      omega
    rw [List.getElem?_append_left l1] at h1
    rw [List.getElem?_append_left l2] at h2
    exact hr.inj i j a b k h1 h2 h3 h4 (by rw [← hb i l1]; exact h5) (by rw [← hb j l2]; exact h6)
  · have hf' := hf.turn T
    refine ⟨by simp [hf'.1], fun i => ?_⟩
    have h := hf'.2 i
    have h0 := hf.2 i
    by_cases hi : d = i
    · subst hi
      rw [hd] at h0
      have hv : tmps.getD d undef = .slice none 0 0 := h0
      have hlt : d < fr.length := by
        rw [List.getD_eq_getElem?_getD] at hd
        cases hh : fr[d]? with
        | none => rw [hh] at hd; cases hd
        | some x => exact (List.getElem?_eq_some_iff.1 hh).1
      rw [List.getD_eq_getElem?_getD, List.getElem?_set_self hlt, Option.getD_some, hv]
      refine ⟨rfl, .arr true ep sz [], by rw [List.getElem?_append_right (Nat.le_refl _), Nat.sub_self]; rfl, Nat.le_refl _, fun _ => ?_⟩
      refine ⟨?_, by simp, Nat.zero_le _⟩
      rw [show g'.blk σ.length = none from if_pos rfl, show g'.cap σ.length = 0 from if_pos rfl]
      rfl
    · rw [List.getD_eq_getElem?_getD, List.getElem?_set_ne hi, ← List.getD_eq_getElem?_getD]
      exact h
theorem ghost_trim {k : Nat} {fr : Fr} {σ : St} {n : Nat} (hk : k ≤ n) (hf : ∀ i, (fr.getD i (.c .un)).under n = true) (hs : (σ.take n).all (Ob.under n) = true) : GhostN k fr σ fr (σ.take n) := by
  intro g w tmps hr hfr
  refine ⟨g, take_rep hr hs, ?_, hfr.1, fun i => underV (hf i) (hfr.2 i)⟩
  exact
    { os := rfl, tape := rfl, output := rfl, size := Nat.le_refl _, whole := fun _ _ _ => rfl, zs := fun b o hz => ⟨hz, rfl⟩, znew := fun b o _ hz => .inl hz,
      onew := fun b o _ ⟨i, ob, h1, h2⟩ => ⟨i, ob, (get_take h1).2, h2⟩,
      turns := fun i ob hi h => ⟨ob, by rw [take_get (by omega)]; exact h, by cases ob <;> simp [ObTurn]⟩,
      blks := fun _ _ _ _ _ => rfl }
variable {U : Uni} {c c' c'' : Cx U} {e : SE} {Sp : List (FSpec U)} {Post : List (Dyn U.B) → Prop} {Go : Nat → List (Dyn U.B) → Prop} {P : Program} {X : SEnv} {call : CallS} {m : Nat}
theorem tyCell_ok {n : Nat} {x : U.B n} {j : Nat} {t : Ty} (h : nth (U.lay n) j = some t) : ∃ d : Dyn U.B, (cells U ⟨.base n, x⟩)[j]? = some d ∧ d.t = t := by
  rw [nth_eq] at h
  have hj := (List.getElem?_eq_some_iff.1 h).1
  refine ⟨U.acc n x j, ?_, U.acc_t n x j t h⟩
  simp [cells, hj]
theorem tmTy_ok (ok : Ok c e) {x : Tm} {t : Ty} (h : tmTy U.lay e x = some t) : ∃ d : Dyn U.B, x.den? c.ρ = some d ∧ d.t = t := by
  cases x with
  | «at» i => exact ok.ty h
  | fld i j =>
    simp only [tmTy] at h
    split at h
    · rename_i t' ht
      obtain ⟨d, h1, h2⟩ := ok.ty ht
      obtain ⟨t0, v⟩ := d
      simp only at h2
      subst h2
      simp only [Tm.den?, h1, pcells]
      cases t' with
      | base n => exact tyCell_ok h
      | _ =>
        simp only [tyCell] at h
        split at h
        · cases h; refine ⟨_, rfl, ?_⟩; rfl
        · cases h
    · rename_i n ht
      obtain ⟨d, h1, h2⟩ := ok.ty ht
      obtain ⟨t0, v⟩ := d
      simp only at h2
      subst h2
      simp only [Tm.den?, h1, pcells]
      exact tyCell_ok h
    · cases h
  | _ => simp only [tmTy, Option.some.injEq] at h; subst h; exact ⟨_, rfl, rfl⟩
def ThLe (θ θ' : Th) : Prop := ∀ i x, nth θ i = some (some x) → nth θ' i = some (some x)
theorem ThLe.refl (θ : Th) : ThLe θ θ := fun _ _ h => h
theorem ThLe.trans {a b d : Th} (h : ThLe a b) (k : ThLe b d) : ThLe a d := fun i x hx => k i x (h i x hx)
def thR (ρ : Rho U) (θ : Th) : Rho U := θ.map fun o => (o.getD (.bool false)).den ρ
def ThOk (c : Cx U) (tys : List Ty) (θ : Th) : Prop := θ.length = tys.length ∧ ∀ i x, nth θ i = some (some x) → ∃ d t, x.den? c.ρ = some d ∧ nth tys i = some t ∧ d.t = t
theorem thR_get {θ : Th} {i : Nat} {x : Tm} {d : Dyn U.B} {ρ : Rho U} (h : nth θ i = some (some x)) (hd : x.den? ρ = some d) : (thR ρ θ)[i]? = some d := by
  rw [nth_eq] at h
  simp only [thR, List.getElem?_map, h, Option.map_some, Option.getD_some, Tm.den_of hd]
theorem put_len {α : Type} (l : List α) (i : Nat) (v : α) : (put l i v).length = l.length := by rw [put_eq]; simp
theorem bind_ok (ok : Ok c e) {tys : List Ty} {θ θ' : Th} {i : Nat} {x : Tm} (hθ : ThOk c tys θ) (h : bindT U.lay e tys θ i x = some θ') : ThLe θ θ' ∧ ThOk c tys θ' ∧ nth θ' i = some (some x) := by
  unfold bindT at h
  split at h
  · rename_i hi
    split at h
    · rename_i t t' h1 h2
      split at h
      · rename_i ht
        cases h
        have e1 := Ty.eqb_ok ht
        subst e1
        obtain ⟨d, q1, q2⟩ := tmTy_ok ok h2
        have hlt : i < θ.length := by rw [nth_eq] at hi; exact (List.getElem?_eq_some_iff.1 hi).1
        have hne : ∀ j, j ≠ i → nth (put θ i (some x)) j = nth θ j := fun j hj => by rw [nth_eq, nth_eq, put_eq, List.getElem?_set_ne (Ne.symm hj)]
        have heq : nth (put θ i (some x)) i = some (some x) := by rw [nth_eq, put_eq, List.getElem?_set_self hlt]
        refine ⟨fun j y hj => ?_, ⟨by rw [put_len]; exact hθ.1, fun j y hj => ?_⟩, heq⟩
        · by_cases hji : j = i
          · subst hji; rw [hi] at hj; cases hj
          · rw [hne j hji]; exact hj
        · by_cases hji : j = i
          · subst hji
            rw [heq] at hj
            cases hj
            exact ⟨d, t, q1, h1, q2⟩
          · rw [hne j hji] at hj
            exact hθ.2 j y hj
      · cases h
    · cases h
  · rename_i y hi
    split at h
    · rename_i hy
      cases h
      rw [← Tm.eqb_ok hy]
      exact ⟨ThLe.refl _, hθ, hi⟩
    · cases h
  · cases h
theorem mTm_ok (ok : Ok c e) {tys : List Ty} {θ θ' : Th} {p x : Tm} (hθ : ThOk c tys θ) (h : mTm U.lay e tys p x θ = some θ') :
    ThLe θ θ' ∧ ThOk c tys θ' ∧ ∀ θf, ThLe θ' θf → ∀ d, x.den? c.ρ = some d → p.den? (thR c.ρ θf) = some d := by
  unfold mTm at h
  split at h
  · obtain ⟨h1, h2, h3⟩ := bind_ok ok hθ h
    exact ⟨h1, h2, fun θf hf d hd => thR_get (hf _ _ h3) hd⟩
  · cases h
  · rename_i hn1 hn2
    split at h
    · rename_i hp
      cases h
      have := Tm.eqb_ok hp
      subst this
      refine ⟨ThLe.refl _, hθ, fun θf hf d hd => ?_⟩
      cases p with
      | «at» i => exact (hn1 _ rfl).elim
      | fld i j => exact (hn2 _ _ rfl).elim
      | _ => exact hd
    · cases h
structure MCx (c : Cx U) (tm : Tmpl) (θf : Th) (βt : Nat → Nat) (ιt : Inf) : Prop where
  rs : ∀ o k' , freshS c.S o k' = true → isArr tm.S o = true → βt o = c.β o + k' * 4294967296 ∧ ∀ len, c.ι o = some (k', len) → ιt o = some (0, len)
mutual
theorem mC_ok (ok : Ok c e) {tm : Tmpl} : ∀ {p x : SC} {θ θ' : Th}, ThOk c tm.tys θ → mC U.lay e tm c.S p x θ = some θ' →
    ThLe θ θ' ∧ ThOk c tm.tys θ' ∧ ∀ θf βt ιt, ThLe θ' θf → MCx c tm θf βt ιt → ∀ y, c.cr x y → CR (thR c.ρ θf) βt ιt p y
  | .d t p, x, θ, θ', hθ, h => by
    simp only [mC] at h
    split at h
    · rename_i t' y
      split at h
      · rename_i ht
        have := Ty.eqb_ok ht
        subst this
        obtain ⟨h1, h2, h3⟩ := mTm_ok ok hθ h
        refine ⟨h1, h2, fun θf βt ιt hf _ z hz => ?_⟩
        simp only [Cx.cr, CR] at hz ⊢
        obtain ⟨f, d, rfl, q1, q2, q3⟩ := hz
        exact ⟨f, d, rfl, h3 θf hf d q1, q2, q3⟩
      · cases h
    · split at h
      · rename_i u
        obtain ⟨h1, h2, h3⟩ := mTm_ok ok hθ h
        refine ⟨h1, h2, fun θf βt ιt hf _ z hz => ?_⟩
        simp only [Cx.cr, CR] at hz ⊢
        subst hz
        exact ⟨.nils, ⟨.list u, []⟩, rfl, h3 θf hf _ rfl, rfl, by simp only [FD]; exact ⟨u, rfl⟩⟩
      · cases h
    · split at h
      · rename_i u
        obtain ⟨h1, h2, h3⟩ := mTm_ok ok hθ h
        refine ⟨h1, h2, fun θf βt ιt hf _ z hz => ?_⟩
        simp only [Cx.cr, CR] at hz ⊢
        subst hz
        exact ⟨.nilp, ⟨.opt u, none⟩, rfl, h3 θf hf _ rfl, rfl, by simp only [FD]; exact ⟨u, rfl⟩⟩
      · cases h
    · cases h
  | .nil, x, θ, θ', hθ, h => by
    simp only [mC] at h
    split at h
    · cases h; exact ⟨ThLe.refl _, hθ, fun θf βt ιt _ _ z hz => by simpa only [Cx.cr, CR] using hz⟩
    · cases h
  | .nilp, x, θ, θ', hθ, h => by
    simp only [mC] at h
    split at h
    · cases h; exact ⟨ThLe.refl _, hθ, fun θf βt ιt _ _ z hz => by simpa only [Cx.cr, CR] using hz⟩
    · cases h
  | .nilm, x, θ, θ', hθ, h => by
    simp only [mC] at h
    split at h
    · cases h; exact ⟨ThLe.refl _, hθ, fun θf βt ιt _ _ z hz => by simpa only [Cx.cr, CR] using hz⟩
    · cases h
  | .nilf, x, θ, θ', hθ, h => by
    simp only [mC] at h
    split at h
    · cases h; exact ⟨ThLe.refl _, hθ, fun θf βt ιt _ _ z hz => by simpa only [Cx.cr, CR] using hz⟩
    · cases h
  | .fn f, x, θ, θ', hθ, h => by
    simp only [mC] at h
    split at h
    · split at h
      · rename_i hb
        cases h
        have := beq_nat hb
        subst this
        exact ⟨ThLe.refl _, hθ, fun θf βt ιt _ _ z hz => by simpa only [Cx.cr, CR] using hz⟩
      · cases h
    · cases h
  | .clo f caps, x, θ, θ', hθ, h => by
    simp only [mC] at h
    split at h
    · split at h
      · rename_i hb
        have := beq_nat hb
        subst this
        obtain ⟨h1, h2, h3⟩ := mCs_ok ok hθ h
        refine ⟨h1, h2, fun θf βt ιt hf hm z hz => ?_⟩
        simp only [Cx.cr, CR] at hz ⊢
        obtain ⟨l', rfl, hz⟩ := hz
        exact ⟨l', rfl, h3 θf βt ιt hf hm _ hz⟩
      · cases h
    · cases h
  | .ptr o i, x, θ, θ', hθ, h => by
    simp only [mC] at h
    split at h
    · split at h
      · rename_i hb1 hb2
        cases h
        have e1 := beq_nat hb1
        have e2 := beq_nat hb2
        subst e1 e2
        exact ⟨ThLe.refl _, hθ, fun θf βt ιt _ _ z hz => by simpa only [Cx.cr, CR] using hz⟩
      · cases h
    · cases h
  | .el p j, x, θ, θ', hθ, h => by
    simp only [mC] at h
    split at h
    · split at h
      · rename_i hb
        have := beq_nat hb
        subst this
        obtain ⟨h1, h2, h3⟩ := mTm_ok ok hθ h
        refine ⟨h1, h2, fun θf βt ιt hf _ z hz => ?_⟩
        simp only [Cx.cr, CR] at hz ⊢
        obtain ⟨cs, off, d, rfl, q1, q2⟩ := hz
        exact ⟨cs, off, d, rfl, h3 θf hf d q1, q2⟩
      · cases h
    · cases h
  | .rs o k, x, θ, θ', hθ, h => by
    simp only [mC] at h
    split at h
    · rename_i o' k'
      split at h
      · rename_i hb1 hb2 hfr har
        cases h
        have e1 := beq_nat hb1
        have e2 := beq_nat hb2
        subst e1 e2
        refine ⟨ThLe.refl _, hθ, fun θf βt ιt _ hm z hz => ?_⟩
        obtain ⟨h1, h2⟩ := hm.rs o k' hfr har
        obtain ⟨w, ty, sz, t, x, ho⟩ := fresh_ok ok hfr
        obtain ⟨ys, gs, q1, q2, q3, q4, q5, q6⟩ := arr_at ok ho
        simp only [Cx.cr, CR] at hz ⊢
        obtain ⟨n, kc, len, rfl, p1, p2, p3⟩ := hz
        have p1' : c.ι o = some (kc, len) := p1
        rw [q6] at p1'
        cases p1'
        exact ⟨n, 0, _, by rw [h1, Nat.zero_mul, Nat.add_zero], h2 _ q6, Nat.le_refl _, fun _ => p3 rfl⟩
      · cases h
    · cases h
  | .mp o, x, θ, θ', hθ, h => by simp [mC] at h
  | .pa .., x, θ, θ', hθ, h => by simp [mC] at h
  | .un, x, θ, θ', hθ, h => by simp [mC] at h
theorem mCs_ok (ok : Ok c e) {tm : Tmpl} : ∀ {p x : List SC} {θ θ' : Th}, ThOk c tm.tys θ → mCs U.lay e tm c.S p x θ = some θ' →
    ThLe θ θ' ∧ ThOk c tm.tys θ' ∧ ∀ θf βt ιt, ThLe θ' θf → MCx c tm θf βt ιt → ∀ y, c.crs x y → CRs (thR c.ρ θf) βt ιt p y
  | [], x, θ, θ', hθ, h => by
    simp only [mCs] at h
    split at h
    · cases h; exact ⟨ThLe.refl _, hθ, fun θf βt ιt _ _ z hz => by simpa only [Cx.crs, CRs] using hz⟩
    · cases h
  | p :: ps, x, θ, θ', hθ, h => by
    simp only [mCs] at h
    split at h
    · cases h
    · rename_i y ys
      split at h
      · rename_i θ1 h1
        obtain ⟨a1, a2, a3⟩ := mC_ok ok hθ h1
        obtain ⟨b1, b2, b3⟩ := mCs_ok ok a2 h
        refine ⟨a1.trans b1, b2, fun θf βt ιt hf hm z hz => ?_⟩
        simp only [Cx.crs, CRs] at hz ⊢
        obtain ⟨z0, zs, rfl, hz1, hz2⟩ := hz
        exact ⟨z0, zs, rfl, a3 θf βt ιt (b1.trans hf) hm _ hz1, b3 θf βt ιt hf hm _ hz2⟩
      · cases h
end
theorem mV_ok (ok : Ok c e) {tm : Tmpl} {p x : SV} {θ θ' : Th} (hθ : ThOk c tm.tys θ) (h : mV U.lay e tm c.S p x θ = some θ') :
    ThLe θ θ' ∧ ThOk c tm.tys θ' ∧ ∀ θf βt ιt, ThLe θ' θf → MCx c tm θf βt ιt → ∀ y, c.vr x y → VR (thR c.ρ θf) βt ιt p y := by
  unfold mV at h
  split at h
  · rename_i p x
    obtain ⟨h1, h2, h3⟩ := mC_ok ok hθ h
    refine ⟨h1, h2, fun θf βt ιt hf hm z hz => ?_⟩
    by_cases hun : x = .un
    · subst hun
      cases p with
      | un => exact VR.un
      | _ =>
        exfalso
        simp only [mC] at h
        cases h
    · obtain ⟨y, rfl, hz1⟩ := V_c hun hz
      exact VR.c (h3 θf βt ιt hf hm _ hz1)
  · obtain ⟨h1, h2, h3⟩ := mCs_ok ok hθ h
    refine ⟨h1, h2, fun θf βt ιt hf hm z hz => ?_⟩
    simp only [Cx.vr, VR] at hz ⊢
    obtain ⟨l', rfl, hz⟩ := hz
    exact ⟨l', rfl, h3 θf βt ιt hf hm _ hz⟩
  · cases h
theorem mA_ok (ok : Ok c e) {tm : Tmpl} {A : SA} {A' : AF} (hA : FrR c A A') : ∀ {pa : SA} {θ θ' : Th}, ThOk c tm.tys θ → mA U.lay e tm A c.S pa θ = some θ' →
    ThLe θ θ' ∧ ThOk c tm.tys θ' ∧ ∀ θf βt ιt, ThLe θ' θf → MCx c tm θf βt ιt → ∀ q ∈ pa, VR (thR c.ρ θf) βt ιt q.2 (lk A' q.1)
  | [], θ, θ', hθ, h => by
    simp only [mA, Option.some.injEq] at h
    subst h
    exact ⟨ThLe.refl _, hθ, fun _ _ _ _ _ q hq => by cases hq⟩
  | (i, p) :: r, θ, θ', hθ, h => by
    simp only [mA] at h
    split at h
    · rename_i θ1 h1
      obtain ⟨a1, a2, a3⟩ := mV_ok ok hθ h1
      obtain ⟨b1, b2, b3⟩ := mA_ok ok hA a2 h
      refine ⟨a1.trans b1, b2, fun θf βt ιt hf hm q hq => ?_⟩
      rcases List.mem_cons.1 hq with rfl | hq
      · exact a3 θf βt ιt (b1.trans hf) hm _ (hA i)
      · exact b3 θf βt ιt hf hm q hq
    · cases h
def ObM (c : Cx U) (tm : Tmpl) (θf : Th) (o : Nat) (p x : SOb) : Prop :=
  (∀ βt ιt, MCx c tm θf βt ιt → (∀ k', freshS c.S o k' = true → βt o = c.β o + k' * 4294967296) → ∀ ob, OR c.ρ c.β c.ι o x ob → OR (thR c.ρ θf) βt ιt o p ob) ∧
  (∀ w k ty sz t a, p = .arr w k ty sz t a → k = 0 ∧ ∃ w' k' a', x = .arr w' k' ty sz t a' ∧ ∀ d, a'.den? c.ρ = some d → a.den? (thR c.ρ θf) = some d)
theorem mOb_ok (ok : Ok c e) {tm : Tmpl} {o : Nat} {p x : SOb} (ho : nth c.S o = some x) {θ θ' : Th} (hθ : ThOk c tm.tys θ) (h : mOb U.lay e tm c.S p x θ = some θ') :
    ThLe θ θ' ∧ ThOk c tm.tys θ' ∧ ∀ θf, ThLe θ' θf → ObM c tm θf o p x := by
  unfold mOb at h
  split at h
  · obtain ⟨h1, h2, h3⟩ := mCs_ok ok hθ h
    refine ⟨h1, h2, fun θf hf => ⟨fun βt ιt hm _ ob hob => ?_, fun _ _ _ _ _ _ hh => by cases hh⟩⟩
    obtain ⟨l', rfl, hz⟩ := hob
    exact ⟨l', rfl, h3 θf βt ιt hf hm _ hz⟩
  · rename_i w k ty sz t p w' k' ty' sz' t' x
    split at h
    · rename_i e1 e2 e3 e4 e5
      have hw : w = w' := by cases w <;> cases w' <;> first | rfl | cases e1
      have e2 := beq_nat e2
      have e3 := beq_nat e3
      have e4 := beq_nat e4
      have e5 := Ty.eqb_ok e5
      subst hw e2 e3 e4 e5
      obtain ⟨h1, h2, h3⟩ := mTm_ok ok hθ h
      refine ⟨h1, h2, fun θf hf => ⟨fun βt ιt hm hβ ob hob => ?_, fun _ _ _ _ _ _ hh => ?_⟩⟩
      · obtain ⟨d, fs, q1, q2, q3, q4, q5, q6⟩ := hob
        have hk : freshS c.S o k' = true := by unfold freshS; rw [ho]; exact Nat.beq_refl _
        refine ⟨d, fs, h3 θf hf d q1, q2, ?_, q4, ?_, q6⟩
        · rw [hβ k' hk, Nat.zero_mul, Nat.add_zero]; exact q3
        · rw [hβ k' hk, Nat.add_mul_mod_self_right]; exact q5
      · cases hh
        exact ⟨rfl, w, k', x, rfl, fun d hd => h3 θf hf d hd⟩
    · cases h
  · rename_i T u p T' u' x
    split at h
    · rename_i e1 e2
      have e1 := beq_nat e1
      have hu : u = u' := by cases u <;> cases u' <;> first | rfl | cases e2
      subst e1 hu
      obtain ⟨h1, h2, h3⟩ := mC_ok ok hθ h
      refine ⟨h1, h2, fun θf hf => ⟨fun βt ιt hm _ ob hob => ?_, fun _ _ _ _ _ _ hh => by cases hh⟩⟩
      obtain ⟨y, rfl, hz⟩ := hob
      exact ⟨y, rfl, h3 θf βt ιt hf hm _ hz⟩
    · cases h
  · cases h
theorem mS_ok (ok : Ok c e) {tm : Tmpl} : ∀ {ps xs : SSt} {s : Nat} {θ θ' : Th}, ThOk c tm.tys θ → (∀ i x, xs[i]? = some x → nth c.S (s + i) = some x) → mS U.lay e tm c.S ps xs θ = some θ' →
    ThLe θ θ' ∧ ThOk c tm.tys θ' ∧ ∀ θf, ThLe θ' θf → ∀ i p, ps[i]? = some p → ∃ x, nth c.S (s + i) = some x ∧ ObM c tm θf (s + i) p x
  | [], xs, s, θ, θ', hθ, hx, h => by
    simp only [mS, Option.some.injEq] at h
    subst h
    exact ⟨ThLe.refl _, hθ, fun _ _ i p hp => by simp at hp⟩
  | p :: ps, [], s, θ, θ', hθ, hx, h => by simp [mS] at h
  | p :: ps, x :: xs, s, θ, θ', hθ, hx, h => by
    simp only [mS] at h
    split at h
    · rename_i θ1 h1
      have h0 := hx 0 x rfl
      obtain ⟨a1, a2, a3⟩ := mOb_ok (o := s) ok (by simpa using h0) hθ h1
      obtain ⟨b1, b2, b3⟩ := mS_ok (s := s + 1) ok a2 (fun i y hy => by rw [show s + 1 + i = s + (i + 1) from by omega]; exact hx (i + 1) y (by simpa using hy)) h
      refine ⟨a1.trans b1, b2, fun θf hf i q hq => ?_⟩
      cases i with
      | zero => simp at hq; subst hq; exact ⟨x, by simpa using h0, a3 θf (b1.trans hf)⟩
      | succ i =>
        have := b3 θf hf i q (by simpa using hq)
        rwa [show s + 1 + i = s + (i + 1) from by omega] at this
    · cases h
theorem allSome_ok : ∀ {θ : Th} {l : List Tm}, allSome θ = some l → θ = l.map some
  | [], l, h => by simp only [allSome, Option.some.injEq] at h; subst h; rfl
  | none :: r, l, h => by simp [allSome] at h
  | some x :: r, l, h => by
    simp only [allSome] at h
    split at h
    · rename_i l' hl
      cases h
      rw [allSome_ok hl]; rfl
    · cases h
mutual
theorem under_cr {ρ : Rho U} {β : Nat → Nat} {ι : Inf} {n : Nat} : ∀ {x : SC} {y : Dm.C}, inC n x = true → CR ρ β ι x y → y.under n = true
  | .d t a, y, h, hr => by simp only [CR] at hr; obtain ⟨f, d, rfl, _⟩ := hr; rfl
  | .nil, y, h, hr => by simp only [CR] at hr; subst hr; rfl
  | .nilp, y, h, hr => by simp only [CR] at hr; subst hr; rfl
  | .nilm, y, h, hr => by simp only [CR] at hr; subst hr; rfl
  | .nilf, y, h, hr => by simp only [CR] at hr; subst hr; rfl
  | .fn f, y, h, hr => by simp only [CR] at hr; subst hr; rfl
  | .clo f caps, y, h, hr => by
    simp only [CR] at hr
    obtain ⟨l, rfl, hr⟩ := hr
    simp only [inC] at h
    exact under_crs h hr
  | .ptr o i, y, h, hr => by simp only [CR] at hr; subst hr; exact h
  | .el a j, y, h, hr => by simp only [CR] at hr; obtain ⟨cs, off, d, rfl, _⟩ := hr; rfl
  | .rs o k, y, h, hr => by simp only [CR] at hr; obtain ⟨a, b, d, rfl, _⟩ := hr; exact h
  | .mp o, y, h, hr => by simp [inC] at h
  | .pa .., y, h, hr => by simp [inC] at h
  | .un, y, h, hr => by simp [inC] at h
theorem under_crs {ρ : Rho U} {β : Nat → Nat} {ι : Inf} {n : Nat} : ∀ {x : List SC} {y : List Dm.C}, inCs n x = true → CRs ρ β ι x y → C.unders n y = true
  | [], y, h, hr => by simp only [CRs] at hr; subst hr; rfl
  | x :: r, y, h, hr => by
    simp only [CRs] at hr
    obtain ⟨c, l, rfl, h1, h2⟩ := hr
    simp only [inCs] at h
    split at h
    · rename_i hx
      simp only [C.unders, under_cr hx h1]
      exact under_crs h h2
    · cases h
end
theorem under_vr {ρ : Rho U} {β : Nat → Nat} {ι : Inf} {n : Nat} {x : SV} {v : V} (h : inV n x = true) (hr : VR ρ β ι x v) : v.under n = true := by
  cases x with
  | c x =>
    by_cases hun : x = .un
    · subst hun; simp [inV, inC] at h
    · obtain ⟨y, rfl, h1⟩ := V_c hun hr
      exact under_cr h h1
  | a l => simp only [VR] at hr; obtain ⟨l', rfl, hr⟩ := hr; exact under_crs h hr
  | t l => simp [inV] at h
theorem under_or {ρ : Rho U} {β : Nat → Nat} {ι : Inf} {n o : Nat} {x : SOb} {ob : Ob} (h : inOb n x = true) (hr : OR ρ β ι o x ob) : ob.under n = true := by
  cases x with
  | cells l => obtain ⟨l', rfl, hr⟩ := hr; exact under_crs h hr
  | arr w k ty sz t x => obtain ⟨d, fs, _, _, rfl, _⟩ := hr; rfl
  | bld T u x => obtain ⟨y, rfl, hr⟩ := hr; exact under_cr h hr
  | any => simp [inOb] at h
def AtHead (tm : Tmpl) (m n : Nat) (LP : AF → St → Prop) (vals : List (Dyn U.B)) : Prop :=
  ∀ (ct : Cx U) (A' : AF), ct.ρ = vals → ct.S = tm.S → Ok ct ⟨tm.tys, [], []⟩ → FrR ct tm.A A' → inA m A' → LP A' ct.σ
def keepA (tm : SA) (A' : AF) : AF := tm.map fun p => (p.1, lk A' p.1)
theorem lk_keep (A' : AF) : ∀ (tm : SA) (i : Nat), lk (keepA tm A') i = lk A' i ∧ (∃ p ∈ tm, p.1 = i) ∨ lk (keepA tm A') i = .c .un
  | [], i => .inr rfl
  | (j, p) :: r, i => by
    simp only [keepA, List.map_cons, lk_cons]
    by_cases hj : j = i
    · subst hj
      exact .inl ⟨by rw [if_pos rfl], _, List.mem_cons_self .., rfl⟩
    · rw [if_neg hj]
      rcases lk_keep A' r i with ⟨h1, p', hp, h2⟩ | h1
      · exact .inl ⟨h1, p', List.mem_cons_of_mem _ hp, h2⟩
      · exact .inr h1
theorem keep_lk (A' : AF) : ∀ (r : SA) {i : Nat} {p : SV}, (i, p) ∈ r → lk (keepA r A') i = lk A' i
  | [], i, p, h => by cases h
  | (j, q) :: r, i, p, hq => by
    simp only [keepA, List.map_cons, lk_cons]
    by_cases hj : j = i
    · rw [if_pos hj, hj]
    · rw [if_neg hj]
      rcases List.mem_cons.1 hq with hq | hq
      · cases hq; exact absurd rfl hj
      · exact keep_lk A' r hq
theorem cov_keep (A' : AF) : ∀ (r : SA), CovA (keepA r A') A'
  | [] => trivial
  | (j, q) :: r => ⟨rfl, cov_keep A' r⟩
theorem lkS_mem : ∀ {tm : SA} {i : Nat}, lkS tm i = .c .un ∨ ∃ p, (i, p) ∈ tm ∧ lkS tm i = p
  | [], i => .inl rfl
  | (j, p) :: r, i => by
    simp only [lkS]
    by_cases hj : j = i
    · subst hj
      rw [Nat.beq_refl]
      exact .inr ⟨p, List.mem_cons_self .., rfl⟩
    · rw [nbeq_false hj]
      rcases lkS_mem (tm := r) (i := i) with h | ⟨p', h1, h2⟩
      · exact .inl h
      · exact .inr ⟨p', List.mem_cons_of_mem _ h1, h2⟩
theorem head_ok (ok : Ok c e) {tm : Tmpl} {A : SA} {A' : AF} (hA : inA m A') (hf : FrR c A A') (ht : tmplOk tm = true) {θ1 θ2 : Th} (h1 : mA U.lay e tm A c.S tm.A (List.replicate tm.tys.length none) = some θ1) (h2 : mS U.lay e tm c.S tm.S c.S θ1 = some θ2)
    {l : List Tm} (h3 : allSome θ2 = some l) {n : Nat} (hn : n ≤ tm.S.length) {LP : AF → St → Prop} (hLP : ∀ A1 σ1 A2 σ2, inA m A1 → inA m A2 → GhostN n (toFr m A1) σ1 (toFr m A2) σ2 → LP A2 σ2 → LP A1 σ1)
    (h : AtHead (U := U) tm m n LP (l.map fun y => y.den c.ρ)) : LP A' c.σ := by
  have hθ0 : ThOk c tm.tys (List.replicate tm.tys.length none) := ⟨by simp, fun i x hi => by rw [nth_eq, List.getElem?_replicate] at hi; split at hi <;> simp at hi⟩
  obtain ⟨a1, a2, a3⟩ := mA_ok ok hf hθ0 h1
  obtain ⟨b1, b2, b3⟩ := mS_ok (s := 0) ok a2 (fun i x hi => by rw [Nat.zero_add, nth_eq]; exact hi) h2
  have hl := allSome_ok h3
  have hρ : thR c.ρ θ2 = l.map fun y => y.den c.ρ := by rw [hl]; simp [thR]
  have hS := b3 θ2 (ThLe.refl _)
  simp only [Nat.zero_add] at hS
  simp only [tmplOk, Bool.and_eq_true, List.all_eq_true] at ht
  have hlen : tm.S.length ≤ c.S.length := by
    rcases Nat.eq_zero_or_pos tm.S.length with h0 | h0
    · omega
    · obtain ⟨x, hx, _⟩ := hS (tm.S.length - 1) _ (List.getElem?_eq_getElem (by omega))
      rw [nth_eq] at hx
      have := (List.getElem?_eq_some_iff.1 hx).1
      omega
  -- the context at the head
  let k0 : Nat → Nat := fun o => match nth c.S o with | some (.arr _ k _ _ _ _) => k | _ => 0
  let ct : Cx U := ⟨thR c.ρ θ2, fun o => c.β o + k0 o * 4294967296, tm.S, c.σ.take tm.S.length⟩
  have hfresh : ∀ o k', freshS c.S o k' = true → k0 o = k' := fun o k' hfr => by
    obtain ⟨w, ty, sz, t, x, ho⟩ := fresh_ok ok hfr
    simp only [k0, ho]
  have hβ : ∀ o k', freshS c.S o k' = true → ct.β o = c.β o + k' * 4294967296 := fun o k' hfr => by
    show c.β o + k0 o * 4294967296 = _
    rw [hfresh o k' hfr]
  have hm : MCx c tm θ2 ct.β ct.ι := ⟨fun o k' hfr har => ⟨hβ o k' hfr, fun len hlen' => ?_⟩⟩
  rotate_left
  · unfold isArr at har
    split at har
    · rename_i w k ty sz t a ho
      rw [nth_eq] at ho
      obtain ⟨x, hx, hx1, hx2⟩ := hS o _ ho
      obtain ⟨hk, w', k'', a', rfl, hden⟩ := hx2 _ _ _ _ _ _ rfl
      obtain ⟨ys, gs, q1, q2, q3, q4, q5, q6⟩ := arr_at ok hx
      rw [q6] at hlen'
      cases hlen'
      subst hk
      simp only [Cx.ι, inf, ct, ho, hden _ q1, lenOf]
    · cases har
  have hok : Ok ct ⟨tm.tys, [], []⟩ := by
    refine ⟨?_, fun p hp => (by cases hp), fun x hx => (by cases hx), ?_, fun o so ho => ?_⟩
    · show tm.tys = (thR c.ρ θ2).map Dyn.t
      apply List.ext_getElem?
      intro i
      by_cases hi : i < tm.tys.length
      · have hi2 : i < θ2.length := by rw [b2.1]; exact hi
        obtain ⟨x, this⟩ : ∃ x, nth θ2 i = some (some x) := by
          have hi3 : i < l.length := by rw [hl] at hi2; simpa using hi2
          exact ⟨l[i], by rw [nth_eq, hl, List.getElem?_map, List.getElem?_eq_getElem hi3]; rfl⟩
        obtain ⟨d, t, g1, g2, g3⟩ := b2.2 i _ this
        rw [nth_eq] at g2
        rw [g2, List.getElem?_map, thR_get this g1]
        simp [g3]
      · rw [List.getElem?_eq_none (by omega), List.getElem?_eq_none (by rw [List.length_map, thR, List.length_map, b2.1]; omega)]
    · show tm.S.length = (c.σ.take tm.S.length).length
      rw [List.length_take, ← ok.len]
      omega
    · obtain ⟨x, hx, hx1, hx2⟩ := hS o so ho
      obtain ⟨ob, g1, g2⟩ := ok.get hx
      have hlt := (List.getElem?_eq_some_iff.1 ho).1
      exact ⟨ob, by show (c.σ.take tm.S.length)[o]? = _; rw [take_get hlt]; exact g1, hx1 ct.β ct.ι hm (hβ o) ob g2⟩
  have hkeep : inA m (keepA tm.A A') := fun i hi => by
    rcases lk_keep A' tm.A i with ⟨g1, _⟩ | g1
    · rw [g1]; exact hA i hi
    · exact g1
  have hfr : FrR ct tm.A (keepA tm.A A') := fun i => by
    rcases lkS_mem (tm := tm.A) (i := i) with g | ⟨p, g1, g2⟩
    · rw [g]; exact VR.un
    · rw [g2]
      have := a3 θ2 ct.β ct.ι b1 hm (i, p) g1
      rw [keep_lk A' tm.A g1]
      exact this
  have hLPt := h ct (keepA tm.A A') hρ rfl hok hfr hkeep
  refine hLP A' c.σ (keepA tm.A A') _ hA hkeep ?_ hLPt
  have cov : CovA (keepA tm.A A') A' := cov_keep A' tm.A
  refine (GhostN.of (cov.ghost hA c.σ)).trans (ghost_trim hn (fun i => ?_) ?_)
  · rw [toFr_get hkeep]
    rcases lk_keep A' tm.A i with ⟨g1, q, g2, g3⟩ | g1
    · obtain ⟨j, p⟩ := q
      simp only at g3
      subst g3
      rw [g1]
      exact under_vr (ht.1 _ g2) (a3 θ2 ct.β ct.ι b1 hm _ g2)
    · rw [g1]; rfl
  · rw [List.all_eq_true]
    intro ob hob
    obtain ⟨o, ho⟩ := List.mem_iff_getElem?.1 hob
    obtain ⟨hlt, ho'⟩ := get_take ho
    have g0 : tm.S[o]? = some tm.S[o] := List.getElem?_eq_getElem hlt
    obtain ⟨ob', g1, g2⟩ := hok.st o _ g0
    have : ob' = ob := by
      have g1' : (c.σ.take tm.S.length)[o]? = some ob' := g1
      rw [ho] at g1'
      exact (Option.some.inj g1').symm
    subst this
    exact under_or (ht.2 _ (List.getElem_mem hlt)) g2
end Go.Dm.Sx
namespace Go.Dm.Sx
open Go.Dm
set_option linter.unusedVariables false
set_option linter.unusedSimpArgs false
set_option linter.unusedSectionVars false
variable {U : Uni} {c c' c'' : Cx U} {e : SE} {Sp : List (FSpec U)} {Post : List (Dyn U.B) → Prop} {Go : Nat → List (Dyn U.B) → Prop} {P : Program} {X : SEnv} {call : CallS} {m : Nat}
variable [Pures]
theorem own_ok {n : Nat} : ∀ (own : List (Nat × Nat × Nat × Ty)) {c : Cx U} (ok : Ok c e) {A : SA} {A' : AF} (hA : inA m A') (hf : FrR c A A') {A2 : SA} {S2 : SSt} (h : ownS own m U.lay A c.S = some (A2, S2)),
    ∃ c2 A2', GhostN n (toFr m A') c.σ (toFr m A2') c2.σ ∧ Ok c2 e ∧ c2.S = S2 ∧ c2.ρ = c.ρ ∧ FrR c2 A2 A2' ∧ inA m A2'
  | [], c, ok, A, A', hA, hf, A2, S2, h => by
    simp only [ownS, Option.some.injEq, Prod.mk.injEq] at h
    obtain ⟨rfl, rfl⟩ := h
    exact ⟨c, A', GhostN.refl _ _ _, ok, rfl, rfl, hf, hA⟩
  | (d, ty, sz, t) :: r, c, ok, A, A', hA, hf, A2, S2, h => by
    simp only [ownS] at h
    split at h
    · rename_i hd
      split at h
      · rename_i e1 e2 e3
        have e1 := beq_nat e1
        rw [wid_eq] at e1
        have e2 := ble_nat e2
        have e3 := blt_nat e3
        have hv := hf d
        rw [hd] at hv
        obtain ⟨y, hy, h0⟩ := V_c (by simp) hv
        simp only [CR] at h0
        subst h0
        obtain ⟨g1, g2, g3⟩ := add_arr ok (l := .nil t) (xs := ([] : List (T U.B t))) (fs := []) rfl rfl e1 e2
        have gh := ghost_nil (fr := toFr m A') (σ := c.σ) (d := d) (ep := ty) (sz := sz) (by rw [toFr_get hA]; exact hy)
        have hp : (toFr m A').set d (.c (.rs c.σ.length ty 0)) = toFr m (putA m A' (some d) (.c (.rs c.σ.length ty 0))) := (toFr_put (A := A') (some d) _).symm
        have hf2 : FrR (c.add ty (.arr true 0 ty sz t (.nil t)) (.arr true ty sz [])) ((d, .c (.rs c.S.length 0)) :: A) (putA m A' (some d) (.c (.rs c.σ.length ty 0))) := by
          have := (hf.later g1).put (m := m) (some d) g3
          unfold putS at this
          simp only [blt_true e3] at this
          exact this
        obtain ⟨c2, A2', q1, q2, q3, q4, q5, q6⟩ := own_ok r g2 (putA_in hA _ _) hf2 h
        rw [hp] at gh
        exact ⟨c2, A2', (GhostN.of gh).trans q1, q2, q3, q4, q5, q6⟩
      · cases h
    · exact own_ok r ok hA hf h
theorem owo_ok {n : Nat} : ∀ (own : List (Nat × Nat × Nat × Nat × Ty)) {c : Cx U} (ok : Ok c e) {A : SA} {A' : AF} (hA : inA m A') (hf : FrR c A A') {S2 : SSt} (h : ownO own U.lay c.S = some S2),
    ∃ c2, GhostN n (toFr m A') c.σ (toFr m A') c2.σ ∧ Ok c2 e ∧ c2.S = S2 ∧ c2.ρ = c.ρ ∧ FrR c2 A A'
  | [], c, ok, A, A', hA, hf, S2, h => by
    simp only [ownO, Option.some.injEq] at h
    subst h
    exact ⟨c, GhostN.refl _ _ _, ok, rfl, rfl, hf⟩
  | (o, j, ty, sz, t) :: r, c, ok, A, A', hA, hf, S2, h => by
    simp only [ownO] at h
    split at h
    · rename_i l ho
      split at h
      · rename_i hj
        split at h
        · rename_i e1 e2
          have e1 := beq_nat e1
          rw [wid_eq] at e1
          have e2 := ble_nat e2
          obtain ⟨ob, h1, l', rfl, h2⟩ := ok.get ho
          rw [nth_eq] at ho hj
          have hlt := (List.getElem?_eq_some_iff.1 ho).1
          obtain ⟨y, hy, h0⟩ := h2.get hj
          simp only [CR] at h0
          subst h0
          obtain ⟨g1, g2, g3⟩ := add_arr ok (l := .nil t) (xs := ([] : List (T U.B t))) (fs := []) rfl rfl e1 e2
          have ho' : nth (c.add ty (.arr true 0 ty sz t (.nil t)) (.arr true ty sz [])).S o = some (.cells l) := by
            rw [nth_eq]
            show (c.S ++ [_])[o]? = _
            rw [List.getElem?_append_left hlt]; exact ho
          obtain ⟨y0, hy0, h3⟩ := V_c (by simp) g3
          cases hy0
          have h4 : CRs _ _ _ (l.set j (.rs c.S.length 0)) (l'.set j (.rs c.σ.length ty 0)) := (CRs.later g1 h2).set j h3
          obtain ⟨k1, k2⟩ := set_cells (so' := .cells (l.set j (.rs c.S.length 0))) (ob' := .cells (l'.set j (.rs c.σ.length ty 0))) g2 ho' (by simp) fun ρ β ι hl => ⟨_, rfl, CRs.later hl h4⟩
          have gh := ghost_nilo (fr := toFr m A') (σ := c.σ) (o := o) (j := j) (ep := ty) (sz := sz) h1 hy
          rw [put_eq, put_eq] at h
          obtain ⟨c2, q1, q2, q3, q4, q5⟩ := owo_ok r k2 hA (hf.later (g1.trans k1)) h
          exact ⟨c2, (GhostN.of gh).trans q1, q2, q3, q4, q5⟩
        · cases h
      · exact owo_ok r ok hA hf h
    · exact owo_ok r ok hA hf h
theorem go1_ok (ok : Ok c e) {tm : Tmpl} {i : Nat} {A : SA} {A' : AF} (hA : inA m A') (hf : FrR c A A') {n : Nat} {LP : AF → St → Prop} (hLP : ∀ A1 σ1 A2 σ2, inA m A1 → inA m A2 → GhostN n (toFr m A1) σ1 (toFr m A2) σ2 → LP A2 σ2 → LP A1 σ1)
    (hn : n ≤ tm.S.length) (hGo : ∀ vals, Go i vals → AtHead tm m n LP vals) (h : TDen Sp Post Go (go1 U.lay m tm i e A c.S) c.ρ) : LP A' c.σ := by
  unfold go1 at h
  split at h
  · rename_i A2 S2 ht hown
    obtain ⟨c1, A2', q1, q2, rfl, q4, q5, q6⟩ := own_ok (n := n) tm.own ok hA hf hown
    split at h
    · exact h.elim
    rename_i S3 howo
    obtain ⟨c2, r1, r2, rfl, r4, r5⟩ := owo_ok (n := n) tm.owo q2 q6 q5 howo
    refine hLP _ _ _ _ hA q6 (q1.trans r1) ?_
    replace q2 := r2
    replace q4 := r4.trans q4
    replace q5 := r5
    split at h
    · exact h.elim
    · rename_i θ1 h1
      split at h
      · exact h.elim
      · rename_i θ2 h2
        split at h
        · rename_i l hl
          rw [← q4] at h
          exact head_ok q2 q6 q5 ht h1 h2 hl hn hLP (hGo _ h)
        · exact h.elim
  · exact h.elim
theorem goF_cases {lay : Nat → List Ty} {n j : Nat} {A : SA} {S : SSt} {ρ : Rho U} : ∀ (r : List Tmpl) (i : Nat), TDen Sp Post Go (goF lay m n j e A S r i) ρ → ∃ k tm, r[k]? = some tm ∧ tm.q = j ∧ n ≤ tm.S.length ∧ TDen Sp Post Go (go1 lay m tm (i + k) e A S) ρ
  | [], i, h => h.elim
  | tm :: r, i, h => by
    have next : TDen Sp Post Go (goF lay m n j e A S r (i + 1)) ρ → ∃ k tm', (tm :: r)[k]? = some tm' ∧ tm'.q = j ∧ n ≤ tm'.S.length ∧ TDen Sp Post Go (go1 lay m tm' (i + k) e A S) ρ := fun h => by
      obtain ⟨k, tm', h1, h2, h3, h4⟩ := goF_cases r (i + 1) h
      exact ⟨k + 1, tm', by simpa using h1, h2, h3, by rw [show i + (k + 1) = i + 1 + k by omega]; exact h4⟩
    unfold goF at h
    split at h
    · rename_i e1 e2
      split at h
      · exact next h
      · exact ⟨0, tm, rfl, beq_nat e1, ble_nat e2, h⟩
    · exact next h
theorem go_ok (ok : Ok c e) {tms : List Tmpl} {j : Nat} {A : SA} {A' : AF} (hA : inA m A') (hf : FrR c A A') {n n0 : Nat} {LP : AF → St → Prop} (hLP : ∀ A1 σ1 A2 σ2, inA m A1 → inA m A2 → GhostN n (toFr m A1) σ1 (toFr m A2) σ2 → LP A2 σ2 → LP A1 σ1)
    (hn : n ≤ n0) (hGo : ∀ i tm vals, nth tms i = some tm → tm.q = j → n0 ≤ tm.S.length → Go i vals → AtHead tm m n LP vals) (h : TDen Sp Post Go (goF U.lay m n0 j e A c.S tms 0) c.ρ) : LP A' c.σ := by
  obtain ⟨k, tm, h1, h2, h3, h4⟩ := goF_cases tms 0 h
  rw [Nat.zero_add] at h4
  exact go1_ok ok hA hf hLP (Nat.le_trans hn h3) (fun vals hG => hGo k tm vals (by rw [nth_eq]; exact h1) h2 h3 hG) h4
theorem ghost_hard {fr : Fr} {σ σ' : St} {i : Nat} {v : V} (h : hardV (fr.getD i (.c .un)) σ = some (v, σ')) : Ghost fr σ (fr.set i v) σ' := by
  intro g w tmps hr hf
  obtain ⟨g', h1, h2, h3⟩ := hardV_ok hr h (hf.2 i)
  refine ⟨g', h1, h2, by simpa using hf.1, fun j => ?_⟩
  by_cases hj : j = i
  · subst hj
    by_cases hl : j < fr.length
    · rw [show (fr.set j v).getD j (.c .un) = v from by simp [List.getD, hl]]
      exact h3
    · rw [show fr.set j v = fr from List.set_eq_of_length_le (by omega)]
      exact (hf.turn h2).2 j
  · rw [show (fr.set i v).getD j (.c .un) = fr.getD j (.c .un) from by simp [List.getD, List.getElem?_set_ne (Ne.symm hj)]]
    exact (hf.turn h2).2 j
theorem frzT_ok {n : Nat} : ∀ (l : List Nat) {c : Cx U} (ok : Ok c e) {A : SA} {A' : AF} (hA : inA m A') (hf : FrR c A A') {A2 : SA} {S2 : SSt} (h : frzT m l A c.S = (A2, S2)),
    ∃ c2 A2', GhostN n (toFr m A') c.σ (toFr m A2') c2.σ ∧ Le c c2 ∧ Ok c2 e ∧ c2.S = S2 ∧ c2.ρ = c.ρ ∧ FrR c2 A2 A2' ∧ inA m A2'
  | [], c, ok, A, A', hA, hf, A2, S2, h => by
    simp only [frzT, Prod.mk.injEq] at h
    obtain ⟨rfl, rfl⟩ := h
    exact ⟨c, A', GhostN.refl _ _ _, Le.refl c, ok, rfl, rfl, hf, hA⟩
  | i :: r, c, ok, A, A', hA, hf, A2, S2, h => by
    simp only [frzT] at h
    split at h
    · rename_i o kk hi
      split at h
      · rename_i x S' e1 e2
        have e2 := blt_nat e2
        have hv := hf i
        rw [hi] at hv
        obtain ⟨c1, v', g1, rfl, g3, g4, g5, g6, g7⟩ := frzV_ok ok hv e1
        have gh := ghost_hard (fr := toFr m A') (σ := c.σ) (i := i) (v := v') (by rw [toFr_get hA]; exact g6)
        have hp : (toFr m A').set i v' = toFr m (putA m A' (some i) v') := (toFr_put (A := A') (some i) _).symm
        have hf2 : FrR c1 ((i, x) :: A) (putA m A' (some i) v') := by
          have := (hf.later g1).put (m := m) (some i) g5
          unfold putS at this
          simp only [blt_true e2] at this
          exact this
        obtain ⟨c2, A2', q1, q2, q3, q4, q5, q6, q7⟩ := frzT_ok r g4 (putA_in hA _ _) hf2 h
        rw [hp] at gh
        exact ⟨c2, A2', (GhostN.of gh).trans q1, g1.trans q2, q3, q4, q5.trans g3, q6, q7⟩
      · exact frzT_ok r ok hA hf h
    · exact frzT_ok r ok hA hf h
def XEnd.exit' : XEnd → Exit
  | .norm => .normal
  | .exit i => .exit i
  | .ret => .ret
def nlC : Code → Nat
  | .seq a b => nlC a + nlC b
  | .cond _ a b => nlC a + nlC b
  | .block _ c => nlC c
  | .loop c => nlC c + 1
  | _ => 0
theorem nl_eq {tb : Tab} {H : Hints} : ∀ (c : Code), nl (ycomp tb (stlW tb) H c) = nlC c
  | .seq a b => by simp only [ycomp, nl, nlC, nl_eq a, nl_eq b]
  | .cond x a b => by simp only [ycomp, nl, nlC, nl_eq a, nl_eq b]
  | .block id c => by simp only [ycomp, nl, nlC, nl_eq c]
  | .loop c => by simp only [ycomp, nl, nlC, nl_eq c]
  | .region id ops draw => by
    simp only [ycomp, nlC]
    cases draw with
    | false => rfl
    | true =>
      simp only
      split
      · split <;> rfl
      · rfl
  | .skip => rfl
  | .exit id => rfl
  | .label l => rfl
  | .goto l => rfl
  | .ret => rfl
  | .refuse w => rfl
  | .rangeFunc .. => rfl
  | .scope c => rfl
def lpInfo (P : Program) (n m : Nat) : Code → Nat → PostA → Nat → Option (Code × PostA)
  | .seq a b, p, K, q => (match Nat.blt q (p + nlC a) with | true => lpInfo P n m a p (PostA.then (fun A σ => inA m A → DWp P n b (low m K) (toFr m A) σ) K) q | false => lpInfo P n m b (p + nlC a) K q)
  | .cond _ a b, p, K, q => (match Nat.blt q (p + nlC a) with | true => lpInfo P n m a p K q | false => lpInfo P n m b (p + nlC a) K q)
  | .block id c, p, K, q => lpInfo P n m c p (PostA.inBlock id K) q
  | .loop c, p, K, q => (match Nat.beq q p with | true => some (c, K) | false => lpInfo P n m c (p + 1) (PostA.then (fun A σ => LoopAt P n c (low m K) (toFr m A) σ) K) q)
  | _, _, _, _ => none
def LoopQ (P : Program) (n m : Nat) (c : Code) (p : Nat) (K : PostA) (q : Nat) (A : AF) (σ : St) : Prop :=
  match lpInfo P n m c p K q with
  | some (c', K') => LoopAt P n c' (low m K') (toFr m A) σ
  | none => False
theorem loopQ_ghost {n : Nat} {cd : Code} {p : Nat} {K : PostA} {q : Nat} (A1 : AF) (σ1 : St) (A2 : AF) (σ2 : St) (h : GhostN n (toFr m A1) σ1 (toFr m A2) σ2) (hl : LoopQ P n m cd p K q A2 σ2) : LoopQ P n m cd p K q A1 σ1 := by
  unfold LoopQ at hl ⊢
  split at hl
  · exact loop_ghostN h hl
  · exact hl.elim
theorem then_low {f : AF → St → Prop} {K : PostA} {next : Fr → St → Prop} (hf : ∀ A σ, inA m A → f A σ → next (toFr m A) σ) {e : Exit} {fr : Fr} {σ : St} (h : low m (PostA.then f K) e fr σ) : Dm.Post.then next (low m K) e fr σ := by
  obtain ⟨A, h1, rfl, h2⟩ := h
  cases e with
  | normal => exact hf A σ h1 h2
  | _ => exact ⟨A, h1, rfl, h2⟩
section
variable (hm : P.follows .mixedOrders = true) (tok : TabOk P X.tb) (hcall : CallSOk (U := U) P Sp Post Go call) (hpure : PureSOk (U := U) P Sp Post Go X) (hX : X.lay = U.lay) {lp : Nat → KS} {R : Cx U → Prop} (hR : ∀ c c', R c → Le c c' → R c')
  {n : Nat} {LP : Nat → AF → St → Prop} (hlp : ∀ q (c : Cx U) e A A', Ok c e → FrR c A A' → inA m A' → TDen Sp Post Go (lp q e A c.S) c.ρ → LP q A' c.σ) {H : Hints}
include hm tok hcall hpure hX hR hlp
theorem sxc_ok {cd : Code} : ∀ {p : Nat} {K : PostA} {k : KC} {c : Cx U} {e : SE} {A : SA} {A' : AF}, hintsOk X.tb (stlW X.tb) H cd = true → (∀ q, p ≤ q → q < p + nlC cd → ∀ A σ, LP q A σ → LoopQ P n m cd p K q A σ) →
    (∀ x (c' : Cx U) e' A A', R c' → Ok c' e' → FrR c' A A' → inA m A' → TDen Sp Post Go (k x e' A c'.S) c'.ρ → K x.exit' A' c'.σ) → R c → Ok c e → inA m A' → FrR c A A' →
    TDen Sp Post Go (sxc X call m lp (ycomp X.tb (stlW X.tb) H cd) p k e A c.S) c.ρ → DWp P n cd (low m K) (toFr m A') c.σ := by
  induction cd with
  | skip => intro p K k c e A A' hh hL hk r ok hA hf h g w a hr hfr hd; exact wp_skip (here_ok ⟨A', hA, rfl, hk .norm c e A A' r ok hf hA h⟩ hr hfr hd)
  | label l => intro p K k c e A A' hh hL hk r ok hA hf h g w a hr hfr hd; exact wp_label (here_ok ⟨A', hA, rfl, hk .norm c e A A' r ok hf hA h⟩ hr hfr hd)
  | exit id => intro p K k c e A A' hh hL hk r ok hA hf h g w a hr hfr hd; exact wp_exit (here_ok ⟨A', hA, rfl, hk (.exit id) c e A A' r ok hf hA h⟩ hr hfr hd)
  | ret => intro p K k c e A A' hh hL hk r ok hA hf h g w a hr hfr hd; exact wp_ret (here_ok ⟨A', hA, rfl, hk .ret c e A A' r ok hf hA h⟩ hr hfr hd)
  | region id ops draw =>
    intro p K k c e A A' hh hL hk r ok hA hf h g w a hr hfr hd
    cases draw with
    | false =>
      refine wp_region ?_
      rw [List.range_eq_range']
      obtain ⟨A2, S2, hfz⟩ : ∃ A2 S2, frzT m (cutL false (ops.toList.map (sitem X.tb ops))) A c.S = (A2, S2) := ⟨_, _, rfl⟩
      obtain ⟨c2, A2', z1, z2, z3, rfl, z5, z6, z7⟩ := frzT_ok (n := n) _ ok hA hf hfz
      replace h : TDen Sp Post Go (match frzT m (cutL false (ops.toList.map (sitem X.tb ops))) A c.S with | (A, S) => sxs X call m (ops.toList.map (sitem X.tb ops)) e A S (k .norm)) c.ρ := h
      rw [hfz] at h
      replace h : TDen Sp Post Go (sxs X call m (ops.toList.map (sitem X.tb ops)) e A2 c2.S (k .norm)) c.ρ := h
      rw [← z5] at h
      obtain ⟨g2, hr2, ht2, hfr2⟩ := z1 g w a.tmps hr hfr
      have hs : wseq (wx P) (fun _ => false) X.tb m (fun A σ => inA m A → K .normal A σ) (ops.toList.map (sitem X.tb ops)) A2' c2.σ :=
        sxs_ok hcall hX _ z3 z7 z6 (K := fun A σ => inA m A → K .normal A σ) (fun c' e' A1 A1' g1 g2 g3 g4 hA1 => hk .norm c' e' A1 A1' (hR _ _ r (z2.trans g1)) g2 g3 hA1 g4) h
      refine wseq_ok (K := fun A σ => inA m A → K .normal A σ) tok ops.size 0 (by omega) hr2 z7 hfr2 hd hs fun a' w' h' => ?_
      obtain ⟨fr', σ', g', ⟨A1, h0, rfl, h1⟩, h2, h3, h4, h5⟩ := h'
      exact ⟨_, σ', g', ⟨A1, h0, rfl, h1 h0⟩, h2, ht2.trans (h3.n n), h4, h5⟩
    | true =>
      simp only [ycomp] at h
      simp only [hintsOk] at hh
      split at h
      · rename_i s hs
        rw [hs] at hh
        simp only at hh
        split at h
        · rename_i y hy
          obtain ⟨A2, S2, hfz⟩ : ∃ A2 S2, frzT m (cutL true (itemsU y)) A c.S = (A2, S2) := ⟨_, _, rfl⟩
          obtain ⟨c2, A2', z1, z2, z3, rfl, z5, z6, z7⟩ := frzT_ok (n := n) _ ok hA hf hfz
          replace h : TDen Sp Post Go (match frzT m (cutL true (itemsU y)) A c.S with | (A, S) => sxt X call m y (k .norm) e A S) c.ρ := h
          rw [hfz] at h
          replace h : TDen Sp Post Go (sxt X call m y (k .norm) e A2 c2.S) c.ρ := h
          rw [← z5] at h
          obtain ⟨g2, hr2, ht2, hfr2⟩ := z1 g w a.tmps hr hfr
          obtain ⟨d1, d2⟩ := drew_rep hr2
          refine wp_region_any hm ?_
          replace ok := z3; replace hA := z7; replace hf := z6; replace hfr := hfr2
          replace r := hR _ _ r z2
          have ht := sxt_ok hcall hpure hX y ok hA hf (K := K .normal) (fun A1 A1' c' e' g1 g2 g3 g4 g5 => hk .norm c' e' A1 A1' (hR _ _ r g1) g2 g3 g4 g5) h
          have hp : pAnyW P X.tb ops (lowF m (K .normal)) ops.size (Array.replicate ops.size false) (toFr m A2') c2.σ :=
            wtree_ok (K := lowF m (K .normal)) s true (allRun ops) _ _ hA hh hy ht fun n' l' A' σ' hk hA' hK => by
              have hr := nilB_eq hk
              cases n' with
              | zero => exact ⟨hr, A', hA', rfl, hK⟩
              | succ n' => exact ⟨fun _ => ⟨A', hA', rfl, hK⟩, fun i hi => by rw [hr] at hi; cases hi⟩
          exact pAny_sound tok _ _ d1 (hfr.turn d2) hd (pAnyW_weak _ hp) fun a' w' h' => ((h'.n n).trans (d2.n n)).trans ht2
        · exact h.elim
      · exact h.elim
  | seq x y ihx ihy =>
    intro p K k c e A A' hh hL hk r ok hA hf h g w a hr hfr hd
    obtain ⟨hx0, hy0⟩ := hints_two (x := hintsOk X.tb (stlW X.tb) H x) (y := hintsOk X.tb (stlW X.tb) H y) hh
    simp only [ycomp, sxc, nl_eq] at h
    have h1 := ihx (K := PostA.then (fun A σ => inA m A → DWp P n y (low m K) (toFr m A) σ) K) hx0 (fun q hq1 hq2 A σ hlq => ?_) (fun z c' e' A1 A1' r' ok' hf' hA1 hz => ?_) r ok hA hf h
    · refine wp_seq (wp_mono (h1 g w a hr hfr hd) fun ex a' w' h' => ?_)
      obtain ⟨fr', σ', g', ⟨A1, h0, rfl, h2⟩, h3, h4, h5, h6⟩ := (show LiftsN n g w c.σ (low m _ ex) a' w' from h')
      cases ex with
      | normal => exact wp_mono (h2 h0 g' w' a' h3 h5 h6) fun e a'' w'' h6 => h6.trans h4
      | _ => exact ⟨_, σ', g', ⟨A1, h0, rfl, h2⟩, h3, h4, h5, h6⟩
    · have := hL q hq1 (by simp only [nlC]; omega) A σ hlq
      unfold LoopQ at this ⊢
      simpa only [lpInfo, blt_true hq2] using this
    · cases z with
      | norm =>
        intro hA1
        refine ihy (p := p + nlC x) hy0 (fun q hq1 hq2 A σ hlq => ?_) hk r' ok' hA1 hf' hz
        have := hL q (by omega) (by simp only [nlC]; omega) A σ hlq
        unfold LoopQ at this ⊢
        simpa only [lpInfo, blt_false (show ¬ q < p + nlC x from by omega)] using this
      | exit i => exact hk (.exit i) c' e' A1 A1' r' ok' hf' hA1 hz
      | ret => exact hk .ret c' e' A1 A1' r' ok' hf' hA1 hz
  | cond cn x y ihx ihy =>
    intro p K k c e A A' hh hL hk r ok hA hf h g w a hr hfr hd
    obtain ⟨hx0, hy0⟩ := hints_two (x := hintsOk X.tb (stlW X.tb) H x) (y := hintsOk X.tb (stlW X.tb) H y) hh
    simp only [ycomp, sxc, nl_eq] at h
    have hc := opd_rep hfr cn
    rw [toFr_opd hA] at hc
    split at h
    · rename_i b hb
      have hv := op_ok hf cn
      rw [hb] at hv
      obtain ⟨t, e1, h1⟩ := vr_bool hv
      rw [e1] at hc
      have hv : a.eval cn = .bool t := hc
      obtain ⟨e', ok', h'⟩ := br_ok ok h1 h
      cases t with
      | true =>
        refine wp_cond_true hv (ihx hx0 (fun q hq1 hq2 A σ hlq => ?_) hk r ok' hA hf h' g w a hr hfr hd)
        have := hL q hq1 (by simp only [nlC]; omega) A σ hlq
        unfold LoopQ at this ⊢
        simpa only [lpInfo, blt_true hq2] using this
      | false =>
        refine wp_cond_false hv (ihy (p := p + nlC x) hy0 (fun q hq1 hq2 A σ hlq => ?_) hk r ok' hA hf h' g w a hr hfr hd)
        have := hL q (by omega) (by simp only [nlC]; omega) A σ hlq
        unfold LoopQ at this ⊢
        simpa only [lpInfo, blt_false (show ¬ q < p + nlC x from by omega)] using this
    · exact h.elim
  | block id cb ih =>
    intro p K k c e A A' hh hL hk r ok hA hf h g w a hr hfr hd
    have h1 := ih (K := PostA.inBlock id K) (k := blockK id k) hh (fun q hq1 hq2 A σ hlq => hL q hq1 hq2 A σ hlq) (fun z c' e' A1 A1' r' ok' hf' hA1 hz => ?_) r ok hA hf h
    · refine wp_block (wp_mono (h1 g w a hr hfr hd) fun ex a' w' h' => ?_)
      cases ex with
      | exit j =>
        obtain ⟨fr', σ', g', ⟨A1, h0, rfl, h2⟩, h3⟩ := h'
        simp only [Exit.inBlock]
        have h2' : (match Nat.beq j id with | true => K .normal A1 σ' | false => K (.exit j) A1 σ') := h2
        by_cases hj : j = id
        · subst hj
          rw [if_pos rfl]
          rw [Nat.beq_refl] at h2'
          exact ⟨_, σ', g', ⟨A1, h0, rfl, h2'⟩, h3⟩
        · rw [if_neg hj]
          rw [nbeq_false hj] at h2'
          exact ⟨_, σ', g', ⟨A1, h0, rfl, h2'⟩, h3⟩
      | _ => exact h'
    · cases z with
      | norm => exact hk .norm c' e' A1 A1' r' ok' hf' hA1 hz
      | exit j =>
        show (match Nat.beq j id with | true => K .normal A1' c'.σ | false => K (.exit j) A1' c'.σ)
        simp only [blockK] at hz
        cases hj : Nat.beq j id with
        | true => rw [hj] at hz; exact hk .norm c' e' A1 A1' r' ok' hf' hA1 hz
        | false => rw [hj] at hz; exact hk (.exit j) c' e' A1 A1' r' ok' hf' hA1 hz
      | ret => exact hk .ret c' e' A1 A1' r' ok' hf' hA1 hz
  | loop cb ih =>
    intro p K k c e A A' hh hL hk r ok hA hf h g w a hr hfr hd b kk cs
    have hq := hL p (Nat.le_refl _) (by simp only [nlC]; omega) A' c.σ (hlp p c e A A' ok hf hA h)
    unfold LoopQ at hq
    simp only [lpInfo, Nat.beq_refl] at hq
    obtain ⟨ex, a', w', h1, h2⟩ := hq g w a hr hfr hd b kk cs
    exact ⟨ex, a', w', h1, .of_steps (.one step_loop) h2⟩
  | _ => intro p K k c e A A' hh hL hk r ok hA hf h; exact h.elim
theorem sxl_ok {q : Nat} (hall : ∀ c, R c) {cd : Code} : ∀ {p : Nat} {K : PostA} {k : KC} {c : Cx U} {e : SE} {A : SA} {A' : AF}, hintsOk X.tb (stlW X.tb) H cd = true → (∀ q', p ≤ q' → q' < p + nlC cd → ∀ A σ, LP q' A σ → LoopQ P n m cd p K q' A σ) → p ≤ q → q < p + nlC cd →
    (∀ x (c' : Cx U) e' A A', Ok c' e' → FrR c' A A' → inA m A' → TDen Sp Post Go (k x e' A c'.S) c'.ρ → K x.exit' A' c'.σ) → Ok c e → inA m A' → FrR c A A' →
    TDen Sp Post Go (sxl X call m lp q (ycomp X.tb (stlW X.tb) H cd) p k e A c.S) c.ρ → LoopQ P n m cd p K q A' c.σ := by
  induction cd with
  | seq x y ihx ihy =>
    intro p K k c e A A' hh hL hq1 hq2 hk ok hA hf h
    obtain ⟨hx0, hy0⟩ := hints_two (x := hintsOk X.tb (stlW X.tb) H x) (y := hintsOk X.tb (stlW X.tb) H y) hh
    simp only [ycomp, sxl, nl_eq] at h
    have hLy : ∀ q', p + nlC x ≤ q' → q' < p + nlC x + nlC y → ∀ A σ, LP q' A σ → LoopQ P n m y (p + nlC x) K q' A σ := fun q' h1 h2 A σ hlq => by
      have := hL q' (by omega) (by simp only [nlC]; omega) A σ hlq
      unfold LoopQ at this ⊢
      simpa only [lpInfo, blt_false (show ¬ q' < p + nlC x from by omega)] using this
    by_cases hlt : q < p + nlC x
    · rw [blt_true hlt] at h
      have := ihx (K := PostA.then (fun A σ => inA m A → DWp P n y (low m K) (toFr m A) σ) K) hx0 (fun q' h1 h2 A σ hlq => by
        have := hL q' h1 (by simp only [nlC]; omega) A σ hlq
        unfold LoopQ at this ⊢
        simpa only [lpInfo, blt_true h2] using this) hq1 hlt (fun z c' e' A1 A1' ok' hf' hA1 hz => ?_) ok hA hf h
      · unfold LoopQ at this ⊢
        simpa only [lpInfo, blt_true hlt] using this
      · cases z with
        | norm => exact fun hA1 => sxc_ok hm tok hcall hpure hX hR hlp hy0 hLy (fun x c' e' A A' _ => hk x c' e' A A') (hall c') ok' hA1 hf' hz
        | exit i => exact hk (.exit i) c' e' A1 A1' ok' hf' hA1 hz
        | ret => exact hk .ret c' e' A1 A1' ok' hf' hA1 hz
    · rw [blt_false hlt] at h
      have := ihy hy0 hLy (by omega) (by simp only [nlC] at hq2; omega) hk ok hA hf h
      unfold LoopQ at this ⊢
      simpa only [lpInfo, blt_false hlt] using this
  | cond cn x y ihx ihy =>
    intro p K k c e A A' hh hL hq1 hq2 hk ok hA hf h
    obtain ⟨hx0, hy0⟩ := hints_two (x := hintsOk X.tb (stlW X.tb) H x) (y := hintsOk X.tb (stlW X.tb) H y) hh
    simp only [ycomp, sxl, nl_eq] at h
    by_cases hlt : q < p + nlC x
    · rw [blt_true hlt] at h
      have := ihx hx0 (fun q' h1 h2 A σ hlq => by
        have := hL q' h1 (by simp only [nlC]; omega) A σ hlq
        unfold LoopQ at this ⊢
        simpa only [lpInfo, blt_true h2] using this) hq1 hlt hk ok hA hf h
      unfold LoopQ at this ⊢
      simpa only [lpInfo, blt_true hlt] using this
    · rw [blt_false hlt] at h
      have := ihy (p := p + nlC x) hy0 (fun q' h1 h2 A σ hlq => by
        have := hL q' (by omega) (by simp only [nlC]; omega) A σ hlq
        unfold LoopQ at this ⊢
        simpa only [lpInfo, blt_false (show ¬ q' < p + nlC x from by omega)] using this) (by omega) (by simp only [nlC] at hq2; omega) hk ok hA hf h
      unfold LoopQ at this ⊢
      simpa only [lpInfo, blt_false hlt] using this
  | block id cb ih =>
    intro p K k c e A A' hh hL hq1 hq2 hk ok hA hf h
    refine ih (K := PostA.inBlock id K) (k := blockK id k) hh (fun q' h1 h2 A σ hlq => hL q' h1 h2 A σ hlq) hq1 hq2 (fun z c' e' A1 A1' ok' hf' hA1 hz => ?_) ok hA hf h
    cases z with
    | norm => exact hk .norm c' e' A1 A1' ok' hf' hA1 hz
    | exit j =>
      show (match Nat.beq j id with | true => K .normal A1' c'.σ | false => K (.exit j) A1' c'.σ)
      simp only [blockK] at hz
      cases hj : Nat.beq j id with
      | true => rw [hj] at hz; exact hk .norm c' e' A1 A1' ok' hf' hA1 hz
      | false => rw [hj] at hz; exact hk (.exit j) c' e' A1 A1' ok' hf' hA1 hz
    | ret => exact hk .ret c' e' A1 A1' ok' hf' hA1 hz
  | loop cb ih =>
    intro p K k c e A A' hh hL hq1 hq2 hk ok hA hf h
    have inner : ∀ q', p + 1 ≤ q' → q' < p + 1 + nlC cb → ∀ A σ, LP q' A σ → LoopQ P n m cb (p + 1) (PostA.then (fun A σ => LoopAt P n cb (low m K) (toFr m A) σ) K) q' A σ := fun q' h1 h2 A σ hlq => by
      have := hL q' (by omega) (by simp only [nlC]; omega) A σ hlq
      unfold LoopQ at this ⊢
      simpa only [lpInfo, nbeq_false (show ¬ q' = p from by omega)] using this
    have kk : ∀ x (c' : Cx U) e' A A', Ok c' e' → FrR c' A A' → inA m A' → TDen Sp Post Go (thenK k (lp p) x e' A c'.S) c'.ρ → PostA.then (fun A σ => LoopAt P n cb (low m K) (toFr m A) σ) K x.exit' A' c'.σ := by
      intro z c' e' A1 A1' ok' hf' hA1 hz
      cases z with
      | norm =>
        have := hL p (Nat.le_refl _) (by simp only [nlC]; omega) A1' c'.σ (hlp p c' e' A1 A1' ok' hf' hA1 hz)
        unfold LoopQ at this
        simp only [lpInfo, Nat.beq_refl] at this
        exact this
      | exit i => exact hk (.exit i) c' e' A1 A1' ok' hf' hA1 hz
      | ret => exact hk .ret c' e' A1 A1' ok' hf' hA1 hz
    simp only [ycomp, sxl] at h
    by_cases heq : q = p
    · subst heq
      rw [Nat.beq_refl] at h
      have hw := sxc_ok (cd := cb) hm tok hcall hpure hX hR hlp (K := PostA.then (fun A σ => LoopAt P n cb (low m K) (toFr m A) σ) K) hh inner (fun x c' e' A A' _ => kk x c' e' A A') (hall c) ok hA hf h
      unfold LoopQ
      simp only [lpInfo, Nat.beq_refl]
      exact loop_round (hw.mono fun ex fr σ' hk' => then_low (fun A σ _ h => h) hk')
    · rw [nbeq_false heq] at h
      have := ih hh inner (by omega) (by simp only [nlC] at hq2; omega) kk ok hA hf h
      unfold LoopQ at this ⊢
      simpa only [lpInfo, nbeq_false heq] using this
  | _ => intro p K k c e A A' hh hL hq1 hq2; simp only [nlC] at hq2; omega
end
end Go.Dm.Sx
namespace Go.Dm
set_option linter.unusedVariables false
abbrev Spec := List V → St → Rs (V × St)
def spSame : Spec := fun l σ => match l with | [x] => some [(x, σ)] | _ => none
def idxFrom (c : Nat) : List UInt8 → Nat → Int
  | [], _ => -1
  | x :: r, i => match Nat.beq x.toNat c with | true => i | false => idxFrom c r (i + 1)
def spIndex : Spec := fun l σ =>
  match l with
  | [.c (.f (.str s)), .c (.f (.int .u8 (.ofNat c)))] => (match Nat.blt c 256 with | true => some [(vint' .i64 (idxFrom c s 0), σ)] | false => none)
  | _ => none
def cntOf (c : Nat) : List UInt8 → Nat → Nat
  | [], n => n
  | x :: r, n => match Nat.beq x.toNat c with | true => cntOf c r (n + 1) | false => cntOf c r n
def spCount : Spec := fun l σ =>
  match l with
  | [.c (.f (.str s)), .c (.f (.int .u8 (.ofNat c)))] => (match Nat.blt c 256 with | true => some [(vint' .i64 (cntOf c s 0), σ)] | false => none)
  | _ => none
theorem count_eq (c : UInt8) : ∀ (s : List UInt8) (n : Nat), n + s.count c = cntOf c.toNat s n
  | [], n => rfl
  | x :: r, n => by
    simp only [List.count_cons, cntOf]
    by_cases e : x = c
    · subst e
      rw [Nat.beq_refl]
      have := count_eq x r (n + 1)
      simp only [beq_self_eq_true, if_true]
      omega
    · have h1 : (x == c) = false := by simpa using e
      have h2 : Nat.beq x.toNat c.toNat = false := nbeq_false fun h => e (UInt8.toNat_inj.1 h)
      rw [h1, h2]
      simpa using count_eq c r n
section
variable {P : Program}
structure Ext (P : Program) (f : FuncId) (e : Array Value → Sem Value) : Prop where
  run : ∀ (args : Array Value) (w : World), (callFunc f args).run P w = ((e args).run P w).andThen fun v w' => .ok (.value v) w'
theorem ext_of {f : FuncId} {fn : Func} {e : Array Value → Sem Value} (hf : P.funcs[f]? = some fn) (hname : (fn.name == "runtime.NumGoroutine") = false)
    (hb : fn.body.isNone = true) (hn : Extern.findNext fn = none) (he : Extern.find fn = some e) : Ext P f e := ⟨fun args w => run_callFunc_extern hf hname hb hn he args w⟩
theorem ext_at {f : FuncId} {e : Array Value → Sem Value} (he : Ext P f e) {l : List V} {σ : St} {r : V} (h : ∀ g w vs, Rep g w σ → VReps g w σ l vs → ∃ v, (e vs.toArray).run P w = .ok v w ∧ VRep g w σ r v) {k : V → St → Prop} (hk : k r σ) : CallAt P f l σ k := by
  intro g w vs hr hv
  obtain ⟨v, h1, h2⟩ := h g w vs hr hv
  exact .inl ⟨v, w, by rw [he.run, h1]; rfl, r, σ, g, hk, hr, Turn.refl _ _ _, h2⟩
theorem byte_back {c : Nat} (h : Nat.blt c 256 = true) : ((c : Int).toNat.toUInt8).toNat = c := by
  have := blt_nat h
  simp
  omega
theorem count_ok {f : FuncId} (he : Ext P f Extern.BytealgCount.count) {l : List V} {σ : St} {o : List (V × St)} (h : spCount l σ = some o) : CallAt P f l σ fun r σ' => (r, σ') ∈ o := by
  unfold spCount at h
  split at h
  · rename_i s c
    split at h
    · rename_i hc
      cases h
      refine ext_at he (r := vint' .i64 (cntOf c s 0)) (fun g w vs hr hv => ?_) (List.mem_singleton.2 rfl)
      obtain ⟨v, vr, rfl, h1, u, vr', rfl, h2, h3⟩ := hv
      simp only [VReps] at h3; subst h3
      have e1 : v = .string ⟨s.toArray⟩ := h1
      have e2 : u = .int .u8 (c : Nat) := h2
      subst e1 e2
      refine ⟨_, Lib.run_countString _ _ w, ?_⟩
      have := count_eq (c : Int).toNat.toUInt8 s 0
      rw [byte_back hc, Nat.zero_add] at this
      rw [← this]
      rfl
    · cases h
  · cases h
end
end Go.Dm
namespace Go.Dm.Sx
open Go.Dm
set_option linter.unusedVariables false
set_option linter.unusedSimpArgs false
set_option linter.unusedSectionVars false
variable {U : Uni} {c c' c'' : Cx U} {e : SE} {Sp : List (FSpec U)} {Post : List (Dyn U.B) → Prop} {Go : Nat → List (Dyn U.B) → Prop} {P : Program} {X : SEnv} {call : CallS} {m : Nat}
variable [Pures] [FullU U]
theorem argsA_ok : ∀ {l : List SV} {l' : List V} (s : Nat), c.vrs l l' → FrR c (argsA s l) (args0 s l')
  | [], l', s, h, i => by simp only [Cx.vrs, VRs] at h; subst h; exact VR.un
  | x :: r, l', s, h, i => by
    simp only [Cx.vrs, VRs] at h
    obtain ⟨v, vr, rfl, h1, h2⟩ := h
    simp only [argsA, args0, lkS, lk]
    cases Nat.beq s i with
    | true => exact h1
    | false => exact argsA_ok (s + 1) h2 i
theorem res_ok {k : SE → List SV → Tr} : ∀ (rs : List ResultVar) {c : Cx U} {e : SE} {A : SA} {A' : AF} {K : List V → Prop}, Ok c e → FrR c A A' →
    (∀ (c' : Cx U) e' l l', Le c c' → c'.S = c.S → c'.σ = c.σ → Ok c' e' → c'.vrs l l' → TDen Sp Post Go (k e' l) c'.ρ → K l') → TDen Sp Post Go (resS U.lay X.tb rs e A c.S k) c.ρ → wresVs X.tb rs A' c.σ K
  | [], c, e, A, A', K, ok, hf, hk, h => hk c e [] [] (Le.refl c) rfl rfl ok (by simp only [Cx.vrs, VRs]) h
  | .tmp t :: r, c, e, A, A', K, ok, hf, hk, h => by
    refine res_ok r ok hf (fun c' e' l l' h1 h2 h3 h4 h5 h6 => ?_) h
    exact hk c' e' _ _ h1 h2 h3 h4 (by simp only [Cx.vrs, VRs]; exact ⟨_, _, rfl, h1.vr (hf t), h5⟩) h6
  | .cell x t :: r, c, e, A, A', K, ok, hf, hk, h => by
    simp only [resS] at h
    split at h
    · exact h.elim
    · rename_i hn
      simp only [wresVs]
      have : vload prims (X.tb t).agg (X.tb t).size (addr (lk A' x)) c.σ fun v => wresVs X.tb r A' c.σ fun l => K (v :: l) :=
        addr_ok ok (hf x) (K := fun v => vload prims (X.tb t).agg (X.tb t).size v c.σ fun v => wresVs X.tb r A' c.σ fun l => K (v :: l)) (fun c1 e1 sv v h1 h2 h3 h4 h5 h6 => by
          rw [← h3]
          rw [← h2] at h6
          refine load_ok h4 h5 (fun c2 e2 sv2 v2 g1 g2 g3 g4 g5 g6 => ?_) h6
          rw [← g3]
          rw [← g2] at g6
          refine res_ok r g4 (hf.later (h1.trans g1)) (fun c' e' l l' q1 q2 q3 q4 q5 q6 => ?_) g6
          exact hk c' e' _ _ ((h1.trans g1).trans q1) (q2.trans (g2.trans h2)) (q3.trans (g3.trans h3)) q4 (by simp only [Cx.vrs, VRs]; exact ⟨_, _, rfl, q1.vr g5, q5⟩) q6) h
      exact not_isNo hn this
theorem wk_of {rs : List ResultVar} {k : V → St → Prop} {x : XEnd} (hx : x = .norm ∨ x = .ret) {A : AF} {σ : St} (h : wresVs X.tb rs A σ fun l => k (oneV l) σ) : wKret X.tb rs k x.exit' A σ := by
  have e : (fun l => k (oneV l) σ) = fun l => (match l with | [v] => k v σ | l => k (.t l) σ) := by
    funext l
    match l with
    | [] => rfl
    | [v] => rfl
    | v :: u :: r => rfl
  rw [e] at h
  rcases hx with rfl | rfl <;> exact h
theorem kRet_ok {rs : List ResultVar} {k : K1} {K : V → St → Prop} (c0 : Cx U) (hk : FollS Sp Post Go c0 k K) {x : XEnd} {c : Cx U} (hl : Le c0 c) {e : SE} {A : SA} {A' : AF} (ok : Ok c e) (hf : FrR c A A')
    (h : TDen Sp Post Go (kRet U.lay X.tb rs k x e A c.S) c.ρ) : wKret X.tb rs K x.exit' A' c.σ := by
  have main : TDen Sp Post Go (resS U.lay X.tb rs e A c.S fun e l => k e (oneOf l) c.S) c.ρ → wresVs X.tb rs A' c.σ fun l => K (oneV l) c.σ := fun h =>
    res_ok rs ok hf (fun c' e' l l' h1 h2 h3 h4 h5 h6 => by
      rw [← h3]
      rw [← h2] at h6
      exact hk c' e' _ _ (hl.trans h1) h4 (oneOf_ok h5) h6) h
  cases x with
  | norm => exact wk_of (.inl rfl) (main h)
  | ret => exact wk_of (.inr rfl) (main h)
  | exit i => exact h.elim
structure EnvOk (P : Program) (U : Uni) (X : SEnv) (Sp : List (FSpec U)) : Prop where
  lay : X.lay = U.lay
  sigs : X.sigs = Sp.map FSpec.sig
  good : ∀ s ∈ Sp, FGood P s
  bodies : ∀ f F, X.bodies f = some F → ∃ en : Ent P X.tb (stlW X.tb), en.f = f ∧ en.F = F
  same : ∀ f, X.same f = true → Ext P f Extern.AbiNoEscape.same
theorem callN_ok (hm : P.follows .mixedOrders = true) (tok : TabOk P X.tb) (hE : EnvOk P U X Sp) : ∀ n, CallSOk (U := U) P Sp Post Go (callN X n)
  | 0 => fun c e f args vs k K ok hv hk h => h.elim
  | n + 1 => fun c e f args vs k K ok hv hk h => by
    have ih := callN_ok hm tok hE n
    simp only [callN] at h
    split at h
    · rename_i hs
      split at h
      · rename_i x
        simp only [Cx.vrs, VRs] at hv
        obtain ⟨v, vr, rfl, h1, rfl⟩ := hv
        refine ext_at (hE.same f hs) (r := v) (fun g w us hr hu => ?_) (hk c e x v (Le.refl c) ok h1 h)
        obtain ⟨u, ur, rfl, q1, q2⟩ := hu
        simp only [VReps] at q2
        subst q2
        exact ⟨u, rfl, q1⟩
      · exact h.elim
    · split at h
      · rename_i i sg hf
        obtain ⟨_, h2, h3⟩ := find_ok hf
        rw [Nat.sub_zero, hE.sigs, List.getElem?_map] at h2
        cases hs : Sp[i]? with
        | none => simp [hs] at h2
        | some s =>
          simp only [hs, Option.map_some, Option.some.injEq] at h2
          subst h2
          rw [hE.lay] at h
          have hgood := hE.good s (List.mem_of_getElem? hs)
          split at h
          · rename_i b obs hst
            unfold FGood at hgood
            rw [hst] at hgood
            have := callSt_ok ok hst hgood hs hv hk h
            rwa [h3] at this
          rename_i hst
          have := call_ok ok (hgood.still hst) hs hv hk h
          rwa [h3] at this
      · split at h
        · exact h.elim
        · rename_i F hF
          split at h
          · rename_i hl
            have hl := ble_nat hl
            obtain ⟨⟨f', H, F', eok, chk⟩, rfl, rfl⟩ := hE.bodies f F hF
            obtain ⟨fn, cd, h1, h2, h3, rfl⟩ := yfunOf_spec eok
            simp only at h hl ⊢
            have hH : hintsOk X.tb (stlW X.tb) H cd = true := by
              unfold yhintOk at chk
              rw [h1] at chk
              simp only [h2] at chk
              exact chk
            have hlen : vs.length = args.length := VRs.len hv
            have hw := sxc_ok (lp := fun _ _ _ _ => .fail) (n := c.σ.length) (m := fn.ntmps) (LP := fun _ _ _ => False) (R := fun c1 => Le c c1) hm tok ih (pure_ok hE.lay hE.sigs hE.good) hE.lay (fun c1 c2 a b => a.trans b) (fun q c1 e1 A A' a b d hh => hh.elim) (K := wKret X.tb fn.results.toList K) hH (fun q h1 h2 A σ hh => hh.elim)
              (fun x c1 e1 A A' r1 ok1 hf1 hA1 hz => by rw [hE.lay] at hz; exact kRet_ok c hk r1 ok1 hf1 hz) (Le.refl c) ok (inA_args0 (by omega)) (argsA_ok 0 hv) h
            rw [toFr_args0 (by omega)] at hw
            exact call_of hm tok h1 h2 h3 (hw.mono fun ex fr σ' ⟨A1, a1, a2, a3⟩ => low_ret ⟨A1, a1, a2, wKret_eq a3⟩)
          · exact h.elim
def inSV (lay : Nat → List Ty) (e : SE) : List In → Nat → List SV
  | [], _ => []
  | .ty t :: r, i => resV lay e i t :: inSV lay e r (i + 1)
  | .fnc f :: r, i => .c (.fn f) :: inSV lay e r i
  | .st _ _ :: r, i => inSV lay e r (i + 1)
  | .ptr o off :: r, i => .c (.ptr o off) :: inSV lay e r i
  | .cloP f l :: r, i => .c (.clo f (l.map fun p => .ptr p.1 p.2)) :: inSV lay e r i
  | .clo f ts :: r, i => .c (.clo f ((List.range' i ts.length).map fun j => match nth e.tys j with | some t => .d t (.at j) | none => .un)) :: inSV lay e r (i + ts.length)
def outK (lay : Nat → List Ty) (S : SSt) : List Ty → List SV → SE → (SE → List Tm → Tr) → Tr
  | [], [], e, k => k e []
  | t :: ts, v :: vs, e, k =>
    (match t with
    | .base b => (match v with | .a l => dataK lay e (.base b) l fun e y => outK lay S ts vs e fun e l => k e (y :: l) | _ => .fail)
    | t => (match v with | .c x => tmK e t x fun e y => outK lay S ts vs e fun e l => k e (y :: l) | _ => .fail))
  | _, _, _, _ => .fail
def kOut (lay : Nat → List Ty) (tb : Tab) (rs : List ResultVar) (outs : List Ty) (x : XEnd) (e : SE) (A : SA) (S : SSt) : Tr :=
  let fin : Tr := resS lay tb rs e A S fun e l => (match frzVs l S with | .some (l', S') => outK lay S' outs l' e fun _ tms => .ret tms | .none => .fail)
  match x with
  | .norm => fin
  | .ret => fin
  | .exit _ => .fail
structure Walk where
  F : YFun
  ins : List In
  outs : List Ty
  tms : List Tmpl
def walk0 (X : SEnv) (n : Nat) (w : Walk) : Tr :=
  sxc X (callN X n) w.F.m (goS X.lay w.F.m w.tms) w.F.code 0 (kOut X.lay X.tb w.F.rs w.outs) ⟨insTys w.ins, [], []⟩ (argsA 0 (inSV X.lay ⟨insTys w.ins, [], []⟩ w.ins 0)) []
def walkL (X : SEnv) (n : Nat) (w : Walk) (q : Nat) : Tr :=
  match nth w.tms q with
  | .none => .fail
  | .some tm => (match Nat.blt tm.q (nl w.F.code) with | true => sxl X (callN X n) w.F.m (goS X.lay w.F.m w.tms) tm.q w.F.code 0 (kOut X.lay X.tb w.F.rs w.outs) ⟨tm.tys, [], []⟩ tm.A tm.S | false => .fail)
theorem in_ok (ok : Ok c e) : ∀ {ins : List In} {i : Nat} {ds : List (Dyn U.B)} {vs : List V}, ArgsR U ins ds vs → (∀ j d, ds[j]? = some d → c.ρ[i + j]? = some d) → c.vrs (inSV U.lay e ins i) vs
  | [], i, ds, vs, h, hi => by
    obtain ⟨rfl, rfl⟩ := h
    simp only [inSV, Cx.vrs, VRs]
  | .ty t :: r, i, ds, vs, h, hi => by
    obtain ⟨d, ds', v, vs', rfl, rfl, rfl, h1, h2⟩ := h
    have g1 := in_ok (i := i + 1) ok h2 fun j d' hj => by
      have := hi (j + 1) d' (by simpa using hj)
      rwa [show i + (j + 1) = i + 1 + j from by omega] at this
    simp only [inSV, Cx.vrs, VRs]; exact ⟨v, vs', rfl, resV_ok ok (by simpa using hi 0 d rfl) h1, g1⟩
  | .fnc f :: r, i, ds, vs, h, hi => by
    obtain ⟨vs', rfl, h2⟩ := h
    have g1 := in_ok ok h2 hi
    simp only [inSV, Cx.vrs, VRs]; exact ⟨_, vs', rfl, VR.c (by simp only [CR]), g1⟩
  | .st b obs :: r, i, ds, vs, h, hi => by
    obtain ⟨d, ds', rfl, _, h2⟩ := h
    have g1 := in_ok (i := i + 1) ok h2 fun j d' hj => by
      have := hi (j + 1) d' (by simpa using hj)
      rwa [show i + (j + 1) = i + 1 + j from by omega] at this
    simpa only [inSV] using g1
  | .ptr o off :: r, i, ds, vs, h, hi => by
    obtain ⟨vs', rfl, h2⟩ := h
    have g1 := in_ok ok h2 hi
    simp only [inSV, Cx.vrs, VRs]; exact ⟨_, vs', rfl, VR.c (by simp only [CR]), g1⟩
  | .cloP f l :: r, i, ds, vs, h, hi => by
    obtain ⟨vs', rfl, h2⟩ := h
    have g1 := in_ok ok h2 hi
    simp only [inSV, Cx.vrs, VRs]
    refine ⟨_, vs', rfl, VR.c ?_, g1⟩
    simp only [CR]
    refine ⟨_, rfl, ?_⟩
    clear h2 g1
    induction l with
    | nil => simp only [List.map_nil, CRs]
    | cons p r ih => simp only [List.map_cons, CRs, CR]; exact ⟨_, _, rfl, rfl, ih⟩
  | .clo f ts :: r, i, ds, vs, h, hi => by
    obtain ⟨d1, ds', fs, vs', rfl, rfl, h1, h2, h3⟩ := h
    have hl1 : d1.length = ts.length := by rw [← h1]; simp
    have g1 := in_ok (i := i + ts.length) ok h3 fun j d' hj => by
      have := hi (ts.length + j) d' (by rw [List.getElem?_append_right (by omega), hl1, Nat.add_sub_cancel_left]; exact hj)
      rwa [← Nat.add_assoc] at this
    simp only [inSV, Cx.vrs, VRs]
    refine ⟨_, vs', rfl, VR.c ?_, g1⟩
    simp only [CR]
    refine ⟨_, rfl, ?_⟩
    have key : ∀ (k s : Nat) {d2 : List (Dyn U.B)} {gs : List F}, (∀ j d, d2[j]? = some d → c.ρ[s + j]? = some d) → d2.length = k → FDs U gs d2 → CRs c.ρ c.β c.ι ((List.range' s k).map fun j => match nth e.tys j with | some t => .d t (.at j) | none => .un) (List.map C.f gs) := by
      intro k
      induction k with
      | zero =>
        intro s d2 gs _ hk hg
        have : d2 = [] := List.eq_nil_of_length_eq_zero hk
        subst this
        have : gs = [] := List.eq_nil_of_length_eq_zero (by rw [hg.len]; rfl)
        subst this
        simp only [List.range'_zero, List.map_nil, CRs]
      | succ k ih =>
        intro s d2 gs hd hk hg
        match d2, gs, hk, hg, hd with
        | d :: d2, g :: gs, hk, hg, hd =>
          obtain ⟨_, _, e1, q1, q2⟩ := hg
          cases e1
          simp only [List.range'_succ, List.map_cons, CRs]
          have h0 : c.ρ[s]? = some d := by simpa using hd 0 d rfl
          have ht : nth e.tys s = some d.t := by rw [nth_eq, ok.tys, List.getElem?_map, h0]; rfl
          refine ⟨_, _, rfl, ?_, ih (s + 1) (fun j d' hj => ?_) (by simpa using hk) q2⟩
          · rw [ht]
            simp only [CR]
            exact ⟨g, d, rfl, h0, rfl, q1⟩
          · have := hd (j + 1) d' (by simpa using hj)
            rwa [show s + (j + 1) = s + 1 + j from by omega] at this
        | d :: d2, [], hk, hg, hd => have := hg.len; simp at this
    exact key ts.length i (fun j d hj => hi j d (by rw [List.getElem?_append_left (List.getElem?_eq_some_iff.1 hj).1]; exact hj)) hl1 h2
def plainIns : List In → Bool
  | [] => true
  | .st _ _ :: _ => false
  | .ptr _ _ :: _ => false
  | .cloP _ _ :: _ => false
  | _ :: r => plainIns r
theorem plain_st : ∀ {ins : List In}, plainIns ins = true → stOf ins = none
  | [], _ => rfl
  | i :: r, h => by cases i <;> first | rfl | (simp only [plainIns] at h; cases h)
theorem in_free : ∀ {ins : List In} {ds : List (Dyn U.B)} {vs : List V}, plainIns ins = true → ArgsR U ins ds vs → V.frees vs = true
  | [], ds, vs, _, h => by obtain ⟨rfl, rfl⟩ := h; rfl
  | .ty t :: r, ds, vs, hp, h => by
    obtain ⟨d, ds', v, vs', rfl, rfl, rfl, h1, h2⟩ := h
    have hv : v.free = true := by
      unfold DV at h1
      split at h1
      · obtain ⟨fs, rfl, _⟩ := h1; exact frees_map fs
      · obtain ⟨f, rfl, _⟩ := h1; rfl
    simp only [V.frees, hv, in_free (ins := r) hp h2]
  | .fnc f :: r, ds, vs, hp, h => by
    obtain ⟨vs', rfl, h2⟩ := h
    simp only [V.frees, V.free, C.free, in_free (ins := r) hp h2]
  | .clo f ts :: r, ds, vs, hp, h => by
    obtain ⟨d1, ds', fs, vs', rfl, rfl, h1, h2, h3⟩ := h
    simp only [V.frees, V.free, C.free, frees_map, in_free (ins := r) hp h3]
  | .st _ _ :: _, ds, vs, hp, h => by cases hp
  | .ptr _ _ :: _, ds, vs, hp, h => by cases hp
  | .cloP _ _ :: _, ds, vs, hp, h => by cases hp
theorem DVs.free : ∀ {ds : List (Dyn U.B)} {vs : List V}, DVs U ds vs → V.frees vs = true
  | [], vs, h => by simp only [DVs] at h; subst h; rfl
  | d :: ds, vs, h => by
    obtain ⟨v, vr, rfl, h1, h2⟩ := h
    have hv : v.free = true := by
      unfold DV at h1
      split at h1
      · obtain ⟨fs, rfl, _⟩ := h1; exact frees_map fs
      · obtain ⟨f, rfl, _⟩ := h1; rfl
    simp only [V.frees, hv, DVs.free h2]
theorem out_ok : ∀ {outs : List Ty} {c : Cx U} {e : SE} (ok : Ok c e) {l : List SV} {vs : List V} (hv : c.vrs l vs) {k : SE → List Tm → Tr} (h : TDen Sp Post Go (outK U.lay c.S outs l e k) c.ρ),
    ∃ c' e' tms ds, Le c c' ∧ Ok c' e' ∧ tms.map (Tm.den? c'.ρ) = List.map Option.some ds ∧ DVs U ds vs ∧ TDen Sp Post Go (k e' tms) c'.ρ
  | [], c, e, ok, l, vs, hv, k, h => by
    cases l with
    | nil =>
      simp only [Cx.vrs, VRs] at hv
      subst hv
      exact ⟨c, e, [], [], Le.refl c, ok, rfl, rfl, h⟩
    | cons x l => exact h.elim
  | t :: ts, c, e, ok, l, vs, hv, k, h => by
    cases l with
    | nil => exact h.elim
    | cons x l =>
      simp only [Cx.vrs, VRs] at hv
      obtain ⟨v, vr, rfl, h1, h2⟩ := hv
      simp only [outK] at h
      split at h
      · rename_i b
        split at h
        · rename_i cs
          simp only [VR] at h1
          obtain ⟨ys, rfl, h1⟩ := h1
          obtain ⟨c1, e1, y, d, fs, p1, p2, p3, p4, rfl, p6, p7, p8, p9⟩ := data_ok ok h1 h
          rw [← p2] at p9
          obtain ⟨c2, e2, tms, ds, q1, q2, q3, q4, q5⟩ := out_ok p4 (p1.vrs h2) p9
          refine ⟨c2, e2, y :: tms, d :: ds, p1.trans q1, q2, ?_, ⟨_, vr, rfl, ?_, q4⟩, q5⟩
          · simp only [List.map_cons, q3, q1.den p6]
          · unfold DV; rw [p7]; exact ⟨fs, rfl, p8⟩
        · exact h.elim
      · rename_i hnb
        split at h
        · rename_i y
          by_cases hun : y = .un
          · subst hun; exact h.elim
          obtain ⟨y0, rfl, h1'⟩ := V_c hun h1
          obtain ⟨c1, e1, a, d, f, p1, p2, p3, p4, rfl, p6, p7, p8, p9⟩ := tm_ok ok h1' h
          rw [← p2] at p9
          obtain ⟨c2, e2, tms, ds, q1, q2, q3, q4, q5⟩ := out_ok p4 (p1.vrs h2) p9
          refine ⟨c2, e2, a :: tms, d :: ds, p1.trans q1, q2, ?_, ⟨_, vr, rfl, ?_, q4⟩, q5⟩
          · simp only [List.map_cons, q3, q1.den p6]
          · unfold DV; rw [p7]; cases t <;> first | exact ⟨f, rfl, p8⟩ | exact (hnb _ rfl).elim
        · exact h.elim
theorem hard_one {vs vs' : List V} {σ σ' : St} (h : hardVs vs σ = some (vs', σ')) : hardV (oneV vs) σ = some (oneV vs', σ') := by
  have hlen : ∀ (l : List V) (σ : St) {l' : List V} {σ' : St}, hardVs l σ = some (l', σ') → l'.length = l.length := by
    intro l
    induction l with
    | nil => intro σ l' σ' h; simp only [hardVs, Option.some.injEq, Prod.mk.injEq] at h; rw [← h.1]
    | cons x r ih =>
      intro σ l' σ' h
      simp only [hardVs] at h
      split at h
      · cases h
      · split at h
        · rename_i hr
          cases h
          simp [ih _ hr]
        · cases h
  have hl := hlen _ _ h
  match vs, vs', hl, h with
  | [], [], _, h => simp only [hardVs, Option.some.injEq, Prod.mk.injEq] at h; simp only [oneV, hardV, hardVs, h.2]
  | [x], [y], _, h =>
    simp only [hardVs] at h
    simp only [oneV]
    split at h
    · cases h
    · rename_i y' σ1 hx
      simp only [Option.some.injEq, Prod.mk.injEq, List.cons.injEq, and_true] at h
      rw [hx, h.1, h.2]
  | x :: y :: r, x' :: y' :: r', _, h => simp only [oneV, hardV, h]
theorem kOut_ok {rs : List ResultVar} {outs : List Ty} {ds0 : List (Dyn U.B)} (hP : ∀ l, Post l → l = ds0) {x : XEnd} {c : Cx U} {e : SE} {A : SA} {A' : AF} (ok : Ok c e) (hf : FrR c A A') (h : TDen Sp Post Go (kOut U.lay X.tb rs outs x e A c.S) c.ρ) :
    wKret X.tb rs (fun r τ => ∃ u τ', hardV r τ = some (u, τ') ∧ u.free = true ∧ ResR U ds0 u) x.exit' A' c.σ := by
  have main : TDen Sp Post Go (resS U.lay X.tb rs e A c.S fun e l => (match frzVs l c.S with | .some (l', S') => outK U.lay S' outs l' e fun _ tms => .ret tms | .none => .fail)) c.ρ →
      wresVs X.tb rs A' c.σ fun l => (fun r τ => ∃ u τ', hardV r τ = some (u, τ') ∧ u.free = true ∧ ResR U ds0 u) (oneV l) c.σ := fun h =>
    res_ok rs ok hf (fun c' e' l l' h1 h2 h3 h4 h5 h6 => by
      rw [← h2] at h6
      split at h6
      · rename_i l2 S2 hz
        obtain ⟨c2, vs2, q1, rfl, q3, q4, q5, q6, q7⟩ := frzVs_ok l h4 h5 hz
        rw [← q3] at h6
        obtain ⟨c3, e3, tms, ds, p1, p2, p3, p4, p5⟩ := out_ok q4 q5 h6
        have := hP _ p5
        rw [den_map p3] at this
        subst this
        rw [h3] at q6
        refine ⟨oneV vs2, _, hard_one q6, ?_, vs2, p4, rfl⟩
        have hfr := p4.free
        unfold oneV
        split
        · rename_i v
          simp only [V.frees] at hfr
          split at hfr
          · assumption
          · cases hfr
        · exact hfr
      · exact h6.elim) h
  cases x with
  | norm => exact wk_of (.inl rfl) (main h)
  | ret => exact wk_of (.inr rfl) (main h)
  | exit i => exact h.elim
def Walked (Sp : List (FSpec U)) (X : SEnv) (n : Nat) (w : Walk) (s : FSpec U) : Prop :=
  ∀ (x : HL U (insTys s.sig.ins)), s.pre x → ∀ R : List (Dyn U.B), R = s.fn x → ∀ Go : Nat → List (Dyn U.B) → Prop,
    (∀ (q : Nat) (α : Type) (ρ : α → List (Dyn U.B)) (I : α → Prop) (μ : α → Nat), (∀ y, I y → (∀ z, μ z < μ y → I z → Go q (ρ z)) → TDen Sp (fun l => l = R) Go (walkL X n w q) (ρ y)) → ∀ y, I y → Go q (ρ y)) →
    TDen Sp (fun l => l = R) Go (walk0 X n w) (HL.dyn _ x)
theorem walk_ok (hm : P.follows .mixedOrders = true) (tok : TabOk P X.tb) (hE : EnvOk P U X Sp) {n : Nat} (en : Ent P X.tb (stlW X.tb)) {w : Walk} (hF : w.F = en.F) {s : FSpec U} (hs : s.sig = ⟨en.f, w.ins, w.outs⟩) (hl : Nat.ble w.ins.length w.F.m = true) (h0 : plainIns w.ins = true)
    (h : Walked Sp X n w s) : FGood P s := by
  obtain ⟨sig, pre, fn, ty⟩ := s
  cases hs
  unfold FGood
  rw [show stOf (Sig.mk en.f w.ins w.outs).ins = none from plain_st h0]
  intro x vs ha hpre
  obtain ⟨f, H, F, eok, chk⟩ := en
  obtain ⟨F', ins, outs, tms⟩ := w
  cases hF
  obtain ⟨fn', cd, h1, h2, h3, rfl⟩ := yfunOf_spec eok
  have hH : hintsOk X.tb (stlW X.tb) H cd = true := by
    unfold yhintOk at chk
    rw [h1] at chk
    simp only [h2] at chk
    exact chk
  let ds := HL.dyn (insTys ins) x
  let c0 : Cx U := ⟨ds, fun _ => 0, [], []⟩
  have ok0 : Ok c0 ⟨insTys ins, [], []⟩ := ⟨(dyn_t _ x).symm, fun p hp => (by cases hp), fun p hp => (by cases hp), rfl, fun o so ho => by simp [c0] at ho⟩
  have a1 := in_ok (i := 0) ok0 ha fun j d hj => by rw [Nat.zero_add]; exact hj
  have a2 := in_free h0 ha
  let k0 : V → St → Prop := fun r τ => ∃ u τ', hardV r τ = some (u, τ') ∧ u.free = true ∧ ResR U (fn x) u
  let K0 := wKret X.tb fn'.results.toList k0
  let LP : Nat → AF → St → Prop := fun q A σ => LoopQ P 0 fn'.ntmps cd 0 K0 q A σ
  let Go : Nat → List (Dyn U.B) → Prop := fun q vals => ∀ tm, nth tms q = some tm → AtHead tm fn'.ntmps 0 (LP tm.q) vals
  have hcall := callN_ok (Post := fun l => l = fn x) (Go := Go) hm tok hE n
  have hlp : ∀ q (c : Cx U) e A A', Ok c e → FrR c A A' → inA fn'.ntmps A' → TDen Sp (fun l => l = fn x) Go (goS X.lay fn'.ntmps tms q e A c.S) c.ρ → LP q A' c.σ := fun q c e A A' ok hf hA hD => by
    rw [hE.lay] at hD
    exact go_ok (n := 0) (LP := LP q) ok hA hf (fun A1 σ1 A2 σ2 _ _ hg hh => loopQ_ghost A1 σ1 A2 σ2 hg hh) (Nat.le_refl 0) (fun i tm vals htm hq _ hG => by subst hq; exact hG tm htm) hD
  have hk : ∀ y (c' : Cx U) e' A A', Ok c' e' → FrR c' A A' → inA fn'.ntmps A' → TDen Sp (fun l => l = fn x) Go (kOut X.lay X.tb fn'.results.toList outs y e' A c'.S) c'.ρ → K0 y.exit' A' c'.σ := fun y c' e' A A' ok' hf' hA' hz => by
    rw [hE.lay] at hz
    exact kOut_ok (fun l hl => hl) ok' hf' hz
  have hw := h x hpre _ rfl Go fun q α ρ I μ H' => by
    have key : ∀ M y, μ y = M → I y → Go q (ρ y) := by
      intro M
      induction M using Nat.strongRecOn with
      | _ M ih =>
        intro y hy hI tm htm ct A' hρ hS okt hft hAt
        have hD := H' y hI fun z hz hIz => ih (μ z) (hy ▸ hz) z rfl hIz
        unfold walkL at hD
        simp only [htm] at hD
        split at hD
        · rename_i hq
          have hq := blt_nat hq
          rw [← hρ, ← hS] at hD
          rw [nl_eq] at hq
          exact sxl_ok hm tok hcall (pure_ok hE.lay hE.sigs hE.good) hE.lay (R := fun _ => True) (fun _ _ _ _ => trivial) hlp (LP := LP) (fun _ => trivial) hH (fun q' _ _ A σ hh => hh) (Nat.zero_le _) (by omega) hk okt hAt hft hD
        · exact hD.elim
    exact fun y hI => key _ y rfl hI
  have hlen : vs.length = (inSV X.lay ⟨insTys ins, [], []⟩ ins 0).length := by rw [hE.lay]; exact VRs.len a1
  have hins : ∀ (ins : List In) (i : Nat) (e : SE), (inSV X.lay e ins i).length ≤ ins.length := by
    intro ins
    induction ins with
    | nil => intro i e; exact Nat.le_refl _
    | cons a r ih =>
      intro i e
      cases a <;> simp only [inSV, List.length_cons] <;> first | exact Nat.succ_le_succ (ih _ _) | exact Nat.le_succ_of_le (ih _ _)
  have hins := hins ins 0 ⟨insTys ins, [], []⟩
  have hl := ble_nat hl
  simp only at hl
  have hw' : DWp P 0 cd (low fn'.ntmps K0) (toFr fn'.ntmps (args0 0 vs)) [] := by
    refine sxc_ok (c := c0) hm tok hcall (pure_ok hE.lay hE.sigs hE.good) hE.lay (R := fun _ => True) (fun _ _ _ _ => trivial) hlp (LP := LP) hH (fun q' _ _ A σ hh => hh) (fun y c' e' A A' _ => hk y c' e' A A') trivial ok0 (inA_args0 (by omega)) (argsA_ok 0 a1) ?_
    have := hw
    unfold walk0 at this
    simp only at this
    rw [hE.lay] at this ⊢
    exact this
  rw [toFr_args0 (by omega)] at hw'
  have hc : CallAt P f vs [] k0 := call_of hm tok h1 h2 h3 (hw'.mono fun ex fr σ' ⟨A1, b1, b2, b3⟩ => low_ret ⟨A1, b1, b2, wKret_eq b3⟩)
  intro σ
  exact call_nil (σ := σ) a2 hc fun r τ hh => hh
end Go.Dm.Sx
namespace Go.Dm.Sx
open Go.Dm
set_option linter.unusedVariables false
set_option linter.unusedSimpArgs false
set_option linter.unusedSectionVars false
def stC (lay : Nat → List Ty) (e : SE) : IC → SC
  | .d j => cellOf lay e 0 j
  | .row o _ => .rs o 0
  | .ptr o off => .ptr o off
  | .mp o => .mp o
def stO (lay : Nat → List Ty) (e : SE) : IO → SOb
  | .cells l => .cells (l.map (stC lay e))
  | .row w ty sz t j => .arr w 0 ty sz t (.fld 0 j)
variable [Pures]
variable {U : Uni} [FullU U] {c c' c'' : Cx U} {e : SE} {Sp : List (FSpec U)} {Post : List (Dyn U.B) → Prop} {Go : Nat → List (Dyn U.B) → Prop} {P : Program} {X : SEnv} {call : CallS} {m : Nat}
end Go.Dm.Sx
namespace Go.Dm.Sx
open Go.Dm
set_option linter.unusedVariables false
set_option linter.unusedSimpArgs false
variable {U : Uni}
@[simp] theorem dyn_ty (t : Ty) (r : List In) (x : T U.B t) (xs : HL U (insTys r)) : HL.dyn (insTys (.ty t :: r)) ((x, xs) : HL U (insTys (.ty t :: r))) = ⟨t, x⟩ :: HL.dyn (insTys r) xs := rfl
@[simp] theorem dyn_fn (f : Nat) (r : List In) (xs : HL U (insTys (.fnc f :: r))) : HL.dyn (insTys (.fnc f :: r)) xs = HL.dyn (insTys r) xs := rfl
@[simp] theorem dyn_clo0 (f : Nat) (r : List In) (xs : HL U (insTys (.clo f [] :: r))) : HL.dyn (insTys (.clo f [] :: r)) xs = HL.dyn (insTys r) xs := rfl
@[simp] theorem dyn_clo1 (f : Nat) (t : Ty) (r : List In) (x : T U.B t) (xs : HL U (insTys r)) : HL.dyn (insTys (.clo f [t] :: r)) ((x, xs) : HL U (insTys (.clo f [t] :: r))) = ⟨t, x⟩ :: HL.dyn (insTys r) xs := rfl
@[simp] theorem dyn_nil (xs : HL U (insTys [])) : HL.dyn (insTys []) xs = [] := rfl
@[simp] theorem dyn_cons (t : Ty) (r : List Ty) (x : T U.B t) (xs : HL U r) : HL.dyn (t :: r) ((x, xs) : HL U (t :: r)) = ⟨t, x⟩ :: HL.dyn r xs := rfl
@[simp] theorem dyn_none (xs : HL U []) : HL.dyn [] xs = [] := rfl
@[simp] theorem of_ty (t : Ty) (r : List In) (x : T U.B t) (l : List (Dyn U.B)) : HL.of (insTys (.ty t :: r)) (⟨t, x⟩ :: l) = ((x, HL.of (insTys r) l) : HL U (insTys (.ty t :: r))) := by
  show (Dyn.as t ⟨t, x⟩, _) = _
  rw [as_self]; rfl
@[simp] theorem of_fn (f : Nat) (r : List In) (l : List (Dyn U.B)) : HL.of (insTys (.fnc f :: r)) l = (HL.of (insTys r) l : HL U (insTys (.fnc f :: r))) := rfl
@[simp] theorem of_clo0 (f : Nat) (r : List In) (l : List (Dyn U.B)) : HL.of (insTys (.clo f [] :: r)) l = (HL.of (insTys r) l : HL U (insTys (.clo f [] :: r))) := rfl
@[simp] theorem of_clo1 (f : Nat) (t : Ty) (r : List In) (x : T U.B t) (l : List (Dyn U.B)) : HL.of (insTys (.clo f [t] :: r)) (⟨t, x⟩ :: l) = ((x, HL.of (insTys r) l) : HL U (insTys (.clo f [t] :: r))) := by
  show (Dyn.as t ⟨t, x⟩, _) = _
  rw [as_self]; rfl
@[simp] theorem of_st (b : Nat) (obs : List IO) (r : List In) (x : T U.B (.base b)) (l : List (Dyn U.B)) : HL.of (insTys (.st b obs :: r)) (⟨.base b, x⟩ :: l) = ((x, HL.of (insTys r) l) : HL U (insTys (.st b obs :: r))) := of_ty (.base b) r x l
@[simp] theorem of_ptr (o off : Nat) (r : List In) (l : List (Dyn U.B)) : HL.of (insTys (.ptr o off :: r)) l = (HL.of (insTys r) l : HL U (insTys (.ptr o off :: r))) := rfl
@[simp] theorem of_cloP (f : Nat) (caps : List (Nat × Nat)) (r : List In) (l : List (Dyn U.B)) : HL.of (insTys (.cloP f caps :: r)) l = (HL.of (insTys r) l : HL U (insTys (.cloP f caps :: r))) := rfl
@[simp] theorem of_nil (l : List (Dyn U.B)) : HL.of (insTys []) l = (() : HL U (insTys [])) := rfl
@[simp] theorem d_int (k : IntKind) (n : Int) : Dyn.int (⟨.int k, n⟩ : Dyn U.B) = n := rfl
@[simp] theorem d_bool (n : Bool) : Dyn.bool (⟨.bool, n⟩ : Dyn U.B) = n := rfl
@[simp] theorem d_str (n : List UInt8) : Dyn.str (⟨.str, n⟩ : Dyn U.B) = n := rfl
@[simp] theorem d_flo (n : Nat) : Dyn.flo (⟨.flo, n⟩ : Dyn U.B) = n := rfl
@[simp] theorem d_cpl (n : Nat × Nat) : Dyn.cpl (⟨.cpl, n⟩ : Dyn U.B) = n := rfl
attribute [simp] as_self
@[simp] theorem fld_base (n : Nat) (x : U.B n) (j : Nat) : fldD (⟨.base n, x⟩ : Dyn U.B) j = U.acc n x j := rfl
@[simp] theorem fld_ptr (n : Nat) (x : U.B n) (j : Nat) : fldD (⟨.ptr (.base n), x⟩ : Dyn U.B) j = U.acc n x j := rfl
@[simp] theorem fld_plist (t : Ty) (x : List (T U.B t)) (j : Nat) : fldD (⟨.ptr (.list t), x⟩ : Dyn U.B) j = ⟨.list t, x⟩ := rfl
@[simp] theorem fld_pint (k : IntKind) (x : Int) (j : Nat) : fldD (⟨.ptr (.int k), x⟩ : Dyn U.B) j = ⟨.int k, x⟩ := rfl
theorem bcmp_eql (a b : Int) : bcmp .eql a b = decide (a = b) := by by_cases h : a = b <;> simp [bcmp, h]
theorem bcmp_neq (a b : Int) : bcmp .neq a b = !decide (a = b) := by by_cases h : a = b <;> simp [bcmp, bne, h]
theorem bcmp_lss (a b : Int) : bcmp .lss a b = decide (a < b) := rfl
theorem bcmp_leq (a b : Int) : bcmp .leq a b = decide (a ≤ b) := rfl
theorem bcmp_gtr (a b : Int) : bcmp .gtr a b = decide (b < a) := rfl
theorem bcmp_geq (a b : Int) : bcmp .geq a b = decide (b ≤ a) := rfl
attribute [simp] bcmp_eql bcmp_neq bcmp_lss bcmp_leq bcmp_gtr bcmp_geq
@[simp] theorem bscmp_eql (a b : List UInt8) : bscmp .eql a b = decide (a = b) := by by_cases h : a = b <;> simp [bscmp, h]
@[simp] theorem bscmp_neq (a b : List UInt8) : bscmp .neq a b = !decide (a = b) := by by_cases h : a = b <;> simp [bscmp, bne, h]
@[simp] theorem optI_none (ρ : Rho U) (n : Int) : optI ρ n none = n := rfl
@[simp] theorem optI_some (ρ : Rho U) (n : Int) (x : Tm) : optI ρ n (some x) = (x.den ρ).int := rfl
@[simp] theorem ex_add (a b : Int) : exI .add a b = a + b := rfl
@[simp] theorem ex_sub (a b : Int) : exI .sub a b = a - b := rfl
@[simp] theorem ex_mul (a b : Int) : exI .mul a b = a * b := rfl
@[simp] theorem b_rem (k : IntKind) (a b : Int) : barith .rem k a b = a.tmod b := rfl
@[simp] theorem mnx_t (a b : Int) : mnxI true a b = max a b := rfl
@[simp] theorem mnx_f (a b : Int) : mnxI false a b = min a b := rfl
end Go.Dm.Sx
namespace Go.Dm.Sx
open Go.Dm
set_option linter.unusedVariables false
set_option linter.unusedSimpArgs false
set_option linter.unusedSectionVars false
variable [Pures]
def insN (x : Nat) (l : List Nat) : List Nat := match l with | [] => [x] | y :: r => (match Nat.beq x y with | true => y :: r | false => (match Nat.blt x y with | true => x :: y :: r | false => y :: insN x r))
def uniN (a b : List Nat) : List Nat := match a with | [] => b | x :: r => uniN r (insN x b)
def delN (x : Nat) (l : List Nat) : List Nat := match l with | [] => [] | y :: r => (match Nat.beq x y with | true => delN x r | false => y :: delN x r)
def memN (x : Nat) (l : List Nat) : Bool := match l with | [] => false | y :: r => (match Nat.beq x y with | true => true | false => memN x r)
def useO (x : Operand) (l : List Nat) : List Nat := match x with | .tmp t => insN t l | _ => l
def useL (xs : List Operand) (l : List Nat) : List Nat := match xs with | [] => l | x :: r => useO x (useL r l)
def useOp (o : Option Operand) (l : List Nat) : List Nat := match o with | .some x => useO x l | .none => l
def uses (s : SOp) (l : List Nat) : List Nat :=
  match s with
  | .mv x => useO x l
  | .pick c a b => useL [c, a, b] l
  | .bin _ _ x y => useL [x, y] l
  | .un _ x => useO x l
  | .alloc _ => l
  | .box x => useO x l
  | .load _ _ x => useO x l
  | .store _ a x => useL [a, x] l
  | .call x args => useO x (useL args l)
  | .fa _ x => useO x l
  | .fld _ _ _ x => useO x l
  | .ixr _ x i => useL [x, i] l
  | .ixa _ _ x i => useL [x, i] l
  | .chr x i => useL [x, i] l
  | .len _ x => useO x l
  | .app _ _ _ _ x y => useL [x, y] l
  | .slc _ _ x lo hi => useO x (useOp lo (useOp hi l))
  | .ext x _ => useO x l
  | .nilc x => useO x l
  | .bi _ _ args => useL args l
  | .bld _ parts => useL (parts.map fun p => p.2.2) l
  | .bsl _ _ _ _ parts => useL (parts.map fun p => p.2) l
  | .raw o => useL o.operands.toList l
def liveI (i : SItem) (l : List Nat) : List Nat :=
  let l1 := match i.g, i.dst with | .none, .some d => delN d l | _, _ => l
  let l2 := uses i.o l1
  match i.g with | .some (.some d, _) => insN d l2 | _ => l2
def liveIs : List SItem → List Nat → List Nat
  | [], l => l
  | i :: r, l => liveI i (liveIs r l)
def liveT : YT → List Nat → List Nat
  | .done, l => l
  | .go i _ p, l => liveI i (liveT p l)
  | .goc i p, l => liveI i (liveT p l)
  | .alt i p q, l => uniN (liveI i (liveT p l)) (liveT q l)
  | .stop, _ => []
  | .sub s p, l => liveT s (liveT p l)
def lvAt (e : List (Nat × List Nat)) (i : Nat) : List Nat := match e with | [] => [] | (j, l) :: r => (match Nat.beq j i with | true => l | false => lvAt r i)
def liveC (ex : List (Nat × List Nat)) (r : List Nat) : YCode → List Nat → List Nat
  | .skip, l => l
  | .ops is, l => liveIs is l
  | .tree t, l => liveT t l
  | .any _ _, l => l
  | .seq a b, l => liveC ex r a (liveC ex r b l)
  | .cond c a b, l => useO c (uniN (liveC ex r a l) (liveC ex r b l))
  | .block id c, l => liveC ((id, l) :: ex) r c l
  | .loop c, l => liveC ex r c (liveC ex r c (liveC ex r c []))
  | .exit id, _ => lvAt ex id
  | .ret, _ => r
  | .bad, _ => []
def liveQ (q : Nat) (ex : List (Nat × List Nat)) (r : List Nat) : YCode → Nat → List Nat → Option (List Nat × YCode)
  | .seq a b, p, l => (match Nat.blt q (p + nl a) with | true => liveQ q ex r a p (liveC ex r b l) | false => liveQ q ex r b (p + nl a) l)
  | .cond _ a b, p, l => (match Nat.blt q (p + nl a) with | true => liveQ q ex r a p l | false => liveQ q ex r b (p + nl a) l)
  | .block id c, p, l => liveQ q ((id, l) :: ex) r c p l
  | .loop c, p, l =>
    let h := liveC ex r (.loop c) l
    (match Nat.beq q p with | true => .some (h, c) | false => liveQ q ex r c (p + 1) h)
  | _, _, _ => .none
def itemsT : YT → List SItem
  | .done => []
  | .go i _ p => i :: itemsT p
  | .goc i p => i :: itemsT p
  | .alt i p q => i :: (itemsT p ++ itemsT q)
  | .stop => []
  | .sub s p => itemsT s ++ itemsT p
def items : YCode → List SItem
  | .ops is => is
  | .tree t => itemsT t
  | .seq a b => items a ++ items b
  | .cond _ a b => items a ++ items b
  | .block _ c => items c
  | .loop c => items c
  | _ => []
def dsts : List SItem → List Nat
  | [] => []
  | i :: r => (match i.dst with | .some d => insN d (dsts r) | .none => dsts r)
def appAt (src : List (Nat × Nat)) (d : Nat) : List SItem → Option (Nat × Nat)
  | [] => .none
  | i :: r =>
    match i.o, i.dst with
    | .mv (.tmp s), .some t => appAt ((t, s) :: src) d r
    | .app _ ty sz _ (.tmp x) _, _ => (match Nat.beq x d || (match src.find? fun p => Nat.beq p.1 x with | .some p => Nat.beq p.2 d | .none => false) with | true => .some (ty, sz) | false => appAt src d r)
    | .call _ (.tmp x :: _), _ => appAt src d r
    | _, _ => appAt src d r
def adr? (A : SA) (ad : List (Nat × Nat × Nat)) (d : Nat) : Option (Nat × Nat) :=
  match ad with
  | (t, o, j) :: r => (match Nat.beq t d with | true => .some (o, j) | false => adr? A r d)
  | [] => (match lkS A d with | .c (.ptr o j) => .some (o, j) | _ => .none)
def get3 (l : List (Nat × Nat × Nat)) (d : Nat) : Option (Nat × Nat) := match l with | [] => .none | (t, o, j) :: r => (match Nat.beq t d with | true => .some (o, j) | false => get3 r d)
def memO (o j : Nat) : List (Nat × Nat × Nat × Nat × Ty) → Bool
  | [] => false
  | (a, b, _) :: r => (match Nat.beq a o, Nat.beq b j with | true, true => true | _, _ => memO o j r)
def objCall (sigs : List Sig) (tyO : Nat → Option Ty) (A : SA) (S : SSt) (ad : List (Nat × Nat × Nat)) (f : Nat) (args : List Operand) : List (Nat × Nat × Nat × Nat × Ty) :=
  match sigs.find? fun s => Nat.beq s.f f with
  | .none => []
  | .some sg =>
    match stOf sg.ins with
    | .none => []
    | .some (_, obs) =>
      let svs : List SV := args.map fun x => (match x with | .tmp t => (match adr? A ad t with | .some (o, j) => .c (.ptr o j) | .none => .c .un) | _ => .c .un)
      nilAll obs S (osFind S obs 0 (osArgs sg.ins svs (List.replicate obs.length .none))) obs 0
def objOf (sigs : List Sig) (tyO : Nat → Option Ty) (A : SA) (S : SSt) : List SItem → List (Nat × Nat × Nat) → List (Nat × Nat × Nat) → List (Nat × Nat × Nat × Nat × Ty) → List (Nat × Nat × Nat × Nat × Ty)
  | [], _, _, acc => acc
  | i :: r, ad, ld, acc =>
    match i.o, i.dst with
    | .fa off (.tmp x), .some t => (match adr? A ad x with | .some (o, j) => objOf sigs tyO A S r ((t, o, j + off) :: ad) ld acc | .none => objOf sigs tyO A S r ad ld acc)
    | .mv (.tmp x), .some t => (match adr? A ad x with
      | .some (o, j) => objOf sigs tyO A S r ((t, o, j) :: ad) ld acc
      | .none => match get3 ld x with | .some (o, j) => objOf sigs tyO A S r ad ((t, o, j) :: ld) acc | .none => objOf sigs tyO A S r ad ld acc)
    | .load _ _ (.tmp x), .some t => (match adr? A ad x with | .some (o, j) => objOf sigs tyO A S r ad ((t, o, j) :: ld) acc | .none => objOf sigs tyO A S r ad ld acc)
    | .app _ ty sz _ (.tmp x) _, _ => (match get3 ld x with
      | .some (o, j) => (match nth S o, memO o j acc, tyO ty with
        | .some (.cells l), false, .some t => (match nth l j with | .some .nil => objOf sigs tyO A S r ad ld ((o, j, ty, sz, t) :: acc) | _ => objOf sigs tyO A S r ad ld acc)
        | _, _, _ => objOf sigs tyO A S r ad ld acc)
      | .none => objOf sigs tyO A S r ad ld acc)
    | .call (.func f) args, _ => objOf sigs tyO A S r ad ld (((objCall sigs tyO A S ad f args).filter fun q => !memO q.1 q.2.1 acc) ++ acc)
    | _, _ => objOf sigs tyO A S r ad ld acc
structure GS where
  tys : List Ty
  map : List (Tm × Nat)
  deriving Inhabited
def GS.fresh (g : GS) (t : Ty) : GS × Tm := ({ g with tys := g.tys ++ [t] }, .at g.tys.length)
def genT (keep : Bool) (g : GS) (t : Ty) (x : Tm) : GS × Tm :=
  let lit := match x with | .at _ => false | .fld _ _ => false | _ => true
  match keep, lit with
  | true, true => (g, x)
  | true, false =>
    (match g.map.find? fun p => Tm.eqb p.1 x with
    | .some p => (g, .at p.2)
    | .none => let n := g.tys.length; ({ tys := g.tys ++ [t], map := (x, n) :: g.map }, .at n))
  | false, _ => g.fresh t
mutual
def genC (keep : Bool) (tys : List Ty) (g : GS) : SC → GS × SC
  | .d t x => let (g, y) := genT keep g t x; (g, .d t y)
  | .clo f caps => let (g, l) := genCs true tys g caps; (g, .clo f l)
  | .el x j => let (g, y) := genT true g (match x with | .at i => (match nth tys i with | .some t => t | .none => .bool) | _ => .bool) x; (g, .el y j)
  | .rs o _ => (g, .rs o 0)
  | x => (g, x)
def genCs (keep : Bool) (tys : List Ty) (g : GS) : List SC → GS × List SC
  | [] => (g, [])
  | x :: r => let (g, y) := genC keep tys g x; let (g, l) := genCs keep tys g r; (g, y :: l)
end
def genV (keep : Bool) (tys : List Ty) (g : GS) : SV → GS × SV
  | .c x => let (g, y) := genC keep tys g x; (g, .c y)
  | .a l => let (g, y) := genCs keep tys g l; (g, .a y)
  | .t l => (g, .t l)
def genA (tys : List Ty) (asg : List Nat) (A : SA) : List Nat → GS → GS × SA
  | [], g => (g, [])
  | d :: r, g =>
    match lkS A d with
    | .c .un => genA tys asg A r g
    | .t _ => genA tys asg A r g
    | v => let (g, v) := genV (!memN d asg) tys g v; let (g, l) := genA tys asg A r g; (g, (d, v) :: l)
def genS (tys : List Ty) : SSt → GS → GS × SSt
  | [], g => (g, [])
  | o :: r, g =>
    match o with
    | .cells l => let (g, l) := genCs false tys g l; let (g, r) := genS tys r g; (g, .cells l :: r)
    | .arr w _ ty sz t _ => let (g, y) := g.fresh (.list t); let (g, r) := genS tys r g; (g, .arr w 0 ty sz t y :: r)
    | .bld T u x => let (g, x) := genC false tys g x; let (g, r) := genS tys r g; (g, .bld T u x :: r)
    | .any => let (g, r) := genS tys r g; (g, .any :: r)
mutual
def topC : SC → Nat
  | .ptr o _ => o + 1
  | .rs o _ => o + 1
  | .pa o _ _ _ _ => o + 1
  | .clo _ caps => topCs caps
  | _ => 0
def topCs : List SC → Nat
  | [] => 0
  | x :: r => max (topC x) (topCs r)
end
def topV : SV → Nat
  | .c x => topC x
  | .a l => topCs l
  | .t _ => 0
def topOb : SOb → Nat
  | .cells l => topCs l
  | .bld _ _ x => topC x
  | _ => 0
def topA : SA → Nat
  | [] => 0
  | p :: r => max (topV p.2) (topA r)
def topS (n : Nat) (S : SSt) : Nat := (S.take n).foldl (fun m o => max m (topOb o)) n
def ownOf (tyO : Nat → Option Ty) (A : SA) (is : List SItem) : List Nat → List (Nat × Nat × Nat × Ty)
  | [] => []
  | d :: r =>
    match lkS A d with
    | .c .nil | .c (.rs ..) => (match appAt [] d is with | .some (ty, sz) => (match tyO ty with | .some t => (d, ty, sz, t) :: ownOf tyO A is r | .none => ownOf tyO A is r) | .none => ownOf tyO A is r)
    | _ => ownOf tyO A is r
def rsUse : List ResultVar → List Nat
  | [] => []
  | .tmp t :: r => insN t (rsUse r)
  | .cell x _ :: r => insN x (rsUse r)
def tmplOf0 (sigs : List Sig) (nb : Nat) (tyO : Nat → Option Ty) (lay : Nat → List Ty) (F : YFun) (q : Nat) (tys : List Ty) (A : SA) (S : SSt) : Tmpl :=
  match liveQ q [] (rsUse F.rs) F.code 0 (rsUse F.rs) with
  | .none => ⟨[], [], [], [], [], 0⟩
  | .some (live, body) =>
    let is := items body
    let asg := dsts is
    let own := ownOf tyO A is live
    match ownS own F.m lay A S with
    | .none => ⟨[], [], [], [], [], 0⟩
    | .some (A, S1) =>
      let owo := objOf sigs tyO A S1 is [] [] []
      match ownO owo lay S1 with
      | .none => ⟨[], [], [], [], [], 0⟩
      | .some S =>
      let (g, A2) := genA tys asg A live ⟨[], []⟩
      let n := topS (topS (topS (max nb (topA A2)) S) S) S
      let (g, S2) := genS tys (S.take n) g
      ⟨g.tys, A2, S2, own, owo, 0⟩
def tmplOf (sigs : List Sig) (nb : Nat) (tyO : Nat → Option Ty) (lay : Nat → List Ty) (F : YFun) (q : Nat) (tys : List Ty) (A : SA) (S : SSt) : Tmpl :=
  match tmplOf0 sigs nb tyO lay F q tys A S with
  | ⟨a, b, c, d, f, _⟩ => ⟨a, b, c, d, f, q⟩
def firstAt (q : Nat) : Tr → Option (Unit → List Ty × List (Nat × SV) × List SOb)
  | .here j f => (match Nat.beq j q with | true => .some f | false => .none)
  | .br _ a b => (match firstAt q a with | .some x => .some x | .none => firstAt q b)
  | .both a b => (match firstAt q a with | .some x => .some x | .none => firstAt q b)
  | .lnil _ _ a b => (match firstAt q a with | .some x => .some x | .none => firstAt q b)
  | .ar _ _ _ r | .bin _ _ _ _ r | .cmp _ _ _ r | .scmp _ _ _ r | .beq _ _ _ r | .bnot _ r | .sapp _ _ r | .ssub _ _ _ r | .slen _ r | .sget _ _ r | .wrap _ _ r | .llen _ _ r | .lget _ _ _ r | .lidx _ _ _ r
  | .lapp _ _ _ _ r | .lnew _ _ _ r | .lsub _ _ _ _ r | .lset _ _ _ _ r | .lmk _ _ r | .lrep _ _ _ _ r | .mk _ _ r | .cp _ _ r | .toPtr _ _ r | .deref _ _ r | .some _ _ r | .unopt _ _ r | .isnil _ _ r | .sbytes _ r | .sof _ r
  | .mnx _ _ _ _ r | .ne0 _ r | .nneg _ r | .inn _ _ r | .isn _ _ r | .fcmp _ _ _ r | .fsum _ _ _ r | .fofi _ r | .foi _ r | .cx _ _ r | .re _ r | .im _ r | .and _ _ r | .call _ _ r => firstAt q r
  | _ => .none
def hereK (q : Nat) (e : SE) (A : SA) (S : SSt) : Tr := .here q fun _ => (e.tys, A, S)
def S0of (lay : Nat → List Ty) (ins : List In) : SSt := match stOf ins with | .none => [] | .some (_, obs) => obs.map (stO lay ⟨insTys ins, [], []⟩)
def findT (X : SEnv) (n : Nat) (w : Walk) (q : Nat) : List Tmpl → Nat → Option (Unit → List Ty × List (Nat × SV) × List SOb)
  | [], _ => firstAt q (sxc X (callN X n) w.F.m hereK w.F.code 0 (fun _ _ _ _ => .fail) ⟨insTys w.ins, [], []⟩ (argsA 0 (inSV X.lay ⟨insTys w.ins, [], []⟩ w.ins 0)) (S0of X.lay w.ins))
  | tm :: r, j =>
    match findT X n w q r (j + 1) with
    | .some f => .some f
    | .none => firstAt q (sxl X (callN X n) w.F.m hereK j w.F.code 0 (fun _ _ _ _ => .fail) ⟨tm.tys, [], []⟩ tm.A tm.S)
def tmplsGo (X : SEnv) (n : Nat) (w : Walk) : Nat → List Tmpl → List Tmpl
  | 0, acc => acc
  | k + 1, acc =>
    match findT X n w acc.length acc 0 with
    | .none => tmplsGo X n w k (acc ++ [⟨[], [], [], [], [], acc.length⟩])
    | .some f => let (tys, A, S) := f (); tmplsGo X n w k (acc ++ [tmplOf X.sigs (S0of X.lay w.ins).length X.tyO X.lay w.F acc.length tys A S])
def anyAt : Tr → Option (Nat × (Unit → List Ty × List (Nat × SV) × List SOb))
  | .here j f => .some (j, f)
  | .br _ a b => (match anyAt a with | .some x => .some x | .none => anyAt b)
  | .both a b => (match anyAt a with | .some x => .some x | .none => anyAt b)
  | .lnil _ _ a b => (match anyAt a with | .some x => .some x | .none => anyAt b)
  | .ar _ _ _ r | .bin _ _ _ _ r | .cmp _ _ _ r | .scmp _ _ _ r | .beq _ _ _ r | .bnot _ r | .sapp _ _ r | .ssub _ _ _ r | .slen _ r | .sget _ _ r | .wrap _ _ r | .llen _ _ r | .lget _ _ _ r | .lidx _ _ _ r
  | .lapp _ _ _ _ r | .lnew _ _ _ r | .lsub _ _ _ _ r | .lset _ _ _ _ r | .lmk _ _ r | .lrep _ _ _ _ r | .mk _ _ r | .cp _ _ r | .toPtr _ _ r | .deref _ _ r | .some _ _ r | .unopt _ _ r | .isnil _ _ r | .sbytes _ r | .sof _ r
  | .mnx _ _ _ _ r | .ne0 _ r | .nneg _ r | .inn _ _ r | .isn _ _ r | .fcmp _ _ _ r | .fsum _ _ _ r | .fofi _ r | .foi _ r | .cx _ _ r | .re _ r | .im _ r | .and _ _ r | .call _ _ r => anyAt r
  | _ => .none
def hereM (lay : Nat → List Ty) (m nb : Nat) (acc : List Tmpl) (j : Nat) (e : SE) (A : SA) (S : SSt) : Tr :=
  match goF lay m nb j e A S acc 0 with
  | .fail => .here j fun _ => (e.tys, A, S)
  | _ => .triv
def findM (X : SEnv) (n nb : Nat) (w : Walk) (acc : List Tmpl) : List Tmpl → Option (Nat × (Unit → List Ty × List (Nat × SV) × List SOb))
  | [] => anyAt (sxc X (callN X n) w.F.m (hereM X.lay w.F.m nb acc) w.F.code 0 (fun _ _ _ _ => .fail) ⟨insTys w.ins, [], []⟩ (argsA 0 (inSV X.lay ⟨insTys w.ins, [], []⟩ w.ins 0)) (S0of X.lay w.ins))
  | tm :: r =>
    match findM X n nb w acc r with
    | .some f => .some f
    | .none => anyAt (sxl X (callN X n) w.F.m (hereM X.lay w.F.m nb acc) tm.q w.F.code 0 (fun _ _ _ _ => .fail) ⟨tm.tys, [], []⟩ tm.A tm.S)
def tmplsMore (X : SEnv) (n : Nat) (w : Walk) : Nat → List Tmpl → List Tmpl
  | 0, acc => acc
  | k + 1, acc =>
    match findM X n (S0of X.lay w.ins).length w acc acc with
    | .none => acc
    | .some (q, f) => let (tys, A, S) := f (); tmplsMore X n w k (acc ++ [tmplOf X.sigs (S0of X.lay w.ins).length X.tyO X.lay w.F q tys A S])
def walkOf (X : SEnv) (n : Nat) (F : YFun) (ins : List In) (outs : List Ty) (more : Nat := 0) : Walk :=
  ⟨F, ins, outs, tmplsMore X n ⟨F, ins, outs, []⟩ more (tmplsGo X n ⟨F, ins, outs, []⟩ (nl F.code) [])⟩
structure Wk (X : SEnv) (F : YFun) (ins : List In) (outs : List Ty) (more : Nat := 0) where
  w : Walk
  eq : walkOf X 9 F ins outs more = w
  t0 : Tr
  e0 : walk0 X 9 w = t0
  ts : List Tr
  es : (List.range w.tms.length).map (walkL X 9 w) = ts
variable {U : Uni} [FullU U]
def Asked (Sp : List (FSpec U)) (t0 : Tr) (ts : List Tr) (s : FSpec U) : Prop :=
  ∀ (x : HL U (insTys s.sig.ins)), s.pre x → ∀ R : List (Dyn U.B), R = s.fn x → ∀ Go : Nat → List (Dyn U.B) → Prop,
    (∀ (q : Nat) (t : Tr), nth ts q = some t → ∀ (α : Type) (ρ : α → List (Dyn U.B)) (I : α → Prop) (μ : α → Nat), (∀ y, I y → (∀ z, μ z < μ y → I z → Go q (ρ z)) → TDen Sp (fun l => l = R) Go t (ρ y)) → ∀ y, I y → Go q (ρ y)) →
    TDen Sp (fun l => l = R) Go t0 (HL.dyn _ x)
theorem Wk.ok {P : Program} {X : SEnv} {Sp : List (FSpec U)} (hm : P.follows .mixedOrders = true) (tok : TabOk P X.tb) (hE : EnvOk P U X Sp) (en : Ent P X.tb (stlW X.tb)) {s : FSpec U} {more : Nat} (k : Wk X en.F s.sig.ins s.sig.outs more) (hf : s.sig.f = en.f) (hl : Nat.ble s.sig.ins.length en.F.m = true)
    (h : Asked Sp k.t0 k.ts s) (h0 : plainIns s.sig.ins = true := by rfl) : FGood P s := by
  obtain ⟨w, eq, t0, e0, ts, es⟩ := k
  subst eq
  refine walk_ok hm tok hE (n := 9) en (w := walkOf X 9 en.F s.sig.ins s.sig.outs more) rfl (by rw [← hf]; rfl) hl h0 ?_
  intro x hp R hR Go hGo
  rw [e0]
  refine h x hp R hR Go fun q t ht => ?_
  have : walkL X 9 (walkOf X 9 en.F s.sig.ins s.sig.outs more) q = t := by
    simp only at ht
    rw [← es, nth_eq, List.getElem?_map] at ht
    cases hq : (List.range (walkOf X 9 en.F s.sig.ins s.sig.outs more).tms.length)[q]? with
    | none => simp [hq] at ht
    | some q' =>
      have := (List.getElem?_eq_some_iff.1 hq)
      obtain ⟨h1, h2⟩ := this
      simp at h2
      subst h2
      simpa [hq] using ht
  rw [← this]
  exact hGo q
def bodiesOf {P : Program} {tb : Tab} (l : List (Ent P tb (stlW tb))) (f : Nat) : Option YFun :=
  match l with
  | [] => .none
  | e :: r => (match Nat.beq e.f f with | true => .some e.F | false => bodiesOf r f)
theorem bodiesOf_ok {P : Program} {tb : Tab} : ∀ {l : List (Ent P tb (stlW tb))} {f : Nat} {F : YFun}, bodiesOf l f = some F → ∃ en : Ent P tb (stlW tb), en.f = f ∧ en.F = F
  | [], f, F, h => by simp [bodiesOf] at h
  | e :: r, f, F, h => by
    simp only [bodiesOf] at h
    split at h
    · rename_i hb
      cases h
      exact ⟨e, beq_nat hb, rfl⟩
    · exact bodiesOf_ok h
inductive FAll (P : Program) : List (FSpec U) → Prop
  | nil : FAll P []
  | cons {s : FSpec U} {r : List (FSpec U)} : FGood P s → FAll P r → FAll P (s :: r)
theorem FAll.mem {P : Program} {l : List (FSpec U)} (h : FAll P l) : ∀ s ∈ l, FGood P s := by
  induction h with
  | nil => intro s hs; cases hs
  | cons h1 h2 ih =>
    intro s hs
    rcases List.mem_cons.1 hs with rfl | hs
    · exact h1
    · exact ih s hs
abbrev XE (U : Uni) {P : Program} {tb : Tab} (tyO : Nat → Option Ty) (Sp : List (FSpec U)) (inl : List (Ent P tb (stlW tb))) (sm : List Nat) : SEnv := ⟨tb, U.lay, tyO, Sp.map FSpec.sig, bodiesOf inl, fun f => memN f sm⟩
theorem memN_ok {x : Nat} : ∀ {l : List Nat}, memN x l = true → x ∈ l
  | [], h => by simp [memN] at h
  | y :: r, h => by
    simp only [memN] at h
    split at h
    · rename_i hb; rw [beq_nat hb]; exact List.mem_cons_self ..
    · exact List.mem_cons_of_mem _ (memN_ok h)
theorem envOk {P : Program} {tb : Tab} {tyO : Nat → Option Ty} {Sp : List (FSpec U)} (h : FAll P Sp) (inl : List (Ent P tb (stlW tb))) {sm : List Nat} (hs : ∀ f ∈ sm, Ext P f Extern.AbiNoEscape.same) : EnvOk P U (XE U tyO Sp inl sm) Sp :=
  ⟨rfl, rfl, h.mem, fun f F hF => bodiesOf_ok hF, fun f hf => hs f (memN_ok hf)⟩
theorem no_same {P : Program} : ∀ f ∈ ([] : List Nat), Ext P f Extern.AbiNoEscape.same := fun f h => by cases h
end Go.Dm.Sx
namespace Go.Dm.Sx
open Go.Dm
set_option linter.unusedVariables false
set_option linter.unusedSimpArgs false
structure Edit where
  at_ : Int
  cut : Int
  put : List (List UInt8)
  deriving Inhabited
structure KEdit where
  at_ : Int
  cut : Int
  put : List (List (Int))
  deriving Inhabited
@[reducible] def UB : Nat → Type
  | 0 => Edit
  | 1 => KEdit
  | _ => Unit
def Udft : (n : Nat) → UB n
  | 0 => (default : Edit)
  | 1 => (default : KEdit)
  | _ + 2 => ()
def Ulay : Nat → List Ty
  | 0 => [.int .i64, .int .i64, .list (.str)]
  | 1 => [.int .i64, .int .i64, .list (.list (.int .i64))]
  | _ => []
def noU : Dyn UB := ⟨.bool, false⟩
def Uacc : (n : Nat) → UB n → Nat → Dyn UB
  | 0, x, 0 => ⟨.int .i64, ((x : Edit).at_)⟩
  | 0, x, 1 => ⟨.int .i64, ((x : Edit).cut)⟩
  | 0, x, 2 => ⟨.list (.str), ((x : Edit).put)⟩
  | 1, x, 0 => ⟨.int .i64, ((x : KEdit).at_)⟩
  | 1, x, 1 => ⟨.int .i64, ((x : KEdit).cut)⟩
  | 1, x, 2 => ⟨.list (.list (.int .i64)), ((x : KEdit).put)⟩
  | _, _, _ => noU
def gt (l : List (Dyn UB)) (i : Nat) : Dyn UB := l.getD i noU
def gi : Dyn UB → Int
  | ⟨.int _, n⟩ => n
  | _ => 0
def gb : Dyn UB → Bool
  | ⟨.bool, n⟩ => n
  | _ => false
def gs : Dyn UB → List UInt8
  | ⟨.str, n⟩ => n
  | _ => []
def gf : Dyn UB → Nat
  | ⟨.flo, n⟩ => n
  | _ => 0
def gc : Dyn UB → Nat × Nat
  | ⟨.cpl, n⟩ => n
  | _ => (0, 0)
def gd : (t : Ty) → T UB t
  | .int _ => (0 : Int)
  | .bool => false
  | .str => ([] : List UInt8)
  | .flo => (0 : Nat)
  | .cpl => ((0, 0) : Nat × Nat)
  | .list _ => []
  | .ptr t => gd t
  | .opt _ => none
  | .base n => Udft n
def ga (t : Ty) (d : Dyn UB) : T UB t := if h : d.t = t then h ▸ d.v else gd t
theorem ga_self (t : Ty) (x : T UB t) : ga t ⟨t, x⟩ = x := by simp [ga]
theorem gt_of {l : List (Dyn UB)} {i : Nat} {d : Dyn UB} (h : l[i]? = some d) : gt l i = d := by simp [gt, h]
def Ubd : (n : Nat) → List (Dyn UB) → UB n
  | 0, l => (Edit.mk (gi (gt l 0)) (gi (gt l 1)) (ga (.list (.str)) (gt l 2)))
  | 1, l => (KEdit.mk (gi (gt l 0)) (gi (gt l 1)) (ga (.list (.list (.int .i64))) (gt l 2)))
  | _ + 2, _ => ()
theorem Uty {l : List (Dyn UB)} {k : Nat} (h : l.map Dyn.t = Ulay k) {j : Nat} {d : Dyn UB} (hd : l[j]? = some d) {t : Ty} (ht : (Ulay k)[j]? = some t) : ∃ v : T UB t, d = ⟨t, v⟩ := by
  rw [← h, List.getElem?_map, hd] at ht
  obtain ⟨t', v⟩ := d
  simp only [Option.map_some, Option.some.injEq] at ht
  subst ht
  exact ⟨v, rfl⟩
theorem Uat_0 (x : Edit) : ∀ j t, (Ulay 0)[j]? = some t → (Uacc 0 x j).t = t
  | 0, t, h => by simp only [Ulay, List.getElem?_cons_zero, List.getElem?_cons_succ, Option.some.injEq] at h; exact h
  | 1, t, h => by simp only [Ulay, List.getElem?_cons_zero, List.getElem?_cons_succ, Option.some.injEq] at h; exact h
  | 2, t, h => by simp only [Ulay, List.getElem?_cons_zero, List.getElem?_cons_succ, Option.some.injEq] at h; exact h
  | j + 3, t, h => by simp [Ulay] at h
theorem Uba_0 (l : List (Dyn UB)) (h : l.map Dyn.t = Ulay 0) : ∀ j d, l[j]? = some d → Uacc 0 (Ubd 0 l) j = d
  | 0, d, hd => by
    obtain ⟨v, rfl⟩ := Uty h hd (t := .int .i64) rfl
    show (⟨.int .i64, (gi (gt l 0))⟩ : Dyn UB) = _
    rw [gt_of hd]
    rfl
  | 1, d, hd => by
    obtain ⟨v, rfl⟩ := Uty h hd (t := .int .i64) rfl
    show (⟨.int .i64, (gi (gt l 1))⟩ : Dyn UB) = _
    rw [gt_of hd]
    rfl
  | 2, d, hd => by
    obtain ⟨v, rfl⟩ := Uty h hd (t := .list (.str)) rfl
    show (⟨.list (.str), (ga (.list (.str)) (gt l 2))⟩ : Dyn UB) = _
    rw [gt_of hd, ga_self]
  | j + 3, d, hd => by
    have h1 := (List.getElem?_eq_some_iff.1 hd).1
    have h2 := congrArg List.length h
    simp [Ulay] at h2
    omega
theorem Uat_1 (x : KEdit) : ∀ j t, (Ulay 1)[j]? = some t → (Uacc 1 x j).t = t
  | 0, t, h => by simp only [Ulay, List.getElem?_cons_zero, List.getElem?_cons_succ, Option.some.injEq] at h; exact h
  | 1, t, h => by simp only [Ulay, List.getElem?_cons_zero, List.getElem?_cons_succ, Option.some.injEq] at h; exact h
  | 2, t, h => by simp only [Ulay, List.getElem?_cons_zero, List.getElem?_cons_succ, Option.some.injEq] at h; exact h
  | j + 3, t, h => by simp [Ulay] at h
theorem Uba_1 (l : List (Dyn UB)) (h : l.map Dyn.t = Ulay 1) : ∀ j d, l[j]? = some d → Uacc 1 (Ubd 1 l) j = d
  | 0, d, hd => by
    obtain ⟨v, rfl⟩ := Uty h hd (t := .int .i64) rfl
    show (⟨.int .i64, (gi (gt l 0))⟩ : Dyn UB) = _
    rw [gt_of hd]
    rfl
  | 1, d, hd => by
    obtain ⟨v, rfl⟩ := Uty h hd (t := .int .i64) rfl
    show (⟨.int .i64, (gi (gt l 1))⟩ : Dyn UB) = _
    rw [gt_of hd]
    rfl
  | 2, d, hd => by
    obtain ⟨v, rfl⟩ := Uty h hd (t := .list (.list (.int .i64))) rfl
    show (⟨.list (.list (.int .i64)), (ga (.list (.list (.int .i64))) (gt l 2))⟩ : Dyn UB) = _
    rw [gt_of hd, ga_self]
  | j + 3, d, hd => by
    have h1 := (List.getElem?_eq_some_iff.1 hd).1
    have h2 := congrArg List.length h
    simp [Ulay] at h2
    omega
theorem Uat : ∀ n (x : UB n) j t, (Ulay n)[j]? = some t → (Uacc n x j).t = t
  | 0, x => Uat_0 x
  | 1, x => Uat_1 x
  | _ + 2, x => fun j t h => by simp [Ulay] at h
theorem Uba : ∀ n l, l.map Dyn.t = Ulay n → ∀ j d, l[j]? = some d → Uacc n (Ubd n l) j = d
  | 0, l => Uba_0 l
  | 1, l => Uba_1 l
  | _ + 2, l => fun h j d hd => by
    have h1 := (List.getElem?_eq_some_iff.1 hd).1
    have h2 := congrArg List.length h
    simp [Ulay] at h2
    subst h2
    simp at h1
def Un : Uni := ⟨UB, Udft, Ulay, Uacc, Ubd, Uat, Uba⟩
@[simp] theorem ac_0_0 (x : Edit) : Un.acc 0 x 0 = ⟨.int .i64, x.at_⟩ := rfl
@[simp] theorem ad_0_0 (x : Un.B 0) : Un.acc 0 x 0 = ⟨.int .i64, let x : Edit := x; x.at_⟩ := rfl
@[simp] theorem fl_0_0 (x : Edit) : fldD (@Dyn.mk Un.B (.base 0) x) 0 = ⟨.int .i64, x.at_⟩ := rfl
@[simp] theorem fp_0_0 (x : Edit) : fldD (@Dyn.mk Un.B (.ptr (.base 0)) x) 0 = ⟨.int .i64, x.at_⟩ := rfl
@[simp] theorem ac_0_1 (x : Edit) : Un.acc 0 x 1 = ⟨.int .i64, x.cut⟩ := rfl
@[simp] theorem ad_0_1 (x : Un.B 0) : Un.acc 0 x 1 = ⟨.int .i64, let x : Edit := x; x.cut⟩ := rfl
@[simp] theorem fl_0_1 (x : Edit) : fldD (@Dyn.mk Un.B (.base 0) x) 1 = ⟨.int .i64, x.cut⟩ := rfl
@[simp] theorem fp_0_1 (x : Edit) : fldD (@Dyn.mk Un.B (.ptr (.base 0)) x) 1 = ⟨.int .i64, x.cut⟩ := rfl
@[simp] theorem ac_0_2 (x : Edit) : Un.acc 0 x 2 = ⟨.list (.str), x.put⟩ := rfl
@[simp] theorem ad_0_2 (x : Un.B 0) : Un.acc 0 x 2 = ⟨.list (.str), let x : Edit := x; x.put⟩ := rfl
@[simp] theorem fl_0_2 (x : Edit) : fldD (@Dyn.mk Un.B (.base 0) x) 2 = ⟨.list (.str), x.put⟩ := rfl
@[simp] theorem fp_0_2 (x : Edit) : fldD (@Dyn.mk Un.B (.ptr (.base 0)) x) 2 = ⟨.list (.str), x.put⟩ := rfl
theorem bdU_0 (a0 : Int) (a1 : Int) (a2 : List (List UInt8)) : Un.bd 0 [(⟨.int .i64, a0⟩ : Dyn UB), (⟨.int .i64, a1⟩ : Dyn UB), (⟨.list (.str), a2⟩ : Dyn UB)] = (Edit.mk a0 a1 a2) := by simp only [Un, Ubd, gt, List.getD_cons_zero, List.getD_cons_succ, ga_self, gi, gb, gs, gf, gc]
@[simp] theorem bd_0 (a0 : Int) (a1 : Int) (a2 : List (List UInt8)) : Un.bd 0 [@Dyn.mk Un.B (.int .i64) a0, @Dyn.mk Un.B (.int .i64) a1, @Dyn.mk Un.B (.list (.str)) a2] = (Edit.mk a0 a1 a2) := bdU_0 a0 a1 a2
@[simp] theorem ac_1_0 (x : KEdit) : Un.acc 1 x 0 = ⟨.int .i64, x.at_⟩ := rfl
@[simp] theorem ad_1_0 (x : Un.B 1) : Un.acc 1 x 0 = ⟨.int .i64, let x : KEdit := x; x.at_⟩ := rfl
@[simp] theorem fl_1_0 (x : KEdit) : fldD (@Dyn.mk Un.B (.base 1) x) 0 = ⟨.int .i64, x.at_⟩ := rfl
@[simp] theorem fp_1_0 (x : KEdit) : fldD (@Dyn.mk Un.B (.ptr (.base 1)) x) 0 = ⟨.int .i64, x.at_⟩ := rfl
@[simp] theorem ac_1_1 (x : KEdit) : Un.acc 1 x 1 = ⟨.int .i64, x.cut⟩ := rfl
@[simp] theorem ad_1_1 (x : Un.B 1) : Un.acc 1 x 1 = ⟨.int .i64, let x : KEdit := x; x.cut⟩ := rfl
@[simp] theorem fl_1_1 (x : KEdit) : fldD (@Dyn.mk Un.B (.base 1) x) 1 = ⟨.int .i64, x.cut⟩ := rfl
@[simp] theorem fp_1_1 (x : KEdit) : fldD (@Dyn.mk Un.B (.ptr (.base 1)) x) 1 = ⟨.int .i64, x.cut⟩ := rfl
@[simp] theorem ac_1_2 (x : KEdit) : Un.acc 1 x 2 = ⟨.list (.list (.int .i64)), x.put⟩ := rfl
@[simp] theorem ad_1_2 (x : Un.B 1) : Un.acc 1 x 2 = ⟨.list (.list (.int .i64)), let x : KEdit := x; x.put⟩ := rfl
@[simp] theorem fl_1_2 (x : KEdit) : fldD (@Dyn.mk Un.B (.base 1) x) 2 = ⟨.list (.list (.int .i64)), x.put⟩ := rfl
@[simp] theorem fp_1_2 (x : KEdit) : fldD (@Dyn.mk Un.B (.ptr (.base 1)) x) 2 = ⟨.list (.list (.int .i64)), x.put⟩ := rfl
theorem bdU_1 (a0 : Int) (a1 : Int) (a2 : List (List (Int))) : Un.bd 1 [(⟨.int .i64, a0⟩ : Dyn UB), (⟨.int .i64, a1⟩ : Dyn UB), (⟨.list (.list (.int .i64)), a2⟩ : Dyn UB)] = (KEdit.mk a0 a1 a2) := by simp only [Un, Ubd, gt, List.getD_cons_zero, List.getD_cons_succ, ga_self, gi, gb, gs, gf, gc]
@[simp] theorem bd_1 (a0 : Int) (a1 : Int) (a2 : List (List (Int))) : Un.bd 1 [@Dyn.mk Un.B (.int .i64) a0, @Dyn.mk Un.B (.int .i64) a1, @Dyn.mk Un.B (.list (.list (.int .i64))) a2] = (KEdit.mk a0 a1 a2) := bdU_1 a0 a1 a2
@[simp] theorem of_b0 (r : List In) (x : Edit) (l : List (Dyn Un.B)) : HL.of (insTys (.ty (.base 0) :: r)) (@Dyn.mk Un.B (.base 0) x :: l) = ((x, HL.of (insTys r) l) : HL Un (insTys (.ty (.base 0) :: r))) := of_ty (U := Un) (.base 0) r x l
@[simp] theorem as_b0 (x : Edit) : Dyn.as (.base 0) (@Dyn.mk Un.B (.base 0) x) = x := as_self (U := Un) (.base 0) x
@[simp] theorem of_l0 (r : List In) (x : List Edit) (l : List (Dyn Un.B)) : HL.of (insTys (.ty (.list (.base 0)) :: r)) (@Dyn.mk Un.B (.list (.base 0)) x :: l) = ((x, HL.of (insTys r) l) : HL Un (insTys (.ty (.list (.base 0)) :: r))) := of_ty (U := Un) (.list (.base 0)) r x l
@[simp] theorem as_l0 (x : List Edit) : Dyn.as (.list (.base 0)) (@Dyn.mk Un.B (.list (.base 0)) x) = x := as_self (U := Un) (.list (.base 0)) x
@[simp] theorem of_o0 (r : List In) (x : Option Edit) (l : List (Dyn Un.B)) : HL.of (insTys (.ty (.opt (.base 0)) :: r)) (@Dyn.mk Un.B (.opt (.base 0)) x :: l) = ((x, HL.of (insTys r) l) : HL Un (insTys (.ty (.opt (.base 0)) :: r))) := of_ty (U := Un) (.opt (.base 0)) r x l
@[simp] theorem as_o0 (x : Option Edit) : Dyn.as (.opt (.base 0)) (@Dyn.mk Un.B (.opt (.base 0)) x) = x := as_self (U := Un) (.opt (.base 0)) x
@[simp] theorem of_p0 (r : List In) (x : Edit) (l : List (Dyn Un.B)) : HL.of (insTys (.ty (.ptr (.base 0)) :: r)) (@Dyn.mk Un.B (.ptr (.base 0)) x :: l) = ((x, HL.of (insTys r) l) : HL Un (insTys (.ty (.ptr (.base 0)) :: r))) := of_ty (U := Un) (.ptr (.base 0)) r x l
@[simp] theorem as_p0 (x : Edit) : Dyn.as (.ptr (.base 0)) (@Dyn.mk Un.B (.ptr (.base 0)) x) = x := as_self (U := Un) (.ptr (.base 0)) x
@[simp] theorem of_b1 (r : List In) (x : KEdit) (l : List (Dyn Un.B)) : HL.of (insTys (.ty (.base 1) :: r)) (@Dyn.mk Un.B (.base 1) x :: l) = ((x, HL.of (insTys r) l) : HL Un (insTys (.ty (.base 1) :: r))) := of_ty (U := Un) (.base 1) r x l
@[simp] theorem as_b1 (x : KEdit) : Dyn.as (.base 1) (@Dyn.mk Un.B (.base 1) x) = x := as_self (U := Un) (.base 1) x
@[simp] theorem of_l1 (r : List In) (x : List KEdit) (l : List (Dyn Un.B)) : HL.of (insTys (.ty (.list (.base 1)) :: r)) (@Dyn.mk Un.B (.list (.base 1)) x :: l) = ((x, HL.of (insTys r) l) : HL Un (insTys (.ty (.list (.base 1)) :: r))) := of_ty (U := Un) (.list (.base 1)) r x l
@[simp] theorem as_l1 (x : List KEdit) : Dyn.as (.list (.base 1)) (@Dyn.mk Un.B (.list (.base 1)) x) = x := as_self (U := Un) (.list (.base 1)) x
@[simp] theorem of_o1 (r : List In) (x : Option KEdit) (l : List (Dyn Un.B)) : HL.of (insTys (.ty (.opt (.base 1)) :: r)) (@Dyn.mk Un.B (.opt (.base 1)) x :: l) = ((x, HL.of (insTys r) l) : HL Un (insTys (.ty (.opt (.base 1)) :: r))) := of_ty (U := Un) (.opt (.base 1)) r x l
@[simp] theorem as_o1 (x : Option KEdit) : Dyn.as (.opt (.base 1)) (@Dyn.mk Un.B (.opt (.base 1)) x) = x := as_self (U := Un) (.opt (.base 1)) x
@[simp] theorem of_p1 (r : List In) (x : KEdit) (l : List (Dyn Un.B)) : HL.of (insTys (.ty (.ptr (.base 1)) :: r)) (@Dyn.mk Un.B (.ptr (.base 1)) x :: l) = ((x, HL.of (insTys r) l) : HL Un (insTys (.ty (.ptr (.base 1)) :: r))) := of_ty (U := Un) (.ptr (.base 1)) r x l
@[simp] theorem as_p1 (x : KEdit) : Dyn.as (.ptr (.base 1)) (@Dyn.mk Un.B (.ptr (.base 1)) x) = x := as_self (U := Un) (.ptr (.base 1)) x
@[simp] theorem of_s0 (obs : List IO) (r : List In) (x : Edit) (l : List (Dyn Un.B)) : HL.of (insTys (.st 0 obs :: r)) (@Dyn.mk Un.B (.base 0) x :: l) = ((x, HL.of (insTys r) l) : HL Un (insTys (.st 0 obs :: r))) := of_ty (U := Un) (.base 0) r x l
@[simp] theorem of_s1 (obs : List IO) (r : List In) (x : KEdit) (l : List (Dyn Un.B)) : HL.of (insTys (.st 1 obs :: r)) (@Dyn.mk Un.B (.base 1) x :: l) = ((x, HL.of (insTys r) l) : HL Un (insTys (.st 1 obs :: r))) := of_ty (U := Un) (.base 1) r x l
theorem hasLt_0 : ∀ m, m < 0 → ∀ x : Un.B m, Has Un ⟨.base m, x⟩ := fun m h => by omega
theorem has_0 (x : Un.B 0) : Has Un ⟨.base 0, x⟩ := has_base (U := Un) (n := 0) (hasLt_0) x fun j t h => by
  have : ((Ulay 0).all fun t => noBase t && tyBelow 0 t) = true := by decide
  have := List.all_eq_true.1 this t (List.mem_of_getElem? h)
  rw [Bool.and_eq_true] at this
  exact ⟨this.1, .inl this.2⟩
theorem hasLt_1 : ∀ m, m < 1 → ∀ x : Un.B m, Has Un ⟨.base m, x⟩
  | 0, _, x => has_0 x
  | m + 1, h, _ => by omega
theorem has_1 (x : Un.B 1) : Has Un ⟨.base 1, x⟩ := has_base (U := Un) (n := 1) (hasLt_1) x fun j t h => by
  have : ((Ulay 1).all fun t => noBase t && tyBelow 1 t) = true := by decide
  have := List.all_eq_true.1 this t (List.mem_of_getElem? h)
  rw [Bool.and_eq_true] at this
  exact ⟨this.1, .inl this.2⟩
theorem hasAll : ∀ m, ∀ x : Un.B m, Has Un ⟨.base m, x⟩
  | 0, x => has_0 x
  | 1, x => has_1 x
  | m + 2, _ => ⟨[], rfl⟩
instance : FullU Un := ⟨fun d => by
  obtain ⟨t, x⟩ := d
  have key : ∀ (t : Ty), ∃ n, tyBelow n t = true := fun t => by
    induction t with
    | list t ih => exact ih
    | ptr t ih => exact ih
    | opt t ih => exact ih
    | base m => exact ⟨m + 1, by show Nat.blt m (m + 1) = true; unfold Nat.blt; rw [Nat.ble_eq]; omega⟩
    | _ => exact ⟨0, rfl⟩
  obtain ⟨n, h⟩ := key t
  exact has_ty (fun m _ x => hasAll m x) t h x⟩
end Go.Dm.Sx
namespace Go.Proofs.Ytpoegfkajdbplaa
open Go.Dm Go.Dm.Sx
set_option linter.unusedVariables false
def tyL : List (Option Ty) := [none, none, some (.int .i64), some (.int .i64), some (.bool), some (.int .u8), some (.int .u8), none, none, some (.str), some (.str), some (.str), some (.int .u64), none, none, none, none, none, none, none, none, some (.int .i32), some (.list (.str)), some (.cpl), none, none, none, none, none, none, some (.list (.int .i64)), some (.list (.cpl)), none, none, none, none, none, some (.list (.base 0)), none, none, none, none, none, some (.base 0), some (.list (.int .u8)), none, none, none, none, none, none, none, none, none, some (.list (.list (.int .u8))), none, none, none, none, none, none, none, none, none, some (.list (.list (.int .i64))), some (.int .u64), none, none, none, none, none, none, none, none, none, none, none, none, none, none, none, none, none, none, none, none, none, none, some (.flo), none, none, none, none, none, none, none, none, none, none, none, none, none, none, none, none, none, none, some (.list (.bool)), none, none, none, none, none, none, none, none, some (.int .u32), some (.int .u64), none, some (.opt (.int .i64)), none, none, none, none, none, none, none, none, none, none, none, none, none, none, none, none, none, none, none, none, none, none, none, none, none, none, none, none, none, none, none, none, none, none, none, none, none, none, none, none, none, none, none, none, none, none, none, none, none, none, none, none, none, none, none, none, none, none, none, none, none, none, none, none, none, none, none, none, none, none, none, none, none, none, none, some (.int .u8), some (.int .u8), none, some (.opt (.int .u8)), some (.int .i32), some (.int .i32), none, none, none]
def tyO (t : Nat) : Option Ty := match nth tyL t with | some x => x | none => none
end Go.Proofs.Ytpoegfkajdbplaa
namespace Go.Proofs.Ytpoegfkajdbplaa
open Go.Dm Go.Dm.Sx
set_option linter.unusedVariables false
set_option linter.unusedSimpArgs false
abbrev DI (n : Int) : Dyn Un.B := ⟨.int .i64, n⟩
abbrev DB (n : Bool) : Dyn Un.B := ⟨.bool, n⟩
abbrev DS (n : List UInt8) : Dyn Un.B := ⟨.str, n⟩
abbrev DL (t : Ty) (l : List (T Un.B t)) : Dyn Un.B := ⟨.list t, l⟩
abbrev Str := List UInt8
noncomputable abbrev X (Sp : List (FSpec Un)) (inl : List (Ent Try.prog tb (stlW tb)) := []) (sm : List Nat := []) : SEnv := XE Un tyO Sp inl sm
abbrev tI : In := .ty (.int .i64)
abbrev tU : In := .ty (.int .u8)
abbrev tS : In := .ty .str
abbrev tLI : In := .ty (.list (.int .i64))
abbrev oI : Ty := .int .i64
def within (n lo hi : Int) : Int := lo + n % (hi - lo + 1)
noncomputable def k_Within : Wk (X []) w_glossbook_Within.F [tI, tI, tI] [oI] := ⟨_, by cbv, _, by cbv, _, by cbv⟩
def s_Within : FSpec Un := ⟨⟨f_glossbook_Within, [tI, tI, tI], [oI]⟩, fun ((n : Int), (lo : Int), (hi : Int), _) => -1152921504606846976 ≤ lo ∧ lo ≤ hi ∧ hi ≤ 1152921504606846976, fun (n, lo, hi, _) => [DI (within n lo hi)], fun _ => rfl⟩
theorem tmod_emod {a m : Int} (hm : 0 < m) : (a.tmod m < 0 → a.tmod m + m = a % m) ∧ (0 ≤ a.tmod m → a.tmod m = a % m) ∧ -m < a.tmod m ∧ a.tmod m < m := by
  have h1 := Int.tmod_eq_emod (a := a) (b := m)
  have h2 := Int.emod_nonneg a (show m ≠ 0 by omega)
  have h3 := Int.emod_lt_of_pos a hm
  have h4 : (m.natAbs : Int) = m := by omega
  split at h1 <;> refine ⟨fun h => ?_, fun h => ?_, ?_, ?_⟩ <;> omega
theorem within_ok : FGood Try.prog s_Within := by
  refine Wk.ok mixed tok (envOk .nil [] no_same) w_glossbook_Within k_Within rfl rfl ?_
  rintro ⟨(n : Int), (lo : Int), (hi : Int), _⟩ hpre R hR Go hGo
  replace hR : R = [DI (within n lo hi)] := hR
  replace hpre : -1152921504606846976 ≤ lo ∧ lo ≤ hi ∧ hi ≤ 1152921504606846976 := hpre
  show TDen _ _ _ _ [DI n, DI lo, DI hi]
  simp [k_Within, TDen, Tm.den, nthD, in64, hR, within]
  obtain ⟨h1, h2, h3⟩ := hpre
  have hm : 0 < hi - lo + 1 := by omega
  obtain ⟨t1, t2, t3, t4⟩ := tmod_emod (a := n) hm
  refine ⟨by omega, by omega, by omega, fun h => ⟨?_, ?_, ?_, ?_, ?_⟩, fun h => ⟨?_, ?_⟩⟩ <;> omega
theorem within_in {n lo hi : Int} (h : lo ≤ hi) : lo ≤ within n lo hi ∧ within n lo hi ≤ hi := by
  have h2 := Int.emod_nonneg n (show hi - lo + 1 ≠ 0 by omega)
  have h3 := Int.emod_lt_of_pos n (show 0 < hi - lo + 1 by omega)
  unfold within
  omega
end Go.Proofs.Ytpoegfkajdbplaa
namespace Go.Fl
open Ieee
def fl (n : Nat) : Nat := double.nearest false n 0
theorem nearest_scaled (n k : Nat) (h : n < 2 ^ 53) (_hk : k ≤ 1074) :
    double.nearest false (n * 2 ^ k) (-(k : Int)) = if n = 0 then 0 else (n.log2 + 1022) * 2 ^ 52 + n * 2 ^ (52 - n.log2) := by
  unfold Format.nearest
  by_cases hn : n = 0
  · subst hn; simp [Format.word]
  · have hp : 0 < 2 ^ k := Nat.two_pow_pos _
    have hnk : n * 2 ^ k ≠ 0 := by
      intro e; rcases Nat.mul_eq_zero.1 e with e | e
      · exact hn e
      · omega
    have hL : n.log2 < 53 := (Nat.log2_lt hn).2 h
    have hlog : (n * 2 ^ k).log2 = n.log2 + k := by
      rw [Nat.log2_eq_iff hnk]
      have h1 := Nat.log2_self_le hn
      have h2 := @Nat.lt_log2_self n
      constructor
      · rw [Nat.pow_add]; exact Nat.mul_le_mul_right _ h1
      · rw [show n.log2 + k + 1 = (n.log2 + 1) + k from by omega, Nat.pow_add]; exact Nat.mul_lt_mul_of_pos_right h2 hp
    have hlast : max (-(k:Int) + ((n * 2 ^ k).log2 : Nat) - (double.fractionBits : Nat)) double.leastPlace = (n.log2 : Int) - 52 := by
      rw [hlog]; simp [double, Format.leastPlace]; omega
    simp only [hnk, hn, if_false]
    rw [hlast]
    have e1 : (n.log2 : Int) - 52 - double.leastPlace = ((n.log2 + 1022 : Nat) : Int) := by simp [double, Format.leastPlace]; omega
    rw [e1]
    have hkept : Toward.even.cut false ((n * 2 ^ k) <<< (-(k:Int) - ((n.log2 : Int) - 52)).toNat) ((n.log2 : Int) - 52 - -(k:Int)).toNat = n * 2 ^ (52 - n.log2) := by
      by_cases hs : n.log2 + k ≤ 52
      · have a1 : (-(k:Int) - ((n.log2 : Int) - 52)).toNat = 52 - n.log2 - k := by omega
        have a2 : ((n.log2 : Int) - 52 - -(k:Int)).toNat = 0 := by omega
        rw [a1, a2, Nat.shiftLeft_eq, Nat.mul_assoc, ← Nat.pow_add, show k + (52 - n.log2 - k) = 52 - n.log2 from by omega]
        simp [Toward.cut, Nat.mod_one]
      · have a1 : (-(k:Int) - ((n.log2 : Int) - 52)).toNat = 0 := by omega
        have a2 : ((n.log2 : Int) - 52 - -(k:Int)).toNat = n.log2 + k - 52 := by omega
        rw [a1, a2]
        have a3 : n * 2 ^ k = n * 2 ^ (52 - n.log2) * 2 ^ (n.log2 + k - 52) := by
          rw [Nat.mul_assoc, ← Nat.pow_add, show (52 - n.log2) + (n.log2 + k - 52) = k from by omega]
        have a4 : min (n.log2 + k - 52) ((n * 2 ^ k).log2 + 2) = n.log2 + k - 52 := by rw [hlog]; omega
        unfold Toward.cut
        simp only [Nat.shiftLeft_zero, a4]
        rw [Nat.one_shiftLeft]
        have hd : 0 < 2 ^ (n.log2 + k - 52) := Nat.two_pow_pos _
        have a5 : n * 2 ^ k / 2 ^ (n.log2 + k - 52) = n * 2 ^ (52 - n.log2) := by rw [a3]; exact Nat.mul_div_cancel _ hd
        have a6 : n * 2 ^ k % 2 ^ (n.log2 + k - 52) = 0 := by rw [a3]; exact Nat.mul_mod_left _ _
        rw [a5, a6]
        have a7 : ¬ 2 ^ (n.log2 + k - 52) < 2 * 0 := by omega
        have a8 : (2 ^ (n.log2 + k - 52) == 2 * 0) = false := by simp
        simp [a8]
    rw [hkept]
    have b1 : 2 ^ n.log2 ≤ n := Nat.log2_self_le hn
    have b2 : n < 2 ^ (n.log2 + 1) := Nat.lt_log2_self
    have b3 : n * 2 ^ (52 - n.log2) < 2 ^ 53 := by
      calc n * 2 ^ (52 - n.log2) < 2 ^ (n.log2 + 1) * 2 ^ (52 - n.log2) := Nat.mul_lt_mul_of_pos_right b2 (Nat.two_pow_pos _)
        _ = 2 ^ 53 := by rw [← Nat.pow_add]; congr 1; omega
    have c1 : double.binade = 2 ^ 52 := rfl
    have c2 : double.infRung = 2047 * 2 ^ 52 := rfl
    rw [c1, c2, Int.toNat_natCast]
    simp only [Format.word]
    rw [Nat.min_eq_left]
    · simp
    · have : n.log2 + 1022 ≤ 1074 := by omega
      omega
theorem fl_eq (n : Nat) (h : n < 2 ^ 53) : fl n = if n = 0 then 0 else (n.log2 + 1022) * 2 ^ 52 + n * 2 ^ (52 - n.log2) := by
  have := nearest_scaled n 0 h (by omega)
  simpa [fl] using this
theorem nearest_fl (n k : Nat) (h : n < 2 ^ 53) (hk : k ≤ 1074) : double.nearest false (n * 2 ^ k) (-(k : Int)) = fl n := by
  rw [nearest_scaled n k h hk, fl_eq n h]
theorem zero_read (K : Nat) (h : K = 1074) : Datum.number false 0 (-1074) = Datum.number false (0 * 2 ^ K) (-(K : Int)) := by
  rw [Nat.zero_mul, h]; rfl
theorem read_fl (n : Nat) (h : n < 2 ^ 53) : ∃ k : Nat, k ≤ 1074 ∧ double.read (fl n) = .number false (n * 2 ^ k) (-(k : Int)) := by
  rw [fl_eq n h]
  by_cases hn : n = 0
  · subst hn
    obtain ⟨K, hK⟩ : ∃ K : Nat, K = 1074 := ⟨_, rfl⟩
    refine ⟨K, by omega, ?_⟩
    have c1 : double.binade = 2 ^ 52 := rfl
    have c3 : double.signWeight = 2 ^ 63 := rfl
    have c4 : double.leastPlace = -1074 := rfl
    unfold Format.read
    simp only [c1, c3, c4, if_true, Nat.zero_mod, Nat.zero_div]
    rw [if_pos (by omega)]
    exact zero_read K hK
  · rw [if_neg hn]
    have hL : n.log2 < 53 := (Nat.log2_lt hn).2 h
    refine ⟨52 - n.log2, by omega, ?_⟩
    have b1 : 2 ^ n.log2 ≤ n := Nat.log2_self_le hn
    have b2 : n < 2 ^ (n.log2 + 1) := Nat.lt_log2_self
    have b3 : n * 2 ^ (52 - n.log2) < 2 ^ 53 := by
      calc n * 2 ^ (52 - n.log2) < 2 ^ (n.log2 + 1) * 2 ^ (52 - n.log2) := Nat.mul_lt_mul_of_pos_right b2 (Nat.two_pow_pos _)
        _ = 2 ^ 53 := by rw [← Nat.pow_add]; congr 1; omega
    have b4 : 2 ^ 52 ≤ n * 2 ^ (52 - n.log2) := by
      calc 2 ^ 52 = 2 ^ n.log2 * 2 ^ (52 - n.log2) := by rw [← Nat.pow_add]; congr 1; omega
        _ ≤ _ := Nat.mul_le_mul_right _ b1
    generalize hm : n * 2 ^ (52 - n.log2) = m at *
    generalize n.log2 = L at *
    clear hm b1 b2
    have c1 : double.binade = 2 ^ 52 := rfl
    have c2 : double.infRung = 2047 * 2 ^ 52 := rfl
    have c3 : double.signWeight = 2 ^ 63 := rfl
    have c4 : double.leastPlace = -1074 := rfl
    have d1 : ((L + 1022) * 2 ^ 52 + m) / 2 ^ 63 = 0 := by omega
    have d2 : ((L + 1022) * 2 ^ 52 + m) % 2 ^ 63 = (L + 1022) * 2 ^ 52 + m := by omega
    have d3 : ((L + 1022) * 2 ^ 52 + m) % 2 ^ 52 = m - 2 ^ 52 := by omega
    have d4 : ((L + 1022) * 2 ^ 52 + m) / 2 ^ 52 = L + 1023 := by omega
    unfold Format.read
    simp only [c1, c2, c3, c4, d1, d2, d3, d4]
    rw [if_neg (by omega), if_pos (by omega)]
    rw [show 2 ^ 52 + (m - 2 ^ 52) = m from by omega]
    simp
    omega
theorem signed_pow (n k j : Nat) : signed false (n * 2 ^ k) j = ((n * 2 ^ (k + j) : Nat) : Int) := by
  simp only [signed, Nat.shiftLeft_eq, Nat.mul_assoc, ← Nat.pow_add]; rfl
theorem signed_pow_neg (n k j : Nat) : signed true (n * 2 ^ k) j = -((n * 2 ^ (k + j) : Nat) : Int) := by
  simp only [signed, Nat.shiftLeft_eq, Nat.mul_assoc, ← Nat.pow_add]; rfl
theorem add_fl (a b : Nat) (h : a + b < 2 ^ 53) : double.add (fl a) (fl b) = some (fl (a + b)) := by
  obtain ⟨i, hi, ei⟩ := read_fl a (by omega)
  obtain ⟨j, hj, ej⟩ := read_fl b (by omega)
  unfold Format.add
  rw [ei, ej]
  unfold Datum.sum
  have hb : min (-(i : Int)) (-(j : Int)) = -((max i j : Nat) : Int) := by omega
  simp only [hb]
  rw [signed_pow, signed_pow, show i + (-(i : Int) - -((max i j : Nat) : Int)).toNat = max i j from by omega, show j + (-(j : Int) - -((max i j : Nat) : Int)).toNat = max i j from by omega]
  have e : ((a * 2 ^ max i j : Nat) : Int) + ((b * 2 ^ max i j : Nat) : Int) = (((a + b) * 2 ^ max i j : Nat) : Int) := by rw [Nat.add_mul]; rfl
  rw [e]
  have s : (if (((a + b) * 2 ^ max i j : Nat) : Int) = 0 then false && false else decide ((((a + b) * 2 ^ max i j : Nat) : Int) < 0)) = false := by
    split
    · rfl
    · exact decide_eq_false (by omega)
  rw [s]
  simp only [Option.map, Format.write, Int.natAbs_natCast]
  rw [nearest_fl (a + b) (max i j) h (by omega)]
theorem sub_fl (a b : Nat) (h : a < 2 ^ 53) (hb : b ≤ a) : double.sub (fl a) (fl b) = some (fl (a - b)) := by
  obtain ⟨i, hi, ei⟩ := read_fl a (by omega)
  obtain ⟨j, hj, ej⟩ := read_fl b (by omega)
  unfold Format.sub
  rw [ei, ej]
  unfold Datum.opposite Datum.sum
  have hbm : min (-(i : Int)) (-(j : Int)) = -((max i j : Nat) : Int) := by omega
  simp only [hbm, Bool.not_false]
  rw [signed_pow, signed_pow_neg, show i + (-(i : Int) - -((max i j : Nat) : Int)).toNat = max i j from by omega, show j + (-(j : Int) - -((max i j : Nat) : Int)).toNat = max i j from by omega]
  have e : ((a * 2 ^ max i j : Nat) : Int) + -((b * 2 ^ max i j : Nat) : Int) = (((a - b) * 2 ^ max i j : Nat) : Int) := by
    rw [Nat.sub_mul]
    have : b * 2 ^ max i j ≤ a * 2 ^ max i j := Nat.mul_le_mul_right _ hb
    omega
  rw [e]
  have s : (if (((a - b) * 2 ^ max i j : Nat) : Int) = 0 then false && true else decide ((((a - b) * 2 ^ max i j : Nat) : Int) < 0)) = false := by
    split
    · rfl
    · exact decide_eq_false (by omega)
  rw [s]
  simp only [Option.map, Format.write, Int.natAbs_natCast]
  rw [nearest_fl (a - b) (max i j) (by omega) (by omega)]
theorem order_fl (a b : Nat) (ha : a < 2 ^ 53) (hb : b < 2 ^ 53) : double.order (fl a) (fl b) = some (compare a b) := by
  obtain ⟨i, hi, ei⟩ := read_fl a ha
  obtain ⟨j, hj, ej⟩ := read_fl b hb
  unfold Format.order
  rw [ei, ej]
  unfold Datum.order
  have hbm : min (-(i : Int)) (-(j : Int)) = -((max i j : Nat) : Int) := by omega
  simp only [hbm]
  rw [signed_pow, signed_pow, show i + (-(i : Int) - -((max i j : Nat) : Int)).toNat = max i j from by omega, show j + (-(j : Int) - -((max i j : Nat) : Int)).toNat = max i j from by omega]
  congr 1
  have hp : 0 < 2 ^ max i j := Nat.two_pow_pos _
  rw [compare, compare]
  simp only [instOrdInt, instOrdNat, compareOfLessAndEq]
  have l1 : ((a * 2 ^ max i j : Nat) : Int) < ((b * 2 ^ max i j : Nat) : Int) ↔ a < b := by
    rw [Int.ofNat_lt]; exact Nat.mul_lt_mul_right hp
  have l2 : ((a * 2 ^ max i j : Nat) : Int) = ((b * 2 ^ max i j : Nat) : Int) ↔ a = b := by
    rw [Int.ofNat_inj]; exact Nat.mul_left_inj (by omega)
  simp only [l1, l2]
theorem toInt_fl (n : Nat) (h : n < 2 ^ 53) : (double.read (fl n)).toInt .zero = some (n : Int) := by
  obtain ⟨k, hk, e⟩ := read_fl n h
  rw [e]
  unfold Datum.toInt Datum.integral
  have e1 : (-(k : Int)).toNat = 0 := by omega
  have e2 : (- -(k : Int)).toNat = k := by omega
  simp only [e1, e2, Nat.shiftLeft_zero]
  have hc : Toward.zero.cut false (n * 2 ^ k) k = n := by
    unfold Toward.cut
    by_cases hn : n = 0
    · subst hn; simp
    · have hp : 0 < 2 ^ k := Nat.two_pow_pos _
      have hnk : n * 2 ^ k ≠ 0 := by
        intro e; rcases Nat.mul_eq_zero.1 e with e | e
        · exact hn e
        · omega
      have hlog : k ≤ (n * 2 ^ k).log2 := by
        rw [Nat.le_log2 hnk]
        exact Nat.le_mul_of_pos_left _ (by omega)
      rw [show min k ((n * 2 ^ k).log2 + 2) = k from by omega, Nat.one_shiftLeft]
      simp [Nat.mul_div_cancel _ hp]
  rw [hc]
  simp [signed]
end Go.Fl
namespace Go.Proofs.Ytpoegfkajdbplaa
open Go.Dm Go.Dm.Sx Go.Fl
set_option linter.unusedVariables false
set_option linter.unusedSimpArgs false
set_option pp.deepTerms true
set_option pp.maxSteps 100000
def flo (a : Int) : Nat := fl a.toNat
theorem near_flo {a : Int} (h : 0 ≤ a) : FloatKind.f64.nearest a = flo a := by
  obtain ⟨n, rfl⟩ : ∃ n : Nat, a = n := ⟨a.toNat, by omega⟩
  rfl
theorem toInt_flo {a : Int} (h0 : 0 ≤ a) (h : a < 9007199254740992) : floatToIntVal .f64 (flo a) .i64 = some a := by
  unfold flo floatToIntVal
  have : (FloatKind.f64.decode (fl a.toNat)).toInt .zero = some (a.toNat : Int) := toInt_fl a.toNat (by omega)
  rw [this]
  have e : ((a.toNat : Nat) : Int) = a := by omega
  simp only [e]
  rw [if_pos ⟨by rw [show IntKind.i64.min = -9223372036854775808 from rfl]; omega, by rw [show IntKind.i64.max = 9223372036854775807 from rfl]; omega⟩]
theorem feq_flo {a c : Int} (h : 0 ≤ a ∧ a < 9007199254740992) (h1 : 0 ≤ c ∧ c < 9007199254740992) : bfcmp .eql (flo a) (flo c) = decide (a = c) := by
  have h2 : FloatKind.f64.format.order (flo a) (flo c) = some (compare a.toNat c.toNat) := order_fl _ _ (by omega) (by omega)
  unfold bfcmp
  simp only [h2]
  by_cases e : a = c
  · subst e; simp
  · rw [decide_eq_false e]
    have : a.toNat ≠ c.toNat := by omega
    cases hc : compare a.toNat c.toNat with
    | eq => exact absurd (Nat.compare_eq_eq.1 hc) this
    | lt => rfl
    | gt => rfl
theorem fadd_flo {a c : Int} (h : 0 ≤ a ∧ 0 ≤ c) (h1 : a + c < 9007199254740992) : floatBits .add .f64 (flo a) (flo c) = some (flo (a + c)) := by
  unfold flo floatBits
  have h1 : FloatKind.f64.format.add (fl a.toNat) (fl c.toNat) = some (fl (a.toNat + c.toNat)) := add_fl _ _ (by omega)
  show FloatKind.f64.format.add (fl a.toNat) (fl c.toNat) = _
  rw [h1, show (a + c).toNat = a.toNat + c.toNat from by omega]
theorem fsub_flo {a c : Int} (h : 0 ≤ c ∧ c ≤ a) (h1 : a < 9007199254740992) : floatBits .sub .f64 (flo a) (flo c) = some (flo (a - c)) := by
  unfold flo floatBits
  have h1 : FloatKind.f64.format.sub (fl a.toNat) (fl c.toNat) = some (fl (a.toNat - c.toNat)) := sub_fl _ _ (by omega) (by omega)
  show FloatKind.f64.format.sub (fl a.toNat) (fl c.toNat) = _
  rw [h1, show (a - c).toNat = a.toNat - c.toNat from by omega]
abbrev tC : In := .ty .cpl
abbrev DC (n : Nat × Nat) : Dyn Un.B := ⟨.cpl, n⟩
def mkM (p : Int × Int) : Nat × Nat := (flo p.1, flo p.2)
noncomputable def k_Of : Wk (X []) w_mark_Of.F [tI, tI] [.cpl] := ⟨_, by cbv, _, by cbv, _, by cbv⟩
noncomputable def k_MLines : Wk (X []) w_mark_Lines.F [tC] [oI] := ⟨_, by cbv, _, by cbv, _, by cbv⟩
noncomputable def k_MBytes : Wk (X []) w_mark_Bytes.F [tC] [oI] := ⟨_, by cbv, _, by cbv, _, by cbv⟩
noncomputable def k_Sum : Wk (X []) w_mark_Sum.F [.ty (.list .cpl)] [.cpl] := ⟨_, by cbv, _, by cbv, _, by cbv⟩
noncomputable def k_Less : Wk (X []) w_mark_Less.F [tC, tC] [.cpl] := ⟨_, by cbv, _, by cbv, _, by cbv⟩
def s_Of : FSpec Un := ⟨⟨f_mark_Of, [tI, tI], [.cpl]⟩, fun ((a : Int), (b : Int), _) => 0 ≤ a ∧ 0 ≤ b, fun ((a : Int), (b : Int), _) => [DC (mkM (a, b))], fun _ => rfl⟩
theorem of_ok : FGood Try.prog s_Of := by
  refine Wk.ok mixed tok (envOk .nil [] no_same) w_mark_Of k_Of rfl rfl ?_
  rintro ⟨(a : Int), (b : Int), _⟩ hpre R hR Go hGo
  replace hR : R = [DC (mkM (a, b))] := hR
  obtain ⟨h1, h2⟩ : 0 ≤ a ∧ 0 ≤ b := hpre
  show TDen _ _ _ _ [DI a, DI b]
  simp [k_Of, TDen, Tm.den, nthD, hR, near_flo h1, near_flo h2, mkM]
def Ok1 (p : Int × Int) : Prop := 0 ≤ p.1 ∧ p.1 < 9007199254740992 ∧ 0 ≤ p.2 ∧ p.2 < 9007199254740992
def unM (m : Nat × Nat) : Int × Int := ((floatToIntVal .f64 m.1 .i64).getD 0, (floatToIntVal .f64 m.2 .i64).getD 0)
theorem unM_mk {p : Int × Int} (h : Ok1 p) : unM (mkM p) = p := by
  obtain ⟨h1, h2, h3, h4⟩ := h
  unfold unM mkM
  rw [toInt_flo h1 h2, toInt_flo h3 h4]; rfl
@[irreducible] def linesM (m : Nat × Nat) : Int := (unM m).1
@[irreducible] def bytesM (m : Nat × Nat) : Int := (unM m).2
@[irreducible] def lessM (m o : Nat × Nat) : Nat × Nat := mkM ((unM m).1 - (unM o).1, (unM m).2 - (unM o).2)
def MPre (m : Nat × Nat) : Prop := ∃ p, Ok1 p ∧ m = mkM p
def LPre (m o : Nat × Nat) : Prop := ∃ p q, Ok1 p ∧ Ok1 q ∧ q.1 ≤ p.1 ∧ q.2 ≤ p.2 ∧ m = mkM p ∧ o = mkM q
theorem lines_mk {p : Int × Int} (h : Ok1 p) : linesM (mkM p) = p.1 := by unfold linesM; rw [unM_mk h]
theorem bytes_mk {p : Int × Int} (h : Ok1 p) : bytesM (mkM p) = p.2 := by unfold bytesM; rw [unM_mk h]
theorem less_mk {p q : Int × Int} (h : Ok1 p) (k : Ok1 q) : lessM (mkM p) (mkM q) = mkM (p.1 - q.1, p.2 - q.2) := by unfold lessM; rw [unM_mk h, unM_mk k]
def s_MLines : FSpec Un := ⟨⟨f_mark_Lines, [tC], [oI]⟩, fun ((m : Nat × Nat), _) => MPre m, fun ((m : Nat × Nat), _) => [DI (linesM m)], fun _ => rfl⟩
theorem mlines_ok : FGood Try.prog s_MLines := by
  refine Wk.ok mixed tok (envOk .nil [] no_same) w_mark_Lines k_MLines rfl rfl ?_
  rintro ⟨(m : Nat × Nat), _⟩ hpre R hR Go hGo
  replace hR : R = [DI (linesM m)] := hR
  obtain ⟨p, hp, rfl⟩ : ∃ p, Ok1 p ∧ m = mkM p := hpre
  show TDen _ _ _ _ [DC (mkM p)]
  rw [lines_mk hp] at hR
  simp [k_MLines, TDen, Tm.den, nthD, hR]
  exact toInt_flo hp.1 hp.2.1
def s_MBytes : FSpec Un := ⟨⟨f_mark_Bytes, [tC], [oI]⟩, fun ((m : Nat × Nat), _) => MPre m, fun ((m : Nat × Nat), _) => [DI (bytesM m)], fun _ => rfl⟩
theorem mbytes_ok : FGood Try.prog s_MBytes := by
  refine Wk.ok mixed tok (envOk .nil [] no_same) w_mark_Bytes k_MBytes rfl rfl ?_
  rintro ⟨(m : Nat × Nat), _⟩ hpre R hR Go hGo
  replace hR : R = [DI (bytesM m)] := hR
  obtain ⟨p, hp, rfl⟩ : ∃ p, Ok1 p ∧ m = mkM p := hpre
  show TDen _ _ _ _ [DC (mkM p)]
  rw [bytes_mk hp] at hR
  simp [k_MBytes, TDen, Tm.den, nthD, hR]
  exact toInt_flo hp.2.2.1 hp.2.2.2
def s_Less : FSpec Un := ⟨⟨f_mark_Less, [tC, tC], [.cpl]⟩, fun ((m : Nat × Nat), (o : Nat × Nat), _) => LPre m o, fun ((m : Nat × Nat), (o : Nat × Nat), _) => [DC (lessM m o)], fun _ => rfl⟩
theorem less_ok : FGood Try.prog s_Less := by
  refine Wk.ok mixed tok (envOk .nil [] no_same) w_mark_Less k_Less rfl rfl ?_
  rintro ⟨(m : Nat × Nat), (o : Nat × Nat), _⟩ hpre R hR Go hGo
  replace hR : R = [DC (lessM m o)] := hR
  obtain ⟨p, q, hp, hq, l1, l2, rfl, rfl⟩ : ∃ p q, Ok1 p ∧ Ok1 q ∧ q.1 ≤ p.1 ∧ q.2 ≤ p.2 ∧ m = mkM p ∧ o = mkM q := hpre
  rw [less_mk hp hq] at hR
  show TDen _ _ _ _ [DC (mkM p), DC (mkM q)]
  simp [k_Less, TDen, Tm.den, nthD]
  exact ⟨_, fsub_flo ⟨hq.1, l1⟩ hp.2.1, _, fsub_flo ⟨hq.2.2.1, l2⟩ hp.2.2.2, hR.symm⟩
def sumP : List (Int × Int) → Int × Int
  | [] => (0, 0)
  | p :: r => (p.1 + (sumP r).1, p.2 + (sumP r).2)
def nonP (l : List (Int × Int)) : Prop := ∀ p ∈ l, 0 ≤ p.1 ∧ 0 ≤ p.2
theorem sumP_app : ∀ a b : List (Int × Int), sumP (a ++ b) = ((sumP a).1 + (sumP b).1, (sumP a).2 + (sumP b).2)
  | [], b => by simp [sumP]
  | p :: r, b => by simp only [List.cons_append, sumP, sumP_app r b]; congr 1 <;> omega
theorem sumP_non : ∀ {l : List (Int × Int)}, nonP l → 0 ≤ (sumP l).1 ∧ 0 ≤ (sumP l).2
  | [], _ => by simp [sumP]
  | p :: r, h => by
    have h1 := h p (List.mem_cons_self ..)
    have h2 := sumP_non (l := r) fun q hq => h q (List.mem_cons_of_mem _ hq)
    simp only [sumP]; omega
def SPre (l : List (Nat × Nat)) : Prop := ∃ ps : List (Int × Int), l = ps.map mkM ∧ nonP ps ∧ Ok1 (sumP ps) ∧ (∀ p ∈ ps, Ok1 p) ∧ ps.length ≤ 1000000
@[irreducible] def sumM (l : List (Nat × Nat)) : Nat × Nat := mkM (sumP (l.map unM))
theorem sum_mk {ps : List (Int × Int)} (ho : ∀ p ∈ ps, Ok1 p) : sumM (ps.map mkM) = mkM (sumP ps) := by
  unfold sumM
  congr 2
  rw [List.map_map]
  conv => rhs; rw [← List.map_id ps]
  exact List.map_congr_left fun p hp => unM_mk (ho p hp)
def s_Sum : FSpec Un := ⟨⟨f_mark_Sum, [.ty (.list .cpl)], [.cpl]⟩, fun ((l : List (Nat × Nat)), _) => SPre l, fun ((l : List (Nat × Nat)), _) => [DC (sumM l)], fun _ => rfl⟩
theorem sum_ok : FGood Try.prog s_Sum := by
  refine Wk.ok mixed tok (envOk .nil [] no_same) w_mark_Sum k_Sum rfl rfl ?_
  rintro ⟨(l : List (Nat × Nat)), _⟩ hpre R hR Go hGo
  replace hR : R = [DC (sumM l)] := hR
  obtain ⟨ps, rfl, hn, hs, ho, hlen⟩ : ∃ ps : List (Int × Int), l = ps.map mkM ∧ nonP ps ∧ Ok1 (sumP ps) ∧ (∀ p ∈ ps, Ok1 p) ∧ ps.length ≤ 1000000 := hpre
  rw [sum_mk ho] at hR
  show TDen _ _ _ _ [DL .cpl (ps.map mkM)]
  simp [k_Sum, TDen, Tm.den, nthD]
  have z : mkM (sumP (ps.take 0)) = (0, 0) := by rfl
  have key := hGo 0 _ rfl Nat (fun i => [DC (mkM (sumP (ps.take i))), DL .cpl (ps.map mkM), DI ps.length, DI i]) (fun i => i ≤ ps.length) (fun i => ps.length - i) (fun i hI ih => ?_) 0 (Nat.zero_le _)
  · rw [z] at key; exact key
  · simp [TDen, Tm.den, nthD, in64]
    refine ⟨fun hi => ⟨hi, fun a b x y hx hm => ?_⟩, fun hi => by rw [hR, List.take_of_length_le hi]⟩
    have ea : flo x = a := congrArg Prod.fst hm
    have eb : flo y = b := congrArg Prod.snd hm
    subst ea eb
    have hdec : ps = ps.take i ++ ((x, y) :: ps.drop (i + 1)) := by
      have := List.getElem?_eq_some_iff.1 hx
      obtain ⟨h1, h2⟩ := this
      conv => lhs; rw [← List.take_append_drop i ps, List.drop_eq_getElem_cons h1, h2]
    have hsum : sumP ps = ((sumP (ps.take i)).1 + (x + (sumP (ps.drop (i + 1))).1), (sumP (ps.take i)).2 + (y + (sumP (ps.drop (i + 1))).2)) := by
      conv => lhs; rw [hdec, sumP_app]
      rfl
    have n1 := sumP_non (l := ps.take i) fun q hq => hn q (List.mem_of_mem_take hq)
    have n2 := sumP_non (l := ps.drop (i + 1)) fun q hq => hn q (List.mem_of_mem_drop hq)
    have n3 : 0 ≤ x ∧ 0 ≤ y := hn (x, y) (List.mem_of_getElem? hx)
    obtain ⟨s1, s2, s3, s4⟩ := hs
    rw [hsum] at s2 s4
    simp only at s2 s4
    have h2 := ih (i + 1) (by omega) (by omega)
    have e2 : sumP (ps.take (i + 1)) = ((sumP (ps.take i)).1 + x, (sumP (ps.take i)).2 + y) := by
      rw [List.take_add_one, hx, sumP_app]; simp [sumP]
    rw [e2] at h2
    exact ⟨_, fadd_flo ⟨n1.1, n3.1⟩ (by omega), _, fadd_flo ⟨n1.2, n3.2⟩ (by omega), by omega, h2⟩
set_option maxRecDepth 100000 in
set_option cbv.maxSteps 10000000 in
noncomputable def k_Sums : Wk (X [s_Within, s_Of, s_Sum, s_MLines, s_MBytes, s_Less, ⟨⟨f_glosslaw1_MarkRuns, [], [.bool]⟩, fun _ => True, fun _ => [DB true], fun _ => rfl⟩]) w_glosslaw1_MarkSums.F [tLI, tLI, tI] [.bool] := ⟨_, by cbv, _, by cbv, _, by cbv⟩
end Go.Proofs.Ytpoegfkajdbplaa
