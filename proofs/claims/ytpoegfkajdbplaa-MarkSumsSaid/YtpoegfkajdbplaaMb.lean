/- Printed by merge2.py: many texts in one. -/
import Derived.Test.YtpoegfkajdbplaaMa
import Derived.Orders
import Derived.Laws.BitsLemmas
import Derived.Below
import Derived.Test.YtpoegfkajdbplaaProg
import Derived.KernelRfl

namespace Go.Dm
set_option linter.unusedVariables false
set_option linter.unusedSimpArgs false
def CallEnd (g : G) (w : World) (σ : St) (k : V → St → Prop) (v : Value) (w' : World) : Prop :=
  ∃ r σ' g', k r σ' ∧ Rep g' w' σ' ∧ Turn g w σ g' w' σ' ∧ VRep g' w' σ' r v
def CallAt (P : Program) (f : FuncId) (args : List V) (σ : St) (k : V → St → Prop) : Prop :=
  ∀ g w vs, Rep g w σ → VReps g w σ args vs →
    (∃ v w', (callFunc f vs.toArray).run P w = .ok (.value v) w' ∧ CallEnd g w σ k v w') ∨
    ((callFunc f vs.toArray).run P w = .ok (.enter f vs.toArray) w ∧ Calls P f vs.toArray w fun e w' => ∃ v, e = .returned v ∧ CallEnd g w σ k v w')
theorem CallEnd.mono {g : G} {w : World} {σ : St} {k k' : V → St → Prop} {v : Value} {w' : World} (h : CallEnd g w σ k v w') (hk : ∀ r σ', k r σ' → k' r σ') : CallEnd g w σ k' v w' :=
  let ⟨r, σ', g', a, b⟩ := h; ⟨r, σ', g', hk _ _ a, b⟩
theorem CallAt.mono {P : Program} {f : FuncId} {args : List V} {σ : St} {k k' : V → St → Prop} (h : CallAt P f args σ k) (hk : ∀ r σ', k r σ' → k' r σ') : CallAt P f args σ k' := by
  intro g w vs hr hv
  rcases h g w vs hr hv with ⟨v, w', h1, h2⟩ | ⟨h1, h2⟩
  · exact .inl ⟨v, w', h1, h2.mono hk⟩
  · exact .inr ⟨h1, h2.mono fun e w' ⟨v, h3, h4⟩ => ⟨v, h3, h4.mono hk⟩⟩
def PureAt (P : Program) (f : FuncId) (args : List V) (r : V) : Prop := ∀ σ, CallAt P f args σ fun r' σ' => r' = r ∧ σ' = σ
def PureK (P : Program) (f : FuncId) (args : List V) (k : V → Prop) : Prop := ∃ r, PureAt P f args r ∧ k r
theorem PureAt.call {P : Program} {f : FuncId} {args : List V} {r : V} (h : PureAt P f args r) {σ : St} {k : V → St → Prop} (hk : k r σ) : CallAt P f args σ k :=
  (h σ).mono fun r' σ' ⟨h1, h2⟩ => by subst h1 h2; exact hk
structure Mx where
  T : Pr
  pk : FuncId → List V → (V → Prop) → Prop
  ca : FuncId → List V → St → (V → St → Prop) → Prop
abbrev mx (P : Program) : Mx := ⟨prims, PureK P, CallAt P⟩
def callee (x : V) (args : List V) : Option (FuncId × List V) :=
  match x with
  | .c (.f (.fn f)) => some (f, args)
  | .c (.clo f caps) => some (f, args ++ caps.map .c)
  | _ => none
def vdo (X : Mx) (pf : FuncId → Bool) (tb : Tab) (o : Op) (fr : Fr) (σ : St) (k : V → St → Prop) : Prop :=
  match o with
  | .call { callee := .value x, args, argTypes } =>
    (match callee (opd fr x) (args.toList.map (opd fr)) with
    | some (f, l) => (match pf f with | true => vsofts X.T l σ fun l' σ' => X.pk f l' fun r => k r σ' | false => X.ca f l σ k)
    | none => False)
  | o => vop2 X.T tb o fr σ k
def Fr.put (fr : Fr) (dst : Option Tmp) (v : V) : Fr :=
  match dst with
  | some d => List.set fr d v
  | none => fr
def vguard (ops : Array Oper) (fr : Fr) (o : Oper) (x y : Prop) : Prop :=
  match o.guard with
  | none => x
  | some (j, want) =>
    match (ops[j]?).bind (·.dst) with
    | none => y
    | some d =>
      match fr[d]? with
      | some (.c (.f (.bool b))) => (match want with | true => (match b with | true => x | false => y) | false => (match b with | true => y | false => x))
      | some (.t _) => y
      | _ => False
section
variable {P : Program} {pf : FuncId → Bool} {tb : Tab} {g : G} {w : World} {σ : St}
theorem VReps.append : ∀ {l l' : List V} {vs vs' : List Value}, VReps g w σ l vs → VReps g w σ l' vs' → VReps g w σ (l ++ l') (vs ++ vs')
  | [], l', vs, vs', h, h' => by simp only [VReps] at h; subst h; exact h'
  | c :: r, l', vs, vs', h, h' => by obtain ⟨v, vr, rfl, h1, h2⟩ := h; exact ⟨v, vr ++ vs', rfl, h1, VReps.append h2 h'⟩
theorem CReps.v : ∀ {l : List C} {vs : List Value}, CReps g w σ l vs → VReps g w σ (l.map .c) vs
  | [], vs, h => h
  | c :: r, vs, h => by obtain ⟨v, vr, rfl, h1, h2⟩ := h; exact ⟨v, vr, rfl, h1, CReps.v h2⟩
def Does (P : Program) (o : Oper) (a : Act) (g : G) (w : World) (σ : St) (k : V → St → Prop) : Prop :=
  Good P o a g w σ k ∨ ∃ f vs, (execOp a.eval o).run P w = (callFunc f (List.toArray vs)).run P w ∧ ∃ l σ' g', Rep g' w σ' ∧ Turn g w σ g' w σ' ∧ VReps g' w σ' l vs ∧ CallAt P f l σ' k
theorem vdo_ok (tok : TabOk P tb) (hr : Rep g w σ) {o : Oper} {a : Act} {fr : Fr} (hf : FrRep g w σ fr a.tmps) {k : V → St → Prop} (hk : vdo (mx P) pf tb o.op fr σ k) : Does P o a g w σ k := by
  unfold vdo at hk
  split at hk
  · rename_i x args at' hop
    refine .inr ?_
    have hargs := opds_rep hf args.toList
    have hx := opd_rep hf x
    split at hk
    · rename_i f l hc
      have hcall : ∀ {vs}, VReps g w σ l vs → ∃ l σ' g', Rep g' w σ' ∧ Turn g w σ g' w σ' ∧ VReps g' w σ' l vs ∧ CallAt P f l σ' k := fun {vs} hvs => by
        split at hk
        · obtain ⟨l', σ', g', q1, q2, q3, r, h1, h2⟩ := softs_ok l hr hvs hk
          exact ⟨l', σ', g', q1, q2, q3, h1.call h2⟩
        · exact ⟨l, σ, g, hr, Turn.refl _ _ _, hvs, hk⟩
      have hat : args.map a.eval = (args.toList.map a.eval).toArray := by apply Array.ext'; rw [Array.toList_map]
      unfold callee at hc
      split at hc
      · rename_i f' e
        cases hc
        rw [e] at hx
        have hv : a.eval x = .func (.func f) #[] #[] := hx
        refine ⟨f, args.toList.map a.eval, ?_, hcall hargs⟩
        unfold execOp
        simp only [hop, resolve, hv, Deferred.ofValue, Sem.run_bind, Sem.run_pure, Result.andThen, invoke, hat]
        congr 2
        simp
      · rename_i f' caps e
        cases hc
        rw [e] at hx
        obtain ⟨cs, hv, hcs⟩ := hx
        refine ⟨f, args.toList.map a.eval ++ cs, ?_, hcall (hargs.append hcs.v)⟩
        unfold execOp
        simp only [hop, resolve, hv, Deferred.ofValue, Sem.run_bind, Sem.run_pure, Result.andThen, invoke, hat]
        congr 2
        simp
      · cases hc
    · exact hk.elim
  · exact .inl (vop2_ok tok hr hf hk)
theorem FrRep.put {fr : Fr} {tmps : Array Value} (hf : FrRep g w σ fr tmps) {v : V} {u : Value} (hv : VRep g w σ v u) (dst : Option Tmp) :
    FrRep g w σ (fr.put dst v) (match dst with | some d => tmps.setIfInBounds d u | none => tmps) := by
  cases dst with
  | none => exact hf
  | some d =>
    refine ⟨by simp [Fr.put, hf.1], fun i => ?_⟩
    have h := hf.2 i
    simp only [Fr.put, List.getD_eq_getElem?_getD, Array.getD_eq_getD_getElem?, List.getElem?_set, Array.getElem?_setIfInBounds] at h ⊢
    by_cases hd : d = i
    · subst hd
      by_cases hlt : d < fr.length
      · have hlt' : d < tmps.size := by rw [← hf.1]; exact hlt
        simpa [hlt, hlt'] using hv
      · have hlt' : ¬ d < tmps.size := by rw [← hf.1]; exact hlt
        simp [hlt, hlt', VRep, CRep]
    · simpa [hd] using h
theorem put_tmps (a : Act) (dst : Option Tmp) (v : Value) : (a.put dst v).tmps = (match dst with | some d => a.tmps.setIfInBounds d v | none => a.tmps) := by
  cases dst <;> rfl
theorem put_defers (a : Act) (dst : Option Tmp) (v : Value) : (a.put dst v).defers = a.defers := by
  cases dst <;> rfl
def Lifts (g : G) (w : World) (σ : St) (K : Fr → St → Prop) (a : Act) (w' : World) : Prop :=
  ∃ fr' σ' g', K fr' σ' ∧ Rep g' w' σ' ∧ Turn g w σ g' w' σ' ∧ FrRep g' w' σ' fr' a.tmps ∧ a.defers = []
theorem Does.wp {o : Oper} {a : Act} {fr : Fr} (hr : Rep g w σ) (hf : FrRep g w σ fr a.tmps) (hd : a.defers = []) {K : Fr → St → Prop} {Q : Exit → Act → World → Prop} (h : Does P o a g w σ fun v σ' => K (fr.put o.dst v) σ') :
    o.wp P a w (Lifts g w σ K) Q := by
  have fin : ∀ {v : Value} {w' : World} {σ' g' r}, K (fr.put o.dst r) σ' → Rep g' w' σ' → Turn g w σ g' w' σ' → VRep g' w' σ' r v → Lifts g w σ K (a.put o.dst v) w' :=
    fun {v w' σ' g' r} h1 h2 h3 h4 => ⟨_, σ', g', h1, h2, h3, by rw [put_tmps]; exact (hf.turn h3).put h4 o.dst, by rw [put_defers]; exact hd⟩
  unfold Oper.wp
  rcases h with ⟨r, σ', g', w', v, nx, h1, h2, h3, h4, h5, h6⟩ | ⟨f, vs, h1, l, σ1, g1, k1, k2, h2, h3⟩
  · rw [h1]
    rcases h2 with rfl | ⟨rfl, rfl⟩
    · rw [Oper.upon_value]; exact fin h3 h4 h5 h6
    · rw [Oper.upon_skip]; exact fin h3 h4 h5 h6
  · rw [h1]
    rcases h3 g1 w vs k1 h2 with ⟨v, w', h4, r, σ', g', h5, h6, h7, h8⟩ | ⟨h4, h5⟩
    · rw [h4, Oper.upon_value]; exact fin h5 h6 (k2.trans h7) h8
    · rw [h4, Oper.upon_enter]
      refine h5.mono ?_
      rintro e w' ⟨v, rfl, r, σ', g', h5, h6, h7, h8⟩
      exact fin h5 h6 (k2.trans h7) h8
theorem guard_ok {ops : Array Oper} {fr : Fr} {tmps : Array Value} (hf : FrRep g w σ fr tmps) {o : Oper} {x y : Prop} (h : vguard ops fr o x y) :
    (Region.wanted o (yielded ops tmps) = true ∧ x) ∨ (Region.wanted o (yielded ops tmps) = false ∧ y) := by
  unfold vguard at h
  unfold Region.wanted
  split at h
  · rename_i hg; rw [hg]; exact .inl ⟨rfl, h⟩
  · rename_i j want hg
    rw [hg]
    simp only
    split at h
    · rename_i hn
      right
      refine ⟨?_, h⟩
      unfold yielded
      rw [hn]
      cases want <;> rfl
    · rename_i d hs
      split at h
      · rename_i b hb
        have hv := hf.2 d
        have hlt : d < fr.length := (List.getElem?_eq_some_iff.1 hb).1
        have hlt' : d < tmps.size := by rw [← hf.1]; exact hlt
        simp only [List.getD_eq_getElem?_getD, hb, Option.getD_some] at hv
        have hv' : tmps.getD d undef = .bool b := hv
        have hget : tmps[d]? = some (.bool b) := by
          rw [Array.getD_eq_getD_getElem?, Array.getElem?_eq_getElem hlt'] at hv'
          rw [Array.getElem?_eq_getElem hlt']
          exact congrArg some hv'
        have hy : yielded ops tmps j = some b := by
          unfold yielded
          rw [hs]
          simp only [Option.bind_some, hget]
        rw [hy]
        cases b <;> cases want <;> first | exact .inl ⟨rfl, h⟩ | exact .inr ⟨rfl, h⟩
      · rename_i l hb
        have hv := hf.2 d
        have hlt : d < fr.length := (List.getElem?_eq_some_iff.1 hb).1
        have hlt' : d < tmps.size := by rw [← hf.1]; exact hlt
        simp only [List.getD_eq_getElem?_getD, hb, Option.getD_some] at hv
        obtain ⟨vs, hv', _⟩ := hv
        have hget : tmps[d]? = some (.tuple vs.toArray) := by
          rw [Array.getD_eq_getD_getElem?, Array.getElem?_eq_getElem hlt'] at hv'
          rw [Array.getElem?_eq_getElem hlt']
          exact congrArg some hv'
        have hy : yielded ops tmps j = none := by
          unfold yielded
          rw [hs]
          simp only [Option.bind_some, hget]
        rw [hy]
        cases want <;> exact .inr ⟨rfl, h⟩
      · exact h.elim
theorem Lifts.trans {g' : G} {w' : World} {σ' : St} (ht : Turn g w σ g' w' σ') {K : Fr → St → Prop} {a : Act} {w'' : World} (h : Lifts g' w' σ' K a w'') : Lifts g w σ K a w'' :=
  let ⟨fr, τ, g'', h1, h2, h3, h4, h5⟩ := h; ⟨fr, τ, g'', h1, h2, ht.trans h3, h4, h5⟩
end
end Go.Dm
namespace Go.Dm
set_option linter.unusedVariables false
set_option linter.unusedSimpArgs false
def stillOp (tb : Tab) : Op → Bool
  | .move _ | .assign _ | .pick .. | .binOp .. | .unOp .. | .field .. | .extract .. | .build .. | .fieldAddr .. | .indexAddr .. | .index .. | .nilCheck _ | .makeFunc .. | .load .. => true
  | .slice _ _ _ _ none => true
  | .convert s d _ => (match (tb d).d with | .slice _ => false | _ => true)
  | .call { callee := .builtin .len, .. } | .call { callee := .builtin .min, .. } | .call { callee := .builtin .max, .. } | .call { callee := .builtin .complex, .. } | .call { callee := .builtin .real, .. } | .call { callee := .builtin .imag, .. } => true
  | _ => false
def farV : V → Bool
  | .c (.rs ..) | .c (.pa ..) => true
  | _ => false
def ptrV : V → Bool
  | .c (.ptr ..) => true
  | _ => false
def tless (pf : FuncId → Bool) (tb : Tab) (o : Op) (fr : Fr) : Bool :=
  match o with
  | .call { callee := .value x, args, .. } => (match callee (opd fr x) (args.toList.map (opd fr)) with | some (f, l) => pf f && !l.any V.hasRs | none => false)
  | .load _ x => !farV (opd fr x) && !ptrV (opd fr x)
  | o => !extraB tb o && stillOp tb o && o.operands.toList.all fun x => !farV (opd fr x)
def freeAt (ops : Array Oper) (listed : Array Bool) (i : Nat) : Bool := Region.free .any ops listed i
def vall (f : Nat → Prop) : List Nat → Prop
  | [] => True
  | [i] => f i
  | i :: r => f i ∧ vall f r
section
variable {P : Program} {pf : FuncId → Bool} {tb : Tab}
theorem vfill_congr {fs : List (Nat × TypeId)} {fr fr' : Fr} : ∀ (l : List (Nat × Operand)) (h : ∀ x ∈ l.map (·.2), opd fr x = opd fr' x) (cs : List C), vfill tb fs fr l cs = vfill tb fs fr' l cs
  | [], _, _ => rfl
  | (i, x) :: r, h, cs => by
    have e := h x (by simp)
    have ih := vfill_congr (fs := fs) r (fun y hy => h y (by simp only [List.map_cons, List.mem_cons]; exact .inr hy))
    simp only [vfill, e, ih]
theorem vfillRow_congr {sz : Nat} {fr fr' : Fr} : ∀ (l : List (Nat × Operand)) (h : ∀ x ∈ l.map (·.2), opd fr x = opd fr' x) (cs : List C), vfillRow sz fr l cs = vfillRow sz fr' l cs
  | [], _, _ => rfl
  | (i, x) :: r, h, cs => by
    have e := h x (by simp)
    have ih := vfillRow_congr (sz := sz) r (fun y hy => h y (by simp only [List.map_cons, List.mem_cons]; exact .inr hy))
    simp only [vfillRow, e, ih]
theorem map_congr {fr fr' : Fr} {l : List Operand} (h : ∀ x ∈ l, opd fr x = opd fr' x) : l.map (opd fr) = l.map (opd fr') := List.map_congr_left h
theorem xextra_congr {o : Op} {fr fr' : Fr} (h : ∀ x ∈ o.operands, opd fr x = opd fr' x) {σ : St} : xextra tb o (opd fr) σ = xextra tb o (opd fr') σ := by
  cases o with
  | binOp op t x y p =>
    have e1 : opd fr x = opd fr' x := h x (by simp [Op.operands])
    have e2 : opd fr y = opd fr' y := h y (by simp [Op.operands])
    simp only [xextra, e1, e2]
  | makeSlice t x y =>
    have e1 : opd fr x = opd fr' x := h x (by simp [Op.operands])
    have e2 : opd fr y = opd fr' y := h y (by simp [Op.operands])
    simp only [xextra, e1, e2]
  | fieldAddr t x i =>
    have e1 : opd fr x = opd fr' x := h x (by simp [Op.operands])
    simp only [xextra, e1]
  | convert s d x =>
    have e1 : opd fr x = opd fr' x := h x (by simp [Op.operands])
    simp only [xextra, e1]
  | call c =>
    obtain ⟨cal, args, at'⟩ := c
    cases cal with
    | builtin b =>
      have e : args.toList.map (opd fr) = args.toList.map (opd fr') := List.map_congr_left fun x hx => h x (by simp [Op.operands, Call.operands]; simpa using hx)
      simp only [xextra, e]
    | _ => rfl
  | _ => rfl
theorem vop2_congr {T : Pr} {o : Op} {fr fr' : Fr} (h : ∀ x ∈ o.operands, opd fr x = opd fr' x) {σ : St} {k : V → St → Prop} (hv : vop T tb o fr σ k = vop T tb o fr' σ k) : vop2 T tb o fr σ k = vop2 T tb o fr' σ k := by
  unfold vop2 vextra
  rw [hv, xextra_congr h]
theorem vdo_congr {X : Mx} {o : Op} {fr fr' : Fr} (h : ∀ x ∈ o.operands, opd fr x = opd fr' x) {σ : St} {k : V → St → Prop} : vdo X pf tb o fr σ k = vdo X pf tb o fr' σ k := by
  have h0 := h
  cases o with
  | build t parts =>
    simp only [Op.operands] at h
    have e := fun fs => vfill_congr (tb := tb) (fs := fs) (fr := fr) (fr' := fr') parts.toList (fun x hx => h x (by simpa using hx))
    have e' := fun sz => vfillRow_congr (sz := sz) (fr := fr) (fr' := fr') parts.toList (fun x hx => h x (by simpa using hx))
    exact vop2_congr (tb := tb) (T := X.T) h0 (by simp only [vop, e, e'])
  | buildSlice t n parts =>
    simp only [Op.operands] at h
    have e' := fun sz => vfillRow_congr (sz := sz) (fr := fr) (fr' := fr') parts.toList (fun x hx => h x (by simpa using hx))
    exact vop2_congr (tb := tb) (T := X.T) h0 (by simp only [vop, e'])
  | makeFunc fn first captured =>
    simp only [Op.operands] at h
    have e : captured.toList.map (fun x => (opd fr x).cap) = captured.toList.map (fun x => (opd fr' x).cap) :=
      List.map_congr_left fun x hx => by rw [h x (by simp; right; simpa using hx)]
    exact vop2_congr (tb := tb) (T := X.T) h0 (by cases fn <;> simp only [vop, e])
  | call c =>
    obtain ⟨cal, args, at'⟩ := c
    have e : args.toList.map (opd fr) = args.toList.map (opd fr') := map_congr fun x hx => h x (by simp [Op.operands, Call.operands]; right; simpa using hx)
    cases cal with
    | value f =>
      have ef : opd fr f = opd fr' f := h f (by simp [Op.operands, Call.operands])
      simp only [vdo, e, ef]
    | builtin b => exact vop2_congr (tb := tb) (T := X.T) h0 (by simp only [vop, e])
    | invoke r m => rfl
  | slice t x lo hi mx =>
    have e1 : opd fr x = opd fr' x := h x (by simp [Op.operands])
    have e2 : lo.map (opd fr) = lo.map (opd fr') := by cases lo with | none => rfl | some y => simp [h y (by simp [Op.operands])]
    have e3 : hi.map (opd fr) = hi.map (opd fr') := by cases hi with | none => rfl | some y => simp [h y (by simp [Op.operands])]
    exact vop2_congr (tb := tb) (T := X.T) h0 (by cases mx <;> simp only [vop, e1, e2, e3])
  | _ => exact vop2_congr (tb := tb) (T := X.T) (σ := σ) (k := k) h0 (by simp [vop] <;> simp_all [Op.operands])
end
end Go.Dm
namespace Go.Dm
set_option linter.unusedVariables false
set_option linter.unusedSimpArgs false
section
variable {P : Program} {pf : FuncId → Bool} {tb : Tab}
theorem no_mk {t : TypeId} {p : Prop} (h : (tb t).d ≠ .no) (hp : p) : match (tb t).d with | .no => False | _ => p := by
  split
  · rename_i e; exact h e
  · exact hp
theorem part_any {agg : Bool} {l : List C} {off n : Nat} {k : V → Prop} (h : vpart agg l off n k) : ∃ r, k r ∧ ∀ (k' : V → Prop), k' r → vpart agg l off n k' := by
  unfold vpart at h ⊢
  cases agg with
  | true =>
    simp only at h ⊢
    cases hc : cut l off n with
    | none => rw [hc] at h; exact h.elim
    | some r => rw [hc] at h; exact ⟨_, h, fun k' h' => h'⟩
  | false =>
    simp only at h ⊢
    cases hc : l[off]? with
    | none => rw [hc] at h; exact h.elim
    | some r => rw [hc] at h; exact ⟨_, h, fun k' h' => h'⟩
theorem vint_any {op : BinOp} {j : IntKind} {a b : Int} {k : V → Prop} (h : vint prims op j a b k) : ∃ r, k r ∧ ∀ (k' : V → Prop), k' r → vint prims op j a b k' := by
  cases op <;> simp only [vint] at h ⊢ <;> first
    | exact h.elim
    | exact ⟨_, h, fun k' h' => h'⟩
    | exact ⟨_, h.2, fun k' h' => ⟨h.1, h'⟩⟩
theorem same_map {j j' : IntKind} {p q : Prop} (h : same j j' p) (hq : q) : same j j' q := by
  cases j <;> cases j' <;> simp_all [same]
theorem vbin_any {d : TD} {op : BinOp} {x y : V} {k : V → Prop} (h : vbin prims d op x y k) : ∃ r, k r ∧ ∀ (k' : V → Prop), k' r → vbin prims d op x y k' := by
  unfold vbin at h ⊢
  split at h
  · rename_i j a j' b
    by_cases hs : op = .shl ∨ op = .shr
    · rcases hs with rfl | rfl <;> exact ⟨_, h.2, fun k' h' => ⟨h.1, h'⟩⟩
    · have h' : same j j' (vint prims op j a b k) := by revert h; cases op <;> simp_all
      obtain ⟨rfl, h2⟩ := same_iff h'
      obtain ⟨r, h3, h4⟩ := vint_any h2
      refine ⟨r, h3, fun k' hk => ?_⟩
      have h5 := same_map (q := vint prims op j a b k') h' (h4 k' hk)
      revert h5; cases op <;> simp_all
  · split at h
    · exact ⟨_, h, fun k' h' => h'⟩
    · exact ⟨_, h, fun k' h' => h'⟩
    · exact h.elim
  · cases op <;> simp only at h ⊢ <;> first
      | exact h.elim
      | exact ⟨_, h, fun k' h' => h'⟩
      | exact ⟨_, h.2, fun k' h' => ⟨h.1, h'⟩⟩
  · rename_i a b
    cases op <;> simp only at h ⊢ <;> first
      | exact h.elim
      | exact ⟨_, h, fun k' h' => h'⟩
      | (cases hc : prims.fadd a b with
        | none => rw [hc] at h; exact h.elim
        | some r => rw [hc] at h; exact ⟨_, h, fun k' h' => h'⟩)
      | (cases hc : prims.fsub a b with
        | none => rw [hc] at h; exact h.elim
        | some r => rw [hc] at h; exact ⟨_, h, fun k' h' => h'⟩)
  · rename_i a b c e
    cases op <;> simp only at h ⊢ <;> first
      | exact h.elim
      | exact ⟨_, h, fun k' h' => h'⟩
      | (cases hc : prims.fadd a c with
        | none => rw [hc] at h; exact h.elim
        | some r =>
          rw [hc] at h
          cases hd : prims.fadd b e with
          | none => rw [hd] at h; exact h.elim
          | some i => rw [hd] at h; exact ⟨_, h, fun k' h' => h'⟩)
      | (cases hc : prims.fsub a c with
        | none => rw [hc] at h; exact h.elim
        | some r =>
          rw [hc] at h
          cases hd : prims.fsub b e with
          | none => rw [hd] at h; exact h.elim
          | some i => rw [hd] at h; exact ⟨_, h, fun k' h' => h'⟩)
  · exact h.elim
theorem vun_any {op : UnOp} {x : V} {k : V → Prop} (h : vun prims op x k) : ∃ r, k r ∧ ∀ (k' : V → Prop), k' r → vun prims op x k' := by
  unfold vun at h ⊢
  split at h
  · exact ⟨_, h, fun k' h' => h'⟩
  · exact ⟨_, h, fun k' h' => h'⟩
  · exact h.elim
theorem vpick_any {c a b : V} {k : V → Prop} (h : vpick c a b k) : ∃ r, k r ∧ ∀ (k' : V → Prop), k' r → vpick c a b k' := by
  obtain ⟨t, rfl, h⟩ : ∃ t, c = .c (.f (.bool t)) ∧ (match t with | true => k a | false => k b) := by
    unfold vpick at h
    split at h
    · exact ⟨_, rfl, h⟩
    · exact h.elim
  cases t with
  | true => exact ⟨_, h, fun k' h' => h'⟩
  | false => exact ⟨_, h, fun k' h' => h'⟩
theorem nil_get {o : Nat} {α : Type} : ([] : List α)[o]? = none := by simp
theorem vload_any {agg : Bool} {n : Nat} {x : V} {k : V → Prop} (h : vload prims agg n x [] k) : ∃ r, k r ∧ ∀ σ (k' : V → Prop), k' r → vload prims agg n x σ k' := by
  unfold vload at h ⊢
  split at h
  · simp only [nil_get] at h
  · rename_i cs off
    cases agg with
    | true => exact ⟨_, h.2, fun σ k' h' => ⟨h.1, h'⟩⟩
    | false =>
      simp only [prims] at h ⊢
      cases hc : cs[off]? with
      | none => rw [hc] at h; exact h.elim
      | some r => rw [hc] at h; exact ⟨_, h, fun σ k' h' => h'⟩
  · simp only [nil_get] at h
  · exact h.elim
theorem vfield_any {x : V} {fo : Nat} {k : V → Prop} (h : vfield prims x fo [] k) : ∃ r, k r ∧ ∀ σ (k' : V → Prop), k' r → vfield prims x fo σ k' := by
  unfold vfield at h ⊢
  split at h
  · exact ⟨_, h, fun σ k' h' => h'⟩
  · exact ⟨_, h, fun σ k' h' => h'⟩
  · simp only [nil_get] at h
  · exact h.elim
theorem vindexAddr_any {t : TypeId} {x i : V} {k : V → Prop} (h : vindexAddr prims tb t x i [] k) : ∃ r, k r ∧ ∀ σ (k' : V → Prop), k' r → vindexAddr prims tb t x i σ k' := by
  unfold vindexAddr at h ⊢
  split at h
  · obtain ⟨h1, h2⟩ := no_of (tb := tb) h
    exact ⟨_, h2.2, fun σ k' h' => by
      split
      · rename_i e; exact h1 e
      · exact ⟨h2.1, h'⟩⟩
  · simp only [nil_get] at h
    split at h <;> first | exact h.elim | (rename_i e _; cases e)
  · obtain ⟨h1, h2⟩ := no_of (tb := tb) h
    exact ⟨_, h2.2.2, fun σ k' h' => by
      split
      · rename_i e; exact h1 e
      · exact ⟨h2.1, h2.2.1, h'⟩⟩
  · obtain ⟨h1, h2⟩ := no_of (tb := tb) h
    exact ⟨_, h2.2.2, fun σ k' h' => by
      split
      · rename_i e; exact h1 e
      · exact ⟨h2.1, h2.2.1, h'⟩⟩
  · simp only [nil_get] at h
    split at h <;> first | exact h.elim | (rename_i e _; cases e)
  · exact h.elim
theorem vindex_any {t : TypeId} {x i : V} {k : V → Prop} (h : vindex prims tb t x i k) : ∃ r, k r ∧ ∀ (k' : V → Prop), k' r → vindex prims tb t x i k' := by
  unfold vindex at h ⊢
  split at h
  · exact ⟨_, h.2, fun k' h' => ⟨h.1, h'⟩⟩
  · obtain ⟨h1, h2⟩ := no_of (tb := tb) h
    obtain ⟨r, h3, h4⟩ := part_any h2.2.2
    exact ⟨r, h3, fun k' h' => by
      split
      · rename_i e; exact h1 e
      · exact ⟨h2.1, h2.2.1, h4 k' h'⟩⟩
  · exact h.elim
theorem vlen_any {d : TD} {x : V} {k : V → Prop} (h : vlen prims d x [] k) : ∃ r, k r ∧ ∀ σ (k' : V → Prop), k' r → vlen prims d x σ k' := by
  unfold vlen at h ⊢
  split at h
  · exact ⟨_, h, fun σ k' h' => h'⟩
  · exact ⟨_, h, fun σ k' h' => h'⟩
  · exact ⟨_, h, fun σ k' h' => h'⟩
  · simp only [nil_get] at h
  · exact h.elim
theorem vbytes_any {x : V} {k : V → Prop} (h : vbytes prims x [] k) : ∃ r, k r ∧ ∀ σ (k' : V → Prop), k' r → vbytes prims x σ k' := by
  unfold vbytes at h ⊢
  split at h
  · exact ⟨_, h, fun σ k' h' => h'⟩
  · obtain ⟨s, h1, h2, h3⟩ := h
    exact ⟨_, h3, fun σ k' h' => ⟨s, h1, h2, h'⟩⟩
  · simp only [nil_get] at h
  · exact h.elim
theorem vconv_any {s d : TypeId} {x : V} {k : V → Prop} (hd : (match (tb d).d with | .slice _ => false | _ => true) = true) (h : vconv prims tb s d x [] fun v _ => k v) : ∃ r, k r ∧ ∀ σ (k' : V → St → Prop), k' r σ → vconv prims tb s d x σ k' := by
  unfold vconv at h ⊢
  split at h
  · exact ⟨_, h, fun σ k' h' => h'⟩
  · exact ⟨_, h, fun σ k' h' => h'⟩
  · rename_i b _ _
    cases hc : prims.foi b with
    | none => rw [hc] at h; exact h.elim
    | some r => rw [hc] at h; exact ⟨_, h, fun σ k' h' => h'⟩
  · exact ⟨_, h, fun σ k' h' => h'⟩
  · split at h
    · obtain ⟨r, h1, h2⟩ := vbytes_any h
      exact ⟨r, h1, fun σ k' h' => h2 σ (fun v => k' v σ) h'⟩
    · exact h.elim
  · rename_i e
    rw [e] at hd
    cases hd
  · exact h.elim
theorem vslice_any {t : TypeId} {x : V} {lo hi : Option V} {k : V → Prop} (h : vslice prims tb t x lo hi [] fun v _ => k v) : ∃ r, k r ∧ ∀ σ (k' : V → St → Prop), k' r σ → vslice prims tb t x lo hi σ k' := by
  unfold vslice at h ⊢
  split at h
  · split at h
    · exact ⟨_, h, fun σ k' h' => h'⟩
    · exact ⟨_, h.2, fun σ k' h' => ⟨h.1, h'⟩⟩
    · exact ⟨_, h.2, fun σ k' h' => ⟨h.1, h'⟩⟩
    · exact ⟨_, h.2.2, fun σ k' h' => ⟨h.1, h.2.1, h'⟩⟩
    · exact h.elim
  · split at h
    · exact h.elim
    · rename_i hn
      simp only [hn, if_false]
      split at h
      · exact ⟨_, h.2, fun σ k' h' => ⟨h.1, h'⟩⟩
      · exact ⟨_, h.2, fun σ k' h' => ⟨h.1, h'⟩⟩
      · exact ⟨_, h.2.2, fun σ k' h' => ⟨h.1, h.2.1, h'⟩⟩
      · exact ⟨_, h, fun σ k' h' => h'⟩
      · exact h.elim
  · split at h
    · exact h.elim
    · rename_i hn
      simp only [hn, if_false]
      split at h
      · exact ⟨_, h.2, fun σ k' h' => ⟨h.1, h'⟩⟩
      · exact ⟨_, h.2, fun σ k' h' => ⟨h.1, h'⟩⟩
      · exact ⟨_, h.2.2, fun σ k' h' => ⟨h.1, h.2.1, h'⟩⟩
      · exact ⟨_, h, fun σ k' h' => h'⟩
      · exact h.elim
  · simp only [nil_get] at h
    split at h <;> exact h.elim
  · exact h.elim
theorem vdo_plain {o : Op} (hx : extraB tb o = false) (hc : ∀ c, o ≠ .call c) {fr : Fr} {σ : St} {k : V → St → Prop} : vdo (mx P) pf tb o fr σ k = vop prims tb o fr σ k := by
  have e : vop2 prims tb o fr σ k = vop prims tb o fr σ k := by unfold vop2; rw [hx]
  rw [← e]
  cases o <;> first | rfl | exact (hc _ rfl).elim
theorem tless_plain {o : Op} {fr : Fr} (ht : tless pf tb o fr = true) (hc : ∀ c, o ≠ .call c) : extraB tb o = false := by
  cases o <;> first
    | rfl
    | exact (hc _ rfl).elim
    | (simp only [tless, Bool.and_eq_true, Bool.not_eq_true'] at ht; exact ht.1.1)
theorem tless_ok {o : Op} {fr : Fr} (ht : tless pf tb o fr = true) {k : V → Prop} (h : vdo (mx P) pf tb o fr [] fun v _ => k v) :
    ∃ r, k r ∧ ∀ σ (k' : V → St → Prop), k' r σ → vdo (mx P) pf tb o fr σ k' := by
  cases o with
  | move x => exact ⟨_, h, fun σ k' h' => h'⟩
  | assign x => exact ⟨_, h, fun σ k' h' => h'⟩
  | pick c a b => obtain ⟨r, h1, h2⟩ := vpick_any h; exact ⟨r, h1, fun σ k' h' => h2 (fun v => k' v σ) h'⟩
  | binOp op t x y p =>
    have hx : extraB tb (.binOp op t x y p) = false := by
      simp only [tless, Bool.and_eq_true, Bool.not_eq_true'] at ht
      exact ht.1.1
    have h' : vop prims tb (.binOp op t x y p) fr [] (fun v _ => k v) := by
      have h2 : vop2 prims tb (.binOp op t x y p) fr [] (fun v _ => k v) := h
      unfold vop2 at h2
      rw [hx] at h2
      exact h2
    obtain ⟨r, h1, h2⟩ := vbin_any h'
    refine ⟨r, h1, fun σ k' hk' => ?_⟩
    show vop2 prims tb (.binOp op t x y p) fr σ k'
    unfold vop2
    rw [hx]
    exact h2 (fun v => k' v σ) hk'
  | unOp op t x => obtain ⟨r, h1, h2⟩ := vun_any h; exact ⟨r, h1, fun σ k' h' => h2 (fun v => k' v σ) h'⟩
  | convert s d x =>
    have hd : (match (tb d).d with | .slice _ => false | _ => true) = true := by
      simp only [tless, stillOp, Bool.and_eq_true] at ht
      exact ht.1.2
    have hp := fun σ k => vdo_plain (P := P) (pf := pf) (tless_plain ht (fun c e => by cases e)) (fun c e => by cases e) (fr := fr) (σ := σ) (k := k)
    rw [hp] at h
    obtain ⟨r, h1, h2⟩ := vconv_any hd h
    exact ⟨r, h1, fun σ k' h' => by rw [hp]; exact h2 σ k' h'⟩
  | slice t x lo hi mx =>
    cases mx with
    | some m => simp only [tless, stillOp, Bool.and_false, Bool.false_and] at ht; cases ht
    | none => exact vslice_any h
  | load t x =>
    obtain ⟨h1, h2⟩ := no_of (tb := tb) h
    obtain ⟨r, h3, h4⟩ := vload_any h2
    exact ⟨r, h3, fun σ k' h' => no_mk h1 (h4 σ (fun v => k' v σ) h')⟩
  | fieldAddr t x i =>
    have hp := fun σ k => vdo_plain (P := P) (pf := pf) (tless_plain ht (fun c e => by cases e)) (fun c e => by cases e) (fr := fr) (σ := σ) (k := k)
    simp only [hp, vop] at h ⊢
    split at h
    · split at h
      · split at h
        · exact h.elim
        · rename_i hs
          obtain ⟨h1, h2⟩ := no_of (tb := tb) h
          obtain ⟨r, h3, h4⟩ := vfield_any h2
          exact ⟨r, h3, fun σ k' h' => no_mk h1 (h4 σ (fun v => k' v σ) h')⟩
      · exact h.elim
    · exact h.elim
  | field t x i =>
    simp only [vdo, vop2, extraB, vop] at h ⊢
    split at h
    · split at h
      · obtain ⟨h1, h2⟩ := no_of (tb := tb) h
        obtain ⟨r, h3, h4⟩ := part_any h2
        refine ⟨r, h3, fun σ k' h' => ?_⟩
        split
        · rename_i e; exact h1 e
        · exact h4 (fun v => k' v σ) h'
      · exact h.elim
    · exact h.elim
  | indexAddr t x i => obtain ⟨r, h1, h2⟩ := vindexAddr_any h; exact ⟨r, h1, fun σ k' h' => h2 σ (fun v => k' v σ) h'⟩
  | index t x i => obtain ⟨r, h1, h2⟩ := vindex_any h; exact ⟨r, h1, fun σ k' h' => h2 (fun v => k' v σ) h'⟩
  | extract x i =>
    simp only [vdo, vop2, extraB, vop] at h ⊢
    split at h
    · split at h
      · exact ⟨_, h, fun σ k' h' => h'⟩
      · exact h.elim
    · exact h.elim
  | nilCheck x =>
    simp only [vdo, vop2, extraB, vop] at h ⊢
    split at h
    · exact ⟨_, h, fun σ k' h' => h'⟩
    · exact ⟨_, h, fun σ k' h' => h'⟩
    · exact ⟨_, h, fun σ k' h' => h'⟩
    · simp only [nil_get] at h
    · exact h.elim
  | makeFunc fn first captured =>
    cases fn with
    | func f =>
      simp only [vdo, vop2, extraB, vop] at h ⊢
      split at h
      · exact ⟨_, h, fun σ k' h' => h'⟩
      · exact h.elim
    | _ => exact h.elim
  | build t parts =>
    simp only [vdo, vop2, extraB, vop] at h ⊢
    split at h
    · split at h
      · rename_i hall
        simp only [if_pos hall]
        split at h
        · exact ⟨_, h, fun σ k' h' => h'⟩
        · exact h.elim
      · exact h.elim
    · split at h
      · obtain ⟨h1, h2⟩ := no_of (tb := tb) h
        refine ⟨_, h2, fun σ k' h' => ?_⟩
        split
        · rename_i e; exact h1 e
        · exact h'
      · exact h.elim
    · exact h.elim
  | call c =>
    obtain ⟨cal, args, at'⟩ := c
    cases cal with
    | value x =>
      simp only [tless] at ht
      simp only [vdo] at h ⊢
      split at h
      · rename_i f l hc
        rw [hc] at ht
        simp only [Bool.and_eq_true, Bool.not_eq_true'] at ht
        obtain ⟨hpf, hrs⟩ := ht
        rw [hpf] at h
        simp only at h
        rw [softs_none l hrs] at h
        obtain ⟨r, h1, h2⟩ := h
        refine ⟨r, h2, fun σ k' h' => ?_⟩
        rw [hpf]
        simp only
        rw [softs_none l hrs]
        exact ⟨r, h1, h'⟩
      · exact h.elim
    | builtin b =>
      have hx : extraB tb (.call { callee := .builtin b, args, argTypes := at' }) = false := by
        simp only [tless, Bool.and_eq_true, Bool.not_eq_true'] at ht
        exact ht.1.1
      have hp : ∀ σ k, vdo (mx P) pf tb (.call { callee := .builtin b, args, argTypes := at' }) fr σ k = vop prims tb (.call { callee := .builtin b, args, argTypes := at' }) fr σ k := fun σ k => by
        show vop2 prims tb _ fr σ k = _
        unfold vop2
        rw [hx]
      simp only [hp, vop, vbi] at h ⊢
      split at h
      · split at h
        · obtain ⟨r, h1, h2⟩ := vlen_any h
          exact ⟨r, h1, fun σ k' h' => h2 σ (fun v => k' v σ) h'⟩
        · exact h.elim
      · simp [tless, stillOp] at ht
      · split at h
        · exact ⟨_, h, fun σ k' h' => h'⟩
        · exact h.elim
      · split at h
        · exact ⟨_, h, fun σ k' h' => h'⟩
        · exact h.elim
      · exact ⟨_, h, fun σ k' h' => h'⟩
      · exact ⟨_, h, fun σ k' h' => h'⟩
      · exact ⟨_, h, fun σ k' h' => h'⟩
      · exact h.elim
    | invoke r m => exact h.elim
  | _ => simp [tless, stillOp] at ht
end
end Go.Dm
namespace Go.Dm
set_option linter.unusedVariables false
set_option linter.unusedSimpArgs false
section
variable {P : Program} {pf : FuncId → Bool} {tb : Tab} {ops : Array Oper}
def pdo (P : Program) (pf : FuncId → Bool) (tb : Tab) (o : Op) (fr : Fr) (σ : St) (k : V → St → Prop) : Prop :=
  ∃ k0, vdo (mx P) pf tb o fr σ k0 ∧ ∀ v σ', k0 v σ' → k v σ'
theorem pdo_mono {o : Op} {fr : Fr} {σ : St} {k k' : V → St → Prop} (h : pdo P pf tb o fr σ k) (hk : ∀ v σ', k v σ' → k' v σ') : pdo P pf tb o fr σ k' :=
  let ⟨k0, a, b⟩ := h; ⟨k0, a, fun v σ' c => hk _ _ (b _ _ c)⟩
def pOne (P : Program) (pf : FuncId → Bool) (tb : Tab) (ops : Array Oper) (o : Oper) (K : Fr → St → Prop) (fr : Fr) (σ : St) : Prop :=
  vguard ops fr o (pdo P pf tb o.op fr σ fun v σ' => K (fr.put o.dst v) σ') (K (fr.put o.dst (.t [])) σ)
theorem vguard_cases {fr : Fr} {o : Oper} {x y : Prop} (h : vguard ops fr o x y) : (x ∧ ∀ x' y' : Prop, x' → vguard ops fr o x' y') ∨ (y ∧ ∀ x' y' : Prop, y' → vguard ops fr o x' y') := by
  unfold vguard at h ⊢
  split at h
  · exact .inl ⟨h, fun x' y' h' => h'⟩
  · rename_i j want _
    split at h
    · exact .inr ⟨h, fun x' y' h' => h'⟩
    · split at h
      · rename_i b _
        cases b <;> cases want <;> first | exact .inl ⟨h, fun x' y' h' => h'⟩ | exact .inr ⟨h, fun x' y' h' => h'⟩
      · exact .inr ⟨h, fun x' y' h' => h'⟩
      · exact h.elim
theorem pOne_mono {o : Oper} {K K' : Fr → St → Prop} {fr : Fr} {σ : St} (h : pOne P pf tb ops o K fr σ) (hk : ∀ fr' σ', K fr' σ' → K' fr' σ') : pOne P pf tb ops o K' fr σ := by
  rcases vguard_cases h with ⟨h1, h2⟩ | ⟨h1, h2⟩
  · exact h2 _ _ (pdo_mono h1 fun _ _ h => hk _ _ h)
  · exact h2 _ _ (hk _ _ h1)
def pAny (P : Program) (pf : FuncId → Bool) (tb : Tab) (ops : Array Oper) (K : Fr → St → Prop) : Nat → Array Bool → Fr → St → Prop
  | 0, listed, fr, σ => Region.ready .any ops listed = [] ∧ K fr σ
  | fuel + 1, listed, fr, σ => (Region.ready .any ops listed = [] → K fr σ) ∧
    ∀ i ∈ Region.ready .any ops listed, ∀ o, ops[i]? = some o → pOne P pf tb ops o (pAny P pf tb ops K fuel (listed.setIfInBounds i true)) fr σ
theorem Does.mono {o : Oper} {a : Act} {g : G} {w : World} {σ : St} {k k' : V → St → Prop} (h : Does P o a g w σ k) (hk : ∀ v σ', k v σ' → k' v σ') : Does P o a g w σ k' := by
  rcases h with ⟨r, σ', g', w', v, nx, h1, h2, h3, h4⟩ | ⟨f, vs, h1, l, σ1, g1, k1, k2, h2, h3⟩
  · exact .inl ⟨r, σ', g', w', v, nx, h1, h2, hk _ _ h3, h4⟩
  · exact .inr ⟨f, vs, h1, l, σ1, g1, k1, k2, h2, h3.mono hk⟩
theorem one_ok' (tok : TabOk P tb) {g : G} {w : World} {σ : St} (hr : Rep g w σ) {o : Oper} {a : Act} {fr : Fr} (hf : FrRep g w σ fr a.tmps) (hd : a.defers = []) {K : Fr → St → Prop} {Q : Exit → Act → World → Prop} {next : Act → World → Prop}
    (h : pOne P pf tb ops o K fr σ) (hn : ∀ a' w', Lifts g w σ K a' w' → next a' w') :
    if Region.wanted o (yielded ops a.tmps) then o.wp P a w next Q ∨ (o.asks P a w ∧ LetsOut Q) else next (a.put o.dst undef) w := by
  unfold pOne at h
  rcases guard_ok hf h with ⟨h1, k0, h2, h3⟩ | ⟨h1, h2⟩
  · rw [if_pos h1]
    exact .inl (Oper.wp_mono hn (((vdo_ok tok hr hf h2).mono h3).wp hr hf hd))
  · rw [if_neg (by simp [h1])]
    exact hn _ _ ⟨_, σ, g, h2, hr, Turn.refl _ _ _, by rw [put_tmps]; exact hf.put (v := .t []) ⟨[], rfl, rfl⟩ o.dst, by rw [put_defers]; exact hd⟩
theorem pAny_sound (tok : TabOk P tb) {K : Fr → St → Prop} {Q : Exit → Act → World → Prop} : ∀ (fuel : Nat) (listed : Array Bool) {g : G} {w : World} {σ : St} (hr : Rep g w σ) {a : Act} {fr : Fr} (hf : FrRep g w σ fr a.tmps) (hd : a.defers = [])
    (h : pAny P pf tb ops K fuel listed fr σ) (hQ : ∀ a' w', Lifts g w σ K a' w' → Q .normal a' w'), wpAny P .any ops Q fuel listed a w
  | 0, listed, g, w, σ, hr, a, fr, hf, hd, h, hQ => ⟨h.1, hQ _ _ ⟨fr, σ, g, h.2, hr, Turn.refl _ _ _, hf, hd⟩⟩
  | fuel + 1, listed, g, w, σ, hr, a, fr, hf, hd, h, hQ => by
    refine ⟨fun h0 => hQ _ _ ⟨fr, σ, g, h.1 h0, hr, Turn.refl _ _ _, hf, hd⟩, fun i hi => ?_⟩
    obtain ⟨_, o, ho, _⟩ := mem_ready.1 hi
    unfold wpOp
    rw [ho]
    exact one_ok' tok hr hf hd (h.2 i hi o ho) fun a' w' ⟨fr', σ', g', h1, h2, h3, h4, h5⟩ =>
      pAny_sound tok fuel _ h2 h4 h5 h1 fun a'' w'' h6 => hQ _ _ (h6.trans h3)
theorem opd_put {fr : Fr} {dst : Option Tmp} {v : V} {x : Operand} (h : ∀ d, dst = some d → x ≠ .tmp d) : opd (fr.put dst v) x = opd fr x := by
  cases dst with
  | none => rfl
  | some d =>
    cases x with
    | tmp t =>
      have hne : d ≠ t := fun e => h d rfl (e ▸ rfl)
      simp [opd, Fr.put, List.getD_eq_getElem?_getD, List.getElem?_set, hne]
    | _ => rfl
theorem put_comm (fr : Fr) {x y : Option Tmp} (v u : V) (h : ∀ d, x = some d → y ≠ some d) : (fr.put x v).put y u = (fr.put y u).put x v := by
  cases x with
  | none => rfl
  | some d =>
    cases y with
    | none => rfl
    | some e =>
      have hne : d ≠ e := fun he => h d rfl (he ▸ rfl)
      exact List.set_comm v u hne
theorem pdo_put {o : Oper} {fr : Fr} {dst : Option Tmp} {v : V} (h : ∀ d, dst = some d → d ∉ o.looksAt ops) {σ : St} {k : V → St → Prop} : pdo P pf tb o.op (fr.put dst v) σ k ↔ pdo P pf tb o.op fr σ k := by
  have : ∀ k0, vdo (mx P) pf tb o.op (fr.put dst v) σ k0 = vdo (mx P) pf tb o.op fr σ k0 := fun k0 => vdo_congr fun x hx => opd_put fun d hd hxd => h d hd (by
    subst hxd
    exact List.mem_append_left _ (List.mem_filterMap.2 ⟨.tmp d, by simpa using hx, rfl⟩))
  unfold pdo
  simp only [this]
theorem vguard_put {o : Oper} {fr : Fr} {dst : Option Tmp} {v : V} (h : ∀ d, dst = some d → d ∉ o.looksAt ops) {x y : Prop} : vguard ops (fr.put dst v) o x y = vguard ops fr o x y := by
  cases dst with
  | none => rfl
  | some d =>
    unfold vguard
    cases hg : o.guard with
    | none => rfl
    | some gw =>
      obtain ⟨j, want⟩ := gw
      simp only
      cases ht : (ops[j]?).bind (·.dst) with
      | none => rfl
      | some t =>
        have hne : d ≠ t := fun e => h d rfl (by subst e; simp [Oper.looksAt, hg, ht])
        simp only [Fr.put, List.getElem?_set, hne, if_false]
def PY (P : Program) (pf : FuncId → Bool) (tb : Tab) (ops : Array Oper) (o : Oper) (r : V) (fr : Fr) : Prop := ∀ σ (K : Fr → St → Prop), K (fr.put o.dst r) σ → pOne P pf tb ops o K fr σ
theorem PY.put {oi oj : Oper} {r u : V} {fr : Fr} (hap : oi.apart ops oj = true) (h : PY P pf tb ops oi r fr) : PY P pf tb ops oi r (fr.put oj.dst u) := by
  obtain ⟨h1, h2, h3⟩ := Oper.apart_spec hap
  intro σ K hK
  have hc : ∀ v, (fr.put oj.dst u).put oi.dst v = (fr.put oi.dst v).put oj.dst u := fun v => (put_comm fr v u h2).symm
  have := h σ (fun f τ => K (f.put oj.dst u) τ) (by rw [← hc]; exact hK)
  unfold pOne at this ⊢
  rw [vguard_put h3]
  simp only [hc]
  rcases vguard_cases this with ⟨q1, q2⟩ | ⟨q1, q2⟩
  · exact q2 _ _ ((pdo_put h3).2 q1)
  · exact q2 _ _ q1
theorem pOne_put {oi oj : Oper} {r : V} {fr : Fr} (hap : oi.apart ops oj = true) {K : Fr → St → Prop} {σ : St} (hy : PY P pf tb ops oi r fr) (h : pOne P pf tb ops oj K (fr.put oi.dst r) σ) :
    pOne P pf tb ops oj (fun fr' σ' => PY P pf tb ops oi r fr' ∧ K (fr'.put oi.dst r) σ') fr σ := by
  obtain ⟨h1, h2, h3⟩ := Oper.apart_spec hap
  have hc : ∀ v, (fr.put oi.dst r).put oj.dst v = (fr.put oj.dst v).put oi.dst r := fun v => put_comm fr r v h2
  unfold pOne at h ⊢
  rw [vguard_put h1] at h
  simp only [hc] at h
  rcases vguard_cases h with ⟨q1, q2⟩ | ⟨q1, q2⟩
  · exact q2 _ _ (pdo_mono ((pdo_put h1).1 q1) fun v σ' h => ⟨hy.put hap, h⟩)
  · exact q2 _ _ ⟨hy.put hap, q1⟩
end
end Go.Dm
namespace Go.Dm
set_option linter.unusedVariables false
set_option linter.unusedSimpArgs false
structure TurnN (n : Nat) (g : G) (w : World) (σ : St) (g' : G) (w' : World) (σ' : St) : Prop where
  os : w'.os = w.os
  tape : w'.tape = w.tape
  output : w'.output = w.output
  size : w.heap.size ≤ w'.heap.size
  whole : ∀ b, b < w.heap.size → (∀ o, ¬ Own g σ b o) → w'.heap[b]? = w.heap[b]?
  zs : ∀ b o, g.Z b o → g'.Z b o ∧ w'.cell? ⟨b, o, none⟩ = w.cell? ⟨b, o, none⟩
  znew : ∀ b o, b < w.heap.size → g'.Z b o → g.Z b o ∨ Own g σ b o
  onew : ∀ b o, b < w.heap.size → Own g' σ' b o → Own g σ b o
  turns : ∀ i ob, i < n → σ[i]? = some ob → ∃ ob', σ'[i]? = some ob' ∧ ObTurn g g' i ob ob'
  blks : ∀ i ob, i < n → σ[i]? = some ob → ob.row = false → g'.blk i = g.blk i
theorem Turn.n {g g' : G} {w w' : World} {σ σ' : St} (h : Turn g w σ g' w' σ') (n : Nat) : TurnN n g w σ g' w' σ' :=
  ⟨h.os, h.tape, h.output, h.size, h.whole, h.zs, h.znew, h.onew, fun i ob _ => h.turns i ob, fun i ob _ => h.blks i ob⟩
theorem TurnN.full {g g' : G} {w w' : World} {σ σ' : St} (h : TurnN σ.length g w σ g' w' σ') : Turn g w σ g' w' σ' :=
  ⟨h.os, h.tape, h.output, h.size, h.whole, h.zs, h.znew, h.onew, fun i ob hi => h.turns i ob (lt_of_get hi) hi, fun i ob hi => h.blks i ob (lt_of_get hi) hi⟩
theorem TurnN.trans {n : Nat} {g g' g'' : G} {w w' w'' : World} {σ σ' σ'' : St} (h : TurnN n g w σ g' w' σ') (k : TurnN n g' w' σ' g'' w'' σ'') : TurnN n g w σ g'' w'' σ'' where
  os := k.os.trans h.os
  tape := k.tape.trans h.tape
  output := k.output.trans h.output
  size := Nat.le_trans h.size k.size
  whole b hb hn := (k.whole b (Nat.lt_of_lt_of_le hb h.size) (fun o ho => hn o (h.onew b o hb ho))).trans (h.whole b hb hn)
  zs b o hz := ⟨(k.zs b o (h.zs b o hz).1).1, (k.zs b o (h.zs b o hz).1).2.trans (h.zs b o hz).2⟩
  znew b o hb hz := by
    rcases k.znew b o (Nat.lt_of_lt_of_le hb h.size) hz with h1 | h1
    · exact h.znew b o hb h1
    · exact .inr (h.onew b o hb h1)
  onew b o hb ho := h.onew b o hb (k.onew b o (Nat.lt_of_lt_of_le hb h.size) ho)
  turns i ob hi ho := by
    obtain ⟨ob', h1, h2⟩ := h.turns i ob hi ho
    obtain ⟨ob'', h3, h4⟩ := k.turns i ob' hi h1
    refine ⟨ob'', h3, ?_⟩
    cases ob <;> cases ob' <;> cases ob'' <;> simp_all [ObTurn]
    rcases h2 with h2 | ⟨rfl, rfl, h2a, h2b, h2c⟩ <;> rcases h4 with h4 | ⟨rfl, rfl, h4a, h4b, h4c⟩
    · left; omega
    · left; exact h2
    · left; exact h4
    · right; exact ⟨rfl, rfl, h4a.trans h2a, h4b.trans h2b, h4c.trans h2c⟩
  blks i ob hi ho hr := by
    obtain ⟨ob', h1, h2⟩ := h.turns i ob hi ho
    exact (k.blks i ob' hi h1 (h2.row hr)).trans (h.blks i ob hi ho hr)
abbrev Post := Exit → Fr → St → Prop
def LiftsN (n : Nat) (g : G) (w : World) (σ : St) (K : Fr → St → Prop) (a : Act) (w' : World) : Prop :=
  ∃ fr' σ' g', K fr' σ' ∧ Rep g' w' σ' ∧ TurnN n g w σ g' w' σ' ∧ FrRep g' w' σ' fr' a.tmps ∧ a.defers = []
theorem Lifts.n {g : G} {w : World} {σ : St} {K : Fr → St → Prop} {a : Act} {w' : World} (h : Lifts g w σ K a w') (n : Nat) : LiftsN n g w σ K a w' :=
  let ⟨fr, σ', g', h1, h2, h3, h4, h5⟩ := h; ⟨fr, σ', g', h1, h2, h3.n n, h4, h5⟩
theorem LiftsN.trans {n : Nat} {g g' : G} {w w' : World} {σ σ' : St} (ht : TurnN n g w σ g' w' σ') {K : Fr → St → Prop} {a : Act} {w'' : World} (h : LiftsN n g' w' σ' K a w'') : LiftsN n g w σ K a w'' :=
  let ⟨fr, τ, g'', h1, h2, h3, h4, h5⟩ := h; ⟨fr, τ, g'', h1, h2, ht.trans h3, h4, h5⟩
def DWp (P : Program) (n : Nat) (c : Code) (K : Post) (fr : Fr) (σ : St) : Prop :=
  ∀ g w a, Rep g w σ → FrRep g w σ fr a.tmps → a.defers = [] → c.wp P (fun e a' w' => LiftsN n g w σ (K e) a' w') a w
def LoopAt (P : Program) (n : Nat) (c : Code) (K : Post) (fr : Fr) (σ : St) : Prop :=
  ∀ g w a, Rep g w σ → FrRep g w σ fr a.tmps → a.defers = [] → ∀ (b : Frame) (k : List Item) (cs : List Frame),
    ∃ e a' w', LiftsN n g w σ (K e) a' w' ∧ Arrives P (lone (b.at a (.code c :: .inLoop c :: k)) cs w) b k cs e a' w'
def Post.then (next : Fr → St → Prop) (K : Post) : Exit → Fr → St → Prop
  | .normal, fr, σ => next fr σ
  | .exit i, fr, σ => K (.exit i) fr σ
  | .goto i, fr, σ => K (.goto i) fr σ
  | .ret, fr, σ => K .ret fr σ
  | .panic c, fr, σ => K (.panic c) fr σ
  | .outgrown, fr, σ => K .outgrown fr σ
section
variable {P : Program} {pf : FuncId → Bool} {tb : Tab} {n : Nat}
theorem here_ok {K : Fr → St → Prop} {g : G} {w : World} {σ : St} {fr : Fr} {a : Act} (h : K fr σ) (hr : Rep g w σ) (hf : FrRep g w σ fr a.tmps) (hd : a.defers = []) : LiftsN n g w σ K a w :=
  ⟨fr, σ, g, h, hr, (Turn.refl g w σ).n n, hf, hd⟩
theorem loop_round {c : Code} {K : Post} {fr : Fr} {σ : St} (h : DWp P n c (Post.then (LoopAt P n c K) K) fr σ) : LoopAt P n c K fr σ := by
  intro g w a hr hf hd b k cs
  obtain ⟨e, a₁, w₁, hq, harr⟩ := h g w a hr hf hd b (.inLoop c :: k) cs
  cases e with
  | normal =>
    obtain ⟨fr', σ', g', h1, h2, h3, h4, h5⟩ := hq
    obtain ⟨e₂, a₂, w₂, hq₂, harr₂⟩ := h1 g' w₁ a₁ h2 h4 h5 b k cs
    exact ⟨e₂, a₂, w₂, hq₂.trans h3, .of_steps (Steps.trans harr (.one step_inLoop)) harr₂⟩
  | exit id => exact ⟨_, a₁, w₁, hq, .pass (x := .inLoop c) rfl (fun _ _ => .inl (by simp)) harr⟩
  | goto l => exact ⟨_, a₁, w₁, hq, .pass (x := .inLoop c) rfl (fun _ _ => .inl (by simp)) harr⟩
  | ret => exact ⟨_, a₁, w₁, hq, .pass (x := .inLoop c) rfl (fun _ _ => .inl (by simp)) harr⟩
  | panic ch => exact ⟨_, a₁, w₁, hq, .pass (x := .inLoop c) rfl (fun _ _ => .inl (by simp)) harr⟩
  | outgrown => exact ⟨_, a₁, w₁, hq, .pass (x := .inLoop c) rfl (fun _ _ => .inl (by simp)) harr⟩
def Ghost (fr : Fr) (σ : St) (fr' : Fr) (σ' : St) : Prop :=
  ∀ g w tmps, Rep g w σ → FrRep g w σ fr tmps → ∃ g', Rep g' w σ' ∧ Turn g w σ g' w σ' ∧ FrRep g' w σ' fr' tmps
def Covers : Fr → Fr → Prop
  | [], [] => True
  | x :: r, y :: s => (x = .c .un ∨ x = y) ∧ Covers r s
  | _, _ => False
def resVs (T : Pr) (tb : Tab) : List ResultVar → Fr → St → (List V → Prop) → Prop
  | [], fr, σ, k => k []
  | .tmp t :: r, fr, σ, k => resVs T tb r fr σ fun l => k (fr.getD t (.c .un) :: l)
  | .cell x t :: r, fr, σ, k =>
    (match (tb t).d with
    | .no => False
    | _ => vload T (tb t).agg (tb t).size (addr (fr.getD x (.c .un))) σ fun v => resVs T tb r fr σ fun l => k (v :: l))
def Kret (X : Mx) (tb : Tab) (rs : List ResultVar) (k : V → St → Prop) : Exit → Fr → St → Prop
  | .normal, fr, σ => resVs X.T tb rs fr σ fun l => (match l with | [v] => k v σ | l => k (.t l) σ)
  | .ret, fr, σ => resVs X.T tb rs fr σ fun l => (match l with | [v] => k v σ | l => k (.t l) σ)
  | .exit _, _, _ => False
  | .goto _, _, _ => False
  | .panic _, _, _ => False
  | .outgrown, _, _ => False
def frame0 (n : Nat) (args : List V) : Fr := args ++ List.replicate (n - args.length) (.c .un)
theorem asAddr_load {t : TypeId} (h : (tb t).Ok P t) (hd : (tb t).d ≠ .no) {g : G} {w : World} {σ : St} (hr : Rep g w σ) {x : V} {u : Value} (hx : VRep g w σ x u) {k : V → Prop}
    (hk : vload prims (tb t).agg (tb t).size x σ k) : ∃ r v, (do loadVar t (← asAddr u) : Sem Value).run P w = .ok v w ∧ VRep g w σ r v ∧ k r := by
  obtain ⟨r, v, h1, h2, h3⟩ := load_ok (P := P) h hd hr hx hk
  refine ⟨r, v, ?_, h2, h3⟩
  have : ∃ ad, u = .pointer (some ad) := by
    unfold vload at hk
    split at hk
    · obtain ⟨b, ob, _, rfl, _⟩ := hx; exact ⟨_, rfl⟩
    · obtain ⟨b, o, rfl, _⟩ := hx; exact ⟨_, rfl⟩
    · rename_i o e off
      obtain ⟨_, ob, q1, q2⟩ := hx
      split at hk
      · rename_i wr e0 sz l ho
        rw [ho] at q1; cases q1
        obtain ⟨b, _, rfl⟩ := q2.2 hk.1
        exact ⟨_, rfl⟩
      · exact hk.elim
    · exact hk.elim
  obtain ⟨ad, rfl⟩ := this
  simpa [Instr.loadAt, Instr.sureAddr, asAddr] using h1
def fetch (tmps : Array Value) (r : ResultVar) : Sem Value :=
  match r with
  | .tmp t => pure (tmps.getD t undef)
  | .cell a t => do loadVar t (← asAddr (tmps.getD a undef))
theorem results_ok (tok : TabOk P tb) {g : G} {w : World} {σ : St} (hr : Rep g w σ) {fr : Fr} {tmps : Array Value} (hf : FrRep g w σ fr tmps) : ∀ (rs : List ResultVar) {k : List V → Prop} (h : resVs prims tb rs fr σ k),
    ∃ l vs, (rs.mapM (fetch tmps)).run P w = .ok vs w ∧ k l ∧ VReps g w σ l vs
  | [], k, h => ⟨[], [], rfl, h, rfl⟩
  | .tmp t :: r, k, h => by
    obtain ⟨l, vs, h1, h2, h3⟩ := results_ok tok hr hf r h
    refine ⟨_, tmps.getD t undef :: vs, ?_, h2, ⟨_, _, rfl, hf.2 t, h3⟩⟩
    simp only [List.mapM_cons, fetch, Sem.run_bind, Sem.run_pure, Result.andThen, h1]
  | .cell x t :: r, k, h => by
    obtain ⟨hd, h⟩ := no_of (tb := tb) h
    obtain ⟨r0, v, q1, q2, q3⟩ := asAddr_load (tok t) hd hr (addr_rep (hf.2 x)) h
    obtain ⟨l, vs, h1, h2, h3⟩ := results_ok tok hr hf r q3
    refine ⟨_, v :: vs, ?_, h2, ⟨_, _, rfl, q2, h3⟩⟩
    have q1' : (fetch tmps (.cell x t)).run P w = .ok v w := q1
    simp only [List.mapM_cons, Sem.run_bind, q1', Result.andThen, h1, Sem.run_pure]
theorem VReps.length {g : G} {w : World} {σ : St} : ∀ {l : List V} {vs : List Value}, VReps g w σ l vs → vs.length = l.length
  | [], _, h => by simp only [VReps] at h; subst h; rfl
  | c :: r, vs, h => by obtain ⟨v, vr, rfl, _, h2⟩ := h; simp [VReps.length h2]
theorem frame0_rep {g : G} {w : World} {σ : St} {args : List V} {vs : List Value} (h : VReps g w σ args vs) (m : Nat) :
    FrRep g w σ (frame0 m args) (vs.toArray ++ Array.replicate (m - vs.toArray.size) undef) := by
  have hl := h.length
  refine ⟨by simp [frame0, hl], fun i => ?_⟩
  rw [List.getD_eq_getElem?_getD, Array.getD_eq_getD_getElem?]
  unfold frame0
  by_cases hi : i < args.length
  · rw [List.getElem?_append_left hi, Array.getElem?_append_left (by simp; omega)]
    obtain ⟨v, h1, h2⟩ := h.get (List.getElem?_eq_getElem hi)
    rw [List.getElem?_eq_getElem hi]
    simp only [List.getElem?_toArray, h1, Option.getD_some]
    exact h2
  · have : (args ++ List.replicate (m - args.length) (V.c C.un))[i]?.getD (.c .un) = .c .un := by
      rw [List.getElem?_append_right (by omega), List.getElem?_replicate]
      split <;> rfl
    rw [this]
    trivial
theorem call_of (hm : P.follows .mixedOrders = true) (tok : TabOk P tb) {f : FuncId} {fn : Func} {c : Code} (hf : P.funcs[f]? = some fn) (hb : fn.body = some c) (hname : (fn.name == "runtime.NumGoroutine") = false)
    {args : List V} {σ : St} {k : V → St → Prop} (h : DWp P σ.length c (Kret (mx P) tb fn.results.toList k) (frame0 fn.ntmps args) σ) : CallAt P f args σ k := by
  intro g w vs hr hv
  right
  have hrun : (callFunc f vs.toArray).run P w = .ok (.enter f vs.toArray) w := by
    have hname' : fn.name ≠ "runtime.NumGoroutine" := by simpa using hname
    simp [callFunc, program, Sem.run, hf, hb, hname']
  refine ⟨hrun, calls_of_wp hf hb (wp_mono (h g w ⟨_, []⟩ hr (frame0_rep hv fn.ntmps) rfl) fun e a' w' h' => ?_)⟩
  obtain ⟨fr', σ', g', h1, h2, h3, h4, h5⟩ := h'
  have fin : resVs prims tb fn.results.toList fr' σ' (fun l => match l with | [v] => k v σ' | l => k (.t l) σ') → ∃ v, (results fn a'.tmps).run P w' = .ok v w' ∧ ∃ v', Ending.returned v = .returned v' ∧ CallEnd g w σ k v' w' := by
    intro hres
    obtain ⟨l, rvs, q1, q3, q2⟩ := results_ok tok h2 h4 _ hres
    have hq : (results fn a'.tmps).run P w' = .ok (if h : rvs.toArray.size = 1 then rvs.toArray[0] else .tuple rvs.toArray) w' := by
      have e : results fn a'.tmps = (do let vs ← fn.results.mapM (fetch a'.tmps); pure (if h : vs.size = 1 then vs[0] else .tuple vs)) := rfl
      rw [e, Array.mapM_eq_mapM_toList]
      simp only [map_eq_pure_bind, Sem.run_bind, Sem.run_pure]
      rw [q1]
      rfl
    have hl := q2.length
    cases l with
    | nil =>
      have : rvs = [] := List.eq_nil_of_length_eq_zero hl
      subst this
      exact ⟨_, hq, _, rfl, .t [], σ', g', q3, h2, h3.full, ⟨[], rfl, rfl⟩⟩
    | cons v r =>
      obtain ⟨u, ur, rfl, q4, q5⟩ := q2
      cases r with
      | nil =>
        simp only [VReps] at q5
        subst q5
        exact ⟨u, hq, u, rfl, v, σ', g', q3, h2, h3.full, q4⟩
      | cons v2 r2 =>
        obtain ⟨u2, ur2, rfl, q6, q7⟩ := q5
        exact ⟨_, hq, _, rfl, .t (v :: v2 :: r2), σ', g', q3, h2, h3.full, ⟨u :: u2 :: ur2, by simp, ⟨u, _, rfl, q4, u2, ur2, rfl, q6, q7⟩⟩⟩
  cases e with
  | normal => exact ⟨h5, fin h1⟩
  | ret => exact ⟨h5, fin h1⟩
  | _ => exact h1.elim
end
end Go.Dm
namespace Go.Dm
set_option linter.unusedVariables false
set_option linter.unusedSimpArgs false
def fitsB (P : Program) (t : TypeId) (d : TD) : Bool :=
  match d, P.underlying t with
  | .int k, some (.int k') => k == k'
  | .bool, some .bool => true
  | .str, some .string => true
  | .flo, some (.float .f64) => true
  | .cpl, some (.complex .f64) => true
  | .slice e, some (.slice e') => e == e'
  | .struct fs, some (.struct fields) => fields.toList.map (fun f => (f.offset, f.type)) == fs
  | .array n e, some (.array n' e') => n == n' && e == e'
  | .ptr e, some (.pointer e') => e == e'
  | .map k e, some (.map k' e') => k == k' && e == e'
  | .fn, some (.func _ _ _) => true
  | .uptr, some .unsafePointer => true
  | .bld a b, some (.struct fields) => fields.toList.map (fun f => (f.offset, f.type)) == [(0, a), (1, b)] && liesAt P P.depth t (2 / P.cellsOf t) 0 t 1
  | .no, _ => true
  | _, _ => false
theorem fitsB_ok {P : Program} {t : TypeId} {d : TD} (h : fitsB P t d = true) : d.fits P t := by
  unfold fitsB at h
  split at h <;> rename_i hu <;> simp only [TD.fits] <;> first
    | exact trivial
    | (simp only [Bool.and_eq_true, beq_iff_eq] at h; obtain ⟨rfl, rfl⟩ := h; exact hu)
    | (rw [Bool.and_eq_true] at h; exact ⟨_, hu, eq_of_beq h.1, h.2⟩)
    | (have h' := eq_of_beq h; subst h'; exact hu)
    | exact hu
    | exact ⟨_, hu, eq_of_beq h⟩
    | exact ⟨_, _, _, hu⟩
    | cases h
def zeroB : F → Value → Bool
  | .bool b, .bool b' => b == b'
  | .int k n, .int k' n' => k == k' && n == n'
  | .flo b, .float .f64 b' => b == b'
  | .cpl a b, .complex .f64 a' b' => a == a' && b == b'
  | .str [], .string s => s.data.toList.isEmpty
  | .nils, .slice none 0 0 => true
  | .nilp, .pointer none => true
  | .nilm, .map none => true
  | .nilf, .nilFunc => true
  | _, _ => false
theorem zeroB_ok {x : F} {v : Value} (h : zeroB x v = true) : v = zval x ∧ plain x = true := by
  unfold zeroB at h
  split at h <;> first
    | (cases h; done)
    | (simp only [Bool.and_eq_true, beq_iff_eq] at h; obtain ⟨rfl, rfl⟩ := h; exact ⟨rfl, rfl⟩)
    | (have h' := eq_of_beq h; subst h'; exact ⟨rfl, rfl⟩)
    | exact ⟨rfl, rfl⟩
    | (rename_i s
       have hs : s.data.toList = [] := by simpa using h
       refine ⟨?_, rfl⟩
       obtain ⟨⟨l⟩⟩ := s
       simp at hs
       subst hs
       rfl)
def zerosB : List F → List Value → Bool
  | [], [] => true
  | x :: r, v :: s => zeroB x v && zerosB r s
  | _, _ => false
theorem zerosB_ok : ∀ {l : List F} {vs : List Value}, zerosB l vs = true → vs = l.map zval ∧ l.all plain = true
  | [], [], _ => ⟨rfl, rfl⟩
  | x :: r, v :: s, h => by
    simp only [zerosB, Bool.and_eq_true] at h
    obtain ⟨h1, h2⟩ := zeroB_ok h.1
    obtain ⟨h3, h4⟩ := zerosB_ok h.2
    subst h1 h3
    exact ⟨rfl, by simp [h2, h4]⟩
  | [], v :: s, h => by simp [zerosB] at h
  | x :: r, [], h => by simp [zerosB] at h
def infoB (P : Program) (t : TypeId) (i : TI) : Bool :=
  match P.info? t with
  | none => false
  | some j =>
    j.size == i.size && j.bytes == i.bytes && i.zero.length == i.size &&
    (match j.zero with
    | none => false
    | some z => zerosB i.zero z.cells.toList && (!i.agg || (match z with | .agg _ => true | _ => false)))
def okB (P : Program) (t : TypeId) (i : TI) : Bool := (i.key.isEmpty || keyB P t i.key) && (i.d.isNo || (fitsB P t i.d && infoB P t i))
theorem okB_ok {P : Program} {t : TypeId} {i : TI} (h : okB P t i = true) : i.Ok P t := by
  unfold okB at h
  rw [Bool.and_eq_true] at h
  obtain ⟨hk, h⟩ := h
  have hkey : i.key = [] ∨ KeyOk P t i.key := by
    rw [Bool.or_eq_true] at hk
    exact hk.imp (fun e => by simpa using e) keyB_ok
  cases hn : i.d.isNo with
  | true =>
    have : i.d = .no := by cases hd : i.d <;> simp_all [TD.isNo]
    exact ⟨by rw [this]; trivial, .inl this, hkey⟩
  | false =>
    rw [hn] at h
    simp only [Bool.false_or, Bool.and_eq_true] at h
    refine ⟨fitsB_ok h.1, .inr ?_, hkey⟩
    have h2 := h.2
    unfold infoB at h2
    split at h2
    · cases h2
    · rename_i j hj
      simp only [Bool.and_eq_true, beq_iff_eq] at h2
      obtain ⟨⟨⟨h3, h4⟩, h5⟩, h6⟩ := h2
      split at h6
      · cases h6
      · rename_i z hz
        simp only [Bool.and_eq_true, Bool.or_eq_true, Bool.not_eq_true'] at h6
        obtain ⟨h7, h8⟩ := zerosB_ok h6.1
        refine ⟨j, hj, h3, h4, ⟨z, hz, h7, fun ha => ?_⟩, h8, h5⟩
        rcases h6.2 with h9 | h9
        · rw [ha] at h9; cases h9
        · cases z <;> first | rfl | (simp at h9)
def noTI : TI := ⟨.no, 0, 0, [], []⟩
def tabOf (l : List TI) : Tab := fun t => match l[t]? with | some i => i | none => noTI
def allB (P : Program) : Nat → List TI → Bool
  | _, [] => true
  | t, i :: r => okB P t i && allB P (t + 1) r
theorem allB_ok {P : Program} : ∀ {l : List TI} {s : Nat}, allB P s l = true → ∀ (k : Nat) (i : TI), l[k]? = some i → i.Ok P (s + k)
  | [], s, _, k, i, hi => by simp at hi
  | j :: r, s, h, k, i, hi => by
    simp only [allB, Bool.and_eq_true] at h
    cases k with
    | zero => simp at hi; subst hi; exact okB_ok h.1
    | succ k =>
      simp at hi
      have := allB_ok h.2 k i hi
      rw [show s + (k + 1) = s + 1 + k from by omega]
      exact this
theorem tab_ok {P : Program} {l : List TI} (h : allB P 0 l = true) : TabOk P (tabOf l) := by
  intro t
  unfold tabOf
  cases ht : l[t]? with
  | none => exact ⟨trivial, .inl rfl, .inl rfl⟩
  | some i => simpa using allB_ok h t i ht
end Go.Dm
namespace Go.Dm
set_option linter.unusedVariables false
section
variable {P : Program} {X : Mx} {f : FuncId} {args : List V} {K : V → Prop}
end
end Go.Dm
namespace Go.Dm
open Go.RowKit
set_option linter.unusedVariables false
section
variable {P : Program} {tb : Tab}
theorem turn_of_below {g : G} {w w' : World} {σ : St} (hr : Rep g w σ) (hb : Below w.heap.size w w') : Rep g w' σ ∧ Turn g w σ g w' σ := by
  have hcell : ∀ b o, b < w.heap.size → w'.cell? ⟨b, o, none⟩ = w.cell? ⟨b, o, none⟩ := fun b o h => by simp [World.cell?, hb.block b h]
  have ht : Turn g w σ g w' σ :=
    ⟨hb.os, hb.tape, hb.output, hb.size, fun b h _ => hb.block b h, fun b o hz => ⟨hz, hcell b o (hr.inside b o hz)⟩, fun _ _ _ h => .inl h, fun _ _ _ h => h,
      fun i ob h => ⟨ob, h, by cases ob <;> simp [ObTurn]⟩, fun _ _ _ _ => rfl⟩
  refine ⟨⟨fun i ob h => ?_, hr.inj, hr.apart, fun b o hz => Nat.lt_of_lt_of_le (hr.inside b o hz) hb.size⟩, ht⟩
  by_cases hl : live ob = true
  · exact (hr.ob i ob h).keep ht (fun b hbk => hb.block b ((hr.ob i ob h).inside hl hbk)) rfl rfl
  · cases ob <;> simp_all [live, ObRep]
theorem enter_run {f : FuncId} {fn : Func} {c : Code} (hf : P.funcs[f]? = some fn) (hb : fn.body = some c) (hname : (fn.name == "runtime.NumGoroutine") = false) (vs : Array Value) (w : World) :
    (callFunc f vs).run P w = .ok (.enter f vs) w := by
  have hname' : fn.name ≠ "runtime.NumGoroutine" := by simpa using hname
  simp [callFunc, program, Sem.run, hf, hb, hname']
def ghost0 (w : World) : G := ⟨fun b _ => b < w.heap.size, fun _ => none, fun _ => 0⟩
theorem rep0 (w : World) : Rep (ghost0 w) w [] :=
  ⟨fun i ob h => by simp at h, fun i j a b k h => by simp at h, fun b o _ ho => by obtain ⟨i, ob, h, _⟩ := own_iff.1 ho; simp at h, fun b o h => h⟩
theorem law_true {f : FuncId} {fn : Func} {c : Code} (hf : P.funcs[f]? = some fn) (hb : fn.body = some c) (hname : (fn.name == "runtime.NumGoroutine") = false) {args : List V}
    (h : CallAt P f args [] fun r _ => r = .c (.f (.bool true))) {w : World} {vs : List Value} (hv : VReps (ghost0 w) w [] args vs) : Calls P f vs.toArray w fun e w' => e = .returned (.bool true) ∧ Below w.heap.size w w' := by
  rcases h (ghost0 w) w vs (rep0 w) hv with ⟨v, w', h1, _⟩ | ⟨_, h2⟩
  · rw [enter_run hf hb hname] at h1; cases h1
  · refine h2.mono ?_
    rintro e w' ⟨v, rfl, r, σ', g', rfl, h4, h5, h6⟩
    have hv' : v = .bool true := h6
    subst hv'
    refine ⟨rfl, h5.os, h5.tape, h5.output, h5.size, fun b hb => h5.whole b hb fun o ho => ?_⟩
    obtain ⟨i, ob, h7, _⟩ := own_iff.1 ho
    simp at h7
end
end Go.Dm
namespace Go.Dm
set_option linter.unusedVariables false
set_option linter.unusedSimpArgs false
abbrev AF := List (Nat × V)
def lk : AF → Nat → V
  | [], _ => .c .un
  | (j, v) :: r, i => (match Nat.beq j i with | true => v | false => lk r i)
def putA (m : Nat) (A : AF) (dst : Option Tmp) (v : V) : AF :=
  match dst with
  | none => A
  | some d => (match Nat.blt d m with | true => (d, v) :: A | false => A)
def opA (A : AF) : Operand → V
  | .tmp t => lk A t
  | .const v => ofConst v
  | .func f => .c (.f (.fn f))
  | .global _ => .c .un
def toFr (m : Nat) (A : AF) : Fr := (List.range m).map (lk A)
def inA (m : Nat) (A : AF) : Prop := ∀ i, m ≤ i → lk A i = .c .un
theorem toFr_get {m : Nat} {A : AF} (h : inA m A) (i : Nat) : (toFr m A).getD i (.c .un) = lk A i := by
  unfold toFr
  rw [List.getD_eq_getElem?_getD]
  by_cases hi : i < m
  · simp [hi]
  · rw [h i (by omega)]
    simp [hi]
theorem toFr_opd {m : Nat} {A : AF} (h : inA m A) (x : Operand) : opd (toFr m A) x = opA A x := by
  cases x with
  | tmp t => exact toFr_get h t
  | _ => rfl
theorem lk_cons (j : Nat) (v : V) (r : AF) (i : Nat) : lk ((j, v) :: r) i = if j = i then v else lk r i := by
  show (match Nat.beq j i with | true => v | false => lk r i) = _
  by_cases h : j = i
  · subst h; rw [if_pos rfl, Nat.beq_refl]
  · rw [if_neg h]
    have : Nat.beq j i = false := by
      cases hb : Nat.beq j i with
      | true => exact absurd (Nat.eq_of_beq_eq_true hb) h
      | false => rfl
    rw [this]
theorem blt_true {a b : Nat} (h : a < b) : Nat.blt a b = true := by
  unfold Nat.blt; rw [Nat.ble_eq]; exact h
theorem blt_false {a b : Nat} (h : ¬ a < b) : Nat.blt a b = false := by
  cases hb : Nat.blt a b with
  | true => unfold Nat.blt at hb; rw [Nat.ble_eq] at hb; exact absurd hb h
  | false => rfl
theorem putA_in {m : Nat} {A : AF} (h : inA m A) (dst : Option Tmp) (v : V) : inA m (putA m A dst v) := by
  cases dst with
  | none => exact h
  | some d =>
    revert d
    intro (d : Nat)
    unfold putA
    simp only
    by_cases hd : d < m
    · rw [blt_true hd]
      intro i hi
      simp only
      rw [lk_cons, if_neg (by omega)]
      exact h i hi
    · rw [blt_false hd]; exact h
theorem toFr_put {m : Nat} {A : AF} (dst : Option Tmp) (v : V) : toFr m (putA m A dst v) = (toFr m A).put dst v := by
  cases dst with
  | none => rfl
  | some d =>
    revert d
    intro (d : Nat)
    unfold putA
    simp only
    by_cases hd : d < m
    · rw [blt_true hd]
      simp only
      apply List.ext_getElem?
      intro i
      simp only [toFr, Fr.put, List.getElem?_set, List.getElem?_map, List.length_map, List.length_range]
      by_cases hi : i < m
      · by_cases hdi : d = i
        · subst hdi; simp [hd, lk_cons]
        · simp [hi, hdi, lk_cons]
      · by_cases hdi : d = i
        · omega
        · simp [hi, hdi]
    · rw [blt_false hd]
      simp only [Fr.put]
      rw [List.set_eq_of_length_le]
      simp [toFr]; omega
inductive SOp where
  | mv (x : Operand)
  | pick (c a b : Operand)
  | bin (d : TD) (op : BinOp) (x y : Operand)
  | un (op : UnOp) (x : Operand)
  | alloc (z : List F)
  | box (x : Operand)
  | load (agg : Bool) (n : Nat) (x : Operand)
  | store (n : Nat) (a x : Operand)
  | call (x : Operand) (args : List Operand)
  | fa (off : Nat) (x : Operand)
  | fld (agg : Bool) (off n : Nat) (x : Operand)
  | ixr (sz : Nat) (x i : Operand)
  | ixa (n sz : Nat) (x i : Operand)
  | chr (x i : Operand)
  | len (d : TD) (x : Operand)
  | app (d : TD) (ty sz bytes : Nat) (x y : Operand)
  | slc (d : TD) (sz : Nat) (x : Operand) (lo hi : Option Operand)
  | ext (x : Operand) (i : Nat)
  | nilc (x : Operand)
  | bi (b : Builtin) (ts : Array TypeId) (args : List Operand)
  | bld (z : List F) (parts : List (Nat × Nat × Operand))
  | bsl (n ty sz : Nat) (z : List F) (parts : List (Nat × Operand))
  | raw (o : Op)
  deriving Inhabited
def cparts (tb : Tab) (fs : List (Nat × TypeId)) : List (Nat × Operand) → Option (List (Nat × Nat × Operand))
  | [] => some []
  | (i, x) :: r =>
    match fs[i]?, cparts tb fs r with
    | some (off, t), some l => some ((off, (tb t).size, x) :: l)
    | _, _ => none
def comp0 (tb : Tab) (o : Op) : SOp :=
  match o with
  | .move x => .mv x
  | .assign x => .mv x
  | .pick c a b => .pick c a b
  | .binOp op t x y _ => .bin (tb t).d op x y
  | .unOp op _ x => .un op x
  | .alloc t => (match (tb t).d.isNo with | true => .raw o | false => .alloc (tb t).zero)
  | .box _ x => .box x
  | .load t x => (match (tb t).d.isNo with | true => .raw o | false => .load (tb t).agg (tb t).size x)
  | .store t a x => (match (tb t).d.isNo with | true => .raw o | false => .store (tb t).size a x)
  | .fieldAddr t x i =>
    (match (tb t).d with
    | .struct fs =>
      (match fs[i]? with
      | some (off, u) => (match (tb u).size with | 0 => .raw o | _ => (match (tb u).d.isNo with | true => .raw o | false => .fa off x))
      | none => .raw o)
    | _ => .raw o)
  | .field t x i =>
    (match (tb t).d with
    | .struct fs =>
      (match fs[i]? with
      | some (off, u) => (match (tb u).d.isNo with | true => .raw o | false => .fld (tb u).agg off (tb u).size x)
      | none => .raw o)
    | _ => .raw o)
  | .indexAddr t x i =>
    (match (tb t).d with
    | .slice e => (match (tb e).d.isNo with | true => .raw o | false => .ixr (tb e).size x i)
    | .array n e => (match (tb e).d.isNo with | true => .raw o | false => .ixa n (tb e).size x i)
    | _ => .raw o)
  | .index t x i => (match (tb t).d with | .str => .chr x i | _ => .raw o)
  | .extract x i => .ext x i
  | .nilCheck x => .nilc x
  | .slice t x lo hi none =>
    (match (tb t).d with
    | .str => .slc .str 0 x lo hi
    | .slice e => (match (tb e).d.isNo with | true => .raw o | false => .slc (.slice e) (tb e).size x lo hi)
    | _ => .raw o)
  | .build t parts =>
    (match (tb t).d with
    | .struct fs => (match fs.all (fun p => !(tb p.2).d.isNo), cparts tb fs parts.toList with | true, some l => .bld (tb t).zero l | _, _ => .raw o)
    | _ => .raw o)
  | .buildSlice t n parts =>
    (match (tb t).d with
    | .slice e => (match (tb e).d.isNo, Nat.ble (n * (tb e).size) 16777216, Nat.ble n 16777216 && Nat.ble e 4294967295 with | false, true, true => .bsl n e (tb e).size (tb e).zero parts.toList | _, _, _ => .raw o)
    | _ => .raw o)
  | .call { callee := .value x, args, argTypes } => .call x args.toList
  | .call { callee := .builtin b, args, argTypes } =>
    (match b, args.toList, argTypes.toList with
    | .len, [x], [t] => .len (tb t).d x
    | .append, [x, y], [t, u] => (match (tb t).d with | .slice e => (match (tb e).d.isNo with | true => .raw o | false => .app (tb u).d e (tb e).size (tb e).bytes x y) | _ => .raw o)
    | _, l, _ => .bi b argTypes l)
  | o => .raw o
def comp (tb : Tab) (o : Op) : SOp := match extraB tb o with | true => .raw o | false => comp0 tb o
def sfill (ρ : Operand → V) : List (Nat × Nat × Operand) → List C → Option (List C)
  | [], cs => some cs
  | (off, n, x) :: r, cs =>
    match (ρ x).cells with
    | some l => if l.length = n then (match splice cs off l with | some cs' => sfill ρ r cs' | none => none) else none
    | none => none
def sfillRow (sz : Nat) (ρ : Operand → V) : List (Nat × Operand) → List C → Option (List C)
  | [], cs => some cs
  | (i, x) :: r, cs =>
    match (ρ x).cells with
    | some l => if l.length = sz then (match splice cs (i * sz) l with | some cs' => sfillRow sz ρ r cs' | none => none) else none
    | none => none
def ixrow (T : Pr) (sz : Nat) (x i : V) (σ : St) (k : V → Prop) : Prop :=
  match x, i with
  | .c (.f (.sl n cs)), .c (.f (.int _ j)) => T.idx j (Int.ofNat n) ∧ k (.c (.ep cs (T.atp j sz)))
  | .c (.rs o ep n), .c (.f (.int _ j)) =>
    (match σ[o]? with
    | some (.arr _ e0 _ _) => T.eqN ep e0 ∧ T.idx j (Int.ofNat n) ∧ k (.c (.pa o ep (T.atp j sz)))
    | _ => False)
  | _, _ => False
def ixarr (T : Pr) (n sz : Nat) (x i : V) (σ : St) (k : V → Prop) : Prop :=
  match x, i with
  | .c (.ptr o off), .c (.f (.int _ j)) => T.caseK j n fun i => k (.c (.ptr o (off + i * sz)))
  | .c (.ep cs off), .c (.f (.int _ j)) => T.caseK j n fun i => k (.c (.ep cs (vmore T off (i * sz))))
  | .c (.pa o ep off), .c (.f (.int _ j)) =>
    (match σ[o]? with
    | some (.arr _ e0 _ _) => T.eqN ep e0 ∧ T.caseK j n fun i => k (.c (.pa o ep (vmore T off (i * sz))))
    | _ => False)
  | _, _ => False
def ixchr (T : Pr) (x i : V) (k : V → Prop) : Prop :=
  match x, i with
  | .c (.f (.str s)), .c (.f (.int _ j)) => T.idx j (T.slen s) ∧ k (.c (.f (.int .u8 (T.sget s j))))
  | _, _ => False
def sslice (T : Pr) (d : TD) (sz0 : Nat) (x : V) (lo hi : Option V) (σ : St) (k : V → St → Prop) : Prop :=
  match d, x with
  | .str, .c (.f (.str s)) =>
    (match lo, hi with
    | none, none => k (.c (.f (.str s))) σ
    | some (.c (.f (.int _ a))), none => T.rng 0 a (T.slen s) ∧ k (.c (.f (.str (T.ssub s a (T.slen s))))) σ
    | none, some (.c (.f (.int _ b))) => T.rng 0 b (T.slen s) ∧ k (.c (.f (.str (T.ssub s 0 b)))) σ
    | some (.c (.f (.int _ a))), some (.c (.f (.int _ b))) => T.rng 0 b (T.slen s) ∧ T.rng 0 a b ∧ k (.c (.f (.str (T.ssub s a b)))) σ
    | _, _ => False)
  | .slice e, .c (.f .nils) =>
    (match lo, hi with
    | some (.c (.f (.int _ a))), none => T.rng 0 a 0 ∧ k (.c (.f .nils)) σ
    | none, some (.c (.f (.int _ b))) => T.rng 0 b 0 ∧ k (.c (.f .nils)) σ
    | some (.c (.f (.int _ a))), some (.c (.f (.int _ b))) => T.rng 0 b 0 ∧ T.rng 0 a b ∧ k (.c (.f .nils)) σ
    | none, none => k (.c (.f .nils)) σ
    | _, _ => False)
  | .slice e, .c (.f (.sl n cs)) => 
    (match lo, hi with
    | some (.c (.f (.int _ a))), none => T.rng 0 a (Int.ofNat n) ∧ k (.c (.f (.sl (T.nsub n (T.toNat a)) (T.fcut cs (T.atp a sz0) (T.atp (Int.ofNat (T.nsub n (T.toNat a))) sz0))))) σ
    | none, some (.c (.f (.int _ b))) => T.rng 0 b (Int.ofNat n) ∧ k (.c (.f (.sl (T.toNat b) (T.fcut cs 0 (T.atp b sz0))))) σ
    | some (.c (.f (.int _ a))), some (.c (.f (.int _ b))) => T.rng 0 b (Int.ofNat n) ∧ T.rng 0 a b ∧
        k (.c (.f (.sl (T.nsub (T.toNat b) (T.toNat a)) (T.fcut cs (T.atp a sz0) (T.atp (Int.ofNat (T.nsub (T.toNat b) (T.toNat a))) sz0))))) σ
    | none, none => k (.c (.f (.sl n cs))) σ
    | _, _ => False)
  | .slice e, .c (.rs o ep n) => 
    (match σ[o]?, lo, hi with
    | some (.arr true e0 sz l), none, some (.c (.f (.int _ b))) => T.eqN ep e0 ∧ T.rng 0 b (Int.ofNat n) ∧ k (.c (.rs o (e0 + 4294967296) (T.toNat b))) (σ.set o (.arr true (e0 + 4294967296) sz (T.fcut l 0 (T.atp b sz))))
    | _, _, _ => False)
  | _, _ => False
def sguard (A : AF) (g : Option (Option Tmp × Bool)) (x y : Prop) : Prop :=
  match g with
  | none => x
  | some (d, want) =>
    match d with
    | none => y
    | some d =>
      match lk A d with
      | .c (.f (.bool b)) => (match want with | true => (match b with | true => x | false => y) | false => (match b with | true => y | false => x))
      | .t _ => y
      | _ => False
def vopA (X : Mx) (pf : FuncId → Bool) (tb : Tab) (m : Nat) (s : SOp) (A : AF) (σ : St) (k : V → St → Prop) : Prop :=
  match s with
  | .mv x => k (opA A x) σ
  | .pick c a b => vpick (opA A c) (opA A a) (opA A b) fun v => k v σ
  | .bin d op x y => vbin X.T d op (opA A x) (opA A y) fun v => k v σ
  | .un op x => vun X.T op (opA A x) fun v => k v σ
  | .alloc z => k (.c (.ptr σ.length 0)) (σ ++ [.cells (z.map .f)])
  | .box x => (match (opA A x).cells with | some l => k (.c (.ptr σ.length 0)) (σ ++ [.cells l]) | none => False)
  | .load agg n x => vload X.T agg n (addr (opA A x)) σ fun v => k v σ
  | .store n a x => vstore X.T (opA A a) (opA A x) n σ fun σ' => k (.c .un) σ'
  | .call x args =>
    (match callee (opA A x) (args.map (opA A)) with
    | some (f, l) => (match pf f with | true => vsofts X.T l σ fun l' σ' => X.pk f l' fun r => k r σ' | false => X.ca f l σ k)
    | none => False)
  | .fa off x => vfield X.T (addr (opA A x)) off σ fun v => k v σ
  | .fld agg off n x => (match opA A x with | .a l => vpart agg l off n fun v => k v σ | _ => False)
  | .ixr sz x i => ixrow X.T sz (addr (opA A x)) (opA A i) σ fun v => k v σ
  | .ixa n sz x i => ixarr X.T n sz (addr (opA A x)) (opA A i) σ fun v => k v σ
  | .chr x i => ixchr X.T (opA A x) (opA A i) fun v => k v σ
  | .len d x => vlen X.T d (opA A x) σ fun v => k v σ
  | .app d ty sz bytes x y => vappend X.T d ty sz bytes (opA A x) (opA A y) σ k
  | .slc d sz x lo hi => sslice X.T d sz (opA A x) (lo.map (opA A)) (hi.map (opA A)) σ k
  | .ext x i => (match opA A x with | .t l => (match l[i]? with | some v => k v σ | none => False) | _ => False)
  | .nilc x =>
    (match opA A x with
    | .c (.ptr o off) => k (.c (.ptr o off)) σ
    | .c (.f (.obj cs)) => k (.c (.f (.obj cs))) σ
    | .c (.ep cs off) => k (.c (.ep cs off)) σ
    | .c (.pa o e off) =>
      (match σ[o]? with
      | some (.arr _ e0 _ _) => X.T.eqN e e0 ∧ k (.c (.pa o e off)) σ
      | _ => False)
    | _ => False)
  | .bi b ts args => vbi X.T tb b ts (args.map (opA A)) σ k
  | .bld z parts => (match sfill (opA A) parts (z.map .f) with | some l => k (.a l) σ | none => False)
  | .bsl n ty sz z parts =>
    (match sfillRow sz (opA A) parts (rep n (z.map .f)) with
    | some l => vfrzs X.T l σ fun fs σ' => k (.c (.rs σ'.length ty n)) (σ' ++ [.arr true ty sz fs])
    | none => False)
  | .raw o => vdo X pf tb o (toFr m A) σ k
end Go.Dm
namespace Go.Dm
set_option linter.unusedVariables false
set_option linter.unusedSimpArgs false
section
variable {X : Mx} {pf : FuncId → Bool} {tb : Tab} {m : Nat} {A : AF} {σ : St} {k : V → St → Prop}
theorem not_isNo {t : TypeId} {p : Prop} (h : (tb t).d.isNo = false) (hp : p) : match (tb t).d with | .no => False | _ => p := by
  split
  · rename_i e; rw [e] at h; cases h
  · exact hp
theorem sfill_eq {fs : List (Nat × TypeId)} {fr : Fr} {ρ : Operand → V} (hρ : opd fr = ρ) : ∀ (parts : List (Nat × Operand)) {l : List (Nat × Nat × Operand)} (h : cparts tb fs parts = some l) (cs : List C), vfill tb fs fr parts cs = sfill ρ l cs
  | [], l, h, cs => by simp only [cparts] at h; cases h; rfl
  | (i, x) :: r, l, h, cs => by
    simp only [cparts] at h
    cases h1 : fs[i]? with
    | none => simp [h1] at h
    | some p =>
      obtain ⟨off, t⟩ := p
      cases h2 : cparts tb fs r with
      | none => simp [h1, h2] at h
      | some l' =>
        simp [h1, h2] at h
        subst h
        simp only [vfill, sfill, h1, hρ]
        cases h3 : (ρ x).cells with
        | none => rfl
        | some lx =>
          simp only
          split
          · cases h4 : splice cs off lx with
            | none => rfl
            | some cs' => exact sfill_eq hρ r h2 cs'
          · rfl
theorem sfillRow_eq {sz : Nat} {fr : Fr} {ρ : Operand → V} (hρ : opd fr = ρ) : ∀ (parts : List (Nat × Operand)) (cs : List C), vfillRow sz fr parts cs = sfillRow sz ρ parts cs
  | [], cs => rfl
  | (i, x) :: r, cs => by
    simp only [vfillRow, sfillRow, hρ]
    cases h3 : (ρ x).cells with
    | none => rfl
    | some lx =>
      simp only
      split
      · cases h4 : splice cs (i * sz) lx with
        | none => rfl
        | some cs' => exact sfillRow_eq hρ r cs'
      · rfl
theorem sslice_str {t : TypeId} (hd : (tb t).d = .str) {x : V} {lo hi : Option V} (h : sslice X.T .str 0 x lo hi σ k) : vslice X.T tb t x lo hi σ k := by
  unfold vslice
  rw [hd]
  unfold sslice at h
  cases x with
  | c c => cases c with
    | f f => cases f <;> exact h
    | _ => exact h
  | _ => exact h
theorem sslice_row {t ty : TypeId} (hd : (tb t).d = .slice ty) (en : (tb ty).d.isNo = false) {x : V} {lo hi : Option V} (h : sslice X.T (.slice ty) (tb ty).size x lo hi σ k) : vslice X.T tb t x lo hi σ k := by
  unfold vslice
  rw [hd]
  unfold sslice at h
  cases x with
  | c c => cases c with
    | f f =>
      cases f with
      | sl n cs => simp only [en, Bool.false_eq_true, if_false]; exact h
      | nils => simp only [en, Bool.false_eq_true, if_false]; exact h
      | _ => exact h
    | rs o ep n => simp only [en, Bool.false_eq_true, if_false]; exact h
    | _ => exact h
  | _ => exact h
theorem comp_ok (hA : inA m A) {o : Op} (h : vopA X pf tb m (comp tb o) A σ k) : vdo X pf tb o (toFr m A) σ k := by
  have e : opd (toFr m A) = opA A := funext (toFr_opd hA)
  cases hx : extraB tb o with
  | true => simp only [comp, hx] at h; exact h
  | false =>
  simp only [comp, hx] at h
  cases o with
  | move x => simp only [vdo, vop2, hx, vop, e]; exact h
  | assign x => simp only [vdo, vop2, hx, vop, e]; exact h
  | pick c a b => simp only [vdo, vop2, hx, vop, e]; exact h
  | binOp op t x y p => simp only [vdo, vop2, hx, vop, e]; exact h
  | unOp op t x => simp only [vdo, vop2, hx, vop, e]; exact h
  | extract x i => simp only [vdo, vop2, hx, vop, e]; exact h
  | nilCheck x => simp only [vdo, vop2, hx, vop, e]; exact h
  | box t x => simp only [vdo, vop2, hx, vop, e]; exact h
  | alloc t =>
    simp only [comp0] at h
    split at h
    · exact h
    · rename_i en
      simp only [vdo, vop2, hx, vop]
      exact not_isNo en h
  | load t x =>
    simp only [comp0] at h
    split at h
    · exact h
    · rename_i en; simp only [vdo, vop2, hx, vop, e]; exact not_isNo en h
  | store t a x =>
    simp only [comp0] at h
    split at h
    · exact h
    · rename_i en; simp only [vdo, vop2, hx, vop, e]; exact not_isNo en h
  | fieldAddr t x i =>
    simp only [comp0] at h
    split at h
    · rename_i fs hd
      split at h
      · rename_i off u hf
        split at h
        · exact h
        · rename_i hs
          split at h
          · exact h
          · rename_i en
            simp only [vdo, vop2, hx, vop, e, hd, hf]
            exact not_isNo en h
      · exact h
    · exact h
  | field t x i =>
    simp only [comp0] at h
    split at h
    · rename_i fs hd
      split at h
      · rename_i off u hf
        split at h
        · exact h
        · rename_i en
          simp only [vdo, vop2, hx, vop, e, hd]
          simp only [vopA] at h
          split at h
          · rename_i l hx
            simp only [hx, hf]
            exact not_isNo en h
          · exact h.elim
      · exact h
    · exact h
  | indexAddr t x i =>
    simp only [comp0] at h
    split at h
    · rename_i ty hd
      split at h
      · exact h
      · rename_i en
        simp only [vdo, vop2, hx, vop, e]
        simp only [vopA, ixrow] at h
        unfold vindexAddr
        split at h
        · rename_i n cs kd j hx hi
          simp only [hd, hx, hi]
          exact not_isNo en h
        · rename_i o ep n kd j hx hi
          simp only [hd, hx, hi]
          split at h
          · rename_i wr e0 sz l ho
            simp only [ho]
            split
            · rename_i e1; rw [e1] at en; cases en
            · rename_i e1 e2
              cases e1
              exact h
            · rename_i hno; exact (hno _ _ _ _ rfl).elim
          · exact h.elim
        · exact h.elim
    · rename_i n ty hd
      split at h
      · exact h
      · rename_i en
        simp only [vdo, vop2, hx, vop, e]
        simp only [vopA, ixarr] at h
        unfold vindexAddr
        split at h
        · rename_i o off kd j hx hi
          simp only [hd, hx, hi]
          exact not_isNo en h
        · rename_i cs off kd j hx hi
          simp only [hd, hx, hi]
          exact not_isNo en h
        · rename_i o ep off kd j hx hi
          simp only [hd, hx, hi]
          split at h
          · rename_i wr e0 sz l ho
            simp only [ho]
            split
            · rename_i e1; rw [e1] at en; cases en
            · rename_i e1 e2
              cases e1
              exact h
            · rename_i hno; exact (hno _ _ _ _ rfl).elim
          · exact h.elim
        · exact h.elim
    · exact h
  | index t x i =>
    simp only [comp0] at h
    split at h
    · rename_i hd
      simp only [vdo, vop2, hx, vop, e]
      simp only [vopA, ixchr] at h
      unfold vindex
      split at h
      · rename_i s kd j hx hi
        simp only [hd, hx, hi]
        exact h
      · exact h.elim
    · exact h
  | slice t x lo hi mx =>
    cases mx with
    | some y => exact h
    | none =>
      simp only [comp0] at h
      split at h
      · rename_i hd
        simp only [vdo, vop2, hx, vop, e]
        exact sslice_str hd h
      · rename_i ty hd
        split at h
        · exact h
        · rename_i en
          simp only [vdo, vop2, hx, vop, e]
          exact sslice_row hd en h
      · exact h
  | build t parts =>
    simp only [comp0] at h
    split at h
    · rename_i fs hd
      split at h
      · rename_i l hall hc
        simp only [vdo, vop2, hx, vop, hd, if_pos hall, sfill_eq e _ hc]
        exact h
      · exact h
    · exact h
  | buildSlice t n parts =>
    simp only [comp0] at h
    split at h
    · rename_i ty hd
      split at h
      · rename_i h1 h2 h3
        simp only [vdo, vop2, hx, vop, hd]
        simp only [Bool.and_eq_true] at h3; rw [Nat.ble_eq] at h2 h3; rw [Nat.ble_eq] at h3
        refine not_isNo h1 ?_
        rw [if_pos ⟨h2, h3.1, h3.2⟩, sfillRow_eq e]
        exact h
      · exact h
    · exact h
  | call c =>
    obtain ⟨cal, args, at'⟩ := c
    cases cal with
    | value f => simp only [vdo, e]; exact h
    | builtin b =>
      simp only [comp0] at h
      split at h
      · rename_i x t ha ht
        simp only [vdo, vop2, hx, vop, vbi, e, ha, ht, List.map_cons, List.map_nil]
        exact h
      · rename_i x y t u ha ht
        split at h
        · rename_i ty hd
          split at h
          · exact h
          · rename_i en
            simp only [vdo, vop2, hx, vop, vbi, e, ha, ht, hd, List.map_cons, List.map_nil]
            exact not_isNo en h
        · exact h
      · simp only [vdo, vop2, hx, vop, e]; exact h
    | invoke r nm => exact h
  | _ => exact h
end
end Go.Dm
namespace Go.Dm
set_option linter.unusedVariables false
set_option linter.unusedSimpArgs false
structure SItem where
  dst : Option Tmp
  g : Option (Option Tmp × Bool)
  o : SOp
  deriving Inhabited
def sitem (tb : Tab) (ops : Array Oper) (o : Oper) : SItem :=
  ⟨o.dst, (match o.guard with | none => none | some (j, want) => some ((ops[j]?).bind (·.dst), want)), comp tb o.op⟩
abbrev PostA := Exit → AF → St → Prop
def PostA.then (next : AF → St → Prop) (K : PostA) : Exit → AF → St → Prop
  | .normal, A, σ => next A σ
  | .exit i, A, σ => K (.exit i) A σ
  | .goto i, A, σ => K (.goto i) A σ
  | .ret, A, σ => K .ret A σ
  | .panic c, A, σ => K (.panic c) A σ
  | .outgrown, A, σ => K .outgrown A σ
def PostA.inBlock (id : Nat) (K : PostA) : Exit → AF → St → Prop
  | .normal, A, σ => K .normal A σ
  | .exit j, A, σ => (match Nat.beq j id with | true => K .normal A σ | false => K (.exit j) A σ)
  | .goto i, A, σ => K (.goto i) A σ
  | .ret, A, σ => K .ret A σ
  | .panic c, A, σ => K (.panic c) A σ
  | .outgrown, A, σ => K .outgrown A σ
def tlessA (pf : FuncId → Bool) (tb : Tab) (o : Op) (A : AF) : Bool :=
  match o with
  | .call { callee := .value x, args, .. } => (match callee (opA A x) (args.toList.map (opA A)) with | some (f, l) => pf f && !l.any V.hasRs | none => false)
  | .load _ x => !farV (opA A x) && !ptrV (opA A x)
  | o => !extraB tb o && stillOp tb o && o.operands.toList.all fun x => !farV (opA A x)
def pickA (pf : FuncId → Bool) (tb : Tab) (ops : Array Oper) (listed : Array Bool) (A : AF) : List Nat → Option Nat
  | [] => none
  | i :: r =>
    match ops[i]? with
    | some o => if tlessA pf tb o.op A && freeAt ops listed i then some i else pickA pf tb ops listed A r
    | none => none
def sany (X : Mx) (pf : FuncId → Bool) (tb : Tab) (m : Nat) (l : List SItem) (ops : Array Oper) (K : AF → St → Prop) : Nat → Array Bool → AF → St → Prop
  | fuel, listed, A, σ =>
    match Region.ready .any ops listed with
    | [] => K A σ
    | rs =>
      match fuel with
      | 0 => False
      | fuel + 1 =>
        match pickA pf tb ops listed A rs with
        | some i => (match l[i]? with
          | some s => sguard A s.g (vopA X pf tb m s.o A [] fun v _ => sany X pf tb m l ops K fuel (listed.setIfInBounds i true) (putA m A s.dst v) σ) (sany X pf tb m l ops K fuel (listed.setIfInBounds i true) (putA m A s.dst (.t [])) σ)
          | none => False)
        | none => vall (fun i => match l[i]? with
          | some s => sguard A s.g (vopA X pf tb m s.o A σ fun v σ' => sany X pf tb m l ops K fuel (listed.setIfInBounds i true) (putA m A s.dst v) σ') (sany X pf tb m l ops K fuel (listed.setIfInBounds i true) (putA m A s.dst (.t [])) σ)
          | none => False) rs
def lowF (m : Nat) (K : AF → St → Prop) : Fr → St → Prop := fun fr σ => ∃ A, inA m A ∧ fr = toFr m A ∧ K A σ
def low (m : Nat) (K : PostA) : Post := fun e => lowF m (K e)
section
variable {P : Program} {pf : FuncId → Bool} {tb : Tab} {n m : Nat}
theorem sguard_eq {ops : Array Oper} {o : Oper} {A : AF} (hA : inA m A) (hm : ∀ d, A.length = A.length → d < m ∨ lk A d = .c .un) {x y : Prop} (h : sguard A (sitem tb ops o).g x y) (hlen : ∀ d, d < m → (toFr m A)[d]? = some (lk A d)) : vguard ops (toFr m A) o x y := by
  unfold vguard
  unfold sguard sitem at h
  cases hg : o.guard with
  | none => rw [hg] at h; exact h
  | some gw =>
    obtain ⟨j, want⟩ := gw
    rw [hg] at h
    simp only at h ⊢
    cases hd : (ops[j]?).bind (·.dst) with
    | none => rw [hd] at h; exact h
    | some d =>
      rw [hd] at h
      simp only at h ⊢
      by_cases hdm : (show Nat from d) < m
      · rw [hlen d hdm]
        split at h
        · rename_i b hb
          rw [hb]
          exact h
        · rename_i l hb
          rw [hb]
          exact h
        · exact h.elim
      · have : lk A d = .c .un := hA d (by show m ≤ (show Nat from d); omega)
        rw [this] at h
        exact h.elim
theorem toFr_at {A : AF} {d : Nat} (h : d < m) : (toFr m A)[d]? = some (lk A d) := by
  simp [toFr, h]
theorem sg {ops : Array Oper} {o : Oper} {A : AF} (hA : inA m A) {x y : Prop} (h : sguard A (sitem tb ops o).g x y) : vguard ops (toFr m A) o x y :=
  sguard_eq hA (fun d _ => by by_cases h : d < m; exact .inl h; exact .inr (hA d (by omega))) h fun d hd => toFr_at hd
theorem sone {ops : Array Oper} {o : Oper} {A : AF} (hA : inA m A) {σ : St} {K : AF → St → Prop} {K' : Fr → St → Prop} (hK : ∀ A σ, inA m A → K A σ → K' (toFr m A) σ)
    (h : sguard A (sitem tb ops o).g (vopA (mx P) pf tb m (comp tb o.op) A σ fun v σ' => K (putA m A o.dst v) σ') (K (putA m A o.dst (.t [])) σ)) : pOne P pf tb ops o K' (toFr m A) σ := by
  have h' := sg hA h
  rcases vguard_cases h' with ⟨h1, h2⟩ | ⟨h1, h2⟩
  · refine h2 _ _ ⟨_, comp_ok hA h1, fun v σ' hk => ?_⟩
    show K' ((toFr m A).put o.dst v) σ'
    rw [← toFr_put]
    exact hK _ _ (putA_in hA _ _) hk
  · refine h2 _ _ ?_
    rw [← toFr_put]
    exact hK _ _ (putA_in hA _ _) h1
theorem tlessA_eq {o : Op} {A : AF} (hA : inA m A) : tlessA pf tb o A = tless pf tb o (toFr m A) := by
  have e : opd (toFr m A) = opA A := funext (toFr_opd hA)
  unfold tlessA tless
  rw [e]
  try rfl
theorem LiftsN.mono {g : G} {w : World} {σ : St} {K K' : Fr → St → Prop} {a : Act} {w' : World} (h : LiftsN n g w σ K a w') (hk : ∀ fr σ', K fr σ' → K' fr σ') : LiftsN n g w σ K' a w' :=
  let ⟨fr, σ', g', h1, h2⟩ := h; ⟨fr, σ', g', hk _ _ h1, h2⟩
theorem DWp.mono {c : Code} {K K' : Post} {fr : Fr} {σ : St} (h : DWp P n c K fr σ) (hk : ∀ e fr σ', K e fr σ' → K' e fr σ') : DWp P n c K' fr σ :=
  fun g w a hr hf hd => wp_mono (h g w a hr hf hd) fun e a' w' h' => h'.mono (hk e)
def CovA : AF → AF → Prop
  | [], _ => True
  | (i, v) :: r, A => lk A i = v ∧ CovA r A
theorem CovA.get {A' A : AF} (h : CovA A' A) (i : Nat) : lk A' i = .c .un ∨ lk A' i = lk A i := by
  induction A' with
  | nil => exact .inl rfl
  | cons p r ih =>
    obtain ⟨j, v⟩ := p
    obtain ⟨h1, h2⟩ := h
    rw [lk_cons]
    split
    · rename_i e; subst e; exact .inr h1.symm
    · exact ih h2
theorem CovA.ghost {A' A : AF} (h : CovA A' A) (hA : inA m A) (σ : St) : Ghost (toFr m A) σ (toFr m A') σ := by
  intro g w tmps hr hf
  refine ⟨g, hr, Turn.refl _ _ _, by rw [← hf.1]; simp [toFr], fun i => ?_⟩
  have h1 := hf.2 i
  rw [toFr_get hA] at h1
  by_cases hi : i < m
  · have e : (toFr m A').getD i (.c .un) = lk A' i := by
      rw [List.getD_eq_getElem?_getD, toFr_at hi]; rfl
    rw [e]
    rcases h.get i with e | e
    · rw [e]; trivial
    · rw [e]; exact h1
  · have e : (toFr m A').getD i (.c .un) = .c .un := by
      rw [List.getD_eq_getElem?_getD]
      simp [toFr, hi]
    rw [e]; trivial
def sresVs (T : Pr) (tb : Tab) : List ResultVar → AF → St → (List V → Prop) → Prop
  | [], A, σ, k => k []
  | .tmp t :: r, A, σ, k => sresVs T tb r A σ fun l => k (lk A t :: l)
  | .cell x t :: r, A, σ, k =>
    (match (tb t).d with
    | .no => False
    | _ => vload T (tb t).agg (tb t).size (addr (lk A x)) σ fun v => sresVs T tb r A σ fun l => k (v :: l))
def sKret (X : Mx) (tb : Tab) (rs : List ResultVar) (k : V → St → Prop) : Exit → AF → St → Prop
  | .normal, A, σ => sresVs X.T tb rs A σ fun l => (match l with | [v] => k v σ | l => k (.t l) σ)
  | .ret, A, σ => sresVs X.T tb rs A σ fun l => (match l with | [v] => k v σ | l => k (.t l) σ)
  | .exit _, _, _ => False
  | .goto _, _, _ => False
  | .panic _, _, _ => False
  | .outgrown, _, _ => False
theorem sresVs_eq {T : Pr} {A : AF} (hA : inA m A) {σ : St} : ∀ (rs : List ResultVar) (k : List V → Prop), resVs T tb rs (toFr m A) σ k = sresVs T tb rs A σ k
  | [], k => rfl
  | .tmp t :: r, k => by
    simp only [resVs, sresVs]
    rw [toFr_get hA]
    exact sresVs_eq hA r _
  | .cell x t :: r, k => by
    simp only [resVs, sresVs]
    rw [toFr_get hA]
    have e : (fun v => resVs T tb r (toFr m A) σ fun l => k (v :: l)) = fun v => sresVs T tb r A σ fun l => k (v :: l) := funext fun v => sresVs_eq hA r _
    rw [e]
    try rfl
theorem low_ret {X : Mx} {rs : List ResultVar} {k : V → St → Prop} {e : Exit} {fr : Fr} {σ : St} (h : low m (sKret X tb rs k) e fr σ) : Kret X tb rs k e fr σ := by
  obtain ⟨A, hA, rfl, h⟩ := h
  cases e with
  | normal => show resVs X.T tb rs (toFr m A) σ _; rw [sresVs_eq hA]; exact h
  | ret => show resVs X.T tb rs (toFr m A) σ _; rw [sresVs_eq hA]; exact h
  | _ => exact h.elim
def args0 : Nat → List V → AF
  | _, [] => []
  | i, x :: r => (i, x) :: args0 (i + 1) r
theorem args0_lk : ∀ (l : List V) (s i : Nat), lk (args0 s l) i = if s ≤ i then (l[i - s]?).getD (.c .un) else .c .un
  | [], s, i => by simp [args0, lk]
  | x :: r, s, i => by
    rw [args0, lk_cons, args0_lk r (s + 1) i]
    by_cases h : s = i
    · subst h; simp
    · rw [if_neg h]
      by_cases hs : s ≤ i
      · rw [if_pos hs, if_pos (by omega), show i - s = (i - (s + 1)) + 1 from by omega]
        rfl
      · rw [if_neg hs, if_neg (by omega)]
theorem toFr_args0 {l : List V} (h : l.length ≤ m) : toFr m (args0 0 l) = frame0 m l := by
  apply List.ext_getElem?
  intro i
  by_cases hi : i < m
  · rw [toFr_at hi, args0_lk, if_pos (Nat.zero_le _)]
    unfold frame0
    by_cases hl : i < l.length
    · rw [List.getElem?_append_left hl]
      simp [hl]
    · rw [List.getElem?_append_right (by omega), List.getElem?_replicate, if_pos (by omega)]
      simp [List.getElem?_eq_none (Nat.le_of_not_lt hl)]
  · have e1 : (toFr m (args0 0 l))[i]? = none := by simp [toFr, hi]
    have e2 : (frame0 m l)[i]? = none := by
      apply List.getElem?_eq_none
      simp [frame0]; omega
    rw [e1, e2]
theorem inA_args0 {l : List V} (h : l.length ≤ m) : inA m (args0 0 l) := by
  intro i hi
  rw [args0_lk, if_pos (Nat.zero_le _), List.getElem?_eq_none (by omega)]
  rfl
end
end Go.Dm
namespace Go.Dm
set_option linter.unusedVariables false
abbrev FT := List (List V)
def FT.get (t : FT) (i : Nat) : V :=
  match nth t (i / 8) with
  | some l => (match nth l (i % 8) with | some v => v | none => .c .un)
  | none => .c .un
end Go.Dm
namespace Go.Dm
set_option linter.unusedVariables false
mutual
def C.eqb : C → C → Bool
  | .f x, .f y => F.eqb x y
  | .ptr x y, .ptr x' y' => Nat.beq x x' && Nat.beq y y'
  | .pa x y z, .pa x' y' z' => Nat.beq x x' && Nat.beq y y' && Nat.beq z z'
  | .ep l n, .ep l' n' => Nat.beq n n' && F.eqbs l l'
  | .rs x y z, .rs x' y' z' => Nat.beq x x' && Nat.beq y y' && Nat.beq z z'
  | .mp x, .mp y => Nat.beq x y
  | .clo x l, .clo x' l' => Nat.beq x x' && C.eqbs l l'
  | .un, .un => true
  | _, _ => false
def C.eqbs : List C → List C → Bool
  | [], [] => true
  | x :: r, y :: s => C.eqb x y && C.eqbs r s
  | _, _ => false
end
def nub {α : Type} (eq : α → α → Bool) : List α → List α
  | [] => []
  | [x] => [x]
  | x :: y :: r =>
    let l := nub eq (y :: r)
    match l.any (eq x) with
    | true => l
    | false => x :: l
def depGo (i : Nat) : List Oper → Nat → List Bool → List Bool
  | [], _, acc => acc
  | o :: r, j, acc => depGo i r (j + 1) (acc ++ [o.after.any fun e => Region.binds .any e && (Nat.beq e.on i || (match nth acc e.on with | some b => b | none => false))])
def stlOf (tb : Tab) (ps : FuncId → Bool) (o : Op) : Bool :=
  match o with
  | .call { callee := .value x, .. } => (match x with | .func f => ps f | _ => false)
  | .slice t _ lo hi mx => (match mx, (tb t).d with | none, .str => true | _, _ => false)
  | .binOp _ t _ _ _ => (match (tb t).d with | .slice _ => false | _ => true)
  | o => !extraB tb o && stillOp tb o
def depB (D : List Bool) (j : Nat) : Bool := match nth D j with | some b => b | none => false
def calmAt (stl : Op → Bool) (ops : Array Oper) (listed : Array Bool) (i : Nat) : Bool :=
  let D := depGo i ops.toList 0 []
  (List.range ops.size).all fun j =>
    match ops[j]? with
    | none => true
    | some o =>
      match depB D j with
      | true => !listed.getD j true && o.after.any fun e => Region.binds .any e && (Nat.beq e.on i || depB D e.on)
      | false => Nat.beq j i || listed.getD j true || stl o.op
structure Ch where
  it : SItem
  op : Op
  free : Bool
  calm : Bool
  still : Bool
  deriving Inhabited
inductive Plan where
  | bad
  | node (l : List (Ch × (Unit → Plan)))
  deriving Inhabited
def choice (stl : Op → Bool) (l : List SItem) (ops : Array Oper) (listed : Array Bool) (i : Nat) : Ch :=
  match ops[i]?, nth l i with
  | some o, some s => ⟨s, o.op, freeAt ops listed i, calmAt stl ops listed i, stl o.op⟩
  | _, _ => ⟨⟨none, none, .raw (.ready 0)⟩, .ready 0, false, false, false⟩
def plan (stl : Op → Bool) (l : List SItem) (ops : Array Oper) : Nat → Array Bool → Plan
  | 0, listed => (match Region.ready .any ops listed with | [] => .node [] | _ => .bad)
  | n + 1, listed => .node ((Region.ready .any ops listed).map fun i => (choice stl l ops listed i, fun _ => plan stl l ops n (listed.setIfInBounds i true)))
end Go.Dm
namespace Go.Dm
set_option linter.unusedVariables false
set_option linter.unusedSimpArgs false
section
variable {P : Program} {tb : Tab} {σ : St} {k : V → Prop} {kk : V → St → Prop}
end
end Go.Dm
namespace Go.Dm
set_option linter.unusedVariables false
set_option linter.unusedSimpArgs false
def tA (t : FT) : Nat → AF
  | 0 => []
  | n + 1 => (n, t.get n) :: tA t n
def frT (m : Nat) (t : FT) : Fr := toFr m (tA t m)
end Go.Dm
namespace Go.Dm
set_option linter.unusedVariables false
mutual
def C.free : C → Bool
  | .f _ => true
  | .ep _ _ => true
  | .clo _ caps => C.frees caps
  | .un => true
  | .ptr _ _ => false
  | .pa _ _ _ => false
  | .rs _ _ _ => false
  | .mp _ => false
def C.frees : List C → Bool
  | [] => true
  | x :: r => (match C.free x with | true => C.frees r | false => false)
end
mutual
def V.free : V → Bool
  | .c x => x.free
  | .a l => C.frees l
  | .t l => V.frees l
def V.frees : List V → Bool
  | [] => true
  | x :: r => (match V.free x with | true => V.frees r | false => false)
end
def F.bare : F → Bool
  | .bool _ | .int _ _ | .flo _ | .cpl _ _ | .str _ | .nils | .nilp | .nilm | .nilf | .fn _ => true
  | .sl _ _ | .obj _ => false
def C.bare : C → Bool
  | .f x => x.bare
  | _ => false
mutual
def V.bare : V → Bool
  | .c x => x.bare
  | .a l => l.all C.bare
  | .t l => V.bares l
def V.bares : List V → Bool
  | [] => true
  | x :: r => (match V.bare x with | true => V.bares r | false => false)
end
mutual
def snapC : Nat → St → C → Option C
  | _, _, .f x => some (.f x)
  | _, _, .ep l n => some (.ep l n)
  | _, _, .un => some .un
  | _, σ, .rs o e n =>
    (match nth σ o with
    | some (.arr _ e0 sz l) => (match Nat.beq e e0 with | true => some (.f (.sl n l)) | false => none)
    | _ => none)
  | n + 1, σ, .ptr o off =>
    (match nth σ o with
    | some (.cells cs) =>
      (match snapCs n σ cs with
      | some l => (match frz l with | some fs => (match off with | 0 => some (.f (.obj fs)) | off => some (.ep fs off)) | none => none)
      | none => none)
    | _ => none)
  | n + 1, σ, .clo f caps => (match snapCs n σ caps with | some l => some (.clo f l) | none => none)
  | _, _, _ => none
def snapCs : Nat → St → List C → Option (List C)
  | _, _, [] => some []
  | 0, _, _ => none
  | n + 1, σ, x :: r =>
    match snapC n σ x with
    | none => none
    | some y => (match snapCs n σ r with | some l => some (y :: l) | none => none)
end
def snapV (σ : St) : V → Option V
  | .c x => (match snapC 1000 σ x with | some y => some (.c y) | none => none)
  | .a l => (match snapCs 1000 σ l with | some l' => some (.a l') | none => none)
  | .t _ => none
def snapVs (σ : St) : List V → Option (List V)
  | [] => some []
  | x :: r =>
    match snapV σ x with
    | none => none
    | some y => (match snapVs σ r with | some l => some (y :: l) | none => none)
mutual
def hardC : Nat → C → St → Option (C × St)
  | _, .f x, σ => some (.f x, σ)
  | _, .ep l n, σ => some (.ep l n, σ)
  | _, .un, σ => some (.un, σ)
  | _, .rs o e n, σ =>
    (match nth σ o with
    | some (.arr _ e0 sz l) => (match Nat.beq e e0 with | true => some (.f (.sl n l), put σ o (.arr false e0 sz l)) | false => none)
    | _ => none)
  | n + 1, .ptr o off, σ =>
    (match off with
    | 0 =>
      (match nth σ o with
      | some (.cells cs) =>
        (match hardCs n cs σ with
        | some (l, σ') =>
          (match frz l, nth σ' o with
          | some fs, some (.cells _) => some (.f (.obj fs), put σ' o .gone)
          | _, _ => none)
        | none => none)
      | _ => none)
    | _ => none)
  | n + 1, .clo f caps, σ => (match hardCs n caps σ with | some (l, σ') => some (.clo f l, σ') | none => none)
  | _, _, _ => none
def hardCs : Nat → List C → St → Option (List C × St)
  | _, [], σ => some ([], σ)
  | 0, _, _ => none
  | n + 1, x :: r, σ =>
    match hardC n x σ with
    | none => none
    | some (y, σ') => (match hardCs n r σ' with | some (l, σ'') => some (y :: l, σ'') | none => none)
end
mutual
def hardV : V → St → Option (V × St)
  | .c x, σ => (match hardC 1000 x σ with | some (y, σ') => some (.c y, σ') | none => none)
  | .a l, σ => (match hardCs 1000 l σ with | some (l', σ') => some (.a l', σ') | none => none)
  | .t l, σ => (match hardVs l σ with | some (l', σ') => some (.t l', σ') | none => none)
def hardVs : List V → St → Option (List V × St)
  | [], σ => some ([], σ)
  | x :: r, σ =>
    match hardV x σ with
    | none => none
    | some (y, σ') => (match hardVs r σ' with | some (l, σ'') => some (y :: l, σ'') | none => none)
end
mutual
def C.under (n : Nat) : C → Bool
  | .f _ => true
  | .ep _ _ => true
  | .clo _ caps => C.unders n caps
  | .un => true
  | .ptr o _ => Nat.blt o n
  | .pa o _ _ => Nat.blt o n
  | .rs o _ _ => Nat.blt o n
  | .mp o => Nat.blt o n
def C.unders (n : Nat) : List C → Bool
  | [] => true
  | x :: r => (match C.under n x with | true => C.unders n r | false => false)
end
mutual
def V.under (n : Nat) : V → Bool
  | .c x => x.under n
  | .a l => C.unders n l
  | .t l => V.unders n l
def V.unders (n : Nat) : List V → Bool
  | [] => true
  | x :: r => (match V.under n x with | true => V.unders n r | false => false)
end
def Ob.under (n : Nat) : Ob → Bool
  | .cells l => C.unders n l
  | .bld _ _ x => C.under n x
  | _ => true
end Go.Dm
namespace Go.Dm
set_option linter.unusedVariables false
set_option linter.unusedSimpArgs false
section
variable {P : Program} {tb : Tab}
abbrev noF : FuncId → Bool := fun _ => false
end
end Go.Dm
namespace Go.Dm
set_option linter.unusedVariables false
set_option linter.unusedSimpArgs false
section
variable {P : Program} {tb : Tab} {ops : Array Oper} {S : Nat → Bool}
theorem not_listed {i : Nat} {listed : Array Bool} (hr : i ∈ Region.ready .any ops listed) {j : Nat} {oj : Oper} (hoj : ops[j]? = some oj) (hj : j ∈ Region.ready .any ops listed) : ∀ e ∈ oj.after, Region.binds .any e = true → e.on ≠ i := by
  intro e he hb heq
  obtain ⟨_, oj', hoj', hall⟩ := mem_ready.1 hj
  rw [hoj] at hoj'; cases hoj'
  have h1 := hall e he hb
  have h0 := (mem_ready.1 hr).1
  rw [heq] at h1
  rcases Nat.lt_or_ge i listed.size with h' | h'
  · simp [h'] at h0 h1; rw [h0] at h1; cases h1
  · simp [Array.getElem?_eq_none h'] at h1
theorem free_step {i j : Nat} {oi : Oper} {listed : Array Bool}
    (hfree : ∀ j oj, ops[j]? = some oj → j ≠ i → listed.getD j true = false → (∀ e ∈ oj.after, Region.binds .any e = true → e.on ≠ i) → oi.apart ops oj = true) (hjun : listed.getD j true = false) :
    ∀ k ok, ops[k]? = some ok → k ≠ i → (listed.setIfInBounds j true).getD k true = false → (∀ e ∈ ok.after, Region.binds .any e = true → e.on ≠ i) → oi.apart ops ok = true := fun k ok hk hki hun hno => by
  refine hfree k ok hk hki ?_ hno
  by_cases hjk : j = k
  · subst hjk; exact hjun
  · rw [getD_set_ne true hjk] at hun; exact hun
end
end Go.Dm
namespace Go.Dm
set_option linter.unusedVariables false
set_option linter.unusedSimpArgs false
section
variable {P : Program} {tb : Tab}
end
end Go.Dm
namespace Go.Dm
set_option linter.unusedVariables false
set_option linter.unusedSimpArgs false
section
variable {P : Program} {tb : Tab}
theorem depGo_len (i : Nat) : ∀ (l : List Oper) (j : Nat) (acc : List Bool), (depGo i l j acc).length = acc.length + l.length
  | [], j, acc => by simp [depGo]
  | o :: r, j, acc => by rw [depGo, depGo_len i r]; simp; omega
def Dof (ops : Array Oper) (i j : Nat) : Bool := depB (depGo i ops.toList 0 []) j
theorem Dof_lt {ops : Array Oper} {i j : Nat} (h : Dof ops i j = true) : ∃ o, ops[j]? = some o := by
  unfold Dof depB at h
  rw [nth_eq] at h
  split at h
  · rename_i b hb
    have hlt := (List.getElem?_eq_some_iff.1 hb).1
    rw [depGo_len] at hlt
    simp at hlt
    exact ⟨ops[j], Array.getElem?_eq_getElem hlt⟩
  · cases h
theorem calm_spec {stl : Op → Bool} {ops : Array Oper} {listed : Array Bool} {i : Nat} (h : calmAt stl ops listed i = true) {j : Nat} {oj : Oper} (hj : ops[j]? = some oj) :
    (Dof ops i j = true → listed.getD j true = false ∧ ∃ e ∈ oj.after, Region.binds .any e = true ∧ (e.on = i ∨ Dof ops i e.on = true)) ∧
    (Dof ops i j = false → j ≠ i → listed.getD j true = false → stl oj.op = true) := by
  have hlt := (Array.getElem?_eq_some_iff.1 hj).1
  simp only [calmAt, List.all_eq_true, List.mem_range] at h
  have h1 := h j hlt
  rw [hj] at h1
  simp only at h1
  constructor
  · intro hd
    have hd' : depB (depGo i ops.toList 0 []) j = true := hd
    rw [hd'] at h1
    simp only [Bool.and_eq_true, Bool.not_eq_true'] at h1
    refine ⟨h1.1, ?_⟩
    obtain ⟨e, he, hb⟩ := Array.any_eq_true'.1 h1.2
    simp only [Bool.and_eq_true, Bool.or_eq_true] at hb
    exact ⟨e, he, hb.1, hb.2.imp (fun hh => Nat.eq_of_beq_eq_true hh) id⟩
  · intro hd hne hun
    have hd' : depB (depGo i ops.toList 0 []) j = false := hd
    rw [hd'] at h1
    simp only [Bool.or_eq_true] at h1
    rcases h1 with (h1 | h1) | h1
    · exact absurd (Nat.eq_of_beq_eq_true h1) hne
    · rw [hun] at h1; cases h1
    · exact h1
end
end Go.Dm
namespace Go.Dm
open Go.RowKit
set_option linter.unusedVariables false
set_option linter.unusedSimpArgs false
section
variable {P : Program} {tb : Tab}
theorem take_get {σ : St} {n o : Nat} (h : o < n) : (σ.take n)[o]? = σ[o]? := by
  rw [List.getElem?_take, if_pos h]
mutual
theorem underC {g : G} {w : World} {σ : St} {n : Nat} : ∀ {c : C} {v : Value}, c.under n = true → CRep g w σ c v → CRep g w (σ.take n) c v
  | .f x, v, _, h => h
  | .ep l o, v, _, h => h
  | .un, v, _, h => trivial
  | .ptr o off, v, hu, h => by
    obtain ⟨b, ob, h1, h2, h3, h4⟩ := h
    exact ⟨b, ob, h1, h2, by rw [take_get (blt_nat hu)]; exact h3, h4⟩
  | .pa o e off, v, hu, h => by
    obtain ⟨h1, ob, h3, h4⟩ := h
    exact ⟨h1, ob, by rw [take_get (blt_nat hu)]; exact h3, h4⟩
  | .rs o e m, v, hu, h => by
    obtain ⟨h1, ob, h3, h4⟩ := h
    exact ⟨h1, ob, by rw [take_get (blt_nat hu)]; exact h3, h4⟩
  | .mp o, v, hu, h => by
    obtain ⟨b, ob, h1, h2, h3, h4⟩ := h
    exact ⟨b, ob, h1, h2, by rw [take_get (blt_nat hu)]; exact h3, h4⟩
  | .clo f caps, v, hu, h => by
    obtain ⟨vs, h1, h2⟩ := h
    exact ⟨vs, h1, undersC hu h2⟩
theorem undersC {g : G} {w : World} {σ : St} {n : Nat} : ∀ {l : List C} {vs : List Value}, C.unders n l = true → CReps g w σ l vs → CReps g w (σ.take n) l vs
  | [], vs, _, h => h
  | c :: r, vs, hu, h => by
    simp only [C.unders] at hu
    split at hu
    · rename_i hc
      obtain ⟨v, vr, rfl, h1, h2⟩ := h
      exact ⟨v, vr, rfl, underC hc h1, undersC hu h2⟩
    · cases hu
end
mutual
theorem underV {g : G} {w : World} {σ : St} {n : Nat} : ∀ {c : V} {v : Value}, c.under n = true → VRep g w σ c v → VRep g w (σ.take n) c v
  | .c x, v, hu, h => underC hu h
  | .a l, v, hu, h => by obtain ⟨vs, h1, h2⟩ := h; exact ⟨vs, h1, undersC hu h2⟩
  | .t l, v, hu, h => by obtain ⟨vs, h1, h2⟩ := h; exact ⟨vs, h1, undersV hu h2⟩
theorem undersV {g : G} {w : World} {σ : St} {n : Nat} : ∀ {l : List V} {vs : List Value}, V.unders n l = true → VReps g w σ l vs → VReps g w (σ.take n) l vs
  | [], vs, _, h => h
  | c :: r, vs, hu, h => by
    simp only [V.unders] at hu
    split at hu
    · rename_i hc
      obtain ⟨v, vr, rfl, h1, h2⟩ := h
      exact ⟨v, vr, rfl, underV hc h1, undersV hu h2⟩
    · cases hu
end
theorem get_take {σ : St} {n i : Nat} {ob : Ob} (h : (σ.take n)[i]? = some ob) : i < n ∧ σ[i]? = some ob := by
  rw [List.getElem?_take] at h
  split at h
  · rename_i hi; exact ⟨hi, h⟩
  · cases h
theorem take_rep {g : G} {w : World} {σ : St} (hr : Rep g w σ) {n : Nat} (hu : (σ.take n).all (Ob.under n) = true) : Rep g w (σ.take n) where
  ob i ob h := by
    obtain ⟨hi, h1⟩ := get_take h
    have h2 := hr.ob i ob h1
    have h3 : Ob.under n ob = true := List.all_eq_true.1 hu ob (List.mem_of_getElem? h)
    cases ob with
    | cells l =>
      obtain ⟨b, vs, T, fz, q1, q2, q3, q4⟩ := h2
      exact ⟨b, vs, T, fz, q1, q2, q3, undersC h3 q4⟩
    | arr wr e sz l => exact h2
    | map kv =>
      obtain ⟨b, es, clock, q1, q2, q3⟩ := h2
      exact ⟨b, es, clock, q1, q2, KVRep.turn (fun b o hz => ⟨hz, rfl⟩) q3⟩
    | bld T u x =>
      obtain ⟨b, v, q1, q2, q3⟩ := h2
      exact ⟨b, v, q1, q2, underC h3 q3⟩
    | gone => trivial
  inj i j a b k hi hj := hr.inj i j a b k (get_take hi).2 (get_take hj).2
  apart b o hz ho := by
    obtain ⟨i, ob, h1, h2⟩ := ho
    exact hr.apart b o hz ⟨i, ob, (get_take h1).2, h2⟩
  inside := hr.inside
theorem bareF {g g' : G} {w w' : World} : ∀ {x : F} {v : Value}, x.bare = true → FRep g w x v → FRep g' w' x v
  | .bool _, v, _, h => h
  | .int _ _, v, _, h => h
  | .flo _, v, _, h => h
  | .cpl _ _, v, _, h => h
  | .str _, v, _, h => h
  | .nils, v, _, h => h
  | .nilp, v, _, h => h
  | .nilm, v, _, h => h
  | .nilf, v, _, h => h
  | .fn _, v, _, h => h
  | .sl _ _, v, hb, h => by simp [F.bare] at hb
  | .obj _, v, hb, h => by simp [F.bare] at hb
theorem bareCs {g g' : G} {w w' : World} {σ σ' : St} : ∀ {l : List C} {vs : List Value}, l.all C.bare = true → CReps g w σ l vs → CReps g' w' σ' l vs
  | [], vs, _, h => h
  | c :: r, vs, hb, h => by
    simp only [List.all_cons, Bool.and_eq_true] at hb
    obtain ⟨v, vr, rfl, h1, h2⟩ := h
    refine ⟨v, vr, rfl, ?_, bareCs hb.2 h2⟩
    cases c <;> simp only [C.bare, Bool.false_eq_true, false_and] at hb
    exact bareF (g := g) (w := w) hb.1 h1
mutual
theorem bareV {g g' : G} {w w' : World} {σ σ' : St} : ∀ {x : V} {v : Value}, x.bare = true → VRep g w σ x v → VRep g' w' σ' x v
  | .c x, v, hb, h => by
    cases x <;> simp only [V.bare, C.bare, Bool.false_eq_true] at hb
    exact bareF (g := g) (w := w) hb h
  | .a l, v, hb, h => by obtain ⟨vs, h1, h2⟩ := h; exact ⟨vs, h1, bareCs hb h2⟩
  | .t l, v, hb, h => by obtain ⟨vs, h1, h2⟩ := h; exact ⟨vs, h1, baresV hb h2⟩
theorem baresV {g g' : G} {w w' : World} {σ σ' : St} : ∀ {l : List V} {vs : List Value}, V.bares l = true → VReps g w σ l vs → VReps g' w' σ' l vs
  | [], vs, _, h => h
  | c :: r, vs, hb, h => by
    simp only [V.bares] at hb
    split at hb
    · rename_i hc
      obtain ⟨v, vr, rfl, h1, h2⟩ := h
      exact ⟨v, vr, rfl, bareV hc h1, baresV hb h2⟩
    · cases hb
end
def allZ (g : G) (w : World) : G := { g with Z := fun b _ => b < w.heap.size }
theorem allZ_rep {g : G} {w : World} {σ : St} (hr : Rep g w σ) {x : F} {v : Value} (h : FRep g w x v) : FRep (ghost0 w) w x v :=
  FRep.turn (fun b o hz => ⟨hr.inside b o hz, rfl⟩) _ _ h
theorem allZ_row {g : G} {w : World} {σ : St} (hr : Rep g w σ) {cs : List F} {b o : Nat} (h : FRow g w b o cs) : FRow (ghost0 w) w b o cs :=
  FRow.turn (fun b o hz => ⟨hr.inside b o hz, rfl⟩) _ _ _ h
theorem snap_rs {g : G} {w : World} {σ : St} (hr : Rep g w σ) {i e n sz : Nat} {l : List F} {wr : Bool} {v : Value} (hi : σ[i]? = some (.arr wr e sz l)) (hv : CRep g w σ (.rs i e n) v) : FRep (ghost0 w) w (.sl n l) v := by
  have h1 := rs_frozen (g' := allZ g w) (w' := w) hr hi hv rfl rfl fun b hb => FRow.of fun j x hx => by
    rcases hr.ob i _ hi with ⟨h1, _, _⟩ | ⟨c, vs, T, fz, rest, h1, h2, h3, h4, h5, ⟨pre, h6, h7, h8⟩, h9⟩
    · rw [hb] at h1; cases h1
    · rw [hb] at h1; cases h1
      have hj := (List.getElem?_eq_some_iff.1 hx).1
      rw [Nat.zero_add]
      refine ⟨(Array.getElem?_eq_some_iff.1 h2).1, pre[j]'(by omega), ?_, ?_⟩
      · simp only [World.cell?, h2]
        simp
        rw [← Array.getElem?_toList, h6, List.getElem?_append_left (by omega)]
        exact List.getElem?_eq_getElem (by omega)
      · have := h8 j hj (by omega)
        rw [(List.getElem?_eq_some_iff.1 hx).2] at this
        exact FRep.turn (fun b o hz => ⟨hr.inside b o hz, rfl⟩) _ _ this
  exact FRep.turn (g := allZ g w) (g' := ghost0 w) (w := w) (w' := w) (fun b o hz => ⟨hz, rfl⟩) _ _ h1
mutual
theorem snapC_ok {g : G} {w : World} {σ : St} (hr : Rep g w σ) : ∀ (n : Nat) {c c' : C} {v : Value}, snapC n σ c = some c' → CRep g w σ c v → CRep (ghost0 w) w [] c' v
  | n, .f x, c', v, h, hv => by simp only [snapC, Option.some.injEq] at h; subst h; exact allZ_rep hr hv
  | n, .ep l o, c', v, h, hv => by
    simp only [snapC, Option.some.injEq] at h
    subst h
    obtain ⟨b, p, h1, h2⟩ := hv
    exact ⟨b, p, h1, allZ_row hr h2⟩
  | n, .un, c', v, h, hv => by simp only [snapC, Option.some.injEq] at h; subst h; trivial
  | n, .rs o e m, c', v, h, hv => by
    simp only [snapC, nth_eq] at h
    split at h
    · rename_i wr e0 sz l ho
      split at h
      · rename_i he
        have := beq_nat he
        subst this
        cases h
        exact snap_rs hr ho hv
      · cases h
    · cases h
  | n + 1, .ptr o off, c', v, h, hv => by
    simp only [snapC, nth_eq] at h
    split at h
    · rename_i cs ho
      split at h
      · rename_i l hl
        split at h
        · rename_i fs hf
          have hfs := frz_spec hf
          subst hfs
          obtain ⟨b, vs, T, fz, q1, q2, q3, q4⟩ := hr.ob o _ ho
          obtain ⟨b', ob, p1, p2, p3, p4⟩ := hv
          rw [q1] at p1
          cases p1
          have hs := snapCs_ok hr n hl q4
          have hrow : FRow (ghost0 w) w b 0 fs := FRow.of fun i x hx => by
            obtain ⟨u, r1, r2⟩ := hs.get (i := i) (c := .f x) (by simp [hx])
            exact ⟨(Array.getElem?_eq_some_iff.1 q2).1, u, by rw [Nat.zero_add, cell_of q2]; exact r1, r2⟩
          split at h
          · cases h
            exact ⟨b, p2, hrow⟩
          · cases h
            exact ⟨b, 0, by rw [Nat.zero_add]; exact p2, hrow⟩
        · cases h
      · cases h
    · cases h
  | n + 1, .clo f caps, c', v, h, hv => by
    simp only [snapC] at h
    split at h
    · rename_i l hl
      cases h
      obtain ⟨vs, h1, h2⟩ := hv
      exact ⟨vs, h1, snapCs_ok hr n hl h2⟩
    · cases h
  | 0, .ptr o off, c', v, h, hv => by simp [snapC] at h
  | 0, .clo f caps, c', v, h, hv => by simp [snapC] at h
  | n, .pa .., c', v, h, hv => by cases n <;> simp [snapC] at h
  | n, .mp .., c', v, h, hv => by cases n <;> simp [snapC] at h
theorem snapCs_ok {g : G} {w : World} {σ : St} (hr : Rep g w σ) : ∀ (n : Nat) {l l' : List C} {vs : List Value}, snapCs n σ l = some l' → CReps g w σ l vs → CReps (ghost0 w) w [] l' vs
  | n, [], l', vs, h, hv => by cases n <;> (simp only [snapCs, Option.some.injEq] at h; subst h; exact hv)
  | 0, x :: r, l', vs, h, hv => by simp [snapCs] at h
  | n + 1, x :: r, l', vs, h, hv => by
    simp only [snapCs] at h
    split at h
    · cases h
    · rename_i y hy
      split at h
      · rename_i l hl
        cases h
        obtain ⟨v, vr, rfl, h1, h2⟩ := hv
        exact ⟨v, vr, rfl, snapC_ok hr n hy h1, snapCs_ok hr n hl h2⟩
      · cases h
end
theorem snapVs_ok {g : G} {w : World} {σ : St} (hr : Rep g w σ) : ∀ {l l' : List V} {vs : List Value}, snapVs σ l = some l' → VReps g w σ l vs → VReps (ghost0 w) w [] l' vs
  | [], l', vs, h, hv => by simp only [snapVs, Option.some.injEq] at h; subst h; exact hv
  | x :: r, l', vs, h, hv => by
    simp only [snapVs] at h
    split at h
    · cases h
    · rename_i y hy
      split at h
      · rename_i l hl
        cases h
        obtain ⟨v, vr, rfl, h1, h2⟩ := hv
        refine ⟨v, vr, rfl, ?_, snapVs_ok hr hl h2⟩
        unfold snapV at hy
        split at hy
        · split at hy
          · rename_i c hc; cases hy; exact snapC_ok hr _ hc h1
          · cases hy
        · split at hy
          · rename_i c hc; cases hy; obtain ⟨us, h3, h4⟩ := h1; exact ⟨us, h3, snapCs_ok hr _ hc h4⟩
          · cases hy
        · cases hy
      · cases h
theorem below_of_turn {w w' : World} {g' : G} {σ' : St} {g0 : G} (h : Turn g0 w [] g' w' σ') : Below w.heap.size w w' :=
  ⟨h.os, h.tape, h.output, h.size, fun b hb => h.whole b hb fun o ho => by
    obtain ⟨i, ob, h7, _⟩ := own_iff.1 ho
    simp at h7⟩
end
end Go.Dm
namespace Go.Dm
open Go.RowKit
set_option linter.unusedVariables false
set_option linter.unusedSimpArgs false
section
variable {P : Program} {tb : Tab}
theorem at_self {w : World} {b : Nat} {O : Obj} (h : w.heap[b]? = some O) : w.at b O = w := by
  have hlt := (Array.getElem?_eq_some_iff.1 h).1
  have e : w.heap.setIfInBounds b O = w.heap := by
    apply Array.ext (by simp)
    intro i h1 h2
    rw [Array.getElem_setIfInBounds]
    split
    · rename_i hi; subst hi; exact ((Array.getElem?_eq_some_iff.1 h).2).symm
    · rfl
  show { w with heap := w.heap.setIfInBounds b O } = w
  rw [e]
theorem recast {g : G} {w : World} {σ : St} (hr : Rep g w σ) {i b : Nat} {l l' : List C} {vs : Array Value} {T : TypeId} {fz : Nat × Nat} (hi : σ[i]? = some (.cells l)) (hb : g.blk i = some b) (hO : w.heap[b]? = some (.cells vs T fz)) (hf : Free vs.size fz)
    (hl : CReps g w σ l' vs.toList) : Rep g w (σ.set i (.cells l')) ∧ Turn g w σ g w (σ.set i (.cells l')) := by
  have h := write_cells (vs' := vs.toList) hr hi hb hO hf (by simp) hl
  simp only [Array.toArray_toList] at h
  rw [at_self hO] at h
  exact h
mutual
theorem hardC_ok : ∀ (n : Nat) {g : G} {w : World} {σ σ' : St} {c c' : C} {v : Value}, Rep g w σ → hardC n c σ = some (c', σ') → CRep g w σ c v → ∃ g', Rep g' w σ' ∧ Turn g w σ g' w σ' ∧ CRep g' w σ' c' v
  | n, g, w, σ, σ', .f x, c', v, hr, h, hv => by cases n <;> (simp only [hardC, Option.some.injEq] at h; cases h; exact ⟨g, hr, Turn.refl _ _ _, hv⟩)
  | n, g, w, σ, σ', .ep l o, c', v, hr, h, hv => by cases n <;> (simp only [hardC, Option.some.injEq] at h; cases h; exact ⟨g, hr, Turn.refl _ _ _, hv⟩)
  | n, g, w, σ, σ', .un, c', v, hr, h, hv => by cases n <;> (simp only [hardC, Option.some.injEq] at h; cases h; exact ⟨g, hr, Turn.refl _ _ _, hv⟩)
  | n, g, w, σ, σ', .rs o e m, c', v, hr, h, hv => by
    have h' : (match nth σ o with
      | some (.arr _ e0 sz l) => (match Nat.beq e e0 with | true => some (C.f (.sl m l), put σ o (.arr false e0 sz l)) | false => none)
      | _ => none) = some (c', σ') := by cases n <;> (simp only [hardC] at h; exact h)
    simp only [nth_eq, put_eq] at h'
    split at h'
    · rename_i wr e0 sz l ho
      split at h'
      · rename_i he
        have := beq_nat he
        subst this
        cases h'
        obtain ⟨g1, k1, k2, k3, k4, k5⟩ := freeze_arr hr ho
        exact ⟨g1, k1, k2, rs_frozen (w' := w) hr ho hv k3 k4 k5⟩
      · cases h'
    · cases h'
  | n + 1, g, w, σ, σ', .ptr o off, c', v, hr, h, hv => by
    simp only [hardC, nth_eq, put_eq] at h
    split at h
    · split at h
      · rename_i cs ho
        split at h
        · rename_i l σ1 hl
          split at h
          · rename_i fs cs2 hf ho2
            cases h
            have hfs := frz_spec hf
            subst hfs
            obtain ⟨b, vs, T, fz, q1, q2, q3, q4⟩ := hr.ob o _ ho
            obtain ⟨b', ob, p1, p2, p3, p4⟩ := hv
            rw [q1] at p1
            cases p1
            obtain ⟨g1, k1, k2, k3⟩ := hardCs_ok n hr hl q4
            have hb1 : g1.blk o = some b := (k2.blks o _ ho rfl).trans q1
            obtain ⟨m1, m2⟩ := recast k1 ho2 hb1 q2 q3 k3
            have hget : (σ1.set o (.cells (fs.map .f)))[o]? = some (.cells (fs.map .f)) := by
              rw [List.getElem?_set, if_pos rfl, if_pos (lt_of_get ho2)]
            obtain ⟨g2, r1, r2, r3, r4, r5⟩ := freeze_obj m1 hget hb1
            rw [List.set_set] at r1 r2
            exact ⟨g2, r1, k2.trans (m2.trans r2), ⟨b, p2, r5⟩⟩
          · cases h
        · cases h
      · cases h
    · cases h
  | n + 1, g, w, σ, σ', .clo f caps, c', v, hr, h, hv => by
    simp only [hardC] at h
    split at h
    · rename_i l σ1 hl
      cases h
      obtain ⟨vs, h1, h2⟩ := hv
      obtain ⟨g1, k1, k2, k3⟩ := hardCs_ok n hr hl h2
      exact ⟨g1, k1, k2, ⟨vs, h1, k3⟩⟩
    · cases h
  | 0, g, w, σ, σ', .ptr o off, c', v, hr, h, hv => by simp [hardC] at h
  | 0, g, w, σ, σ', .clo f caps, c', v, hr, h, hv => by simp [hardC] at h
  | n, g, w, σ, σ', .pa .., c', v, hr, h, hv => by cases n <;> simp [hardC] at h
  | n, g, w, σ, σ', .mp .., c', v, hr, h, hv => by cases n <;> simp [hardC] at h
theorem hardCs_ok : ∀ (n : Nat) {g : G} {w : World} {σ σ' : St} {l l' : List C} {vs : List Value}, Rep g w σ → hardCs n l σ = some (l', σ') → CReps g w σ l vs → ∃ g', Rep g' w σ' ∧ Turn g w σ g' w σ' ∧ CReps g' w σ' l' vs
  | n, g, w, σ, σ', [], l', vs, hr, h, hv => by cases n <;> (simp only [hardCs, Option.some.injEq] at h; cases h; exact ⟨g, hr, Turn.refl _ _ _, hv⟩)
  | 0, g, w, σ, σ', x :: r, l', vs, hr, h, hv => by simp [hardCs] at h
  | n + 1, g, w, σ, σ', x :: r, l', vs, hr, h, hv => by
    simp only [hardCs] at h
    split at h
    · cases h
    · rename_i y σ1 hy
      split at h
      · rename_i l2 σ2 hl
        cases h
        obtain ⟨v, vr, rfl, h1, h2⟩ := hv
        obtain ⟨g1, k1, k2, k3⟩ := hardC_ok n hr hy h1
        obtain ⟨g2, m1, m2, m3⟩ := hardCs_ok n k1 hl (CReps.turn k2 _ _ h2)
        exact ⟨g2, m1, k2.trans m2, ⟨v, vr, rfl, CRep.turn m2 _ _ k3, m3⟩⟩
      · cases h
end
mutual
theorem hardV_ok : ∀ {g : G} {w : World} {σ σ' : St} {c c' : V} {v : Value}, Rep g w σ → hardV c σ = some (c', σ') → VRep g w σ c v → ∃ g', Rep g' w σ' ∧ Turn g w σ g' w σ' ∧ VRep g' w σ' c' v
  | g, w, σ, σ', .c x, c', v, hr, h, hv => by
    simp only [hardV] at h
    split at h
    · rename_i y σ1 hy; cases h; exact hardC_ok _ hr hy hv
    · cases h
  | g, w, σ, σ', .a l, c', v, hr, h, hv => by
    simp only [hardV] at h
    split at h
    · rename_i y σ1 hy
      cases h
      obtain ⟨vs, h1, h2⟩ := hv
      obtain ⟨g1, k1, k2, k3⟩ := hardCs_ok _ hr hy h2
      exact ⟨g1, k1, k2, ⟨vs, h1, k3⟩⟩
    · cases h
  | g, w, σ, σ', .t l, c', v, hr, h, hv => by
    simp only [hardV] at h
    split at h
    · rename_i y σ1 hy
      cases h
      obtain ⟨vs, h1, h2⟩ := hv
      obtain ⟨g1, k1, k2, k3⟩ := hardVs_ok hr hy h2
      exact ⟨g1, k1, k2, ⟨vs, h1, k3⟩⟩
    · cases h
theorem hardVs_ok : ∀ {g : G} {w : World} {σ σ' : St} {l l' : List V} {vs : List Value}, Rep g w σ → hardVs l σ = some (l', σ') → VReps g w σ l vs → ∃ g', Rep g' w σ' ∧ Turn g w σ g' w σ' ∧ VReps g' w σ' l' vs
  | g, w, σ, σ', [], l', vs, hr, h, hv => by simp only [hardVs, Option.some.injEq] at h; cases h; exact ⟨g, hr, Turn.refl _ _ _, hv⟩
  | g, w, σ, σ', x :: r, l', vs, hr, h, hv => by
    simp only [hardVs] at h
    split at h
    · cases h
    · rename_i y σ1 hy
      split at h
      · rename_i l2 σ2 hl
        cases h
        obtain ⟨v, vr, rfl, h1, h2⟩ := hv
        obtain ⟨g1, k1, k2, k3⟩ := hardV_ok hr hy h1
        obtain ⟨g2, m1, m2, m3⟩ := hardVs_ok k1 hl (VReps.turn k2 _ _ h2)
        exact ⟨g2, m1, k2.trans m2, ⟨v, vr, rfl, VRep.turn m2 _ _ k3, m3⟩⟩
      · cases h
end
section
variable {g g' : G} {w w' : World} {σ σ' : St}
def Keeps (g : G) (w : World) (g' : G) (w' : World) : Prop := ∀ b o, g.Z b o → g'.Z b o ∧ w'.cell? ⟨b, o, none⟩ = w.cell? ⟨b, o, none⟩
mutual
theorem freeC (hz : Keeps g w g' w') : ∀ {c : C} {v : Value}, c.free = true → CRep g w σ c v → CRep g' w' σ' c v
  | .f x, v, _, h => FRep.turn hz _ _ h
  | .ep l o, v, _, h => by obtain ⟨b, p, h1, h2⟩ := h; exact ⟨b, p, h1, FRow.turn hz _ _ _ h2⟩
  | .un, v, _, h => trivial
  | .clo f caps, v, hf, h => by obtain ⟨vs, h1, h2⟩ := h; exact ⟨vs, h1, freeCs hz hf h2⟩
  | .ptr .., v, hf, h => by simp [C.free] at hf
  | .pa .., v, hf, h => by simp [C.free] at hf
  | .rs .., v, hf, h => by simp [C.free] at hf
  | .mp .., v, hf, h => by simp [C.free] at hf
theorem freeCs (hz : Keeps g w g' w') : ∀ {l : List C} {vs : List Value}, C.frees l = true → CReps g w σ l vs → CReps g' w' σ' l vs
  | [], vs, _, h => h
  | c :: r, vs, hf, h => by
    simp only [C.frees] at hf
    split at hf
    · rename_i hc
      obtain ⟨v, vr, rfl, h1, h2⟩ := h
      exact ⟨v, vr, rfl, freeC hz hc h1, freeCs hz hf h2⟩
    · cases hf
end
mutual
theorem freeV (hz : Keeps g w g' w') : ∀ {c : V} {v : Value}, c.free = true → VRep g w σ c v → VRep g' w' σ' c v
  | .c x, v, hf, h => freeC hz hf h
  | .a l, v, hf, h => by obtain ⟨vs, h1, h2⟩ := h; exact ⟨vs, h1, freeCs hz hf h2⟩
  | .t l, v, hf, h => by obtain ⟨vs, h1, h2⟩ := h; exact ⟨vs, h1, freeVs hz hf h2⟩
theorem freeVs (hz : Keeps g w g' w') : ∀ {l : List V} {vs : List Value}, V.frees l = true → VReps g w σ l vs → VReps g' w' σ' l vs
  | [], vs, _, h => h
  | c :: r, vs, hf, h => by
    simp only [V.frees] at hf
    split at hf
    · rename_i hc
      obtain ⟨v, vr, rfl, h1, h2⟩ := h
      exact ⟨v, vr, rfl, freeV hz hc h1, freeVs hz hf h2⟩
    · cases hf
end
end
end
end Go.Dm
namespace Go.Proofs.Ytpoegfkajdbplaa
open Go.Dm
def tl : List TI := [
  noTI,
  ⟨.fn, 1, 8, [.nilf], []⟩,
  ⟨.int .i64, 1, 8, [.int .i64 0], []⟩,
  ⟨.int .i64, 1, 8, [.int .i64 0], []⟩,
  ⟨.bool, 1, 1, [.bool false], []⟩,
  ⟨.int .u8, 1, 1, [.int .u8 0], []⟩,
  ⟨.int .u8, 1, 1, [.int .u8 0], []⟩,
  ⟨.struct [(0, 2), (1, 3), (2, 4), (3, 6)], 4, 24, [.int .i64 0, .int .i64 0, .bool false, .int .u8 0], []⟩,
  ⟨.struct [(0, 2), (1, 3), (2, 4), (3, 6)], 4, 24, [.int .i64 0, .int .i64 0, .bool false, .int .u8 0], []⟩,
  ⟨.str, 1, 16, [.str []], []⟩,
  ⟨.str, 1, 16, [.str []], []⟩,
  ⟨.str, 1, 16, [.str []], []⟩,
  ⟨.int .u64, 1, 8, [.int .u64 0], []⟩,
  ⟨.struct [(0, 9), (1, 12)], 2, 24, [.str [], .int .u64 0], []⟩,
  ⟨.struct [(0, 9), (1, 12)], 2, 24, [.str [], .int .u64 0], []⟩,
  ⟨.ptr 191, 1, 8, [.nilp], []⟩,
  ⟨.ptr 194, 1, 8, [.nilp], []⟩,
  ⟨.ptr 202, 1, 8, [.nilp], []⟩,
  ⟨.struct [(0, 17)], 1, 8, [.nilp], []⟩,
  ⟨.struct [(0, 17)], 1, 8, [.nilp], []⟩,
  noTI,
  ⟨.int .i32, 1, 4, [.int .i32 0], []⟩,
  ⟨.slice 9, 1, 24, [.nils], []⟩,
  ⟨.cpl, 1, 16, [.cpl 0 0], []⟩,
  ⟨.fn, 1, 8, [.nilf], []⟩,
  ⟨.fn, 1, 8, [.nilf], []⟩,
  ⟨.fn, 1, 8, [.nilf], []⟩,
  ⟨.fn, 1, 8, [.nilf], []⟩,
  ⟨.fn, 1, 8, [.nilf], []⟩,
  ⟨.fn, 1, 8, [.nilf], []⟩,
  ⟨.slice 3, 1, 24, [.nils], []⟩,
  ⟨.slice 23, 1, 24, [.nils], []⟩,
  ⟨.fn, 1, 8, [.nilf], []⟩,
  ⟨.fn, 1, 8, [.nilf], []⟩,
  ⟨.fn, 1, 8, [.nilf], []⟩,
  ⟨.struct [(0, 4), (1, 4)], 2, 2, [.bool false, .bool false], []⟩,
  ⟨.struct [(0, 4), (1, 4)], 2, 2, [.bool false, .bool false], [.b, .b]⟩,
  ⟨.slice 43, 1, 24, [.nils], []⟩,
  ⟨.struct [(0, 3), (1, 9), (2, 36), (4, 22), (5, 37), (6, 3), (7, 3), (8, 3)], 9, 104, [.int .i64 0, .str [], .bool false, .bool false, .nils, .nils, .int .i64 0, .int .i64 0, .int .i64 0], []⟩,
  ⟨.struct [(0, 3), (1, 9), (2, 36), (4, 22), (5, 37), (6, 3), (7, 3), (8, 3)], 9, 104, [.int .i64 0, .str [], .bool false, .bool false, .nils, .nils, .int .i64 0, .int .i64 0, .int .i64 0], []⟩,
  ⟨.fn, 1, 8, [.nilf], []⟩,
  ⟨.fn, 1, 8, [.nilf], []⟩,
  ⟨.struct [(0, 3), (1, 3), (2, 22)], 3, 40, [.int .i64 0, .int .i64 0, .nils], []⟩,
  ⟨.struct [(0, 3), (1, 3), (2, 22)], 3, 40, [.int .i64 0, .int .i64 0, .nils], []⟩,
  ⟨.slice 5, 1, 24, [.nils], []⟩,
  ⟨.fn, 1, 8, [.nilf], []⟩,
  noTI,
  ⟨.fn, 1, 8, [.nilf], []⟩,
  ⟨.fn, 1, 8, [.nilf], []⟩,
  ⟨.fn, 1, 8, [.nilf], []⟩,
  ⟨.fn, 1, 8, [.nilf], []⟩,
  ⟨.fn, 1, 8, [.nilf], []⟩,
  ⟨.fn, 1, 8, [.nilf], []⟩,
  ⟨.fn, 1, 8, [.nilf], []⟩,
  ⟨.slice 44, 1, 24, [.nils], []⟩,
  ⟨.fn, 1, 8, [.nilf], []⟩,
  ⟨.struct [(0, 30), (1, 30)], 2, 48, [.nils, .nils], []⟩,
  ⟨.struct [(0, 30), (1, 30)], 2, 48, [.nils, .nils], []⟩,
  ⟨.struct [(0, 3), (1, 3), (2, 57)], 4, 64, [.int .i64 0, .int .i64 0, .nils, .nils], []⟩,
  ⟨.struct [(0, 3), (1, 3), (2, 57)], 4, 64, [.int .i64 0, .int .i64 0, .nils, .nils], []⟩,
  ⟨.struct [(0, 30)], 1, 24, [.nils], []⟩,
  ⟨.struct [(0, 30)], 1, 24, [.nils], []⟩,
  ⟨.struct [(0, 3), (1, 3), (2, 59), (6, 59), (10, 4), (11, 57), (13, 61), (14, 3)], 15, 232, [.int .i64 0, .int .i64 0, .int .i64 0, .int .i64 0, .nils, .nils, .int .i64 0, .int .i64 0, .nils, .nils, .bool false, .nils, .nils, .nils, .int .i64 0], []⟩,
  ⟨.struct [(0, 3), (1, 3), (2, 59), (6, 59), (10, 4), (11, 57), (13, 61), (14, 3)], 15, 232, [.int .i64 0, .int .i64 0, .int .i64 0, .int .i64 0, .nils, .nils, .int .i64 0, .int .i64 0, .nils, .nils, .bool false, .nils, .nils, .nils, .int .i64 0], []⟩,
  ⟨.slice 30, 1, 24, [.nils], []⟩,
  ⟨.int .u64, 1, 8, [.int .u64 0], []⟩,
  ⟨.array 4 65, 4, 32, [.int .u64 0, .int .u64 0, .int .u64 0, .int .u64 0], [.i .u64, .i .u64, .i .u64, .i .u64]⟩,
  ⟨.array 4 65, 4, 32, [.int .u64 0, .int .u64 0, .int .u64 0, .int .u64 0], [.i .u64, .i .u64, .i .u64, .i .u64]⟩,
  ⟨.slice 70, 1, 24, [.nils], []⟩,
  ⟨.struct [(0, 3), (1, 3), (2, 3), (3, 3), (4, 67), (8, 68)], 9, 88, [.int .i64 0, .int .i64 0, .int .i64 0, .int .i64 0, .int .u64 0, .int .u64 0, .int .u64 0, .int .u64 0, .nils], []⟩,
  ⟨.struct [(0, 3), (1, 3), (2, 3), (3, 3), (4, 67), (8, 68)], 9, 88, [.int .i64 0, .int .i64 0, .int .i64 0, .int .i64 0, .int .u64 0, .int .u64 0, .int .u64 0, .int .u64 0, .nils], []⟩,
  ⟨.struct [(0, 3), (1, 3), (2, 70)], 11, 104, [.int .i64 0, .int .i64 0, .int .i64 0, .int .i64 0, .int .i64 0, .int .i64 0, .int .u64 0, .int .u64 0, .int .u64 0, .int .u64 0, .nils], []⟩,
  ⟨.struct [(0, 3), (1, 3), (2, 70)], 11, 104, [.int .i64 0, .int .i64 0, .int .i64 0, .int .i64 0, .int .i64 0, .int .i64 0, .int .u64 0, .int .u64 0, .int .u64 0, .int .u64 0, .nils], []⟩,
  ⟨.slice 124, 1, 24, [.nils], []⟩,
  ⟨.struct [(0, 72), (11, 72), (22, 4), (23, 5), (24, 9), (25, 70), (34, 73), (35, 4), (36, 4), (37, 3), (38, 9), (39, 9)], 40, 392, [.int .i64 0, .int .i64 0, .int .i64 0, .int .i64 0, .int .i64 0, .int .i64 0, .int .u64 0, .int .u64 0, .int .u64 0, .int .u64 0, .nils, .int .i64 0, .int .i64 0, .int .i64 0, .int .i64 0, .int .i64 0, .int .i64 0, .int .u64 0, .int .u64 0, .int .u64 0, .int .u64 0, .nils, .bool false, .int .u8 0, .str [], .int .i64 0, .int .i64 0, .int .i64 0, .int .i64 0, .int .u64 0, .int .u64 0, .int .u64 0, .int .u64 0, .nils, .nils, .bool false, .bool false, .int .i64 0, .str [], .str []], []⟩,
  ⟨.struct [(0, 72), (11, 72), (22, 4), (23, 5), (24, 9), (25, 70), (34, 73), (35, 4), (36, 4), (37, 3), (38, 9), (39, 9)], 40, 392, [.int .i64 0, .int .i64 0, .int .i64 0, .int .i64 0, .int .i64 0, .int .i64 0, .int .u64 0, .int .u64 0, .int .u64 0, .int .u64 0, .nils, .int .i64 0, .int .i64 0, .int .i64 0, .int .i64 0, .int .i64 0, .int .i64 0, .int .u64 0, .int .u64 0, .int .u64 0, .int .u64 0, .nils, .bool false, .int .u8 0, .str [], .int .i64 0, .int .i64 0, .int .i64 0, .int .i64 0, .int .u64 0, .int .u64 0, .int .u64 0, .int .u64 0, .nils, .nils, .bool false, .bool false, .int .i64 0, .str [], .str []], []⟩,
  ⟨.fn, 1, 8, [.nilf], []⟩,
  ⟨.fn, 1, 8, [.nilf], []⟩,
  ⟨.struct [(0, 3), (1, 4), (2, 9)], 3, 32, [.int .i64 0, .bool false, .str []], []⟩,
  ⟨.struct [(0, 3), (1, 4), (2, 9)], 3, 32, [.int .i64 0, .bool false, .str []], [.i .i64, .b, .s]⟩,
  noTI,
  ⟨.fn, 1, 8, [.nilf], []⟩,
  ⟨.fn, 1, 8, [.nilf], []⟩,
  ⟨.fn, 1, 8, [.nilf], []⟩,
  ⟨.fn, 1, 8, [.nilf], []⟩,
  ⟨.fn, 1, 8, [.nilf], []⟩,
  ⟨.fn, 1, 8, [.nilf], []⟩,
  ⟨.fn, 1, 8, [.nilf], []⟩,
  ⟨.flo, 1, 8, [.flo 0], []⟩,
  ⟨.fn, 1, 8, [.nilf], []⟩,
  ⟨.fn, 1, 8, [.nilf], []⟩,
  ⟨.fn, 1, 8, [.nilf], []⟩,
  ⟨.ptr 94, 1, 8, [.nilp], []⟩,
  ⟨.struct [(0, 44), (1, 4)], 2, 32, [.nils, .bool false], []⟩,
  ⟨.struct [(0, 44), (1, 4)], 2, 32, [.nils, .bool false], []⟩,
  ⟨.fn, 1, 8, [.nilf], []⟩,
  ⟨.fn, 1, 8, [.nilf], []⟩,
  ⟨.fn, 1, 8, [.nilf], []⟩,
  ⟨.fn, 1, 8, [.nilf], []⟩,
  ⟨.fn, 1, 8, [.nilf], []⟩,
  ⟨.fn, 1, 8, [.nilf], []⟩,
  ⟨.fn, 1, 8, [.nilf], []⟩,
  ⟨.fn, 1, 8, [.nilf], []⟩,
  ⟨.fn, 1, 8, [.nilf], []⟩,
  ⟨.fn, 1, 8, [.nilf], []⟩,
  ⟨.fn, 1, 8, [.nilf], []⟩,
  ⟨.fn, 1, 8, [.nilf], []⟩,
  ⟨.slice 4, 1, 24, [.nils], []⟩,
  ⟨.fn, 1, 8, [.nilf], []⟩,
  ⟨.fn, 1, 8, [.nilf], []⟩,
  ⟨.fn, 1, 8, [.nilf], []⟩,
  ⟨.fn, 1, 8, [.nilf], []⟩,
  ⟨.fn, 1, 8, [.nilf], []⟩,
  ⟨.fn, 1, 8, [.nilf], []⟩,
  ⟨.fn, 1, 8, [.nilf], []⟩,
  ⟨.fn, 1, 8, [.nilf], []⟩,
  ⟨.int .u32, 1, 4, [.int .u32 0], []⟩,
  ⟨.int .u64, 1, 8, [.int .u64 0], []⟩,
  ⟨.fn, 1, 8, [.nilf], []⟩,
  ⟨.ptr 3, 1, 8, [.nilp], []⟩,
  ⟨.struct [(0, 57), (2, 4), (3, 119), (4, 119), (5, 119)], 6, 80, [.nils, .nils, .bool false, .nilp, .nilp, .nilp], []⟩,
  ⟨.struct [(0, 57), (2, 4), (3, 119), (4, 119), (5, 119)], 6, 80, [.nils, .nils, .bool false, .nilp, .nilp, .nilp], []⟩,
  ⟨.fn, 1, 8, [.nilf], []⟩,
  ⟨.struct [(0, 3), (1, 9)], 2, 24, [.int .i64 0, .str []], []⟩,
  ⟨.struct [(0, 3), (1, 9)], 2, 24, [.int .i64 0, .str []], [.i .i64, .s]⟩,
  ⟨.struct [(0, 3), (1, 3)], 2, 16, [.int .i64 0, .int .i64 0], []⟩,
  ⟨.struct [(0, 3), (1, 3)], 2, 16, [.int .i64 0, .int .i64 0], [.i .i64, .i .i64]⟩,
  ⟨.array 4 126, 8, 64, [.int .i64 0, .int .i64 0, .int .i64 0, .int .i64 0, .int .i64 0, .int .i64 0, .int .i64 0, .int .i64 0], [.i .i64, .i .i64, .i .i64, .i .i64, .i .i64, .i .i64, .i .i64, .i .i64]⟩,
  ⟨.array 4 126, 8, 64, [.int .i64 0, .int .i64 0, .int .i64 0, .int .i64 0, .int .i64 0, .int .i64 0, .int .i64 0, .int .i64 0], [.i .i64, .i .i64, .i .i64, .i .i64, .i .i64, .i .i64, .i .i64, .i .i64]⟩,
  noTI,
  ⟨.fn, 1, 8, [.nilf], []⟩,
  ⟨.fn, 1, 8, [.nilf], []⟩,
  ⟨.fn, 1, 8, [.nilf], []⟩,
  noTI,
  ⟨.fn, 1, 8, [.nilf], []⟩,
  ⟨.fn, 1, 8, [.nilf], []⟩,
  ⟨.fn, 1, 8, [.nilf], []⟩,
  ⟨.fn, 1, 8, [.nilf], []⟩,
  ⟨.struct [(0, 3), (1, 128)], 9, 72, [.int .i64 0, .int .i64 0, .int .i64 0, .int .i64 0, .int .i64 0, .int .i64 0, .int .i64 0, .int .i64 0, .int .i64 0], []⟩,
  ⟨.struct [(0, 3), (1, 128)], 9, 72, [.int .i64 0, .int .i64 0, .int .i64 0, .int .i64 0, .int .i64 0, .int .i64 0, .int .i64 0, .int .i64 0, .int .i64 0], [.i .i64, .i .i64, .i .i64, .i .i64, .i .i64, .i .i64, .i .i64, .i .i64, .i .i64]⟩,
  ⟨.slice 139, 1, 24, [.nils], []⟩,
  ⟨.fn, 1, 8, [.nilf], []⟩,
  ⟨.slice 145, 1, 24, [.nils], []⟩,
  ⟨.fn, 1, 8, [.nilf], []⟩,
  ⟨.struct [(0, 3), (1, 128)], 9, 72, [.int .i64 0, .int .i64 0, .int .i64 0, .int .i64 0, .int .i64 0, .int .i64 0, .int .i64 0, .int .i64 0, .int .i64 0], []⟩,
  ⟨.struct [(0, 3), (1, 128)], 9, 72, [.int .i64 0, .int .i64 0, .int .i64 0, .int .i64 0, .int .i64 0, .int .i64 0, .int .i64 0, .int .i64 0, .int .i64 0], [.i .i64, .i .i64, .i .i64, .i .i64, .i .i64, .i .i64, .i .i64, .i .i64, .i .i64]⟩,
  ⟨.fn, 1, 8, [.nilf], []⟩,
  ⟨.ptr 149, 1, 8, [.nilp], []⟩,
  ⟨.struct [(0, 4), (1, 3)], 2, 16, [.bool false, .int .i64 0], []⟩,
  ⟨.struct [(0, 4), (1, 3)], 2, 16, [.bool false, .int .i64 0], [.b, .i .i64]⟩,
  ⟨.fn, 1, 8, [.nilf], []⟩,
  ⟨.fn, 1, 8, [.nilf], []⟩,
  ⟨.struct [(0, 9), (1, 4)], 2, 24, [.str [], .bool false], []⟩,
  ⟨.struct [(0, 9), (1, 4)], 2, 24, [.str [], .bool false], [.s, .b]⟩,
  ⟨.fn, 1, 8, [.nilf], []⟩,
  ⟨.map 177 142, 1, 8, [.nilm], []⟩,
  ⟨.struct [(0, 9), (1, 4), (2, 155)], 3, 32, [.str [], .bool false, .nilm], []⟩,
  ⟨.struct [(0, 9), (1, 4), (2, 155)], 3, 32, [.str [], .bool false, .nilm], []⟩,
  ⟨.fn, 1, 8, [.nilf], []⟩,
  noTI,
  ⟨.fn, 1, 8, [.nilf], []⟩,
  ⟨.fn, 1, 8, [.nilf], []⟩,
  ⟨.fn, 1, 8, [.nilf], []⟩,
  ⟨.fn, 1, 8, [.nilf], []⟩,
  ⟨.ptr 169, 1, 8, [.nilp], []⟩,
  ⟨.fn, 1, 8, [.nilf], []⟩,
  ⟨.fn, 1, 8, [.nilf], []⟩,
  ⟨.map 139 4, 1, 8, [.nilm], []⟩,
  ⟨.struct [(0, 140), (1, 167)], 2, 32, [.nils, .nilm], []⟩,
  ⟨.struct [(0, 140), (1, 167)], 2, 32, [.nils, .nilm], []⟩,
  ⟨.fn, 1, 8, [.nilf], []⟩,
  ⟨.ptr 174, 1, 8, [.nilp], []⟩,
  ⟨.map 184 4, 1, 8, [.nilm], []⟩,
  ⟨.struct [(0, 153), (2, 70), (11, 164), (12, 172)], 13, 128, [.str [], .bool false, .int .i64 0, .int .i64 0, .int .i64 0, .int .i64 0, .int .u64 0, .int .u64 0, .int .u64 0, .int .u64 0, .nils, .nilp, .nilm], []⟩,
  ⟨.struct [(0, 153), (2, 70), (11, 164), (12, 172)], 13, 128, [.str [], .bool false, .int .i64 0, .int .i64 0, .int .i64 0, .int .i64 0, .int .u64 0, .int .u64 0, .int .u64 0, .int .u64 0, .nils, .nilp, .nilm], []⟩,
  ⟨.fn, 1, 8, [.nilf], []⟩,
  ⟨.struct [(0, 3), (1, 145)], 10, 80, [.int .i64 0, .int .i64 0, .int .i64 0, .int .i64 0, .int .i64 0, .int .i64 0, .int .i64 0, .int .i64 0, .int .i64 0, .int .i64 0], []⟩,
  ⟨.struct [(0, 3), (1, 145)], 10, 80, [.int .i64 0, .int .i64 0, .int .i64 0, .int .i64 0, .int .i64 0, .int .i64 0, .int .i64 0, .int .i64 0, .int .i64 0, .int .i64 0], [.i .i64, .i .i64, .i .i64, .i .i64, .i .i64, .i .i64, .i .i64, .i .i64, .i .i64, .i .i64]⟩,
  noTI,
  ⟨.fn, 1, 8, [.nilf], []⟩,
  ⟨.fn, 1, 8, [.nilf], []⟩,
  ⟨.fn, 1, 8, [.nilf], []⟩,
  ⟨.fn, 1, 8, [.nilf], []⟩,
  ⟨.struct [(0, 3), (1, 139)], 10, 80, [.int .i64 0, .int .i64 0, .int .i64 0, .int .i64 0, .int .i64 0, .int .i64 0, .int .i64 0, .int .i64 0, .int .i64 0, .int .i64 0], []⟩,
  ⟨.struct [(0, 3), (1, 139)], 10, 80, [.int .i64 0, .int .i64 0, .int .i64 0, .int .i64 0, .int .i64 0, .int .i64 0, .int .i64 0, .int .i64 0, .int .i64 0, .int .i64 0], [.i .i64, .i .i64, .i .i64, .i .i64, .i .i64, .i .i64, .i .i64, .i .i64, .i .i64, .i .i64]⟩,
  ⟨.fn, 1, 8, [.nilf], []⟩,
  ⟨.fn, 1, 8, [.nilf], []⟩,
  ⟨.fn, 1, 8, [.nilf], []⟩,
  ⟨.fn, 1, 8, [.nilf], []⟩,
  ⟨.fn, 1, 8, [.nilf], []⟩,
  ⟨.struct [(0, 17), (1, 17), (2, 17), (3, 9)], 4, 40, [.nilp, .nilp, .nilp, .str []], []⟩,
  ⟨.struct [(0, 17), (1, 17), (2, 17), (3, 9)], 4, 40, [.nilp, .nilp, .nilp, .str []], []⟩,
  ⟨.array 0 16, 0, 0, [], []⟩,
  ⟨.struct [(0, 192)], 0, 0, [], []⟩,
  ⟨.struct [(0, 192)], 0, 0, [], []⟩,
  ⟨.int .u8, 1, 1, [.int .u8 0], []⟩,
  ⟨.int .u8, 1, 1, [.int .u8 0], []⟩,
  ⟨.fn, 1, 8, [.nilf], []⟩,
  ⟨.ptr 5, 1, 8, [.nilp], []⟩,
  ⟨.int .i32, 1, 4, [.int .i32 0], []⟩,
  ⟨.int .i32, 1, 4, [.int .i32 0], []⟩,
  ⟨.struct [(0, 12), (1, 12), (2, 116), (3, 195), (4, 5), (5, 5), (6, 196), (7, 197), (8, 198), (9, 199), (10, 200)], 11, 48, [.int .u64 0, .int .u64 0, .int .u32 0, .int .u8 0, .int .u8 0, .int .u8 0, .int .u8 0, .nilf, .nilp, .int .i32 0, .int .i32 0], []⟩,
  ⟨.struct [(0, 12), (1, 12), (2, 116), (3, 195), (4, 5), (5, 5), (6, 196), (7, 197), (8, 198), (9, 199), (10, 200)], 11, 48, [.int .u64 0, .int .u64 0, .int .u32 0, .int .u8 0, .int .u8 0, .int .u8 0, .int .u8 0, .nilf, .nilp, .int .i32 0, .int .i32 0], []⟩,
  ⟨.uptr, 1, 8, [.nilp], []⟩]
def tb : Tab := tabOf tl
theorem tok : TabOk Try.prog tb := tab_ok (by kernel_rfl)
theorem mixed : Try.prog.follows .mixedOrders = true := by kernel_rfl
end Go.Proofs.Ytpoegfkajdbplaa
namespace Go.Dm
open Go.RowKit
set_option linter.unusedVariables false
set_option linter.unusedSimpArgs false
section
variable {n : Nat} {ks : List Nat} {σ σ' : St} {g : G} {w : World}
end
end Go.Dm
namespace Go.Dm
set_option linter.unusedVariables false
inductive YT where
  | done
  | go (i : SItem) (c : Option Op) (p : YT)
  | alt (i : SItem) (p q : YT)
  | stop
  | sub (s p : YT)
  | goc (i : SItem) (p : YT)
  deriving Inhabited
inductive YCode where
  | skip
  | ops (l : List SItem)
  | tree (t : YT)
  | any (n : Nat) (fb : Unit → Plan)
  | seq (a b : YCode)
  | cond (c : Operand) (a b : YCode)
  | block (id : Nat) (c : YCode)
  | loop (c : YCode)
  | exit (id : Nat)
  | ret
  | bad
  deriving Inhabited
inductive PT where
  | done
  | go (i : Nat) (c : Bool) (p : PT)
  | alt (i : Nat) (p q : PT)
  | stop
  | sub (s p : PT)
  | goc (i : Nat) (p : PT)
  deriving Inhabited
abbrev Hints := List (Nat × PT)
def hintAt (id : Nat) : Hints → Option PT
  | [] => none
  | (j, s) :: r => match Nat.beq j id with | true => some s | false => hintAt id r
def ytree (tb : Tab) (ops : Array Oper) : PT → Option YT
  | .done => some .done
  | .stop => some .stop
  | .go i c p =>
    (match ops[i]? with
    | none => none
    | some o => (match ytree tb ops p with | none => none | some t => some (.go (sitem tb ops o) (match c with | true => none | false => some o.op) t)))
  | .alt i p q =>
    (match ops[i]? with
    | none => none
    | some o => (match ytree tb ops p with
      | none => none
      | some t => (match ytree tb ops q with | none => none | some u => some (.alt (sitem tb ops o) t u))))
  | .sub s p =>
    (match ytree tb ops s with
    | none => none
    | some t => (match ytree tb ops p with | none => none | some u => some (.sub t u)))
  | .goc i p =>
    (match ops[i]? with
    | none => none
    | some o => (match ytree tb ops p with | none => none | some t => some (.goc (sitem tb ops o) t)))
def PT.alts : PT → List Nat
  | .alt i _ q => i :: q.alts
  | _ => []
def nilB (l : List Nat) : Bool := match l with | [] => true | _ => false
def natsB : List Nat → List Nat → Bool
  | [], [] => true
  | a :: l, b :: r => (match Nat.beq a b with | true => natsB l r | false => false)
  | _, _ => false
def readS : SOp → Bool
  | .mv _ | .pick .. | .bin .. | .un .. | .load .. | .fa .. | .fld .. | .ixr .. | .ixa .. | .chr .. | .len .. | .ext .. | .nilc _ => true
  | _ => false
def addS : SOp → Bool
  | .alloc _ | .box _ => true
  | _ => false
def rowS : SOp → Bool
  | .app .. => true
  | .bsl _ _ _ _ parts => (match parts with | [] => true | _ => false)
  | _ => false
def calmY (tb : Tab) (stl : Op → Bool) (ops : Array Oper) (listed : Array Bool) (i : Nat) (o : Op) : Bool :=
  stl o && (calmAt stl ops listed i || (readS (comp tb o) && calmAt (fun o => stl o || addS (comp tb o)) ops listed i))
def ptOk (tb : Tab) (stl : Op → Bool) (ops : Array Oper) : PT → Bool → (Nat → Array Bool → Bool) → Nat → Array Bool → Bool
  | .done, top, k, n, listed => top && k n listed
  | .go i c p, top, k, n, listed =>
    (match n with
    | 0 => false
    | n + 1 =>
      match top && ((Region.ready .any ops listed).contains i && freeAt ops listed i && (match c, ops[i]? with | _, none => false | true, some o => calmY tb stl ops listed i o.op | false, some _ => true)) with
      | true => ptOk tb stl ops p true k n (listed.setIfInBounds i true)
      | false => false)
  | .alt i p q, top, k, n, listed =>
    (match n with
    | 0 => false
    | n + 1 =>
      match (match top with | true => natsB (Region.ready .any ops listed) (i :: q.alts) | false => true) with
      | true => (match ptOk tb stl ops p true k n (listed.setIfInBounds i true) with | true => ptOk tb stl ops q false k (n + 1) listed | false => false)
      | false => false)
  | .stop, top, _, _, _ => !top
  | .sub s p, top, k, n, listed => top && ptOk tb stl ops s true (fun n' l' => ptOk tb stl ops p true k n' l') n listed
  | .goc i p, top, k, n, listed =>
    (match n with
    | 0 => false
    | n + 1 =>
      match top && ((Region.ready .any ops listed).contains i && freeAt ops listed i && (match ops[i]? with | none => false | some o => stl o.op && calmAt (fun o => stl o || (addS (comp tb o) || rowS (comp tb o))) ops listed i)) with
      | true => ptOk tb stl ops p true k n (listed.setIfInBounds i true)
      | false => false)
def allRun (ops : Array Oper) (_ : Nat) (listed : Array Bool) : Bool := nilB (Region.ready .any ops listed)
def planOf (tb : Tab) (stl : Op → Bool) (ops : Array Oper) : Plan := plan stl (ops.toList.map (sitem tb ops)) ops ops.size (Array.replicate ops.size false)
def ycomp (tb : Tab) (stl : Op → Bool) (H : Hints) : Code → YCode
  | .skip => .skip
  | .region id ops draw =>
    (match draw with
    | false => .ops (ops.toList.map (sitem tb ops))
    | true =>
      match hintAt id H with
      | some s => (match ytree tb ops s with | some t => .tree t | none => .bad)
      | none => .any ops.size (fun _ => planOf tb stl ops))
  | .seq a b => .seq (ycomp tb stl H a) (ycomp tb stl H b)
  | .cond c a b => .cond c (ycomp tb stl H a) (ycomp tb stl H b)
  | .block id c => .block id (ycomp tb stl H c)
  | .loop c => .loop (ycomp tb stl H c)
  | .exit id => .exit id
  | .label _ => .skip
  | .ret => .ret
  | _ => .bad
def hintsOk (tb : Tab) (stl : Op → Bool) (H : Hints) : Code → Bool
  | .region id ops draw =>
    (match draw with
    | false => true
    | true => (match hintAt id H with | some s => ptOk tb stl ops s true (allRun ops) ops.size (Array.replicate ops.size false) | none => true))
  | .seq a b => (match hintsOk tb stl H a with | true => hintsOk tb stl H b | false => false)
  | .cond _ a b => (match hintsOk tb stl H a with | true => hintsOk tb stl H b | false => false)
  | .block _ c => hintsOk tb stl H c
  | .loop c => hintsOk tb stl H c
  | _ => true
structure YFun where
  m : Nat
  code : YCode
  rs : List ResultVar
  deriving Inhabited
def yfunOf (P : Program) (tb : Tab) (stl : Op → Bool) (H : Hints) (f : FuncId) : Option YFun :=
  match P.funcs[f]? with
  | none => none
  | some fn =>
    match fn.body with
    | none => none
    | some c => (match fn.name == "runtime.NumGoroutine" with | true => none | false => some ⟨fn.ntmps, ycomp tb stl H c, fn.results.toList⟩)
def yhintOk (P : Program) (tb : Tab) (stl : Op → Bool) (H : Hints) (f : FuncId) : Bool :=
  match P.funcs[f]? with
  | none => false
  | some fn => (match fn.body with | none => false | some c => hintsOk tb stl H c)
def movOp : Op → Bool
  | .move _ | .assign _ => true
  | _ => false
structure Ent (P : Program) (tb : Tab) (stl : Op → Bool) where
  f : Nat
  H : Hints
  F : YFun
  ok : yfunOf P tb stl H f = some F
  chk : yhintOk P tb stl H f = true
end Go.Dm
namespace Go.Dm
open Go.RowKit
set_option linter.unusedVariables false
set_option linter.unusedSimpArgs false
section
variable {P : Program} {tb : Tab}
theorem nilB_eq {l : List Nat} (h : nilB l = true) : l = [] := by cases l with | nil => rfl | cons => cases h
theorem natsB_eq : ∀ {a b : List Nat}, natsB a b = true → a = b
  | [], [], _ => rfl
  | x :: l, y :: r, h => by
    simp only [natsB] at h
    split at h
    · rename_i hb; rw [beq_nat hb, natsB_eq h]
    · cases h
  | [], _ :: _, h => by cases h
  | _ :: _, [], h => by cases h
def Lv (stl : Op → Bool) (tb : Tab) (ops : Array Oper) (i : Nat) (σ σ' : St) : Prop :=
  ∀ o, ops[i]? = some o → (stl o.op = true → σ' = σ) ∧ (addS (comp tb o.op) = true → ∃ new, σ' = σ ++ new)
def pAnyG (P : Program) (tb : Tab) (ops : Array Oper) (R : Nat → St → St → Prop) (K : Fr → St → Prop) : Nat → Array Bool → Fr → St → Prop
  | 0, listed, fr, σ => Region.ready .any ops listed = [] ∧ K fr σ
  | fuel + 1, listed, fr, σ => (Region.ready .any ops listed = [] → K fr σ) ∧
    ∀ i ∈ Region.ready .any ops listed, ∀ o, ops[i]? = some o → pOne P noF tb ops o (fun fr' σ' => R i σ σ' ∧ pAnyG P tb ops R K fuel (listed.setIfInBounds i true) fr' σ') fr σ
def Adds (σ σ' : St) : Prop := ∃ new, σ' = σ ++ new
def PTSays (P : Program) (tb : Tab) (ps : FuncId → Bool) (ops : Array Oper) (m : Nat) (K : Fr → St → Prop) (s : PT) (top : Bool) (n : Nat) (listed : Array Bool) (t : FT) (σ : St) : Prop :=
  match top with
  | true => pAnyG P tb ops (Lv (stlOf tb ps) tb ops) K n listed (frT m t) σ
  | false => ∀ n', n = n' + 1 → ∀ i ∈ s.alts, ∀ o, ops[i]? = some o →
      pOne P noF tb ops o (fun fr' σ' => (Lv (stlOf tb ps) tb ops i σ σ') ∧ pAnyG P tb ops (Lv (stlOf tb ps) tb ops) K n' (listed.setIfInBounds i true) fr' σ') (frT m t) σ
theorem hints_two {x y : Bool} (h : (match x with | true => y | false => false) = true) : x = true ∧ y = true := by cases x <;> cases y <;> first | exact ⟨rfl, rfl⟩ | cases h
theorem yfunOf_spec {stl : Op → Bool} {H : Hints} {f : FuncId} {F : YFun} (h : yfunOf P tb stl H f = some F) : ∃ fn c, P.funcs[f]? = some fn ∧ fn.body = some c ∧ (fn.name == "runtime.NumGoroutine") = false ∧ F = ⟨fn.ntmps, ycomp tb stl H c, fn.results.toList⟩ := by
  unfold yfunOf at h
  split at h
  · cases h
  · rename_i fn hf
    split at h
    · cases h
    · rename_i c hb
      split at h
      · cases h
      · rename_i hn
        cases h
        exact ⟨fn, c, hf, hb, hn, rfl⟩
end
end Go.Dm
namespace Go.Dm
set_option linter.unusedVariables false
set_option linter.unusedSimpArgs false
structure Qr where
  icmp : BinOp → Int → Int → (Bool → Prop) → Prop
  iar : BinOp → IntKind → Int → Int → (Int → Prop) → Prop
  scmp : BinOp → List UInt8 → List UInt8 → (Bool → Prop) → Prop
  sapp : List UInt8 → List UInt8 → (List UInt8 → Prop) → Prop
  slen : List UInt8 → (Int → Prop) → Prop
  len : Nat → (Int → Prop) → Prop
  schr : List UInt8 → Int → (Int → Prop) → Prop
  ssub : List UInt8 → Option Int → Option Int → (List UInt8 → Prop) → Prop
  idx : Int → Nat → Nat → (Nat → Prop) → Prop
  off : Nat → Nat → (Nat → Prop) → Prop
  eqN : Nat → Nat → Prop → Prop
  getF : List F → Nat → (F → Prop) → Prop
  cutF : List F → Nat → Nat → (List F → Prop) → Prop
  frow : Nat → List F → Nat → Option Int → Option Int → (Nat → List F → Prop) → Prop
  rrow : Nat → List F → Nat → Int → (Nat → List F → Prop) → Prop
  new : Nat → List F → Nat → Nat → Prop → Prop
  app : Nat → List F → Nat → List F → Nat → (Nat → List F → Prop) → Prop
  src : Nat → List F → Nat → (Nat → List F → Prop) → Prop
  wrap : IntKind → Int → (Int → Prop) → Prop
  fsum : BinOp → Nat → Nat → (Nat → Prop) → Prop
  fcmp : BinOp → Nat → Nat → (Bool → Prop) → Prop
def isAr : BinOp → Bool
  | .add | .sub | .mul | .and | .or | .xor | .andNot => true
  | _ => false
def isDiv : BinOp → Bool
  | .quo | .rem => true
  | _ => false
def isSh : BinOp → Bool
  | .shl | .shr => true
  | _ => false
def isCmp : BinOp → Bool
  | .eql | .neq | .lss | .leq | .gtr | .geq => true
  | _ => false
def qprims : Qr where
  icmp op a b K := isCmp op = true ∧ K (bcmp op a b)
  iar op k a b K := ((isAr op = true) ∨ (isDiv op = true ∧ b ≠ 0) ∨ (isSh op = true ∧ 0 ≤ b)) ∧ K (barith op k a b)
  scmp op a b K := isCmp op = true ∧ K (bscmp op a b)
  sapp a b K := a.length + b.length ≤ 9223372036854775807 ∧ K (a ++ b)
  slen s K := K s.length
  len n K := K n
  schr s i K := (0 ≤ i ∧ i < s.length) ∧ K (s.getD i.toNat 0).toNat
  ssub s lo hi K := (0 ≤ lo.getD 0 ∧ lo.getD 0 ≤ hi.getD s.length ∧ hi.getD s.length ≤ s.length) ∧ K ((s.drop (lo.getD 0).toNat).take ((hi.getD s.length).toNat - (lo.getD 0).toNat))
  idx j n sz K := (0 ≤ j ∧ j < n) ∧ K (j.toNat * sz)
  off a b K := K (a + b)
  eqN a b K := a = b ∧ K
  getF l i K := match l[i]? with | some x => K x | none => False
  cutF l i n K := i + n ≤ l.length ∧ K ((l.drop i).take n)
  frow n cs sz lo hi K := match lo, hi with | none, none => K n cs | lo, hi => (0 ≤ lo.getD 0 ∧ lo.getD 0 ≤ hi.getD n ∧ hi.getD n ≤ n) ∧ K ((hi.getD n).toNat - (lo.getD 0).toNat) ((cs.drop ((lo.getD 0).toNat * sz)).take (((hi.getD n).toNat - (lo.getD 0).toNat) * sz))
  rrow n l sz b K := (0 ≤ b ∧ b ≤ n) ∧ K b.toNat (l.take (b.toNat * sz))
  new m l bytes ty K := m * bytes ≤ 140737488355328 ∧ m ≤ 9223372036854775807 ∧ ty ≤ 4294967295 ∧ K
  app n l m r bytes K := (n + m) * bytes ≤ 140737488355328 ∧ n + m ≤ 9223372036854775807 ∧ K (n + m) (l ++ r)
  src n cs sz K := cs.length = n * sz ∧ K n cs
  wrap k n K := K (k.wrap n)
  fsum op a b K := match (match op with | .add => floatBits .add .f64 a b | .sub => floatBits .sub .f64 a b | _ => none) with | some r => K r | none => False
  fcmp op a b K := isCmp op = true ∧ K (bfcmp op a b)
structure Wx where
  Q : Qr
  pk : FuncId → List V → (V → Prop) → Prop
  ca : FuncId → List V → St → (V → St → Prop) → Prop
  J : ((Exit → List (Nat × V) → List Ob → Prop) → Prop) → (Exit → List (Nat × V) → List Ob → Prop) → Prop
abbrev wx (P : Program) : Wx := ⟨qprims, PureK P, CallAt P, fun F K => ∃ Q, F Q ∧ ∀ e A σ, Q e A σ → K e A σ⟩
def Wx.mx (X : Wx) : Mx := ⟨prims, X.pk, X.ca⟩
def wbin (Q : Qr) (d : TD) (op : BinOp) (x y : V) (k : V → Prop) : Prop :=
  match x, y with
  | .c (.f (.int j a)), .c (.f (.int j' b)) =>
    (match isSh op with
    | true => Q.iar op j a b fun r => k (.c (.f (.int j r)))
    | false =>
      same j j' (match isCmp op with
        | true => Q.icmp op a b fun r => k (.c (.f (.bool r)))
        | false => Q.iar op j a b fun r => k (.c (.f (.int j r)))))
  | .c (.f (.str a)), .c (.f (.str b)) =>
    (match isCmp op with
    | true => Q.scmp op a b fun r => k (.c (.f (.bool r)))
    | false => (match op with | .add => Q.sapp a b fun r => k (.c (.f (.str r))) | _ => False))
  | .c (.f (.flo a)), .c (.f (.flo b)) =>
    (match isCmp op with
    | true => Q.fcmp op a b fun r => k (.c (.f (.bool r)))
    | false => Q.fsum op a b fun r => k (.c (.f (.flo r))))
  | .c (.f (.cpl a b)), .c (.f (.cpl c e)) =>
    (match op with
    | .add => Q.fsum .add a c fun r => Q.fsum .add b e fun i => k (.c (.f (.cpl r i)))
    | .sub => Q.fsum .sub a c fun r => Q.fsum .sub b e fun i => k (.c (.f (.cpl r i)))
    | .eql => Q.fcmp .eql a c fun r => Q.fcmp .eql b e fun i => k (.c (.f (.bool (r && i))))
    | .neq => Q.fcmp .eql a c fun r => Q.fcmp .eql b e fun i => k (.c (.f (.bool (!(r && i)))))
    | _ => False)
  | x, y => vbin prims d op x y k
def wload (Q : Qr) (agg : Bool) (n : Nat) (x : V) (σ : St) (k : V → Prop) : Prop :=
  match x with
  | .c (.ep cs off) => (match agg with | true => Q.cutF cs off n fun r => k (.a (r.map .f)) | false => Q.getF cs off fun x => k (.c (.f x)))
  | .c (.pa o e off) =>
    (match σ[o]? with
    | some (.arr _ e0 _ l) => Q.eqN e e0 (match agg with | true => Q.cutF l off n fun r => k (.a (r.map .f)) | false => Q.getF l off fun x => k (.c (.f x)))
    | _ => False)
  | x => vload prims agg n x σ k
def wmore (Q : Qr) (off fo : Nat) (k : Nat → Prop) : Prop := match fo with | 0 => k off | m + 1 => Q.off off (m + 1) k
def wfield (Q : Qr) (x : V) (fo : Nat) (σ : St) (k : V → Prop) : Prop :=
  match x with
  | .c (.ptr o off) => k (.c (.ptr o (off + fo)))
  | .c (.ep cs off) => wmore Q off fo fun i => k (.c (.ep cs i))
  | .c (.pa o e off) =>
    (match σ[o]? with
    | some (.arr _ e0 _ _) => Q.eqN e e0 (wmore Q off fo fun i => k (.c (.pa o e i)))
    | _ => False)
  | _ => False
def wixrow (Q : Qr) (sz : Nat) (x i : V) (σ : St) (k : V → Prop) : Prop :=
  match x, i with
  | .c (.f (.sl n cs)), .c (.f (.int _ j)) => Q.idx j n sz fun i => k (.c (.ep cs i))
  | .c (.rs o ep n), .c (.f (.int _ j)) =>
    (match σ[o]? with
    | some (.arr _ e0 _ _) => Q.eqN ep e0 (Q.idx j n sz fun i => k (.c (.pa o ep i)))
    | _ => False)
  | _, _ => False
def wlen (Q : Qr) (d : TD) (x : V) (σ : St) (k : V → Prop) : Prop :=
  match d, x with
  | .str, .c (.f (.str s)) => Q.slen s fun n => k (.c (.f (.int .i64 n)))
  | .slice _, .c (.rs o e n) =>
    (match σ[o]? with
    | some (.arr _ e0 _ _) => Q.eqN e e0 (Q.len n fun i => k (.c (.f (.int .i64 i))))
    | _ => False)
  | .slice _, .c (.f (.sl n cs)) => Q.len n fun i => k (.c (.f (.int .i64 i)))
  | d, x => vlen prims d x σ k
def wsrc (Q : Qr) (d : TD) (sz : Nat) (x : V) (σ : St) (k : Nat → List F → Prop) : Prop :=
  match d, x with
  | .slice _, .c (.f (.sl n cs)) => Q.src n cs sz k
  | .slice _, .c (.rs o e n) =>
    (match σ[o]? with
    | some (.arr _ e0 s0 l) => Q.eqN e e0 (Q.eqN sz s0 (k n l))
    | _ => False)
  | d, x => vsrc prims d sz x σ k
def wappend (Q : Qr) (d : TD) (ty sz bytes : Nat) (x y : V) (σ : St) (k : V → St → Prop) : Prop :=
  wsrc Q d sz y σ fun m new =>
  match x with
  | .c (.f .nils) =>
    (match m with
    | 0 => k (.c (.f .nils)) σ
    | m + 1 => Q.new (m + 1) new bytes ty (k (.c (.rs σ.length ty (m + 1))) (σ ++ [.arr true ty sz new])))
  | .c (.rs o e n) =>
    (match σ[o]? with
    | some (.arr w e0 s0 l) => Q.eqN e e0 (Q.eqN sz s0 (Q.eqN (e0 % 4294967296) ty (Q.app n l m new bytes fun n' l' => k (.c (.rs o (e0 + 4294967296) n')) (σ.set o (.arr w (e0 + 4294967296) sz l')))))
    | _ => False)
  | _ => False
def iOf : Option V → Option (Option Int)
  | none => some none
  | some (.c (.f (.int _ a))) => some (some a)
  | _ => none
def wslice (Q : Qr) (d : TD) (sz : Nat) (x : V) (lo hi : Option V) (σ : St) (k : V → St → Prop) : Prop :=
  match d, x, iOf lo, iOf hi with
  | .str, .c (.f (.str s)), some a, some b => Q.ssub s a b fun r => k (.c (.f (.str r))) σ
  | .slice _, .c (.f (.sl n cs)), some a, some b => Q.frow n cs sz a b fun n' cs' => k (.c (.f (.sl n' cs'))) σ
  | d, x, _, _ => sslice prims d sz x lo hi σ k
def wop (X : Wx) (pf : FuncId → Bool) (tb : Tab) (m : Nat) (s : SOp) (A : AF) (σ : St) (k : V → St → Prop) : Prop :=
  match s with
  | .bin d op x y => wbin X.Q d op (opA A x) (opA A y) fun v => k v σ
  | .load agg n x => wload X.Q agg n (addr (opA A x)) σ fun v => k v σ
  | .fa off x => wfield X.Q (addr (opA A x)) off σ fun v => k v σ
  | .ixr sz x i => wixrow X.Q sz (addr (opA A x)) (opA A i) σ fun v => k v σ
  | .chr x i =>
    (match opA A x, opA A i with
    | .c (.f (.str s)), .c (.f (.int _ j)) => X.Q.schr s j fun r => k (.c (.f (.int .u8 r))) σ
    | _, _ => False)
  | .len d x => wlen X.Q d (opA A x) σ fun v => k v σ
  | .app d ty sz bytes x y => wappend X.Q d ty sz bytes (opA A x) (opA A y) σ k
  | .slc d sz x lo hi => wslice X.Q d sz (opA A x) (lo.map (opA A)) (hi.map (opA A)) σ k
  | .raw (.convert s d x) =>
    (match (tb s).d, (tb d).d, opA A x with
    | .int _, .int j, .c (.f (.int _ n)) => X.Q.wrap j n fun r => k (.c (.f (.int j r))) σ
    | _, _, _ => vopA X.mx pf tb m (.raw (.convert s d x)) A σ k)
  | s => vopA X.mx pf tb m s A σ k
section
variable {P : Program} {pf : FuncId → Bool} {tb : Tab} {m : Nat}
theorem same_of {j j' : IntKind} {p q : Prop} (h : same j j' p) (hpq : p → q) : same j j' q := by
  cases j <;> cases j' <;> first | exact hpq h | exact h
theorem wbin_ok {d : TD} {op : BinOp} {x y : V} {k : V → Prop} (h : wbin qprims d op x y k) : vbin prims d op x y k := by
  unfold wbin at h
  split at h
  · rename_i j a j' b
    cases op <;> simp only [isSh, isCmp] at h <;> first
      | exact ⟨by have := h.1; simp [isAr, isDiv, isSh] at this; exact this, h.2⟩
      | exact same_of h fun h => h.2
      | (exact same_of h fun h => ⟨by have := h.1; simp [isAr, isDiv, isSh] at this; exact this, h.2⟩)
      | (refine same_of h fun h => ?_; have := h.1; simp [isAr, isDiv, isSh] at this; done)
  · rename_i a b
    cases op <;> simp only [isCmp] at h <;> first
      | exact h.2
      | exact ⟨h.1, h.2⟩
      | exact h.elim
  · rename_i a b
    cases op <;> simp only [isCmp] at h <;> first
      | exact h.2
      | exact h
      | (have h' : False := h; exact h'.elim)
  · rename_i a b c e
    cases op <;> first
      | exact h.2.2
      | exact h
      | (have h' : False := h; exact h'.elim)
  · exact h
theorem wload_ok {agg : Bool} {n : Nat} {x : V} {σ : St} {k : V → Prop} (h : wload qprims agg n x σ k) : vload prims agg n x σ k := by
  unfold wload at h
  split at h
  · unfold vload
    cases agg <;> exact h
  · rename_i o e off
    unfold vload
    split at h
    · rename_i wr e0 sz l ho
      simp only [ho]
      cases agg <;> exact h
    · exact h.elim
  · exact h
theorem wmore_ok {off fo : Nat} {k : Nat → Prop} (h : wmore qprims off fo k) : k (vmore prims off fo) := by
  cases fo <;> exact h
theorem wfield_ok {x : V} {fo : Nat} {σ : St} {k : V → Prop} (h : wfield qprims x fo σ k) : vfield prims x fo σ k := by
  unfold wfield at h
  unfold vfield
  split at h
  · exact h
  · exact wmore_ok (k := fun i => k (.c (.ep _ i))) h
  · split at h
    · rename_i wr e0 sz l ho
      simp only [ho]
      exact ⟨h.1, wmore_ok (k := fun i => k (.c (.pa _ _ i))) h.2⟩
    · exact h.elim
  · exact h.elim
theorem wixrow_ok {sz : Nat} {x i : V} {σ : St} {k : V → Prop} (h : wixrow qprims sz x i σ k) : ixrow prims sz x i σ k := by
  unfold wixrow at h
  unfold ixrow
  split at h
  · exact ⟨h.1, h.2⟩
  · split at h
    · rename_i wr e0 s0 l ho
      simp only [ho]
      exact ⟨h.1, h.2.1, h.2.2⟩
    · exact h.elim
  · exact h.elim
theorem wlen_ok {d : TD} {x : V} {σ : St} {k : V → Prop} (h : wlen qprims d x σ k) : vlen prims d x σ k := by
  unfold wlen at h
  split at h
  · exact h
  · unfold vlen
    split at h
    · rename_i wr e0 sz l ho
      simp only [ho]
      exact h
    · exact h.elim
  · exact h
  · exact h
theorem wsrc_ok {d : TD} {sz : Nat} {x : V} {σ : St} {k : Nat → List F → Prop} (h : wsrc qprims d sz x σ k) : vsrc prims d sz x σ k := by
  unfold wsrc at h
  split at h
  · unfold vsrc; exact ⟨h.1, h.2⟩
  · unfold vsrc
    split at h
    · rename_i wr e0 s0 l ho
      simp only [ho]
      exact ⟨h.1, h.2.1, h.2.2⟩
    · exact h.elim
  · exact h
theorem vsrc_mono {d : TD} {sz : Nat} {x : V} {σ : St} {k k' : Nat → List F → Prop} (hk : ∀ n l, k n l → k' n l) (h : vsrc prims d sz x σ k) : vsrc prims d sz x σ k' := by
  unfold vsrc at h ⊢
  split at h
  · exact hk _ _ h
  · exact ⟨h.1, hk _ _ h.2⟩
  · split at h
    · exact ⟨h.1, h.2.1, hk _ _ h.2.2⟩
    · exact h.elim
  · exact ⟨h.1, hk _ _ h.2⟩
  · exact h.elim
theorem wappend_ok {d : TD} {ty sz bytes : Nat} {x y : V} {σ : St} {k : V → St → Prop} (h : wappend qprims d ty sz bytes x y σ k) : vappend prims d ty sz bytes x y σ k := by
  unfold wappend at h
  unfold vappend
  refine vsrc_mono (fun n l h => ?_) (wsrc_ok h)
  split at h
  · cases n <;> exact h
  · split at h
    · rename_i w e0 s0 l' ho
      simp only [ho]
      exact ⟨h.1, h.2.1, h.2.2.2.1, h.2.2.2.2.1, h.2.2.1, h.2.2.2.2.2⟩
    · exact h.elim
  · exact h.elim
theorem iOf_spec {lo : Option V} {a : Option Int} (h : iOf lo = some a) : (lo = none ∧ a = none) ∨ ∃ k n, lo = some (.c (.f (.int k n))) ∧ a = some n := by
  unfold iOf at h
  split at h
  · cases h; exact .inl ⟨rfl, rfl⟩
  · cases h; exact .inr ⟨_, _, rfl, rfl⟩
  · cases h
theorem wslice_ok {d : TD} {sz : Nat} {x : V} {lo hi : Option V} {σ : St} {k : V → St → Prop} (h : wslice qprims d sz x lo hi σ k) : sslice prims d sz x lo hi σ k := by
  unfold wslice at h
  split at h
  · rename_i s a b ha hb
    obtain ⟨h1, h2⟩ := h
    have h1 : 0 ≤ a.getD 0 ∧ a.getD 0 ≤ b.getD s.length ∧ b.getD s.length ≤ s.length := h1
    rcases iOf_spec ha with ⟨rfl, rfl⟩ | ⟨k1, n1, rfl, rfl⟩ <;> rcases iOf_spec hb with ⟨rfl, rfl⟩ | ⟨k2, n2, rfl, rfl⟩ <;> unfold sslice <;> simp only [Option.getD_none, Option.getD_some] at h1 h2 ⊢
    · simpa using h2
    · exact ⟨⟨by omega, by omega, by show n2 ≤ (s.length : Int); omega⟩, h2⟩
    · exact ⟨⟨by omega, by omega, by show n1 ≤ (s.length : Int); omega⟩, h2⟩
    · exact ⟨⟨by omega, by omega, by show n2 ≤ (s.length : Int); omega⟩, ⟨by omega, by omega, by omega⟩, h2⟩
  · rename_i e n cs a b ha hb
    rcases iOf_spec ha with ⟨rfl, rfl⟩ | ⟨k1, n1, rfl, rfl⟩ <;> rcases iOf_spec hb with ⟨rfl, rfl⟩ | ⟨k2, n2, rfl, rfl⟩ <;> unfold sslice
    · exact h
    · obtain ⟨h1, h2⟩ := h
      simp only [Option.getD_none, Option.getD_some] at h1 h2
      refine ⟨⟨by omega, by omega, by show n2 ≤ (n : Int); omega⟩, ?_⟩
      show k (.c (.f (.sl n2.toNat ((cs.drop 0).take (n2.toNat * sz))))) σ
      simpa using h2
    · obtain ⟨h1, h2⟩ := h
      simp only [Option.getD_none, Option.getD_some] at h1 h2
      refine ⟨⟨by omega, by omega, by show n1 ≤ (n : Int); omega⟩, ?_⟩
      show k (.c (.f (.sl (n - n1.toNat) ((cs.drop (n1.toNat * sz)).take ((n - n1.toNat) * sz))))) σ
      simpa using h2
    · obtain ⟨h1, h2⟩ := h
      simp only [Option.getD_some] at h1 h2
      exact ⟨⟨by omega, by omega, by show n2 ≤ (n : Int); omega⟩, ⟨by omega, by omega, by omega⟩, h2⟩
  · exact h
theorem wop_ok {s : SOp} {A : AF} (hA : inA m A) {σ : St} {k : V → St → Prop} (h : wop (wx P) pf tb m s A σ k) : vopA (mx P) pf tb m s A σ k := by
  cases s with
  | bin d op x y => exact wbin_ok (k := fun v => k v σ) h
  | load agg n x => exact wload_ok (k := fun v => k v σ) h
  | fa off x => exact wfield_ok (k := fun v => k v σ) h
  | ixr sz x i => exact wixrow_ok (k := fun v => k v σ) h
  | chr x i =>
    simp only [wop] at h
    simp only [vopA, ixchr]
    split at h
    · rename_i s kd j e1 e2
      simp only [e1, e2]
      exact ⟨h.1, h.2⟩
    · exact h.elim
  | len d x => exact wlen_ok (k := fun v => k v σ) h
  | app d ty sz bytes x y => exact wappend_ok h
  | slc d sz x lo hi => exact wslice_ok h
  | raw o =>
    cases o with
    | convert s d x =>
      simp only [wop] at h
      split at h
      · rename_i a j kd n e1 e2 e3
        show vdo (mx P) pf tb (.convert s d x) (toFr m A) σ k
        have e : opd (toFr m A) = opA A := funext (toFr_opd hA)
        simp only [vdo, vop2, extraB, vop, vconv, e, e1, e2, e3]
        exact h
      · exact h
    | _ => exact h
  | _ => exact h
end
end Go.Dm
namespace Go.Dm
open Go.RowKit
set_option linter.unusedVariables false
set_option linter.unusedSimpArgs false
set_option linter.unusedSectionVars false
section
variable {P : Program} {pf : FuncId → Bool} {tb : Tab} {m : Nat}
theorem at_add {σ : St} {o : Nat} {ob : Ob} (h : σ[o]? = some ob) (new : St) : (σ ++ new)[o]? = some ob := by
  rw [List.getElem?_append_left (List.getElem?_eq_some_iff.1 h).1]; exact h
theorem getK_any {l : List F} {i : Nat} {K : F → Prop} (h : prims.getK l i K) : ∃ x, K x ∧ ∀ K' : F → Prop, K' x → prims.getK l i K' := by
  have h' : (match l[i]? with | some x => K x | none => False) := h
  cases hx : l[i]? with
  | none => rw [hx] at h'; exact h'.elim
  | some x =>
    rw [hx] at h'
    refine ⟨x, h', fun K' hk => ?_⟩
    show (match l[i]? with | some x => K' x | none => False)
    rw [hx]; exact hk
theorem cutK_any {l : List F} {i n : Nat} {K : List F → Prop} (h : prims.cutK l i n K) : ∃ x, K x ∧ ∀ K' : List F → Prop, K' x → prims.cutK l i n K' :=
  ⟨_, h.2, fun K' hk => ⟨h.1, hk⟩⟩
theorem vload_add {agg : Bool} {n : Nat} {x : V} {σ : St} {k : V → Prop} (h : vload prims agg n x σ k) : ∃ r, k r ∧ ∀ (new : St) (k' : V → Prop), k' r → vload prims agg n x (σ ++ new) k' := by
  unfold vload at h
  split at h
  · rename_i o off
    split at h
    · rename_i l ho
      split at h
      · split at h
        · rename_i r hr
          exact ⟨_, h, fun new k' hk => by unfold vload; simp only [at_add ho new, hr]; exact hk⟩
        · exact h.elim
      · split at h
        · rename_i c hc
          exact ⟨_, h, fun new k' hk => by unfold vload; simp only [at_add ho new, hc]; exact hk⟩
        · exact h.elim
    · rename_i b u y ho
      split at h
      · exact ⟨_, h, fun new k' hk => by unfold vload; simp only [at_add ho new]; exact hk⟩
      · exact ⟨_, h, fun new k' hk => by unfold vload; simp only [at_add ho new]; exact hk⟩
      · exact h.elim
    · exact h.elim
  · split at h
    · obtain ⟨r, h1, h2⟩ := cutK_any h
      exact ⟨_, h1, fun new k' hk => by unfold vload; exact h2 (fun r => k' (.a (r.map .f))) hk⟩
    · obtain ⟨r, h1, h2⟩ := getK_any h
      exact ⟨_, h1, fun new k' hk => by unfold vload; exact h2 (fun r => k' (.c (.f r))) hk⟩
  · rename_i o e off
    split at h
    · rename_i wr e0 sz l ho
      obtain ⟨he, h⟩ := h
      split at h
      · obtain ⟨r, h1, h2⟩ := cutK_any h
        exact ⟨_, h1, fun new k' hk => by unfold vload; simp only [at_add ho new]; exact ⟨he, h2 (fun r => k' (.a (r.map .f))) hk⟩⟩
      · obtain ⟨r, h1, h2⟩ := getK_any h
        exact ⟨_, h1, fun new k' hk => by unfold vload; simp only [at_add ho new]; exact ⟨he, h2 (fun r => k' (.c (.f r))) hk⟩⟩
    · exact h.elim
  · exact h.elim
theorem vfield_add {x : V} {fo : Nat} {σ : St} {k : V → Prop} (h : vfield prims x fo σ k) : ∃ r, k r ∧ ∀ (new : St) (k' : V → Prop), k' r → vfield prims x fo (σ ++ new) k' := by
  unfold vfield at h
  split at h
  · exact ⟨_, h, fun new k' hk => by unfold vfield; exact hk⟩
  · exact ⟨_, h, fun new k' hk => by unfold vfield; exact hk⟩
  · split at h
    · rename_i wr e0 sz l ho
      exact ⟨_, h.2, fun new k' hk => by unfold vfield; simp only [at_add ho new]; exact ⟨h.1, hk⟩⟩
    · exact h.elim
  · exact h.elim
theorem ixrow_add {sz : Nat} {x i : V} {σ : St} {k : V → Prop} (h : ixrow prims sz x i σ k) : ∃ r, k r ∧ ∀ (new : St) (k' : V → Prop), k' r → ixrow prims sz x i (σ ++ new) k' := by
  unfold ixrow at h
  split at h
  · exact ⟨_, h.2, fun new k' hk => by unfold ixrow; exact ⟨h.1, hk⟩⟩
  · split at h
    · rename_i wr e0 sz l ho
      exact ⟨_, h.2.2, fun new k' hk => by unfold ixrow; simp only [at_add ho new]; exact ⟨h.1, h.2.1, hk⟩⟩
    · exact h.elim
  · exact h.elim
theorem ixarr_add {n sz : Nat} {x i : V} {σ : St} {k : V → Prop} (h : ixarr prims n sz x i σ k) : ∃ r, k r ∧ ∀ (new : St) (k' : V → Prop), k' r → ixarr prims n sz x i (σ ++ new) k' := by
  unfold ixarr at h
  split at h
  · obtain ⟨h1, h2, h3⟩ := h
    exact ⟨_, h3, fun new k' hk => by unfold ixarr; exact ⟨h1, h2, hk⟩⟩
  · obtain ⟨h1, h2, h3⟩ := h
    exact ⟨_, h3, fun new k' hk => by unfold ixarr; exact ⟨h1, h2, hk⟩⟩
  · split at h
    · rename_i wr e0 sz l ho
      obtain ⟨h0, h1, h2, h3⟩ := h
      exact ⟨_, h3, fun new k' hk => by unfold ixarr; simp only [at_add ho new]; exact ⟨h0, h1, h2, hk⟩⟩
    · exact h.elim
  · exact h.elim
theorem vlen_add {d : TD} {x : V} {σ : St} {k : V → Prop} (h : vlen prims d x σ k) : ∃ r, k r ∧ ∀ (new : St) (k' : V → Prop), k' r → vlen prims d x (σ ++ new) k' := by
  unfold vlen at h
  split at h
  · exact ⟨_, h, fun new k' hk => by unfold vlen; exact hk⟩
  · exact ⟨_, h, fun new k' hk => by unfold vlen; exact hk⟩
  · exact ⟨_, h, fun new k' hk => by unfold vlen; exact hk⟩
  · split at h
    · rename_i wr e0 sz l ho
      exact ⟨_, h.2, fun new k' hk => by unfold vlen; simp only [at_add ho new]; exact ⟨h.1, hk⟩⟩
    · exact h.elim
  · exact h.elim
theorem vopA_add {s : SOp} (hs : readS s = true) {A : AF} {σ : St} {k : V → St → Prop} (h : vopA (mx P) pf tb m s A σ k) :
    ∃ r, k r σ ∧ ∀ (new : St) (k' : V → St → Prop), k' r (σ ++ new) → vopA (mx P) pf tb m s A (σ ++ new) k' := by
  cases s <;> simp only [readS] at hs <;> first
    | cases hs
    | skip
  case mv x => exact ⟨_, h, fun new k' hk => hk⟩
  case pick c a b => obtain ⟨r, h1, h2⟩ := vpick_any (show vpick (opA A c) (opA A a) (opA A b) (fun v => k v σ) from h); exact ⟨r, h1, fun new k' hk => h2 (fun v => k' v (σ ++ new)) hk⟩
  case bin d op x y => obtain ⟨r, h1, h2⟩ := vbin_any (show vbin prims d op (opA A x) (opA A y) (fun v => k v σ) from h); exact ⟨r, h1, fun new k' hk => h2 (fun v => k' v (σ ++ new)) hk⟩
  case un op x => obtain ⟨r, h1, h2⟩ := vun_any (show vun prims op (opA A x) (fun v => k v σ) from h); exact ⟨r, h1, fun new k' hk => h2 (fun v => k' v (σ ++ new)) hk⟩
  case load agg n x => obtain ⟨r, h1, h2⟩ := vload_add (show vload prims agg n (addr (opA A x)) σ (fun v => k v σ) from h); exact ⟨r, h1, fun new k' hk => h2 new (fun v => k' v (σ ++ new)) hk⟩
  case fa off x => obtain ⟨r, h1, h2⟩ := vfield_add (show vfield prims (addr (opA A x)) off σ (fun v => k v σ) from h); exact ⟨r, h1, fun new k' hk => h2 new (fun v => k' v (σ ++ new)) hk⟩
  case fld agg off n x =>
    simp only [vopA] at h ⊢
    split at h
    · rename_i l hl
      obtain ⟨r, h1, h2⟩ := part_any h
      exact ⟨r, h1, fun new k' hk => h2 (fun v => k' v (σ ++ new)) hk⟩
    · exact h.elim
  case ixr sz x i => obtain ⟨r, h1, h2⟩ := ixrow_add (show ixrow prims sz (addr (opA A x)) (opA A i) σ (fun v => k v σ) from h); exact ⟨r, h1, fun new k' hk => h2 new (fun v => k' v (σ ++ new)) hk⟩
  case ixa n sz x i => obtain ⟨r, h1, h2⟩ := ixarr_add (show ixarr prims n sz (addr (opA A x)) (opA A i) σ (fun v => k v σ) from h); exact ⟨r, h1, fun new k' hk => h2 new (fun v => k' v (σ ++ new)) hk⟩
  case chr x i =>
    simp only [vopA] at h ⊢
    unfold ixchr at h
    split at h
    · rename_i s kd j e1 e2
      exact ⟨_, h.2, fun new k' hk => by unfold ixchr; rw [e1, e2]; exact ⟨h.1, hk⟩⟩
    · exact h.elim
  case len d x => obtain ⟨r, h1, h2⟩ := vlen_add (show vlen prims d (opA A x) σ (fun v => k v σ) from h); exact ⟨r, h1, fun new k' hk => h2 new (fun v => k' v (σ ++ new)) hk⟩
  case ext x i =>
    simp only [vopA] at h ⊢
    split at h
    · rename_i l hl
      split at h
      · rename_i v hv
        exact ⟨v, h, fun new k' hk => hk⟩
      · exact h.elim
    · exact h.elim
  case nilc x =>
    simp only [vopA] at h ⊢
    split at h
    · rename_i o off e; exact ⟨_, h, fun new k' hk => hk⟩
    · rename_i cs e; exact ⟨_, h, fun new k' hk => hk⟩
    · rename_i cs off e; exact ⟨_, h, fun new k' hk => hk⟩
    · rename_i o e' off e
      split at h
      · rename_i wr e0 sz l ho
        exact ⟨_, h.2, fun new k' hk => by simp only [at_add ho new]; exact ⟨h.1, hk⟩⟩
      · exact h.elim
    · exact h.elim
theorem sslice_add {d : TD} {sz : Nat} {x : V} {lo hi : Option V} {σ : St} {k : V → St → Prop} (hx : farV x = false) (h : sslice prims d sz x lo hi σ k) :
    ∃ r, k r σ ∧ ∀ (new : St) (k' : V → St → Prop), k' r (σ ++ new) → sslice prims d sz x lo hi (σ ++ new) k' := by
  unfold sslice at h
  split at h
  · split at h
    · exact ⟨_, h, fun new k' hk => by unfold sslice; exact hk⟩
    · exact ⟨_, h.2, fun new k' hk => by unfold sslice; exact ⟨h.1, hk⟩⟩
    · exact ⟨_, h.2, fun new k' hk => by unfold sslice; exact ⟨h.1, hk⟩⟩
    · exact ⟨_, h.2.2, fun new k' hk => by unfold sslice; exact ⟨h.1, h.2.1, hk⟩⟩
    · exact h.elim
  · split at h
    · exact ⟨_, h.2, fun new k' hk => by unfold sslice; exact ⟨h.1, hk⟩⟩
    · exact ⟨_, h.2, fun new k' hk => by unfold sslice; exact ⟨h.1, hk⟩⟩
    · exact ⟨_, h.2.2, fun new k' hk => by unfold sslice; exact ⟨h.1, h.2.1, hk⟩⟩
    · exact ⟨_, h, fun new k' hk => by unfold sslice; exact hk⟩
    · exact h.elim
  · split at h
    · exact ⟨_, h.2, fun new k' hk => by unfold sslice; exact ⟨h.1, hk⟩⟩
    · exact ⟨_, h.2, fun new k' hk => by unfold sslice; exact ⟨h.1, hk⟩⟩
    · exact ⟨_, h.2.2, fun new k' hk => by unfold sslice; exact ⟨h.1, h.2.1, hk⟩⟩
    · exact ⟨_, h, fun new k' hk => by unfold sslice; exact hk⟩
    · exact h.elim
  · cases hx
  · exact h.elim
def readR : SOp → Bool
  | .slc .. => true
  | s => readS s
def okR (s : SOp) (A : AF) : Prop := match s with | .slc _ _ x _ _ => farV (opA A x) = false | _ => True
class Pures where
  f : Nat → Bool
def pcall [Pures] (s : SOp) : Bool := match s with | .call (.func f) _ => Pures.f f | _ => false
def stlW [Pures] (tb : Tab) (o : Op) : Bool := readR (comp tb o) || pcall (comp tb o)
theorem vopR_add {s : SOp} (hs : readR s = true) {A : AF} (hA : okR s A) {σ : St} {k : V → St → Prop} (h : vopA (mx P) pf tb m s A σ k) :
    ∃ r, k r σ ∧ ∀ (new : St) (k' : V → St → Prop), k' r (σ ++ new) → vopA (mx P) pf tb m s A (σ ++ new) k' := by
  by_cases hsl : ∃ d sz x lo hi, s = .slc d sz x lo hi
  · obtain ⟨d, sz, x, lo, hi, rfl⟩ := hsl
    exact sslice_add (k := k) hA h
  · have hs' : readS s = true := by cases s <;> first | exact hs | exact absurd ⟨_, _, _, _, _, rfl⟩ hsl
    exact vopA_add hs' h
def Rows (σ σ' : St) : Prop := ∀ (o : Nat) (ob : Ob), σ[o]? = some ob → ob.row = false → σ'[o]? = some ob
theorem Rows.refl (σ : St) : Rows σ σ := fun _ _ h _ => h
theorem Rows.trans {a b c : St} (h : Rows a b) (k : Rows b c) : Rows a c := fun o ob h1 h2 => k o ob (h o ob h1 h2) h2
theorem Rows.add (σ new : St) : Rows σ (σ ++ new) := fun o ob h _ => at_add h new
theorem Rows.set {σ : St} {o : Nat} {w : Bool} {e sz : Nat} {l : List F} (h : σ[o]? = some (.arr w e sz l)) (ob' : Ob) : Rows σ (σ.set o ob') := fun i ob hi hr => by
  rw [List.getElem?_set]
  split
  · rename_i e; subst e; rw [h] at hi; cases hi; cases hr
  · exact hi
theorem far_addr {x : V} : farV (addr x) = farV x := by
  unfold addr
  split <;> rfl
theorem vload_rows {agg : Bool} {n : Nat} {x : V} {σ : St} {k : V → Prop} (hx : farV x = false) (h : vload prims agg n x σ k) : ∃ r, k r ∧ ∀ (σ' : St) (k' : V → Prop), Rows σ σ' → k' r → vload prims agg n x σ' k' := by
  unfold vload at h
  split at h
  · rename_i o off
    split at h
    · rename_i l ho
      split at h
      · split at h
        · rename_i r hr
          exact ⟨_, h, fun σ' k' hR hk => by unfold vload; simp only [hR o _ ho rfl, hr]; exact hk⟩
        · exact h.elim
      · split at h
        · rename_i c hc
          exact ⟨_, h, fun σ' k' hR hk => by unfold vload; simp only [hR o _ ho rfl, hc]; exact hk⟩
        · exact h.elim
    · rename_i b u y ho
      split at h
      · exact ⟨_, h, fun σ' k' hR hk => by unfold vload; simp only [hR o _ ho rfl]; exact hk⟩
      · exact ⟨_, h, fun σ' k' hR hk => by unfold vload; simp only [hR o _ ho rfl]; exact hk⟩
      · exact h.elim
    · exact h.elim
  · split at h
    · obtain ⟨r, h1, h2⟩ := cutK_any h
      exact ⟨_, h1, fun σ' k' hR hk => by unfold vload; exact h2 (fun r => k' (.a (r.map .f))) hk⟩
    · obtain ⟨r, h1, h2⟩ := getK_any h
      exact ⟨_, h1, fun σ' k' hR hk => by unfold vload; exact h2 (fun r => k' (.c (.f r))) hk⟩
  · cases hx
  · exact h.elim
theorem vfield_rows {x : V} {fo : Nat} {σ : St} {k : V → Prop} (hx : farV x = false) (h : vfield prims x fo σ k) : ∃ r, k r ∧ ∀ (σ' : St) (k' : V → Prop), k' r → vfield prims x fo σ' k' := by
  unfold vfield at h
  split at h
  · exact ⟨_, h, fun σ' k' hk => by unfold vfield; exact hk⟩
  · exact ⟨_, h, fun σ' k' hk => by unfold vfield; exact hk⟩
  · cases hx
  · exact h.elim
theorem ixrow_rows {sz : Nat} {x i : V} {σ : St} {k : V → Prop} (hx : farV x = false) (h : ixrow prims sz x i σ k) : ∃ r, k r ∧ ∀ (σ' : St) (k' : V → Prop), k' r → ixrow prims sz x i σ' k' := by
  unfold ixrow at h
  split at h
  · exact ⟨_, h.2, fun σ' k' hk => by unfold ixrow; exact ⟨h.1, hk⟩⟩
  · cases hx
  · exact h.elim
theorem ixarr_rows {n sz : Nat} {x i : V} {σ : St} {k : V → Prop} (hx : farV x = false) (h : ixarr prims n sz x i σ k) : ∃ r, k r ∧ ∀ (σ' : St) (k' : V → Prop), k' r → ixarr prims n sz x i σ' k' := by
  unfold ixarr at h
  split at h
  · obtain ⟨h1, h2, h3⟩ := h
    exact ⟨_, h3, fun σ' k' hk => by unfold ixarr; exact ⟨h1, h2, hk⟩⟩
  · obtain ⟨h1, h2, h3⟩ := h
    exact ⟨_, h3, fun σ' k' hk => by unfold ixarr; exact ⟨h1, h2, hk⟩⟩
  · cases hx
  · exact h.elim
theorem vlen_rows {d : TD} {x : V} {σ : St} {k : V → Prop} (hx : farV x = false) (h : vlen prims d x σ k) : ∃ r, k r ∧ ∀ (σ' : St) (k' : V → Prop), k' r → vlen prims d x σ' k' := by
  unfold vlen at h
  split at h
  · exact ⟨_, h, fun σ' k' hk => by unfold vlen; exact hk⟩
  · exact ⟨_, h, fun σ' k' hk => by unfold vlen; exact hk⟩
  · exact ⟨_, h, fun σ' k' hk => by unfold vlen; exact hk⟩
  · cases hx
  · exact h.elim
theorem sslice_rows {d : TD} {sz : Nat} {x : V} {lo hi : Option V} {σ : St} {k : V → St → Prop} (hx : farV x = false) (h : sslice prims d sz x lo hi σ k) :
    ∃ r, k r σ ∧ ∀ (σ' : St) (k' : V → St → Prop), k' r σ' → sslice prims d sz x lo hi σ' k' := by
  unfold sslice at h
  split at h
  · split at h
    · exact ⟨_, h, fun σ' k' hk => by unfold sslice; exact hk⟩
    · exact ⟨_, h.2, fun σ' k' hk => by unfold sslice; exact ⟨h.1, hk⟩⟩
    · exact ⟨_, h.2, fun σ' k' hk => by unfold sslice; exact ⟨h.1, hk⟩⟩
    · exact ⟨_, h.2.2, fun σ' k' hk => by unfold sslice; exact ⟨h.1, h.2.1, hk⟩⟩
    · exact h.elim
  · split at h
    · exact ⟨_, h.2, fun σ' k' hk => by unfold sslice; exact ⟨h.1, hk⟩⟩
    · exact ⟨_, h.2, fun σ' k' hk => by unfold sslice; exact ⟨h.1, hk⟩⟩
    · exact ⟨_, h.2.2, fun σ' k' hk => by unfold sslice; exact ⟨h.1, h.2.1, hk⟩⟩
    · exact ⟨_, h, fun σ' k' hk => by unfold sslice; exact hk⟩
    · exact h.elim
  · split at h
    · exact ⟨_, h.2, fun σ' k' hk => by unfold sslice; exact ⟨h.1, hk⟩⟩
    · exact ⟨_, h.2, fun σ' k' hk => by unfold sslice; exact ⟨h.1, hk⟩⟩
    · exact ⟨_, h.2.2, fun σ' k' hk => by unfold sslice; exact ⟨h.1, h.2.1, hk⟩⟩
    · exact ⟨_, h, fun σ' k' hk => by unfold sslice; exact hk⟩
    · exact h.elim
  · cases hx
  · exact h.elim
def okC (s : SOp) (A : AF) : Prop :=
  match s with
  | .load _ _ x | .fa _ x | .nilc x | .ixa _ _ x _ | .ixr _ x _ | .len _ x | .slc _ _ x _ _ => farV (opA A x) = false
  | _ => True
theorem vopC_any {s : SOp} (hs : readR s = true) {A : AF} (hA : okC s A) {σ : St} {k : V → St → Prop} (h : vopA (mx P) pf tb m s A σ k) :
    ∃ r, k r σ ∧ ∀ (σ' : St) (k' : V → St → Prop), Rows σ σ' → k' r σ' → vopA (mx P) pf tb m s A σ' k' := by
  have fa : ∀ {x : Operand}, farV (opA A x) = false → farV (addr (opA A x)) = false := fun h => by rw [far_addr]; exact h
  cases s <;> simp only [readR, readS] at hs <;> first
    | cases hs
    | skip
  case mv x => exact ⟨_, h, fun σ' k' _ hk => hk⟩
  case pick c a b => obtain ⟨r, h1, h2⟩ := vpick_any (show vpick (opA A c) (opA A a) (opA A b) (fun v => k v σ) from h); exact ⟨r, h1, fun σ' k' _ hk => h2 (fun v => k' v σ') hk⟩
  case bin d op x y => obtain ⟨r, h1, h2⟩ := vbin_any (show vbin prims d op (opA A x) (opA A y) (fun v => k v σ) from h); exact ⟨r, h1, fun σ' k' _ hk => h2 (fun v => k' v σ') hk⟩
  case un op x => obtain ⟨r, h1, h2⟩ := vun_any (show vun prims op (opA A x) (fun v => k v σ) from h); exact ⟨r, h1, fun σ' k' _ hk => h2 (fun v => k' v σ') hk⟩
  case load agg n x => obtain ⟨r, h1, h2⟩ := vload_rows (fa hA) (show vload prims agg n (addr (opA A x)) σ (fun v => k v σ) from h); exact ⟨r, h1, fun σ' k' hR hk => h2 σ' (fun v => k' v σ') hR hk⟩
  case fa off x => obtain ⟨r, h1, h2⟩ := vfield_rows (fa hA) (show vfield prims (addr (opA A x)) off σ (fun v => k v σ) from h); exact ⟨r, h1, fun σ' k' hR hk => h2 σ' (fun v => k' v σ') hk⟩
  case fld agg off n x =>
    simp only [vopA] at h ⊢
    split at h
    · rename_i l hl
      obtain ⟨r, h1, h2⟩ := part_any h
      exact ⟨r, h1, fun σ' k' _ hk => h2 (fun v => k' v σ') hk⟩
    · exact h.elim
  case ixr sz x i => obtain ⟨r, h1, h2⟩ := ixrow_rows (fa hA) (show ixrow prims sz (addr (opA A x)) (opA A i) σ (fun v => k v σ) from h); exact ⟨r, h1, fun σ' k' hR hk => h2 σ' (fun v => k' v σ') hk⟩
  case ixa n sz x i => obtain ⟨r, h1, h2⟩ := ixarr_rows (fa hA) (show ixarr prims n sz (addr (opA A x)) (opA A i) σ (fun v => k v σ) from h); exact ⟨r, h1, fun σ' k' hR hk => h2 σ' (fun v => k' v σ') hk⟩
  case chr x i =>
    simp only [vopA] at h ⊢
    unfold ixchr at h
    split at h
    · rename_i s kd j e1 e2
      exact ⟨_, h.2, fun σ' k' _ hk => by unfold ixchr; rw [e1, e2]; exact ⟨h.1, hk⟩⟩
    · exact h.elim
  case len d x => obtain ⟨r, h1, h2⟩ := vlen_rows hA (show vlen prims d (opA A x) σ (fun v => k v σ) from h); exact ⟨r, h1, fun σ' k' hR hk => h2 σ' (fun v => k' v σ') hk⟩
  case slc d sz x lo hi => obtain ⟨r, h1, h2⟩ := sslice_rows (k := k) hA h; exact ⟨r, h1, fun σ' k' hR hk => h2 σ' k' hk⟩
  case ext x i =>
    simp only [vopA] at h ⊢
    split at h
    · rename_i l hl
      split at h
      · rename_i v hv
        exact ⟨v, h, fun σ' k' _ hk => hk⟩
      · exact h.elim
    · exact h.elim
  case nilc x =>
    simp only [vopA] at h ⊢
    split at h
    · rename_i o off e; exact ⟨_, h, fun σ' k' _ hk => hk⟩
    · rename_i cs e; exact ⟨_, h, fun σ' k' _ hk => hk⟩
    · rename_i cs off e; exact ⟨_, h, fun σ' k' _ hk => hk⟩
    · rename_i o e' off e
      have hA' : farV (opA A x) = false := hA
      rw [e] at hA'
      cases hA'
    · exact h.elim
theorem vfrzs_f : ∀ {fs : List F} {σ : St} {k : List F → St → Prop}, vfrzs prims (fs.map .f) σ k ↔ k fs σ
  | [], σ, k => Iff.rfl
  | f :: r, σ, k => by simp only [List.map_cons, vfrzs]; exact vfrzs_f (fs := r) (k := fun l σ' => k (f :: l) σ')
theorem vopA_rowS {s : SOp} (hs : rowS s = true) {A : AF} {σ : St} {k : V → St → Prop} (h : vopA (mx P) pf tb m s A σ k) : vopA (mx P) pf tb m s A σ fun v σ' => Rows σ σ' ∧ k v σ' := by
  cases s <;> simp only [rowS] at hs <;> first
    | cases hs
    | skip
  case app d ty sz bytes x y =>
    have h : vappend prims d ty sz bytes (opA A x) (opA A y) σ k := h
    have key : vappend prims d ty sz bytes (opA A x) (opA A y) σ (fun v σ' => Rows σ σ' ∧ k v σ') → vopA (mx P) pf tb m (.app d ty sz bytes x y) A σ fun v σ' => Rows σ σ' ∧ k v σ' := fun h => h
    refine key ?_
    unfold vappend at h ⊢
    refine vsrc_mono (fun n new hh => ?_) h
    split at hh
    · split at hh
      · exact ⟨Rows.refl _, hh⟩
      · obtain ⟨h1, h2, h3, h4⟩ := hh
        exact ⟨h1, h2, h3, Rows.add _ _, h4⟩
    · split at hh
      · rename_i ho
        obtain ⟨h1, h2, h3, h4, h5, h6⟩ := hh
        exact ⟨h1, h2, h3, h4, h5, Rows.set ho _, h6⟩
      · exact hh.elim
    · exact hh.elim
  case bsl n ty sz z parts =>
    cases parts with
    | cons p r => cases hs
    | nil =>
      simp only [vopA, sfillRow] at h ⊢
      rw [rep_repF] at h ⊢
      rw [vfrzs_f] at h ⊢
      exact ⟨Rows.add _ _, h⟩
variable [Pures]
def wpure (X : Wx) (A : AF) (s : SOp) (σ : St) (all : Bool) (k : V → Prop) : Prop :=
  match s with
  | .call (.func f) args => ∃ r, (match all with
    | true => ∀ σ', X.mx.ca f (args.map (opA A)) σ' fun r' σ'' => r' = r ∧ σ'' = σ'
    | false => ∀ new, X.mx.ca f (args.map (opA A)) (σ ++ new) fun r' σ'' => r' = r ∧ σ'' = σ ++ new) ∧ k r
  | _ => False
def wopR (X : Wx) (tb : Tab) (m : Nat) (all : Bool) (s : SOp) (A : AF) (σ : St) (k : V → St → Prop) : Prop :=
  match pcall s with
  | true => wpure X A s σ all fun v => k v σ
  | false => (match all with | true => okC s A | false => okR s A) ∧ wop X noF tb m s A σ k
theorem call_any {f : Nat} {args : List Operand} {A : AF} {σ : St} {r : V} (h : CallAt P f (args.map (opA A)) σ fun r' σ' => r' = r ∧ σ' = σ) {k : V → St → Prop} (hk : k r σ) : vopA (mx P) noF tb m (.call (.func f) args) A σ k := by
  show CallAt P f (args.map (opA A)) σ k
  exact h.mono fun r' σ' ⟨h1, h2⟩ => by subst h1 h2; exact hk
theorem wopR_any {all : Bool} {s : SOp} (hs : readR s = true ∨ pcall s = true) {A : AF} (hA : inA m A) {σ : St} {k : V → St → Prop} (h : wopR (wx P) tb m all s A σ k) :
    ∃ r, k r σ ∧ (all = false → ∀ (new : St) (k' : V → St → Prop), k' r (σ ++ new) → vopA (mx P) noF tb m s A (σ ++ new) k') ∧
      (all = true → ∀ (σ' : St) (k' : V → St → Prop), Rows σ σ' → k' r σ' → vopA (mx P) noF tb m s A σ' k') := by
  unfold wopR at h
  split at h
  · unfold wpure at h
    split at h
    · rename_i f args
      obtain ⟨r, h1, h2⟩ := h
      refine ⟨r, h2, fun e new k' hk => ?_, fun e σ' k' _ hk => ?_⟩
      · subst e
        exact call_any (h1 new) hk
      · subst e
        exact call_any (h1 σ') hk
    · exact h.elim
  · rename_i hp
    have hr := hs.resolve_right (fun e => by rw [hp] at e; cases e)
    obtain ⟨h0, h1⟩ := h
    have h1 := wop_ok hA h1
    cases all with
    | true =>
      obtain ⟨r, k1, k2⟩ := vopC_any hr h0 h1
      exact ⟨r, k1, fun e => (by cases e), fun _ => k2⟩
    | false =>
      obtain ⟨r, k1, k2⟩ := vopR_add hr h0 h1
      exact ⟨r, k1, fun _ => k2, fun e => (by cases e)⟩
def LvW (tb : Tab) (ops : Array Oper) (i : Nat) (σ σ' : St) : Prop :=
  ∀ o, ops[i]? = some o → (stlW tb o.op = true → σ' = σ) ∧ (addS (comp tb o.op) = true → ∃ new, σ' = σ ++ new) ∧ (rowS (comp tb o.op) = true → Rows σ σ')
theorem LvW.refl {ops : Array Oper} {i : Nat} {σ : St} : LvW tb ops i σ σ := fun o _ => ⟨fun _ => rfl, fun _ => ⟨[], by simp⟩, fun _ => Rows.refl σ⟩
def pAnyW (P : Program) (tb : Tab) (ops : Array Oper) (K : Fr → St → Prop) : Nat → Array Bool → Fr → St → Prop
  | 0, listed, fr, σ => Region.ready .any ops listed = [] ∧ K fr σ
  | fuel + 1, listed, fr, σ => (Region.ready .any ops listed = [] → K fr σ) ∧
    ∀ i ∈ Region.ready .any ops listed, ∀ o, ops[i]? = some o → pOne P noF tb ops o (fun fr' σ' => LvW tb ops i σ σ' ∧ pAnyW P tb ops K fuel (listed.setIfInBounds i true) fr' σ') fr σ
theorem pAnyW_weak {ops : Array Oper} {K : Fr → St → Prop} : ∀ (fuel : Nat) {listed : Array Bool} {fr : Fr} {σ : St}, pAnyW P tb ops K fuel listed fr σ → pAny P noF tb ops K fuel listed fr σ
  | 0, listed, fr, σ, h => h
  | fuel + 1, listed, fr, σ, h => ⟨h.1, fun i hi o ho => pOne_mono (h.2 i hi o ho) fun fr' σ' h' => pAnyW_weak fuel h'.2⟩
theorem pAnyW_first {ops : Array Oper} {K : Fr → St → Prop} {i : Nat} {oi : Oper} {r : V} (hi : ops[i]? = some oi) :
    ∀ (fuel : Nat) (listed : Array Bool) (fr : Fr) (σ : St),
      (∀ j oj, ops[j]? = some oj → j ≠ i → listed.getD j true = false → (∀ e ∈ oj.after, Region.binds .any e = true → e.on ≠ i) → oi.apart ops oj = true) →
      i ∈ Region.ready .any ops listed → PY P noF tb ops oi r fr →
      pAnyW P tb ops K fuel (listed.setIfInBounds i true) (fr.put oi.dst r) σ → pAnyW P tb ops K (fuel + 1) listed fr σ := by
  intro fuel
  induction fuel with
  | zero =>
    intro listed fr σ _ hr hy H
    refine ⟨fun h => (by rw [h] at hr; cases hr), fun j hj o ho => ?_⟩
    by_cases hji : j = i
    · subst hji
      rw [hi] at ho; cases ho
      exact hy σ _ ⟨LvW.refl, H⟩
    · have := ready_mono hj hji
      rw [H.1] at this
      cases this
  | succ fuel ih =>
    intro listed fr σ hfree hr hy H
    refine ⟨fun h => (by rw [h] at hr; cases hr), fun j hj oj hoj => ?_⟩
    by_cases hji : j = i
    · subst hji
      rw [hi] at hoj; cases hoj
      exact hy σ _ ⟨LvW.refl, H⟩
    · have h1 := H.2 j (ready_mono hj hji) oj hoj
      have hjun := (mem_ready.1 hj).1
      have h2 := pOne_put (hfree j oj hoj hji hjun (not_listed hr hoj hj)) hy h1
      refine pOne_mono h2 fun fr' σ' h3 => ⟨h3.2.1, ih (listed.setIfInBounds j true) fr' σ' (free_step hfree hjun) (ready_mono hr (Ne.symm hji)) h3.1 ?_⟩
      rw [Array.setIfInBounds_comm _ _ hji]
      exact h3.2.2
def PYw (P : Program) (tb : Tab) (ops : Array Oper) (o : Oper) (r : V) (fr : Fr) (σ : St) : Prop := ∀ (K : Fr → St → Prop), K (fr.put o.dst r) σ → pOne P noF tb ops o K fr σ
theorem PYw.put {ops : Array Oper} {oi oj : Oper} {r u : V} {fr : Fr} {σ : St} (hap : oi.apart ops oj = true) (h : PYw P tb ops oi r fr σ) : PYw P tb ops oi r (fr.put oj.dst u) σ := by
  obtain ⟨h1, h2, h3⟩ := Oper.apart_spec hap
  intro K hK
  have hc : ∀ v, (fr.put oj.dst u).put oi.dst v = (fr.put oi.dst v).put oj.dst u := fun v => (put_comm fr v u h2).symm
  have := h (fun f τ => K (f.put oj.dst u) τ) (by rw [← hc]; exact hK)
  unfold pOne at this ⊢
  rw [vguard_put h3]
  simp only [hc]
  rcases vguard_cases this with ⟨q1, q2⟩ | ⟨q1, q2⟩
  · exact q2 _ _ ((pdo_put h3).2 q1)
  · exact q2 _ _ q1
theorem pOne_putsW {ops : Array Oper} {Q : St → St → Prop} (hQ : ∀ σ, Q σ σ) {oi oj : Oper} {r : V} {fr : Fr} (hap : oi.apart ops oj = true) {K : Fr → St → Prop} {σ : St} (hy : ∀ σ', Q σ σ' → PYw P tb ops oi r fr σ') (hT : ∀ {a b c}, Q a b → Q b c → Q a c)
    (h : pOne P noF tb ops oj (fun fr' σ' => Q σ σ' ∧ K fr' σ') (fr.put oi.dst r) σ) :
    pOne P noF tb ops oj (fun fr' σ' => Q σ σ' ∧ (∀ σ'', Q σ' σ'' → PYw P tb ops oi r fr' σ'') ∧ K (fr'.put oi.dst r) σ') fr σ := by
  obtain ⟨h1, h2, h3⟩ := Oper.apart_spec hap
  have hc : ∀ v, (fr.put oi.dst r).put oj.dst v = (fr.put oj.dst v).put oi.dst r := fun v => put_comm fr r v h2
  unfold pOne at h ⊢
  rw [vguard_put h1] at h
  simp only [hc] at h
  rcases vguard_cases h with ⟨q1, q2⟩ | ⟨q1, q2⟩
  · exact q2 _ _ (pdo_mono ((pdo_put h1).1 q1) fun v σ' hh => ⟨hh.1, fun σ'' hq => (hy σ'' (hT hh.1 hq)).put hap, hh.2⟩)
  · exact q2 _ _ ⟨hQ σ, fun σ'' hq => (hy σ'' hq).put hap, q1.2⟩
theorem pAnyW_calm {ops : Array Oper} {Q : St → St → Prop} (hQ : ∀ σ, Q σ σ) (hT : ∀ {a b c}, Q a b → Q b c → Q a c) {K : Fr → St → Prop} {i : Nat} {oi : Oper} {r : V} (hi : ops[i]? = some oi) (D : Nat → Bool)
    (hDr : ∀ j, D j = true → ∃ o, ops[j]? = some o) (hD : ∀ j oj, ops[j]? = some oj → D j = true → ∃ e ∈ oj.after, Region.binds .any e = true ∧ (e.on = i ∨ D e.on = true)) :
    ∀ (fuel : Nat) (listed : Array Bool) (fr : Fr) (σ : St),
      (∀ j oj, ops[j]? = some oj → j ≠ i → listed.getD j true = false → (∀ e ∈ oj.after, Region.binds .any e = true → e.on ≠ i) → oi.apart ops oj = true) →
      (∀ j oj, ops[j]? = some oj → D j = true → listed.getD j true = false) →
      (∀ j oj, ops[j]? = some oj → D j = false → j ≠ i → listed.getD j true = false → ∀ a b, LvW tb ops j a b → Q a b) →
      i ∈ Region.ready .any ops listed → (∀ σ', Q σ σ' → PYw P tb ops oi r fr σ') →
      pAnyW P tb ops K fuel (listed.setIfInBounds i true) (fr.put oi.dst r) σ → pAnyW P tb ops K (fuel + 1) listed fr σ := by
  intro fuel
  induction fuel with
  | zero =>
    intro listed fr σ _ _ _ hr hy H
    refine ⟨fun h => (by rw [h] at hr; cases hr), fun j hj o ho => ?_⟩
    by_cases hji : j = i
    · subst hji
      rw [hi] at ho; cases ho
      exact hy σ (hQ σ) _ ⟨LvW.refl, H⟩
    · have := ready_mono hj hji
      rw [H.1] at this
      cases this
  | succ fuel ih =>
    intro listed fr σ hfree hDl hst hr hy H
    refine ⟨fun h => (by rw [h] at hr; cases hr), fun j hj oj hoj => ?_⟩
    by_cases hji : j = i
    · subst hji
      rw [hi] at hoj; cases hoj
      exact hy σ (hQ σ) _ ⟨LvW.refl, H⟩
    · have h1 := H.2 j (ready_mono hj hji) oj hoj
      obtain ⟨hjun, oj', hoj', hall⟩ := mem_ready.1 hj
      rw [hoj] at hoj'; cases hoj'
      have hDj : D j = false := by
        cases hd : D j with
        | false => rfl
        | true =>
          obtain ⟨e, he, hb, hor⟩ := hD j oj hoj hd
          rcases hor with h | h
          · exact absurd h (not_listed hr hoj hj e he hb)
          · have l1 := hall e he hb
            obtain ⟨oe, ho⟩ := hDr e.on h
            have l2 := hDl e.on oe ho h
            rcases Nat.lt_or_ge e.on listed.size with h' | h'
            · simp [h'] at l1 l2; rw [l2] at l1; cases l1
            · simp [Array.getElem?_eq_none h'] at l1
      have hS := hst j oj hoj hDj hji hjun
      have h2 := pOne_putsW (Q := Q) hQ (hfree j oj hoj hji hjun (not_listed hr hoj hj)) hy hT (K := fun fr' σ' => LvW tb ops j σ σ' ∧ pAnyW P tb ops K fuel ((listed.setIfInBounds i true).setIfInBounds j true) fr' σ') (pOne_mono h1 fun fr' σ' h => ⟨hS _ _ h.1, h⟩)
      refine pOne_mono h2 fun fr' σ' h3 => ⟨h3.2.2.1, ?_⟩
      obtain ⟨e, h4, h5⟩ := h3
      refine ih (listed.setIfInBounds j true) fr' σ' (free_step hfree hjun) ?_ ?_ (ready_mono hr (Ne.symm hji)) h4 ?_
      · intro k ok hk hdk
        by_cases hjk : j = k
        · subst hjk; rw [hDj] at hdk; cases hdk
        · rw [getD_set_ne true hjk]; exact hDl k ok hk hdk
      · intro k ok hk hdk hki hun
        refine hst k ok hk hdk hki ?_
        by_cases hjk : j = k
        · subst hjk; exact hjun
        · rw [getD_set_ne true hjk] at hun; exact hun
      · rw [Array.setIfInBounds_comm _ _ hji]
        exact h5.2
def tlessW (tb : Tab) (o : Op) (A : AF) : Bool := movOp o || tlessA noF tb o A
def Next (p : Prop) : Prop := p
def wseq (X : Wx) (pf : FuncId → Bool) (tb : Tab) (m : Nat) (K : AF → St → Prop) : List SItem → AF → St → Prop
  | [], A, σ => K A σ
  | i :: r, A, σ => sguard A i.g (wop X pf tb m i.o A σ fun v σ' => Next (wseq X pf tb m K r (putA m A i.dst v) σ')) (wseq X pf tb m K r (putA m A i.dst (.t [])) σ)
def wtree (X : Wx) (tb : Tab) (m : Nat) : YT → (AF → St → Prop) → AF → St → Prop
  | .done, K, A, σ => K A σ
  | .go i none p, K, A, σ => sguard A i.g (wopR X tb m false i.o A σ fun v σ' => Next (wtree X tb m p K (putA m A i.dst v) σ')) (wtree X tb m p K (putA m A i.dst (.t [])) σ)
  | .go i (some o) p, K, A, σ =>
    (match tlessW tb o A with
    | true => sguard A i.g (wop X noF tb m i.o A [] fun v _ => wtree X tb m p K (putA m A i.dst v) σ) (wtree X tb m p K (putA m A i.dst (.t [])) σ)
    | false => False)
  | .goc i p, K, A, σ => sguard A i.g (wopR X tb m true i.o A σ fun v σ' => Next (wtree X tb m p K (putA m A i.dst v) σ')) (wtree X tb m p K (putA m A i.dst (.t [])) σ)
  | .alt i p q, K, A, σ => sguard A i.g (wopR X tb m false i.o A σ fun v σ' => Next (wtree X tb m p K (putA m A i.dst v) σ')) (wtree X tb m p K (putA m A i.dst (.t [])) σ) ∧ wtree X tb m q K A σ
  | .stop, _, _, _ => True
  | .sub s p, K, A, σ => wtree X tb m s (wtree X tb m p K) A σ
theorem sguard_mono {A : AF} {g : Option (Option Tmp × Bool)} {x x' y : Prop} (hx : x → x') (h : sguard A g x y) : sguard A g x' y := by
  unfold sguard at h ⊢
  cases g with
  | none => exact hx h
  | some gw =>
    obtain ⟨d, want⟩ := gw
    cases d with
    | none => exact h
    | some d =>
      simp only at h ⊢
      split at h
      · rename_i b hb
        cases want <;> cases b <;> first | exact hx h | exact h
      · exact h
      · exact h.elim
theorem wop_item {i : SItem} {A : AF} (hA : inA m A) {σ : St} {k : V → St → Prop} {y : Prop} (h : sguard A i.g (wop (wx P) pf tb m i.o A σ k) y) : sguard A i.g (vopA (mx P) pf tb m i.o A σ k) y :=
  sguard_mono (wop_ok hA) h
theorem wseq_ok (tok : TabOk P tb) {ops : Array Oper} {K : AF → St → Prop} {Q : Exit → Act → World → Prop} : ∀ (n i : Nat) (hn : i + n = ops.size) {g : G} {w : World} {σ : St} (hr : Rep g w σ) {a : Act} {A : AF} (hA : inA m A) (hf : FrRep g w σ (toFr m A) a.tmps) (hd : a.defers = [])
    (h : wseq (wx P) pf tb m K ((ops.toList.drop i).map (sitem tb ops)) A σ) (hQ : ∀ a' w', Lifts g w σ (lowF m K) a' w' → Q .normal a' w'), wpOps P ops Q (List.range' i n) a w
  | 0, i, hn, g, w, σ, hr, a, A, hA, hf, hd, h, hQ => by
    rw [List.drop_of_length_le (by simp; omega)] at h
    exact hQ _ _ ⟨_, σ, g, ⟨A, hA, rfl, h⟩, hr, Turn.refl _ _ _, hf, hd⟩
  | n + 1, i, hn, g, w, σ, hr, a, A, hA, hf, hd, h, hQ => by
    have hi : i < ops.size := by omega
    rw [List.drop_eq_getElem_cons (by simpa using hi)] at h
    simp only [List.range'_succ, wpOps, Array.getElem?_eq_getElem hi]
    have h0 := wop_item hA h
    have h' := sone (K := wseq (wx P) pf tb m K ((ops.toList.drop (i + 1)).map (sitem tb ops))) (K' := lowF m (wseq (wx P) pf tb m K ((ops.toList.drop (i + 1)).map (sitem tb ops)))) hA (fun A σ h1 h2 => ⟨A, h1, rfl, h2⟩) h0
    exact one_ok' tok hr hf hd h' fun a' w' ⟨fr', σ', g', ⟨A', h0, h1, h1'⟩, h2, h3, h4, h5⟩ => by
      subst h1
      exact wseq_ok tok n (i + 1) (by omega) h2 h0 h4 h5 h1' fun a'' w'' h6 => hQ _ _ (h6.trans h3)
def WSays (P : Program) (tb : Tab) (ops : Array Oper) (m : Nat) (K : Fr → St → Prop) (s : PT) (top : Bool) (n : Nat) (listed : Array Bool) (A : AF) (σ : St) : Prop :=
  match top with
  | true => pAnyW P tb ops K n listed (toFr m A) σ
  | false => ∀ n', n = n' + 1 → ∀ i ∈ s.alts, ∀ o, ops[i]? = some o →
      pOne P noF tb ops o (fun fr' σ' => LvW tb ops i σ σ' ∧ pAnyW P tb ops K n' (listed.setIfInBounds i true) fr' σ') (toFr m A) σ
theorem sone_lv {ops : Array Oper} {i : Nat} {o : Oper} (ho : ops[i]? = some o) {A : AF} (hA : inA m A) {σ : St} {K : AF → St → Prop} {K' : Fr → St → Prop} (hK : ∀ A σ, inA m A → K A σ → K' (toFr m A) σ)
    (h : sguard A (sitem tb ops o).g (wopR (wx P) tb m false (comp tb o.op) A σ fun v σ' => K (putA m A o.dst v) σ') (K (putA m A o.dst (.t [])) σ)) :
    pOne P noF tb ops o (fun fr' σ' => LvW tb ops i σ σ' ∧ K' fr' σ') (toFr m A) σ := by
  have fin : ∀ (v : V) (σ' : St), K (putA m A o.dst v) σ' → K' ((toFr m A).put o.dst v) σ' := fun v σ' hk => by
    rw [← toFr_put]
    exact hK _ _ (putA_in hA _ _) hk
  have h' := sg hA h
  rcases vguard_cases h' with ⟨h1, h2⟩ | ⟨h1, h2⟩
  · cases hr : stlW tb o.op with
    | true =>
      have hr' : readR (comp tb o.op) = true ∨ pcall (comp tb o.op) = true := by
        unfold stlW at hr
        rwa [Bool.or_eq_true] at hr
      obtain ⟨r, k1, k2, _⟩ := wopR_any hr' hA h1
      have := k2 rfl [] (fun v σ' => LvW tb ops i σ σ' ∧ K (putA m A o.dst v) σ')
      simp only [List.append_nil] at this
      exact h2 _ _ ⟨_, comp_ok hA (this ⟨LvW.refl, k1⟩), fun v σ' hk => ⟨hk.1, fin v σ' hk.2⟩⟩
    | false =>
      have hr0 : pcall (comp tb o.op) = false := by
        unfold stlW at hr
        rw [Bool.or_eq_false_iff] at hr
        exact hr.2
      unfold wopR at h1
      rw [hr0] at h1
      have h1 := wop_ok hA h1.2
      have lv : ∀ {σ' : St}, (addS (comp tb o.op) = true → ∃ new, σ' = σ ++ new) → (rowS (comp tb o.op) = true → Rows σ σ') → LvW tb ops i σ σ' := fun hA hB o' ho' => by
        rw [ho] at ho'
        cases ho'
        refine ⟨fun hs => ?_, hA, hB⟩
        rw [hr] at hs
        cases hs
      have noadd : addS (comp tb o.op) = true → rowS (comp tb o.op) = true → False := by
        cases comp tb o.op <;> simp [addS, rowS]
      cases ha : addS (comp tb o.op) with
      | false =>
        cases hb : rowS (comp tb o.op) with
        | false => exact h2 _ _ ⟨_, comp_ok hA h1, fun v σ' hk => ⟨lv (fun hh => by rw [ha] at hh; cases hh) (fun hh => by rw [hb] at hh; cases hh), fin v σ' hk⟩⟩
        | true => exact h2 _ _ ⟨_, comp_ok hA (vopA_rowS hb h1), fun v σ' hk => ⟨lv (fun hh => by rw [ha] at hh; cases hh) (fun _ => hk.1), fin v σ' hk.2⟩⟩
      | true =>
        have key : vopA (mx P) noF tb m (comp tb o.op) A σ fun v σ' => (∃ new, σ' = σ ++ new) ∧ K (putA m A o.dst v) σ' := by
          revert h1 ha
          cases comp tb o.op <;> intro h1 ha <;> simp only [addS] at ha <;> first
            | cases ha
            | skip
          · exact ⟨⟨_, rfl⟩, h1⟩
          · simp only [vopA] at h1 ⊢
            split at h1
            · exact ⟨⟨_, rfl⟩, h1⟩
            · exact h1.elim
        exact h2 _ _ ⟨_, comp_ok hA key, fun v σ' hk => ⟨lv (fun _ => hk.1) (fun hh => (noadd ha hh).elim), fin v σ' hk.2⟩⟩
  · refine h2 _ _ ⟨LvW.refl, ?_⟩
    exact fin _ _ h1
theorem wtree_ok {ops : Array Oper} {K : Fr → St → Prop} : ∀ (s : PT) (top : Bool) (k : Nat → Array Bool → Bool) (n : Nat) (listed : Array Bool) {y : YT} {A : AF} {σ : St} {K' : AF → St → Prop}, inA m A →
    ptOk tb (stlW tb) ops s top k n listed = true → ytree tb ops s = some y → wtree (wx P) tb m y K' A σ →
    (∀ n' l' A' σ', k n' l' = true → inA m A' → K' A' σ' → pAnyW P tb ops K n' l' (toFr m A') σ') → WSays P tb ops m K s top n listed A σ
  | .done, top, k, n, listed, y, A, σ, K', hA, hg, hy, h, hk => by
    simp only [ytree, Option.some.injEq] at hy
    subst hy
    simp only [ptOk, Bool.and_eq_true] at hg
    obtain ⟨rfl, hr⟩ := hg
    exact hk n listed A σ hr hA h
  | .stop, top, k, n, listed, y, A, σ, K', hA, hg, hy, h, hk => by
    simp only [ptOk, Bool.not_eq_true'] at hg
    subst hg
    intro n' _ i hi
    simp only [PT.alts] at hi
    cases hi
  | .sub s p, top, k, n, listed, y, A, σ, K', hA, hg, hy, h, hk => by
    simp only [ptOk, Bool.and_eq_true] at hg
    obtain ⟨rfl, hg⟩ := hg
    simp only [ytree] at hy
    split at hy
    · cases hy
    · rename_i ys hys
      split at hy
      · cases hy
      · rename_i yp hyp
        cases hy
        exact wtree_ok s true _ n listed hA hg hys h fun n' l' A' σ' hk' hA' hm => wtree_ok p true k n' l' hA' hk' hyp hm hk
  | .go i c p, top, k, n, listed, y, A, σ, K', hA, hg, hy, h, hk => by
    simp only [ptOk] at hg
    cases n with
    | zero => cases hg
    | succ n =>
    simp only at hg
    split at hg
    · rename_i hb
      simp only [Bool.and_eq_true, List.contains_eq_mem, decide_eq_true_eq] at hb
      obtain ⟨rfl, ⟨hi, hfr⟩, hcc⟩ := hb
      simp only [ytree] at hy
      split at hy
      · cases hy
      · rename_i o ho
        split at hy
        · cases hy
        · rename_i y' hy'
          cases hy
          rw [ho] at hcc
          show pAnyW P tb ops K (n + 1) listed (toFr m A) σ
          have next : ∀ (v : V), wtree (wx P) tb m y' K' (putA m A o.dst v) σ → pAnyW P tb ops K n (listed.setIfInBounds i true) ((toFr m A).put o.dst v) σ := fun v hv => by
            rw [← toFr_put]
            exact wtree_ok p true k n (listed.setIfInBounds i true) (putA_in hA _ _) hg hy' hv hk
          cases c with
          | true =>
            simp only [wtree] at h
            simp only [calmY, Bool.and_eq_true, Bool.or_eq_true] at hcc
            obtain ⟨hs, hcm⟩ := hcc
            have hrd : readR (comp tb o.op) = true ∨ pcall (comp tb o.op) = true := by
              unfold stlW at hs
              rwa [Bool.or_eq_true] at hs
            -- what it comes to
            have key : ∃ r, wtree (wx P) tb m y' K' (putA m A o.dst r) σ ∧ ∀ new, PYw P tb ops o r (toFr m A) (σ ++ new) := by
              have h' := sg hA h
              rcases vguard_cases h' with ⟨h1, h2⟩ | ⟨h1, h2⟩
              · obtain ⟨r, k1, k2, _⟩ := wopR_any hrd hA h1
                exact ⟨r, k1, fun new K0 hK0 => h2 _ _ ⟨_, comp_ok hA (k2 rfl new (fun v σ' => v = r ∧ σ' = σ ++ new) ⟨rfl, rfl⟩), fun v σ' hh => by obtain ⟨rfl, rfl⟩ := hh; exact hK0⟩⟩
              · exact ⟨.t [], h1, fun new K0 hK0 => h2 _ _ hK0⟩
            obtain ⟨r, k1, k2⟩ := key
            have ih := next r k1
            rcases hcm with hcm | ⟨_, hcm⟩
            · exact pAnyW_calm (Q := fun a b => b = a) (fun _ => rfl) (fun h k => k.trans h) ho (Dof ops i) (fun j hd => Dof_lt hd) (fun j oj hj hd => ((calm_spec hcm hj).1 hd).2) n listed _ σ (fun j oj hj hne hun hno => Region.free_spec ho hfr j oj hj hne hun hno)
                (fun j oj hj hd => ((calm_spec hcm hj).1 hd).1) (fun j oj hj hd hne hun a b hl => (hl oj hj).1 ((calm_spec hcm hj).2 hd hne hun)) hi (fun σ' e => by have := k2 []; rw [List.append_nil] at this; subst e; exact this) ih
            · exact pAnyW_calm (Q := Adds) (fun σ => ⟨[], by simp⟩) (fun ⟨x, h⟩ ⟨y, k⟩ => ⟨x ++ y, by rw [k, h, List.append_assoc]⟩) ho (Dof ops i) (fun j hd => Dof_lt hd) (fun j oj hj hd => ((calm_spec hcm hj).1 hd).2) n listed _ σ (fun j oj hj hne hun hno => Region.free_spec ho hfr j oj hj hne hun hno)
                (fun j oj hj hd => ((calm_spec hcm hj).1 hd).1) (fun j oj hj hd hne hun a b hl => by
                  have := (calm_spec hcm hj).2 hd hne hun
                  rcases Bool.or_eq_true _ _ ▸ this with h | h
                  · exact ⟨[], by rw [(hl oj hj).1 h]; simp⟩
                  · exact (hl oj hj).2.1 h) hi (fun σ' ⟨new, e⟩ => by subst e; exact k2 new) ih
          | false =>
            simp only [wtree] at h
            split at h
            · rename_i htl
              have key : ∃ r, wtree (wx P) tb m y' K' (putA m A o.dst r) σ ∧ PY P noF tb ops o r (toFr m A) := by
                have h' := sg hA (wop_item hA h)
                rcases vguard_cases h' with ⟨h1, h2⟩ | ⟨h1, h2⟩
                · unfold tlessW at htl
                  rw [Bool.or_eq_true] at htl
                  have hv : ∃ r, wtree (wx P) tb m y' K' (putA m A o.dst r) σ ∧ ∀ σ (k' : V → St → Prop), k' r σ → vdo (mx P) noF tb o.op (toFr m A) σ k' := by
                    rcases htl with hmv | htl
                    · have hcomp := comp_ok hA h1
                      cases hop : o.op <;> rw [hop] at hmv hcomp <;> first
                        | (simp [movOp] at hmv; done)
                        | exact ⟨_, hcomp, fun σ k' hk' => hk'⟩
                    · exact tless_ok ((tlessA_eq hA).symm.trans htl) (comp_ok hA h1)
                  obtain ⟨r, q1, q2⟩ := hv
                  exact ⟨r, q1, fun σ' K0 hK0 => h2 _ _ ⟨_, q2 σ' (fun v σ'' => v = r ∧ σ'' = σ') ⟨rfl, rfl⟩, fun v σ'' hh => by obtain ⟨rfl, rfl⟩ := hh; exact hK0⟩⟩
                · exact ⟨.t [], h1, fun σ' K0 hK0 => h2 _ _ hK0⟩
              obtain ⟨r, k1, k2⟩ := key
              exact pAnyW_first ho n listed _ σ (fun j oj hj hne hun hno => Region.free_spec ho hfr j oj hj hne hun hno) hi k2 (next r k1)
            · exact h.elim
    · cases hg
  | .goc i p, top, k, n, listed, y, A, σ, K', hA, hg, hy, h, hk => by
    simp only [ptOk] at hg
    cases n with
    | zero => cases hg
    | succ n =>
    simp only at hg
    split at hg
    · rename_i hb
      simp only [Bool.and_eq_true, List.contains_eq_mem, decide_eq_true_eq] at hb
      obtain ⟨rfl, ⟨hi, hfr⟩, hcc⟩ := hb
      simp only [ytree] at hy
      split at hy
      · cases hy
      · rename_i o ho
        split at hy
        · cases hy
        · rename_i y' hy'
          cases hy
          rw [ho] at hcc
          show pAnyW P tb ops K (n + 1) listed (toFr m A) σ
          have next : ∀ (v : V), wtree (wx P) tb m y' K' (putA m A o.dst v) σ → pAnyW P tb ops K n (listed.setIfInBounds i true) ((toFr m A).put o.dst v) σ := fun v hv => by
            rw [← toFr_put]
            exact wtree_ok p true k n (listed.setIfInBounds i true) (putA_in hA _ _) hg hy' hv hk
          simp only [wtree] at h
          simp only [Bool.and_eq_true] at hcc
          obtain ⟨hs, hcm⟩ := hcc
          have hrd : readR (comp tb o.op) = true ∨ pcall (comp tb o.op) = true := by
            unfold stlW at hs
            rwa [Bool.or_eq_true] at hs
          have key : ∃ r, wtree (wx P) tb m y' K' (putA m A o.dst r) σ ∧ ∀ σ', Rows σ σ' → PYw P tb ops o r (toFr m A) σ' := by
            have h' := sg hA h
            rcases vguard_cases h' with ⟨h1, h2⟩ | ⟨h1, h2⟩
            · obtain ⟨r, k1, _, k2⟩ := wopR_any hrd hA h1
              exact ⟨r, k1, fun σ1 hR K0 hK0 => h2 _ _ ⟨_, comp_ok hA (k2 rfl σ1 (fun v σ' => v = r ∧ σ' = σ1) hR ⟨rfl, rfl⟩), fun v σ' hh => by obtain ⟨rfl, rfl⟩ := hh; exact hK0⟩⟩
            · exact ⟨.t [], h1, fun σ1 hR K0 hK0 => h2 _ _ hK0⟩
          obtain ⟨r, k1, k2⟩ := key
          exact pAnyW_calm (Q := Rows) Rows.refl (fun h k => h.trans k) ho (Dof ops i) (fun j hd => Dof_lt hd) (fun j oj hj hd => ((calm_spec hcm hj).1 hd).2) n listed _ σ (fun j oj hj hne hun hno => Region.free_spec ho hfr j oj hj hne hun hno)
            (fun j oj hj hd => ((calm_spec hcm hj).1 hd).1) (fun j oj hj hd hne hun a b hl => by
              have := (calm_spec hcm hj).2 hd hne hun
              rw [Bool.or_eq_true, Bool.or_eq_true] at this
              rcases this with h | h | h
              · rw [(hl oj hj).1 h]; exact Rows.refl a
              · obtain ⟨new, e⟩ := (hl oj hj).2.1 h
                rw [e]; exact Rows.add a new
              · exact (hl oj hj).2.2 h) hi (fun σ' hR => k2 σ' hR) (next r k1)
    · cases hg
  | .alt i p q, top, k, n, listed, y, A, σ, K', hA, hg, hy, h, hk => by
    simp only [ptOk] at hg
    cases n with
    | zero => cases hg
    | succ n =>
    simp only at hg
    split at hg
    · rename_i htop
      split at hg
      · rename_i hp
        simp only [ytree] at hy
        split at hy
        · cases hy
        · rename_i o ho
          split at hy
          · cases hy
          · rename_i yp hyp
            split at hy
            · cases hy
            · rename_i yq hyq
              cases hy
              obtain ⟨h1, h2⟩ := h
              have key : WSays P tb ops m K (.alt i p q) false (n + 1) listed A σ := by
                intro n' e j hj oj hoj
                cases e
                simp only [PT.alts] at hj
                rcases List.mem_cons.1 hj with rfl | hj
                · rw [ho] at hoj
                  cases hoj
                  exact sone_lv (K := wtree (wx P) tb m yp K') ho hA (fun A' σ' hA' hw => wtree_ok p true k n _ hA' hp hyp hw hk) h1
                · exact wtree_ok q false k (n + 1) listed hA hg hyq h2 hk n rfl j hj oj hoj
              cases top with
              | false => exact key
              | true =>
                have hr := natsB_eq htop
                refine ⟨fun hn => (by rw [hr] at hn; cases hn), fun j hj oj hoj => ?_⟩
                rw [hr] at hj
                exact key n rfl j hj oj hoj
      · cases hg
    · cases hg
def wresVs (tb : Tab) : List ResultVar → AF → St → (List V → Prop) → Prop
  | [], A, σ, k => k []
  | .tmp t :: r, A, σ, k => wresVs tb r A σ fun l => k (lk A t :: l)
  | .cell x t :: r, A, σ, k =>
    (match (tb t).d with
    | .no => False
    | _ => vload prims (tb t).agg (tb t).size (addr (lk A x)) σ fun v => wresVs tb r A σ fun l => k (v :: l))
def wKret (tb : Tab) (rs : List ResultVar) (k : V → St → Prop) : Exit → AF → St → Prop
  | .normal, A, σ => wresVs tb rs A σ fun l => (match l with | [v] => k v σ | l => k (.t l) σ)
  | .ret, A, σ => wresVs tb rs A σ fun l => (match l with | [v] => k v σ | l => k (.t l) σ)
  | .exit _, _, _ => False
  | .goto _, _, _ => False
  | .panic _, _, _ => False
  | .outgrown, _, _ => False
theorem wresVs_eq : ∀ (rs : List ResultVar) (A : AF) (σ : St) (k : List V → Prop), wresVs tb rs A σ k = sresVs prims tb rs A σ k
  | [], A, σ, k => rfl
  | .tmp t :: r, A, σ, k => wresVs_eq r A σ _
  | .cell x t :: r, A, σ, k => by
    have e : (fun v => wresVs tb r A σ fun l => k (v :: l)) = fun v => sresVs prims tb r A σ fun l => k (v :: l) := funext fun v => wresVs_eq r A σ _
    simp only [wresVs, sresVs, e]
    rfl
theorem wKret_eq {rs : List ResultVar} {k : V → St → Prop} {e : Exit} {A : AF} {σ : St} (h : wKret tb rs k e A σ) : sKret (mx P) tb rs k e A σ := by
  cases e with
  | normal =>
    have h' : wresVs tb rs A σ (fun l => match l with | [v] => k v σ | l => k (.t l) σ) := h
    rw [wresVs_eq] at h'
    exact h'
  | ret =>
    have h' : wresVs tb rs A σ (fun l => match l with | [v] => k v σ | l => k (.t l) σ) := h
    rw [wresVs_eq] at h'
    exact h'
  | _ => exact h
end
theorem call_nil {P : Program} {f : FuncId} {args : List V} {σ : St} (hf : V.frees args = true) {k : V → St → Prop} {k' : V → Prop} (h : CallAt P f args [] k)
    (hk : ∀ r τ, k r τ → ∃ u τ', hardV r τ = some (u, τ') ∧ u.free = true ∧ k' u) : CallAt P f args σ fun r σ' => k' r ∧ σ' = σ := by
  intro g w vs hr hv
  let g0 : G := ⟨g.Z, fun _ => none, fun _ => 0⟩
  have rep0 : Rep g0 w [] := ⟨fun i ob h => by simp at h, fun i j a b k h => by simp at h, fun b o _ ho => by obtain ⟨i, ob, h, _⟩ := own_iff.1 ho; simp at h, hr.inside⟩
  have v0 : VReps g0 w [] args vs := freeVs (g := g) (g' := g0) (w := w) (w' := w) (fun b o hz => ⟨hz, rfl⟩) hf hv
  have hend : ∀ v w', CallEnd g0 w [] k v w' → CallEnd g w σ (fun r σ' => k' r ∧ σ' = σ) v w' := by
    rintro v w' ⟨r, σ2, g2, h1, h2, h3, h4⟩
    obtain ⟨u, τ, e1, e2, e3⟩ := hk _ _ h1
    obtain ⟨g3, k1, k2, k3⟩ := hardV_ok h2 e1 h4
    have T := h3.trans k2
    have hb := below_of_turn T
    let g' : G := ⟨fun b o => g.Z b o ∨ (w.heap.size ≤ b ∧ g3.Z b o), g.blk, g.cap⟩
    have hT : Turn g w σ g' w' σ :=
      { os := hb.os, tape := hb.tape, output := hb.output, size := hb.size, whole := fun b h _ => hb.block b h, zs := fun b o hz => ⟨.inl hz, (T.zs b o hz).2⟩,
        znew := fun b o hlt hz => by
          rcases hz with hz | ⟨hz, _⟩
          · exact .inl hz
          · omega
        onew := fun _ _ _ h => h,
        turns := fun i ob h => ⟨ob, h, by cases ob <;> simp [ObTurn, g']⟩,
        blks := fun _ _ _ _ => rfl }
    have hR : Rep g' w' σ := by
      refine ⟨fun i ob h => ?_, hr.inj, fun b o hz ho => ?_, fun b o hz => ?_⟩
      · by_cases hl : live ob = true
        · exact (hr.ob i ob h).keep hT (fun b hbk => hb.block b ((hr.ob i ob h).inside hl hbk)) rfl rfl
        · cases ob <;> simp_all [live, ObRep]
      · have ho' : Own g σ b o := ho
        rcases hz with hz | ⟨hz, _⟩
        · exact hr.apart b o hz ho'
        · have := Own.inside hr ho'; omega
      · rcases hz with hz | ⟨_, hz⟩
        · exact Nat.lt_of_lt_of_le (hr.inside b o hz) hb.size
        · exact k1.inside b o hz
    refine ⟨u, σ, g', ⟨e3, rfl⟩, hR, hT, freeV (g := g3) (w := w') (fun b o hz => ⟨?_, rfl⟩) e2 k3⟩
    by_cases hlt : w.heap.size ≤ b
    · exact .inr ⟨hlt, hz⟩
    · rcases T.znew b o (by omega) hz with h | h
      · exact .inl h
      · obtain ⟨i, ob, h7, _⟩ := own_iff.1 h
        simp at h7
  rcases h g0 w vs rep0 v0 with ⟨v, w', h1, h2⟩ | ⟨h1, h2⟩
  · exact .inl ⟨v, w', h1, hend v w' h2⟩
  · exact .inr ⟨h1, h2.mono fun e w' ⟨v, h3, h4⟩ => ⟨v, h3, hend v w' h4⟩⟩
end Go.Dm
set_option maxHeartbeats 4000000
namespace Go.Proofs.Ytpoegfkajdbplaa
open Go.Dm
set_option linter.unusedVariables false
abbrev f_glosslaw1_MarkSums : Nat := 4
abbrev f_mark_Of : Nat := 12
abbrev f_mark_Sum : Nat := 13
abbrev f_mark_Line : Nat := 14
abbrev f_mark_Text : Nat := 15
abbrev f_mark_Lines : Nat := 16
abbrev f_mark_Bytes : Nat := 17
abbrev f_glosslaw1_MarkRuns : Nat := 18
abbrev f_glossbook_Within : Nat := 19
abbrev f_mark_Less : Nat := 20
abbrev f_strings_Count : Nat := 39
abbrev f_strings_HasSuffix : Nat := 40
abbrev f_glosskeep_count : Nat := 58
abbrev f_internal_bytealg_CountString : Nat := 64
abbrev f_internal_stringslite_HasSuffix : Nat := 66
abbrev f_glosskeep_maker_part : Nat := 91
def pureL : List Nat := [12, 13, 14, 15, 16, 17, 19, 20, 28, 30, 31, 33, 39, 40, 41, 50, 51, 52, 55, 61, 65, 66, 67, 68, 69, 70, 78, 83, 86, 87, 99, 104, 118, 120]
def inNat (f : Nat) : List Nat → Bool
  | [] => false
  | x :: r => (match Nat.beq f x with | true => true | false => inNat f r)
instance : Pures := ⟨fun f => inNat f pureL⟩
def w_glosslaw1_MarkSums : Ent Try.prog tb (stlW tb) := ⟨4, [(6, .go 0 true (.go 1 true (.go 2 true (.go 3 true (.go 4 true (.go 5 true (.go 6 true (.go 7 true (.go 8 true (.go 9 true (.go 10 true (.go 11 true (.done))))))))))))), (10, .goc 2 (.goc 6 (.go 1 false (.goc 3 (.go 5 false (.goc 7 (.alt 0 (.alt 4 (.alt 8 (.go 9 true (.go 10 true (.done))) (.stop)) (.stop)) (.stop)))))))), (11, .go 0 true (.go 1 true (.go 2 true (.go 3 true (.go 4 true (.go 5 true (.go 6 true (.go 7 true (.go 8 true (.go 9 true (.go 10 true (.go 11 true (.go 12 true (.go 13 true (.go 14 true (.go 15 true (.go 16 true (.go 17 true (.go 18 true (.go 19 true (.go 20 true (.go 21 true (.go 22 true (.go 23 true (.go 26 false (.alt 24 (.go 25 true (.go 27 true (.go 28 true (.go 29 true (.go 30 true (.go 31 true (.go 32 true (.go 33 true (.go 34 true (.go 35 true (.go 36 true (.go 37 true (.go 38 true (.go 39 true (.go 40 true (.go 41 true (.go 42 true (.alt 43 (.go 44 true (.go 45 true (.done))) (.stop))))))))))))))))))) (.stop)))))))))))))))))))))))))))], _, by cbv, by kernel_rfl⟩
def w_mark_Of : Ent Try.prog tb (stlW tb) := ⟨12, [], _, by cbv, by kernel_rfl⟩
def w_mark_Sum : Ent Try.prog tb (stlW tb) := ⟨13, [], _, by cbv, by kernel_rfl⟩
def w_mark_Line : Ent Try.prog tb (stlW tb) := ⟨14, [], _, by cbv, by kernel_rfl⟩
def w_mark_Text : Ent Try.prog tb (stlW tb) := ⟨15, [], _, by cbv, by kernel_rfl⟩
def w_mark_Lines : Ent Try.prog tb (stlW tb) := ⟨16, [], _, by cbv, by kernel_rfl⟩
def w_mark_Bytes : Ent Try.prog tb (stlW tb) := ⟨17, [], _, by cbv, by kernel_rfl⟩
def w_glosslaw1_MarkRuns : Ent Try.prog tb (stlW tb) := ⟨18, [], _, by cbv, by kernel_rfl⟩
def w_mark_Less : Ent Try.prog tb (stlW tb) := ⟨20, [], _, by cbv, by kernel_rfl⟩
def w_glossbook_Within : Ent Try.prog tb (stlW tb) := ⟨19, [], _, by cbv, by kernel_rfl⟩
def w_strings_Count : Ent Try.prog tb (stlW tb) := ⟨39, [], _, by cbv, by kernel_rfl⟩
def w_strings_HasSuffix : Ent Try.prog tb (stlW tb) := ⟨40, [], _, by cbv, by kernel_rfl⟩
def w_internal_stringslite_HasSuffix : Ent Try.prog tb (stlW tb) := ⟨66, [], _, by cbv, by kernel_rfl⟩
end Go.Proofs.Ytpoegfkajdbplaa
namespace Go.Dm.Sx
open Go.Dm
set_option linter.unusedVariables false
set_option linter.unusedSimpArgs false
inductive Ty where
  | int (k : IntKind) | bool | str | flo | cpl
  | list (t : Ty) | ptr (t : Ty) | opt (t : Ty)
  | base (n : Nat)
  deriving Inhabited, DecidableEq
def Ty.eqb : Ty → Ty → Bool
  | .int k, .int k' => sameK k k'
  | .bool, .bool => true
  | .str, .str => true
  | .flo, .flo => true
  | .cpl, .cpl => true
  | .list a, .list b => Ty.eqb a b
  | .ptr a, .ptr b => Ty.eqb a b
  | .opt a, .opt b => Ty.eqb a b
  | .base n, .base m => Nat.beq n m
  | _, _ => false
theorem Ty.eqb_ok : ∀ {a b : Ty}, Ty.eqb a b = true → a = b
  | .int k, b, h => by cases b <;> simp only [Ty.eqb, Bool.false_eq_true] at h; rw [sameK_eq h]
  | .bool, b, h => by cases b <;> first | rfl | (simp only [Ty.eqb, Bool.false_eq_true] at h)
  | .str, b, h => by cases b <;> first | rfl | (simp only [Ty.eqb, Bool.false_eq_true] at h)
  | .flo, b, h => by cases b <;> first | rfl | (simp only [Ty.eqb, Bool.false_eq_true] at h)
  | .cpl, b, h => by cases b <;> first | rfl | (simp only [Ty.eqb, Bool.false_eq_true] at h)
  | .list a, b, h => by cases b <;> simp only [Ty.eqb, Bool.false_eq_true] at h; rw [Ty.eqb_ok h]
  | .ptr a, b, h => by cases b <;> simp only [Ty.eqb, Bool.false_eq_true] at h; rw [Ty.eqb_ok h]
  | .opt a, b, h => by cases b <;> simp only [Ty.eqb, Bool.false_eq_true] at h; rw [Ty.eqb_ok h]
  | .base n, b, h => by cases b <;> simp only [Ty.eqb, Bool.false_eq_true] at h; rw [beq_nat h]
@[reducible] def T (B : Nat → Type) : Ty → Type
  | .int _ => Int
  | .bool => Bool
  | .str => List UInt8
  | .flo => Nat
  | .cpl => Nat × Nat
  | .list t => List (T B t)
  | .ptr t => T B t
  | .opt t => Option (T B t)
  | .base n => B n
structure Dyn (B : Nat → Type) where
  t : Ty
  v : T B t
structure Uni where
  B : Nat → Type
  dft : (n : Nat) → B n
  lay : Nat → List Ty
  acc : (n : Nat) → B n → Nat → Dyn B
  bd : (n : Nat) → List (Dyn B) → B n
  acc_t : ∀ n x j t, (lay n)[j]? = some t → (acc n x j).t = t
  bd_acc : ∀ n l, l.map Dyn.t = lay n → ∀ j d, l[j]? = some d → acc n (bd n l) j = d
variable {U : Uni}
def dfl (U : Uni) : (t : Ty) → T U.B t
  | .int _ => (0 : Int)
  | .bool => false
  | .str => ([] : List UInt8)
  | .flo => (0 : Nat)
  | .cpl => ((0, 0) : Nat × Nat)
  | .list _ => []
  | .ptr t => dfl U t
  | .opt _ => none
  | .base n => U.dft n
def Dyn.as (t : Ty) (d : Dyn U.B) : T U.B t := if h : d.t = t then h ▸ d.v else dfl U t
theorem as_self (t : Ty) (x : T U.B t) : Dyn.as t (⟨t, x⟩ : Dyn U.B) = x := by simp [Dyn.as]
theorem as_eta {t : Ty} {d : Dyn U.B} (h : d.t = t) : (⟨t, d.as t⟩ : Dyn U.B) = d := by subst h; simp [Dyn.as]
def width (U : Uni) : Ty → Nat
  | .base n => (U.lay n).length
  | _ => 1
def cells (U : Uni) : Dyn U.B → List (Dyn U.B)
  | ⟨.base n, x⟩ => (List.range (U.lay n).length).map (U.acc n x)
  | d => [d]
theorem cells_len (d : Dyn U.B) : (cells U d).length = width U d.t := by
  obtain ⟨t, v⟩ := d
  cases t <;> simp [cells, width]
def pcells (U : Uni) : Dyn U.B → List (Dyn U.B)
  | ⟨.ptr t, x⟩ => cells U ⟨t, x⟩
  | ⟨.opt t, x⟩ => (match x with | some x => cells U ⟨t, x⟩ | none => [])
  | d => cells U d
def flat (U : Uni) {t : Ty} (xs : List (T U.B t)) : List (Dyn U.B) := xs.flatMap fun x => cells U ⟨t, x⟩
mutual
def FD (U : Uni) : F → Dyn U.B → Prop
  | .bool b, d => d = ⟨.bool, b⟩
  | .int k n, d => d = ⟨.int k, n⟩
  | .str s, d => d = ⟨.str, s⟩
  | .flo b, d => d = ⟨.flo, b⟩
  | .cpl a b, d => d = ⟨.cpl, (a, b)⟩
  | .nils, d => ∃ t, d = ⟨.list t, []⟩
  | .sl n cs, d => ∃ t, ∃ xs : List (T U.B t), d = ⟨.list t, xs⟩ ∧ n = xs.length ∧ FDs U cs (flat U xs)
  | .nilp, d => ∃ t, d = ⟨.opt t, none⟩
  | .obj cs, d => (∃ t, ∃ x : T U.B t, d = ⟨.opt t, some x⟩ ∧ FDs U cs (cells U ⟨t, x⟩)) ∨ ∃ t, ∃ x : T U.B t, d = ⟨.ptr t, x⟩ ∧ FDs U cs (cells U ⟨t, x⟩)
  | .nilm, _ => False
  | .nilf, _ => False
  | .fn _, _ => False
def FDs (U : Uni) : List F → List (Dyn U.B) → Prop
  | [], l => l = []
  | c :: r, l => ∃ d l', l = d :: l' ∧ FD U c d ∧ FDs U r l'
end
theorem FDs.len : ∀ {fs : List F} {l : List (Dyn U.B)}, FDs U fs l → fs.length = l.length
  | [], l, h => by simp only [FDs] at h; subst h; rfl
  | c :: r, l, h => by
    simp only [FDs] at h
    obtain ⟨d, l', rfl, _, h2⟩ := h
    simp [FDs.len h2]
theorem FDs.get : ∀ {fs : List F} {l : List (Dyn U.B)}, FDs U fs l → ∀ {j : Nat} {d : Dyn U.B}, l[j]? = some d → ∃ f, fs[j]? = some f ∧ FD U f d
  | [], l, h, j, d, hj => by simp only [FDs] at h; subst h; simp at hj
  | c :: r, l, h, j, d, hj => by
    simp only [FDs] at h
    obtain ⟨d0, l', rfl, h1, h2⟩ := h
    cases j with
    | zero => simp at hj; subst hj; exact ⟨c, rfl, h1⟩
    | succ j => simp at hj; simpa using FDs.get h2 hj
theorem FDs.of_get : ∀ {fs : List F} {l : List (Dyn U.B)}, fs.length = l.length → (∀ (j : Nat) d, l[j]? = some d → ∃ f, fs[j]? = some f ∧ FD U f d) → FDs U fs l
  | [], [], _, _ => rfl
  | c :: r, d :: l, hl, h => by
    obtain ⟨f, h1, h2⟩ := h 0 d rfl
    simp at h1
    subst h1
    exact ⟨d, l, rfl, h2, FDs.of_get (by simpa using hl) fun j d' hj => by simpa using h (j + 1) d' (by simpa using hj)⟩
  | [], d :: l, hl, _ => by simp at hl
  | c :: r, [], hl, _ => by simp at hl
theorem FDs.append : ∀ {fs fs' : List F} {l l' : List (Dyn U.B)}, FDs U fs l → FDs U fs' l' → FDs U (fs ++ fs') (l ++ l')
  | [], fs', l, l', h, h' => by simp only [FDs] at h; subst h; exact h'
  | c :: r, fs', l, l', h, h' => by
    simp only [FDs] at h
    obtain ⟨d, l0, rfl, h1, h2⟩ := h
    exact ⟨d, l0 ++ l', rfl, h1, FDs.append h2 h'⟩
theorem FDs.take : ∀ {fs : List F} {l : List (Dyn U.B)} (n : Nat), FDs U fs l → FDs U (fs.take n) (l.take n)
  | [], l, n, h => by simp only [FDs] at h; subst h; simp [FDs]
  | c :: r, l, 0, h => by simp [FDs]
  | c :: r, l, n + 1, h => by
    simp only [FDs] at h
    obtain ⟨d, l0, rfl, h1, h2⟩ := h
    exact ⟨d, l0.take n, rfl, h1, FDs.take n h2⟩
theorem FDs.drop : ∀ {fs : List F} {l : List (Dyn U.B)} (n : Nat), FDs U fs l → FDs U (fs.drop n) (l.drop n)
  | fs, l, 0, h => h
  | [], l, n + 1, h => by simp only [FDs] at h; subst h; simp [FDs]
  | c :: r, l, n + 1, h => by
    simp only [FDs] at h
    obtain ⟨d, l0, rfl, h1, h2⟩ := h
    exact FDs.drop n h2
theorem flat_cons {t : Ty} (x : T U.B t) (xs : List (T U.B t)) : flat U (x :: xs) = cells U ⟨t, x⟩ ++ flat U xs := rfl
theorem flat_app {t : Ty} (xs ys : List (T U.B t)) : flat U (xs ++ ys) = flat U xs ++ flat U ys := by simp [flat]
theorem flat_len {t : Ty} : ∀ (xs : List (T U.B t)), (flat U xs).length = xs.length * width U t
  | [] => by simp [flat]
  | x :: xs => by rw [flat_cons, List.length_append, flat_len xs, cells_len, List.length_cons, Nat.add_mul, Nat.one_mul]; exact Nat.add_comm _ _
theorem flat_drop {t : Ty} : ∀ (i : Nat) (xs : List (T U.B t)), (flat U xs).drop (i * width U t) = flat U (xs.drop i)
  | 0, xs => by simp
  | i + 1, [] => by simp [flat]
  | i + 1, x :: xs => by
    rw [flat_cons, List.drop_succ_cons, ← flat_drop i xs, Nat.add_mul, Nat.one_mul, Nat.add_comm, ← List.drop_drop, List.drop_append_of_le_length (by rw [cells_len]; exact Nat.le_refl _)]
    congr 1
    rw [List.drop_of_length_le (by rw [cells_len]; exact Nat.le_refl _), List.nil_append]
theorem flat_take {t : Ty} : ∀ (i : Nat) (xs : List (T U.B t)), (flat U xs).take (i * width U t) = flat U (xs.take i)
  | 0, xs => by simp [flat]
  | i + 1, [] => by simp [flat]
  | i + 1, x :: xs => by
    rw [flat_cons, List.take_succ_cons, flat_cons, ← flat_take i xs, Nat.add_mul, Nat.one_mul, Nat.add_comm, List.take_append, cells_len]
    congr 1
    · rw [List.take_of_length_le (by rw [cells_len]; exact Nat.le_add_right _ _)]
    · rw [Nat.add_sub_cancel_left]
theorem flat_get {t : Ty} {xs : List (T U.B t)} {i : Nat} {x : T U.B t} (hi : xs[i]? = some x) {j : Nat} (hj : j < width U t) : (flat U xs)[i * width U t + j]? = (cells U ⟨t, x⟩)[j]? := by
  have h := flat_drop (U := U) i xs
  have hx : xs.drop i = x :: xs.drop (i + 1) := by
    obtain ⟨hl, rfl⟩ := List.getElem?_eq_some_iff.1 hi
    exact List.drop_eq_getElem_cons hl
  rw [hx, flat_cons] at h
  rw [← List.getElem?_drop, h, List.getElem?_append_left (by rw [cells_len]; exact hj)]
inductive Tm where
  | at (i : Nat)
  | fld (i j : Nat)
  | int (k : IntKind) (n : Int)
  | bool (b : Bool)
  | str (s : List UInt8)
  | flo (n : Nat)
  | cpl (a b : Nat)
  | nil (t : Ty)
  | none (t : Ty)
  deriving Inhabited
abbrev Rho (U : Uni) := List (Dyn U.B)
def Tm.den? (ρ : Rho U) : Tm → Option (Dyn U.B)
  | .at i => ρ[i]?
  | .fld i j => (match ρ[i]? with | some d => (pcells U d)[j]? | Option.none => Option.none)
  | .int k n => some ⟨.int k, n⟩
  | .bool b => some ⟨.bool, b⟩
  | .str s => some ⟨.str, s⟩
  | .flo n => some ⟨.flo, n⟩
  | .cpl a b => some ⟨.cpl, (a, b)⟩
  | .nil t => some ⟨.list t, []⟩
  | .none t => some ⟨.opt t, Option.none⟩
def noD (U : Uni) : Dyn U.B := ⟨.bool, false⟩
def nthD : Rho U → Nat → Dyn U.B
  | [], _ => noD U
  | d :: r, i => (match i with | 0 => d | i + 1 => nthD r i)
theorem nthD_of : ∀ {ρ : Rho U} {i : Nat} {d : Dyn U.B}, ρ[i]? = some d → nthD ρ i = d
  | [], i, d, h => by simp at h
  | x :: r, 0, d, h => by simpa [nthD] using h
  | x :: r, i + 1, d, h => nthD_of (ρ := r) (i := i) (by simpa using h)
def fldD : Dyn U.B → Nat → Dyn U.B
  | ⟨.base n, x⟩, j => U.acc n x j
  | ⟨.ptr (.base n), x⟩, j => U.acc n x j
  | ⟨.ptr t, x⟩, _ => ⟨t, x⟩
  | ⟨.opt (.base n), some x⟩, j => U.acc n x j
  | ⟨.opt t, some x⟩, _ => ⟨t, x⟩
  | d, _ => d
theorem fldD_of {d d' : Dyn U.B} {j : Nat} (h : (pcells U d)[j]? = some d') : fldD d j = d' := by
  have base : ∀ {n : Nat} {x : U.B n}, (cells U ⟨.base n, x⟩)[j]? = some d' → U.acc n x j = d' := by
    intro n x h
    simp only [cells, List.getElem?_map, List.getElem?_range] at h
    cases hj : (List.range (U.lay n).length)[j]? with
    | none => simp [hj] at h
    | some k =>
      have := List.getElem?_eq_some_iff.1 hj
      obtain ⟨h1, h2⟩ := this
      simp at h2
      subst h2
      simpa [hj] using h
  have one : ∀ {d : Dyn U.B}, [d][j]? = some d' → d = d' := by
    intro d h
    cases j with
    | zero => simpa using h
    | succ j => simp at h
  obtain ⟨t, x⟩ := d
  cases t with
  | base n => exact base h
  | ptr t => cases t <;> first | exact base h | exact one h
  | opt t =>
    have x' : Option (T U.B t) := x
    cases x with
    | none => simp [pcells] at h
    | some x => cases t <;> first | exact base h | exact one h
  | _ => exact one h
def Tm.den (ρ : Rho U) : Tm → Dyn U.B
  | .at i => nthD ρ i
  | .fld i j => fldD (nthD ρ i) j
  | .int k n => ⟨.int k, n⟩
  | .bool b => ⟨.bool, b⟩
  | .str s => ⟨.str, s⟩
  | .flo n => ⟨.flo, n⟩
  | .cpl a b => ⟨.cpl, (a, b)⟩
  | .nil t => ⟨.list t, []⟩
  | .none t => ⟨.opt t, Option.none⟩
theorem Tm.den_of {ρ : Rho U} {x : Tm} {d : Dyn U.B} (h : x.den? ρ = some d) : x.den ρ = d := by
  cases x with
  | «at» i => exact nthD_of h
  | fld i j =>
    simp only [Tm.den?] at h
    cases hi : ρ[i]? with
    | none => simp [hi] at h
    | some d0 => simp only [hi] at h; simp only [Tm.den, nthD_of hi]; exact fldD_of h
  | _ => simp only [Tm.den?, Option.some.injEq] at h; exact h
theorem Tm.den_app {ρ : Rho U} {x : Tm} {d : Dyn U.B} (h : x.den? ρ = some d) (r : Rho U) : x.den? (ρ ++ r) = some d := by
  cases x with
  | «at» i =>
    simp only [Tm.den?] at h ⊢
    rw [List.getElem?_append_left (List.getElem?_eq_some_iff.1 h).1]; exact h
  | fld i j =>
    simp only [Tm.den?] at h ⊢
    cases hi : ρ[i]? with
    | none => simp [hi] at h
    | some d0 =>
      rw [List.getElem?_append_left (List.getElem?_eq_some_iff.1 hi).1, hi]
      simpa [hi] using h
  | _ => exact h
inductive SC where
  | d (t : Ty) (x : Tm)
  | nil | nilp | nilm | nilf
  | fn (f : Nat)
  | clo (f : Nat) (caps : List SC)
  | ptr (o off : Nat)
  | pa (o k sz : Nat) (i : Tm) (j : Nat)
  | el (x : Tm) (j : Nat)
  | rs (o k : Nat)
  | mp (o : Nat)
  | un
  deriving Inhabited
inductive SV where
  | c (x : SC)
  | a (l : List SC)
  | t (l : List SV)
  deriving Inhabited
inductive SOb where
  | cells (l : List SC)
  | arr (w : Bool) (k ty sz : Nat) (t : Ty) (x : Tm)
  | bld (T : Nat) (u : Bool) (x : SC)
  | any
  deriving Inhabited
abbrev SA := List (Nat × SV)
abbrev SSt := List SOb
abbrev Inf := Nat → Option (Nat × Nat)
mutual
def CR (ρ : Rho U) (β : Nat → Nat) (ι : Inf) : SC → C → Prop
  | .d t x, c => ∃ f d, c = .f f ∧ x.den? ρ = some d ∧ d.t = t ∧ FD U f d
  | .nil, c => c = .f .nils
  | .nilp, c => c = .f .nilp
  | .nilm, c => c = .f .nilm
  | .nilf, c => c = .f .nilf
  | .fn f, c => c = .f (.fn f)
  | .clo f caps, c => ∃ l, c = .clo f l ∧ CRs ρ β ι caps l
  | .ptr o off, c => c = .ptr o off
  | .pa o k sz i j, c => ∃ kd n p, i.den? ρ = some ⟨.int kd, n⟩ ∧ 0 ≤ n ∧ ι o = some p ∧ c = .pa o (β o + k * 4294967296) (n.toNat * sz + j)
  | .el x j, c => ∃ cs off d, c = .ep cs off ∧ x.den? ρ = some d ∧ j ≤ off ∧ ∀ m d', (pcells U d)[m]? = some d' → ∃ f, cs[off - j + m]? = some f ∧ FD U f d'
  | .rs o k, c => ∃ n kc len, c = .rs o (β o + k * 4294967296) n ∧ ι o = some (kc, len) ∧ k ≤ kc ∧ (k = kc → n = len)
  | .mp o, c => c = .mp o
  | .un, _ => True
def CRs (ρ : Rho U) (β : Nat → Nat) (ι : Inf) : List SC → List C → Prop
  | [], l => l = []
  | x :: r, l => ∃ c l', l = c :: l' ∧ CR ρ β ι x c ∧ CRs ρ β ι r l'
end
mutual
def VR (ρ : Rho U) (β : Nat → Nat) (ι : Inf) : SV → V → Prop
  | .c .un, _ => True
  | .c x, v => ∃ c, v = .c c ∧ CR ρ β ι x c
  | .a l, v => ∃ l', v = .a l' ∧ CRs ρ β ι l l'
  | .t l, v => ∃ l', v = .t l' ∧ VRs ρ β ι l l'
def VRs (ρ : Rho U) (β : Nat → Nat) (ι : Inf) : List SV → List V → Prop
  | [], l => l = []
  | x :: r, l => ∃ c l', l = c :: l' ∧ VR ρ β ι x c ∧ VRs ρ β ι r l'
end
def rowOf (d : Dyn U.B) : List (Dyn U.B) := match d with | ⟨.list _, xs⟩ => flat U xs | _ => []
def lenOf (d : Dyn U.B) : Nat := match d with | ⟨.list _, xs⟩ => List.length xs | _ => 0
def OR (ρ : Rho U) (β : Nat → Nat) (ι : Inf) (o : Nat) : SOb → Ob → Prop
  | .cells l, ob => ∃ l', ob = .cells l' ∧ CRs ρ β ι l l'
  | .arr w k ty sz t x, ob => ∃ d fs, x.den? ρ = some d ∧ d.t = .list t ∧ ob = .arr w (β o + k * 4294967296) sz fs ∧ sz = width U t ∧ β o % 4294967296 = ty ∧ FDs U fs (rowOf d)
  | .bld T u x, ob => ∃ y, ob = .bld T u y ∧ CR ρ β ι x y
  | .any, _ => True
def inf (ρ : Rho U) (S : SSt) : Inf := fun o =>
  match S[o]? with
  | some (.arr _ k _ _ _ x) => (match x.den? ρ with | some d => some (k, lenOf d) | none => none)
  | _ => none
def Later (ρ : Rho U) (β : Nat → Nat) (ι : Inf) (ρ' : Rho U) (β' : Nat → Nat) (ι' : Inf) : Prop :=
  (∀ (x : Tm) d, x.den? ρ = some d → x.den? ρ' = some d) ∧
  ∀ o kc len, ι o = some (kc, len) → β' o = β o ∧ ∃ kc' len', ι' o = some (kc', len') ∧ (kc < kc' ∨ (kc' = kc ∧ len' = len))
theorem Later.refl (ρ : Rho U) (β : Nat → Nat) (ι : Inf) : Later ρ β ι ρ β ι := ⟨fun _ _ h => h, fun o kc len h => ⟨rfl, kc, len, h, .inr ⟨rfl, rfl⟩⟩⟩
section
variable {ρ ρ' ρ'' : Rho U} {β β' β'' : Nat → Nat} {ι ι' ι'' : Inf}
theorem Later.trans (h : Later ρ β ι ρ' β' ι') (k : Later ρ' β' ι' ρ'' β'' ι'') : Later ρ β ι ρ'' β'' ι'' := by
  refine ⟨fun x d hx => k.1 x d (h.1 x d hx), fun o kc len ho => ?_⟩
  obtain ⟨h1, kc', len', h2, h3⟩ := h.2 o kc len ho
  obtain ⟨k1, kc'', len'', k2, k3⟩ := k.2 o kc' len' h2
  refine ⟨k1.trans h1, kc'', len'', k2, ?_⟩
  omega
mutual
theorem CR.later (hL : Later ρ β ι ρ' β' ι') : ∀ {x : SC} {c : C}, CR ρ β ι x c → CR ρ' β' ι' x c
  | .d t x, c, h => by
    simp only [CR] at h ⊢
    obtain ⟨f, d, h1, h2, h3⟩ := h
    exact ⟨f, d, h1, hL.1 _ _ h2, h3⟩
  | .nil, c, h => by simpa only [CR] using h
  | .nilp, c, h => by simpa only [CR] using h
  | .nilm, c, h => by simpa only [CR] using h
  | .nilf, c, h => by simpa only [CR] using h
  | .fn f, c, h => by simpa only [CR] using h
  | .clo f caps, c, h => by
    simp only [CR] at h ⊢
    obtain ⟨l, h1, h2⟩ := h
    exact ⟨l, h1, CRs.later hL h2⟩
  | .ptr o off, c, h => by simpa only [CR] using h
  | .pa o k sz i j, c, h => by
    simp only [CR] at h ⊢
    obtain ⟨kd, n, p, h1, h2, h3, h4⟩ := h
    obtain ⟨e, kc', len', h5, _⟩ := hL.2 o p.1 p.2 h3
    exact ⟨kd, n, _, hL.1 _ _ h1, h2, h5, by rw [e]; exact h4⟩
  | .el x j, c, h => by
    simp only [CR] at h ⊢
    obtain ⟨cs, off, d, h1, h2, h3⟩ := h
    exact ⟨cs, off, d, h1, hL.1 _ _ h2, h3⟩
  | .rs o k, c, h => by
    simp only [CR] at h ⊢
    obtain ⟨n, kc, len, h1, h2, h3, h4⟩ := h
    obtain ⟨e, kc', len', h5, h6⟩ := hL.2 o kc len h2
    refine ⟨n, kc', len', by rw [e]; exact h1, h5, by omega, fun hk => ?_⟩
    have := h4 (by omega)
    omega
  | .mp o, c, h => by simpa only [CR] using h
  | .un, c, h => by simp only [CR]
theorem CRs.later (hL : Later ρ β ι ρ' β' ι') : ∀ {x : List SC} {c : List C}, CRs ρ β ι x c → CRs ρ' β' ι' x c
  | [], c, h => by simpa only [CRs] using h
  | x :: r, c, h => by
    simp only [CRs] at h ⊢
    obtain ⟨c, l', h1, h2, h3⟩ := h
    exact ⟨c, l', h1, CR.later hL h2, CRs.later hL h3⟩
end
theorem VR.un {v : V} : VR ρ β ι (.c .un) v := by simp only [VR]
theorem VR.c {x : SC} {c : C} (h : CR ρ β ι x c) : VR ρ β ι (.c x) (.c c) := by
  cases x <;> first | exact VR.un | (simp only [VR]; exact ⟨_, rfl, h⟩)
mutual
theorem VR.later (hL : Later ρ β ι ρ' β' ι') : ∀ {x : SV} {v : V}, VR ρ β ι x v → VR ρ' β' ι' x v
  | .c x, v, h => by
    cases x <;> first
      | exact VR.un
      | (simp only [VR] at h; obtain ⟨c, rfl, h⟩ := h; exact VR.c (CR.later hL h))
  | .a l, v, h => by
    simp only [VR] at h ⊢
    obtain ⟨l', h1, h2⟩ := h
    exact ⟨l', h1, CRs.later hL h2⟩
  | .t l, v, h => by
    simp only [VR] at h ⊢
    obtain ⟨l', h1, h2⟩ := h
    exact ⟨l', h1, VRs.later hL h2⟩
theorem VRs.later (hL : Later ρ β ι ρ' β' ι') : ∀ {x : List SV} {v : List V}, VRs ρ β ι x v → VRs ρ' β' ι' x v
  | [], v, h => by simpa only [VRs] using h
  | x :: r, v, h => by
    simp only [VRs] at h ⊢
    obtain ⟨c, l', h1, h2, h3⟩ := h
    exact ⟨c, l', h1, VR.later hL h2, VRs.later hL h3⟩
end
theorem OR.later (hL : Later ρ β ι ρ' β' ι') {o : Nat} (hβ : β' o = β o) {x : SOb} {ob : Ob} (h : OR ρ β ι o x ob) : OR ρ' β' ι' o x ob := by
  cases x with
  | cells l => obtain ⟨l', h1, h2⟩ := h; exact ⟨l', h1, h2.later hL⟩
  | arr w k ty sz t x => obtain ⟨d, fs, h1, h2, h3, h4, h5, h6⟩ := h; exact ⟨d, fs, hL.1 _ _ h1, h2, by rw [hβ]; exact h3, h4, by rw [hβ]; exact h5, h6⟩
  | bld T u x => obtain ⟨y, h1, h2⟩ := h; exact ⟨y, h1, h2.later hL⟩
  | any => trivial
theorem CRs.len : ∀ {x : List SC} {c : List C}, CRs ρ β ι x c → c.length = x.length
  | [], c, h => by simp only [CRs] at h; subst h; rfl
  | x :: r, c, h => by simp only [CRs] at h; obtain ⟨c, l', rfl, h2, h3⟩ := h; simp [CRs.len h3]
theorem CRs.get : ∀ {l : List SC} {l' : List C}, CRs ρ β ι l l' → ∀ {i : Nat} {x : SC}, l[i]? = some x → ∃ c, l'[i]? = some c ∧ CR ρ β ι x c
  | [], c, h, i, x, hi => by simp at hi
  | y :: r, c, h, i, x, hi => by
    simp only [CRs] at h
    obtain ⟨c, l', rfl, h2, h3⟩ := h
    cases i with
    | zero => simp at hi; subst hi; exact ⟨c, rfl, h2⟩
    | succ i => simp at hi; simpa using CRs.get h3 hi
theorem CRs.append : ∀ {l m : List SC} {l' m' : List C}, CRs ρ β ι l l' → CRs ρ β ι m m' → CRs ρ β ι (l ++ m) (l' ++ m')
  | [], m, l', m', h, k => by simp only [CRs] at h; subst h; exact k
  | x :: r, m, l', m', h, k => by
    simp only [CRs] at h
    obtain ⟨c, l0, rfl, h2, h3⟩ := h
    simp only [List.cons_append, CRs]
    exact ⟨c, l0 ++ m', rfl, h2, CRs.append h3 k⟩
theorem CRs.take : ∀ (n : Nat) {l : List SC} {l' : List C}, CRs ρ β ι l l' → CRs ρ β ι (l.take n) (l'.take n)
  | 0, l, l', h => by simp [CRs]
  | n + 1, [], l', h => by simp only [CRs] at h; subst h; simp [CRs]
  | n + 1, x :: r, l', h => by
    simp only [CRs] at h
    obtain ⟨c, l0, rfl, h2, h3⟩ := h
    simp only [List.take_succ_cons, CRs]
    exact ⟨c, l0.take n, rfl, h2, CRs.take n h3⟩
theorem CRs.drop : ∀ (n : Nat) {l : List SC} {l' : List C}, CRs ρ β ι l l' → CRs ρ β ι (l.drop n) (l'.drop n)
  | 0, l, l', h => h
  | n + 1, [], l', h => by simp only [CRs] at h; subst h; simp [CRs]
  | n + 1, x :: r, l', h => by
    simp only [CRs] at h
    obtain ⟨c, l0, rfl, h2, h3⟩ := h
    exact CRs.drop n h3
theorem VRs.len : ∀ {x : List SV} {c : List V}, VRs ρ β ι x c → c.length = x.length
  | [], c, h => by simp only [VRs] at h; subst h; rfl
  | x :: r, c, h => by simp only [VRs] at h; obtain ⟨c, l', rfl, h2, h3⟩ := h; simp [VRs.len h3]
theorem VRs.get : ∀ {l : List SV} {l' : List V}, VRs ρ β ι l l' → ∀ {i : Nat} {x : SV}, l[i]? = some x → ∃ c, l'[i]? = some c ∧ VR ρ β ι x c
  | [], c, h, i, x, hi => by simp at hi
  | y :: r, c, h, i, x, hi => by
    simp only [VRs] at h
    obtain ⟨c, l', rfl, h2, h3⟩ := h
    cases i with
    | zero => simp at hi; subst hi; exact ⟨c, rfl, h2⟩
    | succ i => simp at hi; simpa using VRs.get h3 hi
end
end Go.Dm.Sx
namespace Go.Dm.Sx
open Go.Dm
set_option linter.unusedVariables false
set_option linter.unusedSimpArgs false
inductive Tr where
  | fail
  | triv
  | br (x : Tm) (a b : Tr)
  | both (a b : Tr)
  | ar (op : BinOp) (a b : Tm) (r : Tr)
  | bin (op : BinOp) (k : IntKind) (a b : Tm) (r : Tr)
  | cmp (op : BinOp) (a b : Tm) (r : Tr)
  | scmp (op : BinOp) (a b : Tm) (r : Tr)
  | beq (ne : Bool) (a b : Tm) (r : Tr)
  | bnot (a : Tm) (r : Tr)
  | sapp (a b : Tm) (r : Tr)
  | ssub (s : Tm) (lo hi : Option Tm) (r : Tr)
  | slen (s : Tm) (r : Tr)
  | sget (s i : Tm) (r : Tr)
  | wrap (k : IntKind) (a : Tm) (r : Tr)
  | llen (t : Ty) (l : Tm) (r : Tr)
  | lget (t : Ty) (l i : Tm) (r : Tr)
  | lidx (t : Ty) (l i : Tm) (r : Tr)
  | lnil (t : Ty) (l : Tm) (a b : Tr)
  | lapp (t : Ty) (bytes : Nat) (a b : Tm) (r : Tr)
  | lnew (t : Ty) (bytes : Nat) (a : Tm) (r : Tr)
  | lsub (t : Ty) (l : Tm) (lo hi : Option Tm) (r : Tr)
  | lset (t : Ty) (l i x : Tm) (r : Tr)
  | lmk (t : Ty) (xs : List Tm) (r : Tr)
  | lrep (t : Ty) (bytes : Nat) (n x : Tm) (r : Tr)
  | mk (n : Nat) (xs : List Tm) (r : Tr)
  | cp (t : Ty) (x : Tm) (r : Tr)
  | toPtr (t : Ty) (x : Tm) (r : Tr)
  | deref (t : Ty) (x : Tm) (r : Tr)
  | some (t : Ty) (x : Tm) (r : Tr)
  | unopt (t : Ty) (x : Tm) (r : Tr)
  | isnil (t : Ty) (x : Tm) (r : Tr)
  | sbytes (s : Tm) (r : Tr)
  | sof (l : Tm) (r : Tr)
  | mnx (mx : Bool) (k : IntKind) (a b : Tm) (r : Tr)
  | ne0 (a : Tm) (r : Tr)
  | nneg (a : Tm) (r : Tr)
  | inn (a : Tm) (n : Nat) (r : Tr)
  | isn (a : Tm) (n : Nat) (r : Tr)
  | fcmp (op : BinOp) (a b : Tm) (r : Tr)
  | fsum (op : BinOp) (a b : Tm) (r : Tr)
  | fofi (a : Tm) (r : Tr)
  | foi (a : Tm) (r : Tr)
  | cx (a b : Tm) (r : Tr)
  | re (a : Tm) (r : Tr)
  | im (a : Tm) (r : Tr)
  | and (a b : Tm) (r : Tr)
  | call (i : Nat) (args : List Tm) (r : Tr)
  | ret (l : List Tm)
  | go (j : Nat) (l : List Tm)
  | here (j : Nat) (f : Unit → List Ty × List (Nat × SV) × List SOb)
  deriving Inhabited
variable {U : Uni}
def Dyn.int : Dyn U.B → Int
  | ⟨.int _, n⟩ => n
  | _ => 0
def Dyn.bool : Dyn U.B → Bool
  | ⟨.bool, b⟩ => b
  | _ => false
def Dyn.str : Dyn U.B → List UInt8
  | ⟨.str, s⟩ => s
  | _ => []
def Dyn.flo : Dyn U.B → Nat
  | ⟨.flo, s⟩ => s
  | _ => 0
def Dyn.cpl : Dyn U.B → Nat × Nat
  | ⟨.cpl, s⟩ => s
  | _ => (0, 0)
@[reducible] def HL (U : Uni) : List Ty → Type
  | [] => Unit
  | t :: ts => T U.B t × HL U ts
def HL.dyn : (ts : List Ty) → HL U ts → List (Dyn U.B)
  | [], _ => []
  | t :: ts, (x, xs) => ⟨t, x⟩ :: HL.dyn ts xs
def HL.of : (ts : List Ty) → List (Dyn U.B) → HL U ts
  | [], _ => ()
  | t :: ts, d :: l => (d.as t, HL.of ts l)
  | t :: ts, [] => (dfl U t, HL.of ts [])
inductive IC where
  | d (j : Nat)
  | row (o j : Nat)
  | ptr (o off : Nat)
  | mp (o : Nat)
  deriving Inhabited
inductive IO where
  | cells (l : List IC)
  | row (w : Bool) (ty sz : Nat) (t : Ty) (j : Nat)
  deriving Inhabited
inductive In where
  | ty (t : Ty)
  | fnc (f : Nat)
  | clo (f : Nat) (ts : List Ty)
  | st (b : Nat) (obs : List IO)
  | ptr (o off : Nat)
  | cloP (f : Nat) (l : List (Nat × Nat))
  deriving Inhabited
def In.tys : In → List Ty
  | .ty t => [t]
  | .fnc _ => []
  | .clo _ ts => ts
  | .st b _ => [.base b]
  | .ptr _ _ => []
  | .cloP _ _ => []
def stOf : List In → Option (Nat × List IO)
  | .st b obs :: _ => Option.some (b, obs)
  | _ => Option.none
def insTys : List In → List Ty
  | [] => []
  | i :: r => i.tys ++ insTys r
structure Sig where
  f : Nat
  ins : List In
  outs : List Ty
  deriving Inhabited
structure FSpec (U : Uni) where
  sig : Sig
  pre : HL U (insTys sig.ins) → Prop
  fn : HL U (insTys sig.ins) → List (Dyn U.B)
  ty : ∀ x, (fn x).map Dyn.t = sig.outs
def mnxI (mx : Bool) (a b : Int) : Int := match mx with | true => max a b | false => min a b
def exI (op : BinOp) (a b : Int) : Int := match op with | .add => a + b | .sub => a - b | .mul => a * b | _ => 0
def in64 (x : Int) : Prop := -9223372036854775808 ≤ x ∧ x ≤ 9223372036854775807
def optI (ρ : Rho U) (d : Int) : Option Tm → Int
  | .none => d
  | .some x => (x.den ρ).int
def TDen (Sp : List (FSpec U)) (Post : List (Dyn U.B) → Prop) (Go : Nat → List (Dyn U.B) → Prop) : Tr → Rho U → Prop
  | .fail, _ => False
  | .triv, _ => True
  | .br x a b, ρ => ((x.den ρ).bool = true → TDen Sp Post Go a ρ) ∧ ((x.den ρ).bool = false → TDen Sp Post Go b ρ)
  | .both a b, ρ => TDen Sp Post Go a ρ ∧ TDen Sp Post Go b ρ
  | .ar op a b r, ρ => ∀ x : Int, x = exI op (a.den ρ).int (b.den ρ).int → in64 x ∧ TDen Sp Post Go r (ρ ++ [⟨.int .i64, x⟩])
  | .bin op k a b r, ρ => ∀ x : Int, x = barith op k (a.den ρ).int (b.den ρ).int → TDen Sp Post Go r (ρ ++ [⟨.int k, x⟩])
  | .cmp op a b r, ρ => ∀ x : Bool, x = bcmp op (a.den ρ).int (b.den ρ).int → TDen Sp Post Go r (ρ ++ [⟨.bool, x⟩])
  | .scmp op a b r, ρ => ∀ x : Bool, x = bscmp op (a.den ρ).str (b.den ρ).str → TDen Sp Post Go r (ρ ++ [⟨.bool, x⟩])
  | .beq n a b r, ρ => ∀ x : Bool, x = (match n with | true => !((a.den ρ).bool == (b.den ρ).bool) | false => (a.den ρ).bool == (b.den ρ).bool) → TDen Sp Post Go r (ρ ++ [⟨.bool, x⟩])
  | .bnot a r, ρ => ∀ x : Bool, x = !(a.den ρ).bool → TDen Sp Post Go r (ρ ++ [⟨.bool, x⟩])
  | .sapp a b r, ρ => ∀ x : List UInt8, x = (a.den ρ).str ++ (b.den ρ).str → x.length ≤ 9223372036854775807 ∧ TDen Sp Post Go r (ρ ++ [⟨.str, x⟩])
  | .ssub s lo hi r, ρ => (0 ≤ optI ρ 0 lo ∧ optI ρ 0 lo ≤ optI ρ (s.den ρ).str.length hi ∧ optI ρ (s.den ρ).str.length hi ≤ (s.den ρ).str.length) ∧
      ∀ x : List UInt8, x = ((s.den ρ).str.drop (optI ρ 0 lo).toNat).take ((optI ρ (s.den ρ).str.length hi).toNat - (optI ρ 0 lo).toNat) → TDen Sp Post Go r (ρ ++ [⟨.str, x⟩])
  | .slen s r, ρ => ∀ x : Int, x = (s.den ρ).str.length → TDen Sp Post Go r (ρ ++ [⟨.int .i64, x⟩])
  | .sget s i r, ρ => (0 ≤ (i.den ρ).int ∧ (i.den ρ).int < (s.den ρ).str.length) ∧ ∀ x : Int, x = (((s.den ρ).str.getD (i.den ρ).int.toNat 0).toNat : Int) → TDen Sp Post Go r (ρ ++ [⟨.int .u8, x⟩])
  | .wrap k a r, ρ => ∀ x : Int, x = k.wrap (a.den ρ).int → TDen Sp Post Go r (ρ ++ [⟨.int k, x⟩])
  | .llen t l r, ρ => ∀ x : Int, x = ((l.den ρ).as (.list t)).length → TDen Sp Post Go r (ρ ++ [⟨.int .i64, x⟩])
  | .lget t l i r, ρ => (0 ≤ (i.den ρ).int ∧ (i.den ρ).int < ((l.den ρ).as (.list t)).length) ∧ ∀ x : T U.B t, ((l.den ρ).as (.list t))[(i.den ρ).int.toNat]? = Option.some x → TDen Sp Post Go r (ρ ++ [⟨t, x⟩])
  | .lidx t l i r, ρ => (0 ≤ (i.den ρ).int ∧ (i.den ρ).int < ((l.den ρ).as (.list t)).length) ∧ TDen Sp Post Go r ρ
  | .lnil t l a b, ρ => (((l.den ρ).as (.list t)) = [] → TDen Sp Post Go a ρ) ∧ (((l.den ρ).as (.list t)) ≠ [] → TDen Sp Post Go b ρ)
  | .lapp t bytes a b r, ρ => ∀ x : List (T U.B t), x = ((a.den ρ).as (.list t)) ++ ((b.den ρ).as (.list t)) → x.length * bytes ≤ 140737488355328 ∧ x.length ≤ 9223372036854775807 ∧ TDen Sp Post Go r (ρ ++ [⟨.list t, x⟩])
  | .lnew t bytes a r, ρ => ((a.den ρ).as (.list t)).length * bytes ≤ 140737488355328 ∧ ((a.den ρ).as (.list t)).length ≤ 9223372036854775807 ∧ TDen Sp Post Go r ρ
  | .lsub t l lo hi r, ρ => (0 ≤ optI ρ 0 lo ∧ optI ρ 0 lo ≤ optI ρ ((l.den ρ).as (.list t)).length hi ∧ optI ρ ((l.den ρ).as (.list t)).length hi ≤ ((l.den ρ).as (.list t)).length) ∧
      ∀ x : List (T U.B t), x = (((l.den ρ).as (.list t)).drop (optI ρ 0 lo).toNat).take ((optI ρ ((l.den ρ).as (.list t)).length hi).toNat - (optI ρ 0 lo).toNat) → TDen Sp Post Go r (ρ ++ [⟨.list t, x⟩])
  | .lset t l i y r, ρ => (0 ≤ (i.den ρ).int ∧ (i.den ρ).int < ((l.den ρ).as (.list t)).length) ∧ ∀ x : List (T U.B t), x = ((l.den ρ).as (.list t)).set (i.den ρ).int.toNat ((y.den ρ).as t) → TDen Sp Post Go r (ρ ++ [⟨.list t, x⟩])
  | .lmk t xs r, ρ => ∀ x : List (T U.B t), x = (xs.map fun y => (y.den ρ).as t) → TDen Sp Post Go r (ρ ++ [⟨.list t, x⟩])
  | .lrep t bytes n y r, ρ => (0 ≤ (n.den ρ).int ∧ (n.den ρ).int ≤ 16777216 ∧ (n.den ρ).int * bytes ≤ 16777216) ∧ ∀ x : List (T U.B t), x = List.replicate (n.den ρ).int.toNat ((y.den ρ).as t) → TDen Sp Post Go r (ρ ++ [⟨.list t, x⟩])
  | .mk n xs r, ρ => ∀ x : U.B n, x = U.bd n (xs.map fun y => y.den ρ) → TDen Sp Post Go r (ρ ++ [⟨.base n, x⟩])
  | .cp t y r, ρ => ∀ x : T U.B t, x = (y.den ρ).as t → TDen Sp Post Go r (ρ ++ [⟨t, x⟩])
  | .toPtr t y r, ρ => ∀ x : T U.B t, x = (y.den ρ).as t → TDen Sp Post Go r (ρ ++ [⟨.ptr t, x⟩])
  | .deref t y r, ρ => ∀ x : T U.B t, x = (y.den ρ).as (.ptr t) → TDen Sp Post Go r (ρ ++ [⟨t, x⟩])
  | .some t y r, ρ => ∀ x : Option (T U.B t), x = Option.some ((y.den ρ).as (.ptr t)) → TDen Sp Post Go r (ρ ++ [⟨.opt t, x⟩])
  | .unopt t y r, ρ => ∃ x : T U.B t, (y.den ρ).as (.opt t) = Option.some x ∧ TDen Sp Post Go r (ρ ++ [⟨.ptr t, x⟩])
  | .isnil t y r, ρ => ∀ x : Bool, x = ((y.den ρ).as (.opt t)).isNone → TDen Sp Post Go r (ρ ++ [⟨.bool, x⟩])
  | .sbytes s r, ρ => ∀ x : List Int, x = (s.den ρ).str.map (fun b => (b.toNat : Int)) → TDen Sp Post Go r (ρ ++ [⟨.list (.int .u8), x⟩])
  | .sof l r, ρ => ∃ x : List UInt8, ((l.den ρ).as (.list (.int .u8)) : List Int) = x.map (fun b => (b.toNat : Int)) ∧ TDen Sp Post Go r (ρ ++ [⟨.str, x⟩])
  | .mnx mx k a b r, ρ => ∀ x : Int, x = mnxI mx (a.den ρ).int (b.den ρ).int → TDen Sp Post Go r (ρ ++ [⟨.int k, x⟩])
  | .ne0 a r, ρ => (a.den ρ).int ≠ 0 ∧ TDen Sp Post Go r ρ
  | .nneg a r, ρ => 0 ≤ (a.den ρ).int ∧ TDen Sp Post Go r ρ
  | .inn a n r, ρ => (0 ≤ (a.den ρ).int ∧ (a.den ρ).int < n) ∧ TDen Sp Post Go r ρ
  | .isn a n r, ρ => (a.den ρ).int = n → TDen Sp Post Go r ρ
  | .fcmp op a b r, ρ => ∀ x : Bool, x = bfcmp op (a.den ρ).flo (b.den ρ).flo → TDen Sp Post Go r (ρ ++ [⟨.bool, x⟩])
  | .fsum op a b r, ρ => ∃ x : Nat, floatBits op .f64 (a.den ρ).flo (b.den ρ).flo = Option.some x ∧ TDen Sp Post Go r (ρ ++ [⟨.flo, x⟩])
  | .fofi a r, ρ => ∀ x : Nat, x = FloatKind.f64.nearest (a.den ρ).int → TDen Sp Post Go r (ρ ++ [⟨.flo, x⟩])
  | .foi a r, ρ => ∃ x : Int, floatToIntVal .f64 (a.den ρ).flo .i64 = Option.some x ∧ TDen Sp Post Go r (ρ ++ [⟨.int .i64, x⟩])
  | .cx a b r, ρ => ∀ x : Nat × Nat, x = ((a.den ρ).flo, (b.den ρ).flo) → TDen Sp Post Go r (ρ ++ [⟨.cpl, x⟩])
  | .re a r, ρ => ∀ x : Nat, x = (a.den ρ).cpl.1 → TDen Sp Post Go r (ρ ++ [⟨.flo, x⟩])
  | .im a r, ρ => ∀ x : Nat, x = (a.den ρ).cpl.2 → TDen Sp Post Go r (ρ ++ [⟨.flo, x⟩])
  | .and a b r, ρ => ∀ x : Bool, x = ((a.den ρ).bool && (b.den ρ).bool) → TDen Sp Post Go r (ρ ++ [⟨.bool, x⟩])
  | .call i args r, ρ =>
    (match Sp[i]? with
    | Option.some s => s.pre (HL.of _ (args.map fun y => y.den ρ)) ∧ TDen Sp Post Go r (ρ ++ s.fn (HL.of _ (args.map fun y => y.den ρ)))
    | Option.none => False)
  | .ret l, ρ => Post (l.map fun y => y.den ρ)
  | .go j l, ρ => Go j (l.map fun y => y.den ρ)
  | .here _ _, _ => False
def Tm.eqb : Tm → Tm → Bool
  | .at i, .at j => Nat.beq i j
  | .fld i j, .fld k l => (match Nat.beq i k with | true => Nat.beq j l | false => false)
  | .int k n, .int k' n' => (match sameK k k' with | true => ieq n n' | false => false)
  | .bool a, .bool b => (match a, b with | true, true | false, false => true | _, _ => false)
  | .str a, .str b => beqS a b
  | .nil t, .nil u => Ty.eqb t u
  | .none t, .none u => Ty.eqb t u
  | .flo a, .flo b => Nat.beq a b
  | .cpl a b, .cpl c d => (match Nat.beq a c with | true => Nat.beq b d | false => false)
  | _, _ => false
theorem Tm.eqb_ok {a b : Tm} (h : Tm.eqb a b = true) : a = b := by
  cases a <;> cases b <;> simp only [Tm.eqb, Bool.false_eq_true] at h
  · rw [beq_nat h]
  · rename_i i j k l
    cases h1 : Nat.beq i k <;> simp [h1] at h
    rw [beq_nat h1, beq_nat (a := j) (b := l) (by simpa using h)]
  · rename_i k n k' n'
    cases h1 : sameK k k' <;> simp [h1] at h
    rw [ieq_eq] at h
    rw [sameK_eq h1, eq_of_beq h]
  · rename_i a b; cases a <;> cases b <;> first | rfl | (simp at h)
  · rw [beqS_eq] at h; rw [eq_of_beq h]
  · rw [beq_nat h]
  · rename_i a b c d
    cases h1 : Nat.beq a c <;> simp [h1] at h
    rw [beq_nat h1, beq_nat (a := b) (b := d) (by simpa using h)]
  · rw [Ty.eqb_ok h]
  · rw [Ty.eqb_ok h]
structure SE where
  tys : List Ty
  kn : List (Tm × Bool)
  ne : List Tm
  deriving Inhabited
def SE.n (e : SE) : Nat := e.tys.length
def SE.push (e : SE) (t : Ty) : SE := { e with tys := e.tys ++ [t] }
def SE.new (e : SE) : Tm := .at e.n
def factL (x : Tm) : List (Tm × Bool) → Option Bool
  | [] => .none
  | (y, b) :: r => (match Tm.eqb x y with | true => .some b | false => factL x r)
def SE.fact (e : SE) (x : Tm) : Option Bool :=
  match x with
  | .bool b => .some b
  | x => factL x e.kn
def memT (x : Tm) : List Tm → Bool
  | [] => false
  | y :: r => (match Tm.eqb x y with | true => true | false => memT x r)
def tyCell (lay : Nat → List Ty) (t : Ty) (j : Nat) : Option Ty :=
  match t with
  | .base n => nth (lay n) j
  | t => (match j with | 0 => .some t | _ => .none)
def tmTy (lay : Nat → List Ty) (e : SE) : Tm → Option Ty
  | .at i => nth e.tys i
  | .fld i j => (match nth e.tys i with | .some (.ptr t) => tyCell lay t j | .some (.base n) => nth (lay n) j | _ => .none)
  | .int k _ => .some (.int k)
  | .bool _ => .some .bool
  | .str _ => .some .str
  | .flo _ => .some .flo
  | .cpl _ _ => .some .cpl
  | .nil t => .some (.list t)
  | .none t => .some (.opt t)
def wid (lay : Nat → List Ty) : Ty → Nat
  | .base n => (lay n).length
  | _ => 1
def lkS : SA → Nat → SV
  | [], _ => .c .un
  | (j, v) :: r, i => (match Nat.beq j i with | true => v | false => lkS r i)
def putS (m : Nat) (A : SA) (dst : Option Tmp) (v : SV) : SA :=
  match dst with
  | .none => A
  | .some d => (match Nat.blt d m with | true => (d, v) :: A | false => A)
def ofF : F → SC
  | .bool b => .d .bool (.bool b)
  | .int k n => .d (.int k) (.int k n)
  | .flo b => .d .flo (.flo b)
  | .cpl a b => .d .cpl (.cpl a b)
  | .str s => .d .str (.str s)
  | .nils => .nil
  | .nilp => .nilp
  | .nilm => .nilm
  | .nilf => .nilf
  | .fn f => .fn f
  | _ => .un
def ofV : V → SV
  | .c (.f x) => .c (ofF x)
  | _ => .c .un
def opS (A : SA) : Operand → SV
  | .tmp t => lkS A t
  | .const v => ofV (ofConst v)
  | .func f => .c (.fn f)
  | .global _ => .c .un
abbrev K1 := SE → SV → SSt → Tr
def vb (x : Tm) : SV := .c (.d .bool x)
def vi (k : IntKind) (x : Tm) : SV := .c (.d (.int k) x)
def brK (e : SE) (x : Tm) (a b : SE → Tr) : Tr :=
  match e.fact x with
  | .some true => a e
  | .some false => b e
  | .none => .br x (a { e with kn := (x, true) :: e.kn }) (b { e with kn := (x, false) :: e.kn })
def atomK (e : SE) (t : Ty) (x : Tm) (k : SE → Nat → Tr) : Tr :=
  match x with
  | .at i => k e i
  | x => .cp t x (k (e.push t) e.n)
def cellOf (lay : Nat → List Ty) (e : SE) (i j : Nat) : SC :=
  match nth e.tys i with
  | .some (.base n) => (match nth (lay n) j with | .some t => .d t (.fld i j) | .none => .un)
  | .some (.ptr t) => (match tyCell lay t j with | .some t => .d t (.fld i j) | .none => .un)
  | .some (.opt _) => .un
  | .some t => (match j with | 0 => .d t (.at i) | _ => .un)
  | .none => .un
end Go.Dm.Sx
namespace Go.Dm.Sx
open Go.Dm
set_option linter.unusedVariables false
set_option linter.unusedSimpArgs false
def isX64 (j : IntKind) (op : BinOp) : Bool := match j, op with | .i64, .add => true | .i64, .sub => true | .i64, .mul => true | _, _ => false
def binS (e : SE) (d : TD) (op : BinOp) (x y : SV) (k : SE → SV → Tr) : Tr :=
  match x, y with
  | .c (.d (.int j) a), .c (.d (.int j') b) =>
    (match isSh op with
    | true => .nneg b (.bin op j a b (k (e.push (.int j)) (vi j e.new)))
    | false =>
      (match sameK j j' with
      | false => .fail
      | true =>
        (match isCmp op with
        | true => (match a, b with
          | .int _ m, .int _ n => k e (vb (.bool (bcmp op m n)))
          | a, b => .cmp op a b (k (e.push .bool) (vb e.new)))
        | false =>
          (match isDiv op with
          | true => .ne0 b (.bin op j a b (k (e.push (.int j)) (vi j e.new)))
          | false =>
            (match isAr op with
            | false => .fail
            | true =>
              (match a, b with
              | .int _ m, .int _ n => k e (vi j (.int j (barith op j m n)))
              | a, b =>
                (match isX64 j op with
                | true => .ar op a b (k (e.push (.int j)) (vi j e.new))
                | false => .bin op j a b (k (e.push (.int j)) (vi j e.new)))))))))
  | .c (.d .bool a), .c (.d .bool b) =>
    (match d, op with
    | .bool, .eql => .beq false a b (k (e.push .bool) (vb e.new))
    | .bool, .neq => .beq true a b (k (e.push .bool) (vb e.new))
    | _, _ => .fail)
  | .c (.d .str a), .c (.d .str b) =>
    (match isCmp op with
    | true => (match a, b with
      | .str m, .str n => k e (vb (.bool (bscmp op m n)))
      | a, b => .scmp op a b (k (e.push .bool) (vb e.new)))
    | false => (match op with | .add => .sapp a b (k (e.push .str) (.c (.d .str e.new))) | _ => .fail))
  | .c (.d .flo a), .c (.d .flo b) =>
    (match isCmp op with
    | true => .fcmp op a b (k (e.push .bool) (vb e.new))
    | false => (match op with
      | .add => .fsum .add a b (k (e.push .flo) (.c (.d .flo e.new)))
      | .sub => .fsum .sub a b (k (e.push .flo) (.c (.d .flo e.new)))
      | _ => .fail))
  | .c (.d .cpl a), .c (.d .cpl b) =>
    (match op with
    | .add => cplS .add e a b k
    | .sub => cplS .sub e a b k
    | .eql => cplE e a b fun e x => k e (vb x)
    | .neq => cplE e a b fun e x => .bnot x (k (e.push .bool) (vb e.new))
    | _ => .fail)
  | _, _ => .fail
where
  cplS (op : BinOp) (e : SE) (a b : Tm) (k : SE → SV → Tr) : Tr :=
    .re a (.re b (.fsum op (.at e.n) (.at (e.n + 1)) (.im a (.im b (.fsum op (.at (e.n + 3)) (.at (e.n + 4)) (.cx (.at (e.n + 2)) (.at (e.n + 5))
      (k (((((((e.push .flo).push .flo).push .flo).push .flo).push .flo).push .flo).push .cpl) (.c (.d .cpl (.at (e.n + 6)))))))))))
  cplE (e : SE) (a b : Tm) (k : SE → Tm → Tr) : Tr :=
    .re a (.re b (.fcmp .eql (.at e.n) (.at (e.n + 1)) (.im a (.im b (.fcmp .eql (.at (e.n + 3)) (.at (e.n + 4)) (.and (.at (e.n + 2)) (.at (e.n + 5))
      (k (((((((e.push .flo).push .flo).push .bool).push .flo).push .flo).push .bool).push .bool) (.at (e.n + 6)))))))))
def unS (e : SE) (op : UnOp) (x : SV) (k : SE → SV → Tr) : Tr :=
  match op, x with
  | .not, .c (.d .bool a) =>
    (match e.fact a with
    | .some b => k e (vb (.bool (!b)))
    | .none => .bnot a (k (e.push .bool) (vb e.new)))
  | .neg, .c (.d (.int j) a) =>
    (match a with
    | .int _ n => k e (vi j (.int j (barith .sub j 0 n)))
    | a => .bin .sub j (.int j 0) a (k (e.push (.int j)) (vi j e.new)))
  | _, _ => .fail
def pickS (e : SE) (c a b : SV) (k : SE → SV → Tr) : Tr :=
  match c with
  | .c (.d .bool x) => brK e x (fun e => k e a) (fun e => k e b)
  | _ => .fail
def cutS (l : List SC) (off n : Nat) : Option (List SC) :=
  match Nat.ble (off + n) l.length with | true => .some ((l.drop off).take n) | false => .none
def partS (agg : Bool) (l : List SC) (off n : Nat) (k : SV → Tr) : Tr :=
  match agg with
  | true => (match cutS l off n with | .some r => k (.a r) | .none => .fail)
  | false => (match nth l off with | .some c => k (.c c) | .none => .fail)
def cellsFrom (lay : Nat → List Ty) (e : SE) (i : Nat) : Nat → Nat → List SC
  | _, 0 => []
  | j, n + 1 => cellOf lay e i j :: cellsFrom lay e i (j + 1) n
def spanOf (lay : Nat → List Ty) (e : SE) (i : Nat) : Nat :=
  match nth e.tys i with
  | .some (.base n) => (lay n).length
  | .some (.ptr t) => wid lay t
  | .some (.opt _) => 0
  | .some _ => 1
  | .none => 0
def addrS (e : SE) (x : SV) (k : SE → SV → Tr) : Tr :=
  match x with
  | .c (.d (.ptr t) a) => atomK e (.ptr t) a fun e i => k e (.c (.el (.at i) 0))
  | .c (.d (.opt t) a) => .unopt t a (k (e.push (.ptr t)) (.c (.el e.new 0)))
  | x => k e x
def loadS (lay : Nat → List Ty) (e : SE) (agg : Bool) (n : Nat) (x : SV) (S : SSt) (k : SE → SV → Tr) : Tr :=
  match x with
  | .c (.ptr o off) =>
    (match nth S o with
    | .some (.cells l) => partS agg l off n (k e)
    | .some (.bld _ u y) =>
      (match agg, off with
      | false, 0 => k e (match u with | true => .c (.ptr o 0) | false => .c .nilp)
      | false, 1 => k e (.c y)
      | _, _ => .fail)
    | _ => .fail)
  | .c (.el (.at i) j) =>
    (match agg with
    | true => (match Nat.ble (j + n) (spanOf lay e i), Nat.blt 0 n with | true, true => k e (.a (cellsFrom lay e i j n)) | _, _ => .fail)
    | false => (match Nat.blt j (spanOf lay e i) with | true => k e (.c (cellOf lay e i j)) | false => .fail))
  | .c (.pa o kk sz i j) =>
    (match nth S o with
    | .some (.arr w k' ty sz' t x) =>
      (match Nat.beq kk k', Nat.beq sz sz' with
      | true, true =>
        (match t with
        | .base b =>
          (match agg with
          | true => (match Nat.ble (j + n) (lay b).length, Nat.blt 0 n with | true, true => .lget t x i (k (e.push t) (.a (cellsFrom lay (e.push t) e.n j n))) | _, _ => .fail)
          | false => (match Nat.blt j (lay b).length with | true => .lget t x i (k (e.push t) (.c (cellOf lay (e.push t) e.n j))) | false => .fail))
        | t => (match agg, j with | false, 0 => .lget t x i (k (e.push t) (.c (.d t e.new))) | _, _ => .fail))
      | _, _ => .fail)
    | _ => .fail)
  | _ => .fail
def freshS (S : SSt) (o kk : Nat) : Bool := match nth S o with | .some (.arr _ k' _ _ _ _) => Nat.beq kk k' | _ => false
def fieldS (x : SV) (fo : Nat) (S : SSt) (k : SV → Tr) : Tr :=
  match x with
  | .c (.ptr o off) => k (.c (.ptr o (off + fo)))
  | .c (.el a j) => k (.c (.el a (j + fo)))
  | .c (.pa o kk sz i j) => (match freshS S o kk with | true => k (.c (.pa o kk sz i (j + fo))) | false => .fail)
  | _ => .fail
def nilcS (e : SE) (x : SV) (S : SSt) (k : SE → SV → Tr) : Tr :=
  match x with
  | .c (.ptr o off) => k e x
  | .c (.el a j) => k e x
  | .c (.d (.ptr t) a) => k e x
  | .c (.d (.opt t) a) => .unopt t a (k (e.push (.ptr t)) (.c (.d (.ptr t) e.new)))
  | .c (.pa o kk sz i j) => (match freshS S o kk with | true => k e x | false => .fail)
  | _ => .fail
def plainElem : Ty → Bool
  | .ptr _ | .opt _ => false
  | _ => true
def ixrS (lay : Nat → List Ty) (e : SE) (sz : Nat) (x i : SV) (S : SSt) (k : SE → SV → Tr) : Tr :=
  match x, i with
  | .c (.d (.list t) l), .c (.d (.int _) a) =>
    (match Nat.beq sz (wid lay t), plainElem t with
    | true, true => .lget t l a (k (e.push t) (.c (.el e.new 0)))
    | _, _ => .fail)
  | .c (.rs o kk), .c (.d (.int _) a) =>
    (match nth S o with
    | .some (.arr w k' ty sz' t l) => (match Nat.beq kk k', Nat.beq sz sz' with | true, true => .lidx t l a (k e (.c (.pa o kk sz a 0))) | _, _ => .fail)
    | _ => .fail)
  | _, _ => .fail
def casesS (a : Tm) (k : Nat → Tr) : Nat → Nat → Tr
  | _, 0 => .triv
  | c, n + 1 => .both (.isn a c (k c)) (casesS a k (c + 1) n)
def caseS (a : Tm) (n : Nat) (k : Nat → Tr) : Tr :=
  match a with
  | .int _ (.ofNat c) => (match Nat.blt c n with | true => k c | false => .fail)
  | a => .inn a n (casesS a k 0 n)
def ixaS (n sz : Nat) (x i : SV) (S : SSt) (k : SV → Tr) : Tr :=
  match i with
  | .c (.d (.int _) a) => caseS a n fun c => fieldS x (c * sz) S k
  | _ => .fail
def chrS (e : SE) (x i : SV) (k : SE → SV → Tr) : Tr :=
  match x, i with
  | .c (.d .str s), .c (.d (.int _) a) =>
    (match s, a with
    | .str l, .int _ (.ofNat c) => (match nth l c with | .some b => k e (vi .u8 (.int .u8 (.ofNat b.toNat))) | .none => .fail)
    | s, a => .sget s a (k (e.push (.int .u8)) (vi .u8 e.new)))
  | _, _ => .fail
def lenS (e : SE) (d : TD) (x : SV) (S : SSt) (k : SE → SV → Tr) : Tr :=
  match d, x with
  | .str, .c (.d .str s) => (match s with | .str l => k e (vi .i64 (.int .i64 (.ofNat l.length))) | s => .slen s (k (e.push (.int .i64)) (vi .i64 e.new)))
  | .slice _, .c .nil => k e (vi .i64 (.int .i64 0))
  | .slice _, .c (.d (.list t) l) => .llen t l (k (e.push (.int .i64)) (vi .i64 e.new))
  | .slice _, .c (.rs o kk) =>
    (match nth S o with
    | .some (.arr w k' ty sz' t l) => (match Nat.beq kk k' with | true => .llen t l (k (e.push (.int .i64)) (vi .i64 e.new)) | false => .fail)
    | _ => .fail)
  | _, _ => .fail
end Go.Dm.Sx
