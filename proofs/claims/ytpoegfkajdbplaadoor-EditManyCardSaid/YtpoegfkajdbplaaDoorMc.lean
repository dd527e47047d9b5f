/- Printed by merge2.py: many texts in one. -/
import Derived.Test.YtpoegfkajdbplaaDoorMb
import Derived.Orders
import Derived.Laws.BitsLemmas
import Derived.Below

namespace Go.Dm
set_option linter.unusedVariables false
set_option linter.unusedSimpArgs false
def CallEnd (g : G) (w : World) (σ : St) (k : V → St → Prop) (v : Value) (w' : World) : Prop :=
  ∃ r σ' g', k r σ' ∧ Rep g' w' σ' ∧ Turn g w σ g' w' σ' ∧ VRep g' w' σ' r v
def CallAt (P : Program) (f : FuncId) (args : List V) (σ : St) (k : V → St → Prop) : Prop :=
  ∀ g w vs, Rep g w σ → VReps g w σ args vs →
    (∃ v w', (callFunc f vs.toArray).run P w = .ok (.value v) w' ∧ CallEnd g w σ k v w') ∨
    ((callFunc f vs.toArray).run P w = .ok (.enter f vs.toArray) w ∧ Calls P f vs.toArray w fun e w' => ∃ v, e = .returned v ∧ CallEnd g w σ k v w')
theorem CallEnd.mono {g : G} {w : World} {σ : St} {k k' : V → St → Prop} {v : Value} {w' : World} (h : CallEnd g w σ k v w') (hk : ∀ r σ', k r σ' → k' r σ') : CallEnd g w σ k' v w' :=
  let ⟨r, σ', g', a, b⟩ := h; ⟨r, σ', g', hk _ _ a, b⟩
theorem CallAt.mono {P : Program} {f : FuncId} {args : List V} {σ : St} {k k' : V → St → Prop} (h : CallAt P f args σ k) (hk : ∀ r σ', k r σ' → k' r σ') : CallAt P f args σ k' := by
  intro g w vs hr hv
  rcases h g w vs hr hv with ⟨v, w', h1, h2⟩ | ⟨h1, h2⟩
  · exact .inl ⟨v, w', h1, h2.mono hk⟩
  · exact .inr ⟨h1, h2.mono fun e w' ⟨v, h3, h4⟩ => ⟨v, h3, h4.mono hk⟩⟩
def PureAt (P : Program) (f : FuncId) (args : List V) (r : V) : Prop := ∀ σ, CallAt P f args σ fun r' σ' => r' = r ∧ σ' = σ
def PureK (P : Program) (f : FuncId) (args : List V) (k : V → Prop) : Prop := ∃ r, PureAt P f args r ∧ k r
theorem PureAt.call {P : Program} {f : FuncId} {args : List V} {r : V} (h : PureAt P f args r) {σ : St} {k : V → St → Prop} (hk : k r σ) : CallAt P f args σ k :=
  (h σ).mono fun r' σ' ⟨h1, h2⟩ => by subst h1 h2; exact hk
structure Mx where
  T : Pr
  pk : FuncId → List V → (V → Prop) → Prop
  ca : FuncId → List V → St → (V → St → Prop) → Prop
abbrev mx (P : Program) : Mx := ⟨prims, PureK P, CallAt P⟩
def callee (x : V) (args : List V) : Option (FuncId × List V) :=
  match x with
  | .c (.f (.fn f)) => some (f, args)
  | .c (.clo f caps) => some (f, args ++ caps.map .c)
  | _ => none
def vdo (X : Mx) (pf : FuncId → Bool) (tb : Tab) (o : Op) (fr : Fr) (σ : St) (k : V → St → Prop) : Prop :=
  match o with
  | .call { callee := .value x, args, argTypes } =>
    (match callee (opd fr x) (args.toList.map (opd fr)) with
    | some (f, l) => (match pf f with | true => vsofts X.T l σ fun l' σ' => X.pk f l' fun r => k r σ' | false => X.ca f l σ k)
    | none => False)
  | o => vop2 X.T tb o fr σ k
def Fr.put (fr : Fr) (dst : Option Tmp) (v : V) : Fr :=
  match dst with
  | some d => List.set fr d v
  | none => fr
def vguard (ops : Array Oper) (fr : Fr) (o : Oper) (x y : Prop) : Prop :=
  match o.guard with
  | none => x
  | some (j, want) =>
    match (ops[j]?).bind (·.dst) with
    | none => y
    | some d =>
      match fr[d]? with
      | some (.c (.f (.bool b))) => (match want with | true => (match b with | true => x | false => y) | false => (match b with | true => y | false => x))
      | some (.t _) => y
      | _ => False
section
variable {P : Program} {pf : FuncId → Bool} {tb : Tab} {g : G} {w : World} {σ : St}
theorem VReps.append : ∀ {l l' : List V} {vs vs' : List Value}, VReps g w σ l vs → VReps g w σ l' vs' → VReps g w σ (l ++ l') (vs ++ vs')
  | [], l', vs, vs', h, h' => by simp only [VReps] at h; subst h; exact h'
  | c :: r, l', vs, vs', h, h' => by obtain ⟨v, vr, rfl, h1, h2⟩ := h; exact ⟨v, vr ++ vs', rfl, h1, VReps.append h2 h'⟩
theorem CReps.v : ∀ {l : List C} {vs : List Value}, CReps g w σ l vs → VReps g w σ (l.map .c) vs
  | [], vs, h => h
  | c :: r, vs, h => by obtain ⟨v, vr, rfl, h1, h2⟩ := h; exact ⟨v, vr, rfl, h1, CReps.v h2⟩
def Does (P : Program) (o : Oper) (a : Act) (g : G) (w : World) (σ : St) (k : V → St → Prop) : Prop :=
  Good P o a g w σ k ∨ ∃ f vs, (execOp a.eval o).run P w = (callFunc f (List.toArray vs)).run P w ∧ ∃ l σ' g', Rep g' w σ' ∧ Turn g w σ g' w σ' ∧ VReps g' w σ' l vs ∧ CallAt P f l σ' k
theorem vdo_ok (tok : TabOk P tb) (hr : Rep g w σ) {o : Oper} {a : Act} {fr : Fr} (hf : FrRep g w σ fr a.tmps) {k : V → St → Prop} (hk : vdo (mx P) pf tb o.op fr σ k) : Does P o a g w σ k := by
  unfold vdo at hk
  split at hk
  · rename_i x args at' hop
    refine .inr ?_
    have hargs := opds_rep hf args.toList
    have hx := opd_rep hf x
    split at hk
    · rename_i f l hc
      have hcall : ∀ {vs}, VReps g w σ l vs → ∃ l σ' g', Rep g' w σ' ∧ Turn g w σ g' w σ' ∧ VReps g' w σ' l vs ∧ CallAt P f l σ' k := fun {vs} hvs => by
        split at hk
        · obtain ⟨l', σ', g', q1, q2, q3, r, h1, h2⟩ := softs_ok l hr hvs hk
          exact ⟨l', σ', g', q1, q2, q3, h1.call h2⟩
        · exact ⟨l, σ, g, hr, Turn.refl _ _ _, hvs, hk⟩
      have hat : args.map a.eval = (args.toList.map a.eval).toArray := by apply Array.ext'; rw [Array.toList_map]
      unfold callee at hc
      split at hc
      · rename_i f' e
        cases hc
        rw [e] at hx
        have hv : a.eval x = .func (.func f) #[] #[] := hx
        refine ⟨f, args.toList.map a.eval, ?_, hcall hargs⟩
        unfold execOp
        simp only [hop, resolve, hv, Deferred.ofValue, Sem.run_bind, Sem.run_pure, Result.andThen, invoke, hat]
        congr 2
        simp
      · rename_i f' caps e
        cases hc
        rw [e] at hx
        obtain ⟨cs, hv, hcs⟩ := hx
        refine ⟨f, args.toList.map a.eval ++ cs, ?_, hcall (hargs.append hcs.v)⟩
        unfold execOp
        simp only [hop, resolve, hv, Deferred.ofValue, Sem.run_bind, Sem.run_pure, Result.andThen, invoke, hat]
        congr 2
        simp
      · cases hc
    · exact hk.elim
  · exact .inl (vop2_ok tok hr hf hk)
theorem FrRep.put {fr : Fr} {tmps : Array Value} (hf : FrRep g w σ fr tmps) {v : V} {u : Value} (hv : VRep g w σ v u) (dst : Option Tmp) :
    FrRep g w σ (fr.put dst v) (match dst with | some d => tmps.setIfInBounds d u | none => tmps) := by
  cases dst with
  | none => exact hf
  | some d =>
    refine ⟨by simp [Fr.put, hf.1], fun i => ?_⟩
    have h := hf.2 i
    simp only [Fr.put, List.getD_eq_getElem?_getD, Array.getD_eq_getD_getElem?, List.getElem?_set, Array.getElem?_setIfInBounds] at h ⊢
    by_cases hd : d = i
    · subst hd
      by_cases hlt : d < fr.length
      · have hlt' : d < tmps.size := by rw [← hf.1]; exact hlt
        simpa [hlt, hlt'] using hv
      · have hlt' : ¬ d < tmps.size := by rw [← hf.1]; exact hlt
        simp [hlt, hlt', VRep, CRep]
    · simpa [hd] using h
theorem put_tmps (a : Act) (dst : Option Tmp) (v : Value) : (a.put dst v).tmps = (match dst with | some d => a.tmps.setIfInBounds d v | none => a.tmps) := by
  cases dst <;> rfl
theorem put_defers (a : Act) (dst : Option Tmp) (v : Value) : (a.put dst v).defers = a.defers := by
  cases dst <;> rfl
def Lifts (g : G) (w : World) (σ : St) (K : Fr → St → Prop) (a : Act) (w' : World) : Prop :=
  ∃ fr' σ' g', K fr' σ' ∧ Rep g' w' σ' ∧ Turn g w σ g' w' σ' ∧ FrRep g' w' σ' fr' a.tmps ∧ a.defers = []
theorem Does.wp {o : Oper} {a : Act} {fr : Fr} (hr : Rep g w σ) (hf : FrRep g w σ fr a.tmps) (hd : a.defers = []) {K : Fr → St → Prop} {Q : Exit → Act → World → Prop} (h : Does P o a g w σ fun v σ' => K (fr.put o.dst v) σ') :
    o.wp P a w (Lifts g w σ K) Q := by
  have fin : ∀ {v : Value} {w' : World} {σ' g' r}, K (fr.put o.dst r) σ' → Rep g' w' σ' → Turn g w σ g' w' σ' → VRep g' w' σ' r v → Lifts g w σ K (a.put o.dst v) w' :=
    fun {v w' σ' g' r} h1 h2 h3 h4 => ⟨_, σ', g', h1, h2, h3, by rw [put_tmps]; exact (hf.turn h3).put h4 o.dst, by rw [put_defers]; exact hd⟩
  unfold Oper.wp
  rcases h with ⟨r, σ', g', w', v, nx, h1, h2, h3, h4, h5, h6⟩ | ⟨f, vs, h1, l, σ1, g1, k1, k2, h2, h3⟩
  · rw [h1]
    rcases h2 with rfl | ⟨rfl, rfl⟩
    · rw [Oper.upon_value]; exact fin h3 h4 h5 h6
    · rw [Oper.upon_skip]; exact fin h3 h4 h5 h6
  · rw [h1]
    rcases h3 g1 w vs k1 h2 with ⟨v, w', h4, r, σ', g', h5, h6, h7, h8⟩ | ⟨h4, h5⟩
    · rw [h4, Oper.upon_value]; exact fin h5 h6 (k2.trans h7) h8
    · rw [h4, Oper.upon_enter]
      refine h5.mono ?_
      rintro e w' ⟨v, rfl, r, σ', g', h5, h6, h7, h8⟩
      exact fin h5 h6 (k2.trans h7) h8
theorem guard_ok {ops : Array Oper} {fr : Fr} {tmps : Array Value} (hf : FrRep g w σ fr tmps) {o : Oper} {x y : Prop} (h : vguard ops fr o x y) :
    (Region.wanted o (yielded ops tmps) = true ∧ x) ∨ (Region.wanted o (yielded ops tmps) = false ∧ y) := by
  unfold vguard at h
  unfold Region.wanted
  split at h
  · rename_i hg; rw [hg]; exact .inl ⟨rfl, h⟩
  · rename_i j want hg
    rw [hg]
    simp only
    split at h
    · rename_i hn
      right
      refine ⟨?_, h⟩
      unfold yielded
      rw [hn]
      cases want <;> rfl
    · rename_i d hs
      split at h
      · rename_i b hb
        have hv := hf.2 d
        have hlt : d < fr.length := (List.getElem?_eq_some_iff.1 hb).1
        have hlt' : d < tmps.size := by rw [← hf.1]; exact hlt
        simp only [List.getD_eq_getElem?_getD, hb, Option.getD_some] at hv
        have hv' : tmps.getD d undef = .bool b := hv
        have hget : tmps[d]? = some (.bool b) := by
          rw [Array.getD_eq_getD_getElem?, Array.getElem?_eq_getElem hlt'] at hv'
          rw [Array.getElem?_eq_getElem hlt']
          exact congrArg some hv'
        have hy : yielded ops tmps j = some b := by
          unfold yielded
          rw [hs]
          simp only [Option.bind_some, hget]
        rw [hy]
        cases b <;> cases want <;> first | exact .inl ⟨rfl, h⟩ | exact .inr ⟨rfl, h⟩
      · rename_i l hb
        have hv := hf.2 d
        have hlt : d < fr.length := (List.getElem?_eq_some_iff.1 hb).1
        have hlt' : d < tmps.size := by rw [← hf.1]; exact hlt
        simp only [List.getD_eq_getElem?_getD, hb, Option.getD_some] at hv
        obtain ⟨vs, hv', _⟩ := hv
        have hget : tmps[d]? = some (.tuple vs.toArray) := by
          rw [Array.getD_eq_getD_getElem?, Array.getElem?_eq_getElem hlt'] at hv'
          rw [Array.getElem?_eq_getElem hlt']
          exact congrArg some hv'
        have hy : yielded ops tmps j = none := by
          unfold yielded
          rw [hs]
          simp only [Option.bind_some, hget]
        rw [hy]
        cases want <;> exact .inr ⟨rfl, h⟩
      · exact h.elim
theorem Lifts.trans {g' : G} {w' : World} {σ' : St} (ht : Turn g w σ g' w' σ') {K : Fr → St → Prop} {a : Act} {w'' : World} (h : Lifts g' w' σ' K a w'') : Lifts g w σ K a w'' :=
  let ⟨fr, τ, g'', h1, h2, h3, h4, h5⟩ := h; ⟨fr, τ, g'', h1, h2, ht.trans h3, h4, h5⟩
end
end Go.Dm
namespace Go.Dm
set_option linter.unusedVariables false
set_option linter.unusedSimpArgs false
def stillOp (tb : Tab) : Op → Bool
  | .move _ | .assign _ | .pick .. | .binOp .. | .unOp .. | .field .. | .extract .. | .build .. | .fieldAddr .. | .indexAddr .. | .index .. | .nilCheck _ | .makeFunc .. | .load .. => true
  | .slice _ _ _ _ none => true
  | .convert s d _ => (match (tb d).d with | .slice _ => false | _ => true)
  | .call { callee := .builtin .len, .. } | .call { callee := .builtin .min, .. } | .call { callee := .builtin .max, .. } | .call { callee := .builtin .complex, .. } | .call { callee := .builtin .real, .. } | .call { callee := .builtin .imag, .. } => true
  | _ => false
def farV : V → Bool
  | .c (.rs ..) | .c (.pa ..) => true
  | _ => false
def ptrV : V → Bool
  | .c (.ptr ..) => true
  | _ => false
def tless (pf : FuncId → Bool) (tb : Tab) (o : Op) (fr : Fr) : Bool :=
  match o with
  | .call { callee := .value x, args, .. } => (match callee (opd fr x) (args.toList.map (opd fr)) with | some (f, l) => pf f && !l.any V.hasRs | none => false)
  | .load _ x => !farV (opd fr x) && !ptrV (opd fr x)
  | o => !extraB tb o && stillOp tb o && o.operands.toList.all fun x => !farV (opd fr x)
def freeAt (ops : Array Oper) (listed : Array Bool) (i : Nat) : Bool := Region.free .any ops listed i
def vall (f : Nat → Prop) : List Nat → Prop
  | [] => True
  | [i] => f i
  | i :: r => f i ∧ vall f r
section
variable {P : Program} {pf : FuncId → Bool} {tb : Tab}
theorem vfill_congr {fs : List (Nat × TypeId)} {fr fr' : Fr} : ∀ (l : List (Nat × Operand)) (h : ∀ x ∈ l.map (·.2), opd fr x = opd fr' x) (cs : List C), vfill tb fs fr l cs = vfill tb fs fr' l cs
  | [], _, _ => rfl
  | (i, x) :: r, h, cs => by
    have e := h x (by simp)
    have ih := vfill_congr (fs := fs) r (fun y hy => h y (by simp only [List.map_cons, List.mem_cons]; exact .inr hy))
    simp only [vfill, e, ih]
theorem vfillRow_congr {sz : Nat} {fr fr' : Fr} : ∀ (l : List (Nat × Operand)) (h : ∀ x ∈ l.map (·.2), opd fr x = opd fr' x) (cs : List C), vfillRow sz fr l cs = vfillRow sz fr' l cs
  | [], _, _ => rfl
  | (i, x) :: r, h, cs => by
    have e := h x (by simp)
    have ih := vfillRow_congr (sz := sz) r (fun y hy => h y (by simp only [List.map_cons, List.mem_cons]; exact .inr hy))
    simp only [vfillRow, e, ih]
theorem map_congr {fr fr' : Fr} {l : List Operand} (h : ∀ x ∈ l, opd fr x = opd fr' x) : l.map (opd fr) = l.map (opd fr') := List.map_congr_left h
theorem xextra_congr {o : Op} {fr fr' : Fr} (h : ∀ x ∈ o.operands, opd fr x = opd fr' x) {σ : St} : xextra tb o (opd fr) σ = xextra tb o (opd fr') σ := by
  cases o with
  | binOp op t x y p =>
    have e1 : opd fr x = opd fr' x := h x (by simp [Op.operands])
    have e2 : opd fr y = opd fr' y := h y (by simp [Op.operands])
    simp only [xextra, e1, e2]
  | makeSlice t x y =>
    have e1 : opd fr x = opd fr' x := h x (by simp [Op.operands])
    have e2 : opd fr y = opd fr' y := h y (by simp [Op.operands])
    simp only [xextra, e1, e2]
  | fieldAddr t x i =>
    have e1 : opd fr x = opd fr' x := h x (by simp [Op.operands])
    simp only [xextra, e1]
  | convert s d x =>
    have e1 : opd fr x = opd fr' x := h x (by simp [Op.operands])
    simp only [xextra, e1]
  | call c =>
    obtain ⟨cal, args, at'⟩ := c
    cases cal with
    | builtin b =>
      have e : args.toList.map (opd fr) = args.toList.map (opd fr') := List.map_congr_left fun x hx => h x (by simp [Op.operands, Call.operands]; simpa using hx)
      simp only [xextra, e]
    | _ => rfl
  | _ => rfl
theorem vop2_congr {T : Pr} {o : Op} {fr fr' : Fr} (h : ∀ x ∈ o.operands, opd fr x = opd fr' x) {σ : St} {k : V → St → Prop} (hv : vop T tb o fr σ k = vop T tb o fr' σ k) : vop2 T tb o fr σ k = vop2 T tb o fr' σ k := by
  unfold vop2 vextra
  rw [hv, xextra_congr h]
theorem vdo_congr {X : Mx} {o : Op} {fr fr' : Fr} (h : ∀ x ∈ o.operands, opd fr x = opd fr' x) {σ : St} {k : V → St → Prop} : vdo X pf tb o fr σ k = vdo X pf tb o fr' σ k := by
  have h0 := h
  cases o with
  | build t parts =>
    simp only [Op.operands] at h
    have e := fun fs => vfill_congr (tb := tb) (fs := fs) (fr := fr) (fr' := fr') parts.toList (fun x hx => h x (by simpa using hx))
    have e' := fun sz => vfillRow_congr (sz := sz) (fr := fr) (fr' := fr') parts.toList (fun x hx => h x (by simpa using hx))
    exact vop2_congr (tb := tb) (T := X.T) h0 (by simp only [vop, e, e'])
  | buildSlice t n parts =>
    simp only [Op.operands] at h
    have e' := fun sz => vfillRow_congr (sz := sz) (fr := fr) (fr' := fr') parts.toList (fun x hx => h x (by simpa using hx))
    exact vop2_congr (tb := tb) (T := X.T) h0 (by simp only [vop, e'])
  | makeFunc fn first captured =>
    simp only [Op.operands] at h
    have e : captured.toList.map (fun x => (opd fr x).cap) = captured.toList.map (fun x => (opd fr' x).cap) :=
      List.map_congr_left fun x hx => by rw [h x (by simp; right; simpa using hx)]
    exact vop2_congr (tb := tb) (T := X.T) h0 (by cases fn <;> simp only [vop, e])
  | call c =>
    obtain ⟨cal, args, at'⟩ := c
    have e : args.toList.map (opd fr) = args.toList.map (opd fr') := map_congr fun x hx => h x (by simp [Op.operands, Call.operands]; right; simpa using hx)
    cases cal with
    | value f =>
      have ef : opd fr f = opd fr' f := h f (by simp [Op.operands, Call.operands])
      simp only [vdo, e, ef]
    | builtin b => exact vop2_congr (tb := tb) (T := X.T) h0 (by simp only [vop, e])
    | invoke r m => rfl
  | slice t x lo hi mx =>
    have e1 : opd fr x = opd fr' x := h x (by simp [Op.operands])
    have e2 : lo.map (opd fr) = lo.map (opd fr') := by cases lo with | none => rfl | some y => simp [h y (by simp [Op.operands])]
    have e3 : hi.map (opd fr) = hi.map (opd fr') := by cases hi with | none => rfl | some y => simp [h y (by simp [Op.operands])]
    exact vop2_congr (tb := tb) (T := X.T) h0 (by cases mx <;> simp only [vop, e1, e2, e3])
  | _ => exact vop2_congr (tb := tb) (T := X.T) (σ := σ) (k := k) h0 (by simp [vop] <;> simp_all [Op.operands])
end
end Go.Dm
namespace Go.Dm
set_option linter.unusedVariables false
set_option linter.unusedSimpArgs false
section
variable {P : Program} {pf : FuncId → Bool} {tb : Tab}
theorem no_mk {t : TypeId} {p : Prop} (h : (tb t).d ≠ .no) (hp : p) : match (tb t).d with | .no => False | _ => p := by
  split
  · rename_i e; exact h e
  · exact hp
theorem part_any {agg : Bool} {l : List C} {off n : Nat} {k : V → Prop} (h : vpart agg l off n k) : ∃ r, k r ∧ ∀ (k' : V → Prop), k' r → vpart agg l off n k' := by
  unfold vpart at h ⊢
  cases agg with
  | true =>
    simp only at h ⊢
    cases hc : cut l off n with
    | none => rw [hc] at h; exact h.elim
    | some r => rw [hc] at h; exact ⟨_, h, fun k' h' => h'⟩
  | false =>
    simp only at h ⊢
    cases hc : l[off]? with
    | none => rw [hc] at h; exact h.elim
    | some r => rw [hc] at h; exact ⟨_, h, fun k' h' => h'⟩
theorem vint_any {op : BinOp} {j : IntKind} {a b : Int} {k : V → Prop} (h : vint prims op j a b k) : ∃ r, k r ∧ ∀ (k' : V → Prop), k' r → vint prims op j a b k' := by
  cases op <;> simp only [vint] at h ⊢ <;> first
    | exact h.elim
    | exact ⟨_, h, fun k' h' => h'⟩
    | exact ⟨_, h.2, fun k' h' => ⟨h.1, h'⟩⟩
theorem same_map {j j' : IntKind} {p q : Prop} (h : same j j' p) (hq : q) : same j j' q := by
  cases j <;> cases j' <;> simp_all [same]
theorem vbin_any {d : TD} {op : BinOp} {x y : V} {k : V → Prop} (h : vbin prims d op x y k) : ∃ r, k r ∧ ∀ (k' : V → Prop), k' r → vbin prims d op x y k' := by
  unfold vbin at h ⊢
  split at h
  · rename_i j a j' b
    by_cases hs : op = .shl ∨ op = .shr
    · rcases hs with rfl | rfl <;> exact ⟨_, h.2, fun k' h' => ⟨h.1, h'⟩⟩
    · have h' : same j j' (vint prims op j a b k) := by revert h; cases op <;> simp_all
      obtain ⟨rfl, h2⟩ := same_iff h'
      obtain ⟨r, h3, h4⟩ := vint_any h2
      refine ⟨r, h3, fun k' hk => ?_⟩
      have h5 := same_map (q := vint prims op j a b k') h' (h4 k' hk)
      revert h5; cases op <;> simp_all
  · split at h
    · exact ⟨_, h, fun k' h' => h'⟩
    · exact ⟨_, h, fun k' h' => h'⟩
    · exact h.elim
  · cases op <;> simp only at h ⊢ <;> first
      | exact h.elim
      | exact ⟨_, h, fun k' h' => h'⟩
      | exact ⟨_, h.2, fun k' h' => ⟨h.1, h'⟩⟩
  · rename_i a b
    cases op <;> simp only at h ⊢ <;> first
      | exact h.elim
      | exact ⟨_, h, fun k' h' => h'⟩
      | (cases hc : prims.fadd a b with
        | none => rw [hc] at h; exact h.elim
        | some r => rw [hc] at h; exact ⟨_, h, fun k' h' => h'⟩)
      | (cases hc : prims.fsub a b with
        | none => rw [hc] at h; exact h.elim
        | some r => rw [hc] at h; exact ⟨_, h, fun k' h' => h'⟩)
  · rename_i a b c e
    cases op <;> simp only at h ⊢ <;> first
      | exact h.elim
      | exact ⟨_, h, fun k' h' => h'⟩
      | (cases hc : prims.fadd a c with
        | none => rw [hc] at h; exact h.elim
        | some r =>
          rw [hc] at h
          cases hd : prims.fadd b e with
          | none => rw [hd] at h; exact h.elim
          | some i => rw [hd] at h; exact ⟨_, h, fun k' h' => h'⟩)
      | (cases hc : prims.fsub a c with
        | none => rw [hc] at h; exact h.elim
        | some r =>
          rw [hc] at h
          cases hd : prims.fsub b e with
          | none => rw [hd] at h; exact h.elim
          | some i => rw [hd] at h; exact ⟨_, h, fun k' h' => h'⟩)
  · exact h.elim
theorem vun_any {op : UnOp} {x : V} {k : V → Prop} (h : vun prims op x k) : ∃ r, k r ∧ ∀ (k' : V → Prop), k' r → vun prims op x k' := by
  unfold vun at h ⊢
  split at h
  · exact ⟨_, h, fun k' h' => h'⟩
  · exact ⟨_, h, fun k' h' => h'⟩
  · exact h.elim
theorem vpick_any {c a b : V} {k : V → Prop} (h : vpick c a b k) : ∃ r, k r ∧ ∀ (k' : V → Prop), k' r → vpick c a b k' := by
  obtain ⟨t, rfl, h⟩ : ∃ t, c = .c (.f (.bool t)) ∧ (match t with | true => k a | false => k b) := by
    unfold vpick at h
    split at h
    · exact ⟨_, rfl, h⟩
    · exact h.elim
  cases t with
  | true => exact ⟨_, h, fun k' h' => h'⟩
  | false => exact ⟨_, h, fun k' h' => h'⟩
theorem nil_get {o : Nat} {α : Type} : ([] : List α)[o]? = none := by simp
theorem vload_any {agg : Bool} {n : Nat} {x : V} {k : V → Prop} (h : vload prims agg n x [] k) : ∃ r, k r ∧ ∀ σ (k' : V → Prop), k' r → vload prims agg n x σ k' := by
  unfold vload at h ⊢
  split at h
  · simp only [nil_get] at h
  · rename_i cs off
    cases agg with
    | true => exact ⟨_, h.2, fun σ k' h' => ⟨h.1, h'⟩⟩
    | false =>
      simp only [prims] at h ⊢
      cases hc : cs[off]? with
      | none => rw [hc] at h; exact h.elim
      | some r => rw [hc] at h; exact ⟨_, h, fun σ k' h' => h'⟩
  · simp only [nil_get] at h
  · exact h.elim
theorem vfield_any {x : V} {fo : Nat} {k : V → Prop} (h : vfield prims x fo [] k) : ∃ r, k r ∧ ∀ σ (k' : V → Prop), k' r → vfield prims x fo σ k' := by
  unfold vfield at h ⊢
  split at h
  · exact ⟨_, h, fun σ k' h' => h'⟩
  · exact ⟨_, h, fun σ k' h' => h'⟩
  · simp only [nil_get] at h
  · exact h.elim
theorem vindexAddr_any {t : TypeId} {x i : V} {k : V → Prop} (h : vindexAddr prims tb t x i [] k) : ∃ r, k r ∧ ∀ σ (k' : V → Prop), k' r → vindexAddr prims tb t x i σ k' := by
  unfold vindexAddr at h ⊢
  split at h
  · obtain ⟨h1, h2⟩ := no_of (tb := tb) h
    exact ⟨_, h2.2, fun σ k' h' => by
      split
      · rename_i e; exact h1 e
      · exact ⟨h2.1, h'⟩⟩
  · simp only [nil_get] at h
    split at h <;> first | exact h.elim | (rename_i e _; cases e)
  · obtain ⟨h1, h2⟩ := no_of (tb := tb) h
    exact ⟨_, h2.2.2, fun σ k' h' => by
      split
      · rename_i e; exact h1 e
      · exact ⟨h2.1, h2.2.1, h'⟩⟩
  · obtain ⟨h1, h2⟩ := no_of (tb := tb) h
    exact ⟨_, h2.2.2, fun σ k' h' => by
      split
      · rename_i e; exact h1 e
      · exact ⟨h2.1, h2.2.1, h'⟩⟩
  · simp only [nil_get] at h
    split at h <;> first | exact h.elim | (rename_i e _; cases e)
  · exact h.elim
theorem vindex_any {t : TypeId} {x i : V} {k : V → Prop} (h : vindex prims tb t x i k) : ∃ r, k r ∧ ∀ (k' : V → Prop), k' r → vindex prims tb t x i k' := by
  unfold vindex at h ⊢
  split at h
  · exact ⟨_, h.2, fun k' h' => ⟨h.1, h'⟩⟩
  · obtain ⟨h1, h2⟩ := no_of (tb := tb) h
    obtain ⟨r, h3, h4⟩ := part_any h2.2.2
    exact ⟨r, h3, fun k' h' => by
      split
      · rename_i e; exact h1 e
      · exact ⟨h2.1, h2.2.1, h4 k' h'⟩⟩
  · exact h.elim
theorem vlen_any {d : TD} {x : V} {k : V → Prop} (h : vlen prims d x [] k) : ∃ r, k r ∧ ∀ σ (k' : V → Prop), k' r → vlen prims d x σ k' := by
  unfold vlen at h ⊢
  split at h
  · exact ⟨_, h, fun σ k' h' => h'⟩
  · exact ⟨_, h, fun σ k' h' => h'⟩
  · exact ⟨_, h, fun σ k' h' => h'⟩
  · simp only [nil_get] at h
  · exact h.elim
theorem vbytes_any {x : V} {k : V → Prop} (h : vbytes prims x [] k) : ∃ r, k r ∧ ∀ σ (k' : V → Prop), k' r → vbytes prims x σ k' := by
  unfold vbytes at h ⊢
  split at h
  · exact ⟨_, h, fun σ k' h' => h'⟩
  · obtain ⟨s, h1, h2, h3⟩ := h
    exact ⟨_, h3, fun σ k' h' => ⟨s, h1, h2, h'⟩⟩
  · simp only [nil_get] at h
  · exact h.elim
theorem vconv_any {s d : TypeId} {x : V} {k : V → Prop} (hd : (match (tb d).d with | .slice _ => false | _ => true) = true) (h : vconv prims tb s d x [] fun v _ => k v) : ∃ r, k r ∧ ∀ σ (k' : V → St → Prop), k' r σ → vconv prims tb s d x σ k' := by
  unfold vconv at h ⊢
  split at h
  · exact ⟨_, h, fun σ k' h' => h'⟩
  · exact ⟨_, h, fun σ k' h' => h'⟩
  · rename_i b _ _
    cases hc : prims.foi b with
    | none => rw [hc] at h; exact h.elim
    | some r => rw [hc] at h; exact ⟨_, h, fun σ k' h' => h'⟩
  · exact ⟨_, h, fun σ k' h' => h'⟩
  · split at h
    · obtain ⟨r, h1, h2⟩ := vbytes_any h
      exact ⟨r, h1, fun σ k' h' => h2 σ (fun v => k' v σ) h'⟩
    · exact h.elim
  · rename_i e
    rw [e] at hd
    cases hd
  · exact h.elim
theorem vslice_any {t : TypeId} {x : V} {lo hi : Option V} {k : V → Prop} (h : vslice prims tb t x lo hi [] fun v _ => k v) : ∃ r, k r ∧ ∀ σ (k' : V → St → Prop), k' r σ → vslice prims tb t x lo hi σ k' := by
  unfold vslice at h ⊢
  split at h
  · split at h
    · exact ⟨_, h, fun σ k' h' => h'⟩
    · exact ⟨_, h.2, fun σ k' h' => ⟨h.1, h'⟩⟩
    · exact ⟨_, h.2, fun σ k' h' => ⟨h.1, h'⟩⟩
    · exact ⟨_, h.2.2, fun σ k' h' => ⟨h.1, h.2.1, h'⟩⟩
    · exact h.elim
  · split at h
    · exact h.elim
    · rename_i hn
      simp only [hn, if_false]
      split at h
      · exact ⟨_, h.2, fun σ k' h' => ⟨h.1, h'⟩⟩
      · exact ⟨_, h.2, fun σ k' h' => ⟨h.1, h'⟩⟩
      · exact ⟨_, h.2.2, fun σ k' h' => ⟨h.1, h.2.1, h'⟩⟩
      · exact ⟨_, h, fun σ k' h' => h'⟩
      · exact h.elim
  · split at h
    · exact h.elim
    · rename_i hn
      simp only [hn, if_false]
      split at h
      · exact ⟨_, h.2, fun σ k' h' => ⟨h.1, h'⟩⟩
      · exact ⟨_, h.2, fun σ k' h' => ⟨h.1, h'⟩⟩
      · exact ⟨_, h.2.2, fun σ k' h' => ⟨h.1, h.2.1, h'⟩⟩
      · exact ⟨_, h, fun σ k' h' => h'⟩
      · exact h.elim
  · simp only [nil_get] at h
    split at h <;> exact h.elim
  · exact h.elim
theorem vdo_plain {o : Op} (hx : extraB tb o = false) (hc : ∀ c, o ≠ .call c) {fr : Fr} {σ : St} {k : V → St → Prop} : vdo (mx P) pf tb o fr σ k = vop prims tb o fr σ k := by
  have e : vop2 prims tb o fr σ k = vop prims tb o fr σ k := by unfold vop2; rw [hx]
  rw [← e]
  cases o <;> first | rfl | exact (hc _ rfl).elim
theorem tless_plain {o : Op} {fr : Fr} (ht : tless pf tb o fr = true) (hc : ∀ c, o ≠ .call c) : extraB tb o = false := by
  cases o <;> first
    | rfl
    | exact (hc _ rfl).elim
    | (simp only [tless, Bool.and_eq_true, Bool.not_eq_true'] at ht; exact ht.1.1)
theorem tless_ok {o : Op} {fr : Fr} (ht : tless pf tb o fr = true) {k : V → Prop} (h : vdo (mx P) pf tb o fr [] fun v _ => k v) :
    ∃ r, k r ∧ ∀ σ (k' : V → St → Prop), k' r σ → vdo (mx P) pf tb o fr σ k' := by
  cases o with
  | move x => exact ⟨_, h, fun σ k' h' => h'⟩
  | assign x => exact ⟨_, h, fun σ k' h' => h'⟩
  | pick c a b => obtain ⟨r, h1, h2⟩ := vpick_any h; exact ⟨r, h1, fun σ k' h' => h2 (fun v => k' v σ) h'⟩
  | binOp op t x y p =>
    have hx : extraB tb (.binOp op t x y p) = false := by
      simp only [tless, Bool.and_eq_true, Bool.not_eq_true'] at ht
      exact ht.1.1
    have h' : vop prims tb (.binOp op t x y p) fr [] (fun v _ => k v) := by
      have h2 : vop2 prims tb (.binOp op t x y p) fr [] (fun v _ => k v) := h
      unfold vop2 at h2
      rw [hx] at h2
      exact h2
    obtain ⟨r, h1, h2⟩ := vbin_any h'
    refine ⟨r, h1, fun σ k' hk' => ?_⟩
    show vop2 prims tb (.binOp op t x y p) fr σ k'
    unfold vop2
    rw [hx]
    exact h2 (fun v => k' v σ) hk'
  | unOp op t x => obtain ⟨r, h1, h2⟩ := vun_any h; exact ⟨r, h1, fun σ k' h' => h2 (fun v => k' v σ) h'⟩
  | convert s d x =>
    have hd : (match (tb d).d with | .slice _ => false | _ => true) = true := by
      simp only [tless, stillOp, Bool.and_eq_true] at ht
      exact ht.1.2
    have hp := fun σ k => vdo_plain (P := P) (pf := pf) (tless_plain ht (fun c e => by cases e)) (fun c e => by cases e) (fr := fr) (σ := σ) (k := k)
    rw [hp] at h
    obtain ⟨r, h1, h2⟩ := vconv_any hd h
    exact ⟨r, h1, fun σ k' h' => by rw [hp]; exact h2 σ k' h'⟩
  | slice t x lo hi mx =>
    cases mx with
    | some m => simp only [tless, stillOp, Bool.and_false, Bool.false_and] at ht; cases ht
    | none => exact vslice_any h
  | load t x =>
    obtain ⟨h1, h2⟩ := no_of (tb := tb) h
    obtain ⟨r, h3, h4⟩ := vload_any h2
    exact ⟨r, h3, fun σ k' h' => no_mk h1 (h4 σ (fun v => k' v σ) h')⟩
  | fieldAddr t x i =>
    have hp := fun σ k => vdo_plain (P := P) (pf := pf) (tless_plain ht (fun c e => by cases e)) (fun c e => by cases e) (fr := fr) (σ := σ) (k := k)
    simp only [hp, vop] at h ⊢
    split at h
    · split at h
      · split at h
        · exact h.elim
        · rename_i hs
          obtain ⟨h1, h2⟩ := no_of (tb := tb) h
          obtain ⟨r, h3, h4⟩ := vfield_any h2
          exact ⟨r, h3, fun σ k' h' => no_mk h1 (h4 σ (fun v => k' v σ) h')⟩
      · exact h.elim
    · exact h.elim
  | field t x i =>
    simp only [vdo, vop2, extraB, vop] at h ⊢
    split at h
    · split at h
      · obtain ⟨h1, h2⟩ := no_of (tb := tb) h
        obtain ⟨r, h3, h4⟩ := part_any h2
        refine ⟨r, h3, fun σ k' h' => ?_⟩
        split
        · rename_i e; exact h1 e
        · exact h4 (fun v => k' v σ) h'
      · exact h.elim
    · exact h.elim
  | indexAddr t x i => obtain ⟨r, h1, h2⟩ := vindexAddr_any h; exact ⟨r, h1, fun σ k' h' => h2 σ (fun v => k' v σ) h'⟩
  | index t x i => obtain ⟨r, h1, h2⟩ := vindex_any h; exact ⟨r, h1, fun σ k' h' => h2 (fun v => k' v σ) h'⟩
  | extract x i =>
    simp only [vdo, vop2, extraB, vop] at h ⊢
    split at h
    · split at h
      · exact ⟨_, h, fun σ k' h' => h'⟩
      · exact h.elim
    · exact h.elim
  | nilCheck x =>
    simp only [vdo, vop2, extraB, vop] at h ⊢
    split at h
    · exact ⟨_, h, fun σ k' h' => h'⟩
    · exact ⟨_, h, fun σ k' h' => h'⟩
    · exact ⟨_, h, fun σ k' h' => h'⟩
    · simp only [nil_get] at h
    · exact h.elim
  | makeFunc fn first captured =>
    cases fn with
    | func f =>
      simp only [vdo, vop2, extraB, vop] at h ⊢
      split at h
      · exact ⟨_, h, fun σ k' h' => h'⟩
      · exact h.elim
    | _ => exact h.elim
  | build t parts =>
    simp only [vdo, vop2, extraB, vop] at h ⊢
    split at h
    · split at h
      · rename_i hall
        simp only [if_pos hall]
        split at h
        · exact ⟨_, h, fun σ k' h' => h'⟩
        · exact h.elim
      · exact h.elim
    · split at h
      · obtain ⟨h1, h2⟩ := no_of (tb := tb) h
        refine ⟨_, h2, fun σ k' h' => ?_⟩
        split
        · rename_i e; exact h1 e
        · exact h'
      · exact h.elim
    · exact h.elim
  | call c =>
    obtain ⟨cal, args, at'⟩ := c
    cases cal with
    | value x =>
      simp only [tless] at ht
      simp only [vdo] at h ⊢
      split at h
      · rename_i f l hc
        rw [hc] at ht
        simp only [Bool.and_eq_true, Bool.not_eq_true'] at ht
        obtain ⟨hpf, hrs⟩ := ht
        rw [hpf] at h
        simp only at h
        rw [softs_none l hrs] at h
        obtain ⟨r, h1, h2⟩ := h
        refine ⟨r, h2, fun σ k' h' => ?_⟩
        rw [hpf]
        simp only
        rw [softs_none l hrs]
        exact ⟨r, h1, h'⟩
      · exact h.elim
    | builtin b =>
      have hx : extraB tb (.call { callee := .builtin b, args, argTypes := at' }) = false := by
        simp only [tless, Bool.and_eq_true, Bool.not_eq_true'] at ht
        exact ht.1.1
      have hp : ∀ σ k, vdo (mx P) pf tb (.call { callee := .builtin b, args, argTypes := at' }) fr σ k = vop prims tb (.call { callee := .builtin b, args, argTypes := at' }) fr σ k := fun σ k => by
        show vop2 prims tb _ fr σ k = _
        unfold vop2
        rw [hx]
      simp only [hp, vop, vbi] at h ⊢
      split at h
      · split at h
        · obtain ⟨r, h1, h2⟩ := vlen_any h
          exact ⟨r, h1, fun σ k' h' => h2 σ (fun v => k' v σ) h'⟩
        · exact h.elim
      · simp [tless, stillOp] at ht
      · split at h
        · exact ⟨_, h, fun σ k' h' => h'⟩
        · exact h.elim
      · split at h
        · exact ⟨_, h, fun σ k' h' => h'⟩
        · exact h.elim
      · exact ⟨_, h, fun σ k' h' => h'⟩
      · exact ⟨_, h, fun σ k' h' => h'⟩
      · exact ⟨_, h, fun σ k' h' => h'⟩
      · exact h.elim
    | invoke r m => exact h.elim
  | _ => simp [tless, stillOp] at ht
end
end Go.Dm
namespace Go.Dm
set_option linter.unusedVariables false
set_option linter.unusedSimpArgs false
section
variable {P : Program} {pf : FuncId → Bool} {tb : Tab} {ops : Array Oper}
def pdo (P : Program) (pf : FuncId → Bool) (tb : Tab) (o : Op) (fr : Fr) (σ : St) (k : V → St → Prop) : Prop :=
  ∃ k0, vdo (mx P) pf tb o fr σ k0 ∧ ∀ v σ', k0 v σ' → k v σ'
theorem pdo_mono {o : Op} {fr : Fr} {σ : St} {k k' : V → St → Prop} (h : pdo P pf tb o fr σ k) (hk : ∀ v σ', k v σ' → k' v σ') : pdo P pf tb o fr σ k' :=
  let ⟨k0, a, b⟩ := h; ⟨k0, a, fun v σ' c => hk _ _ (b _ _ c)⟩
def pOne (P : Program) (pf : FuncId → Bool) (tb : Tab) (ops : Array Oper) (o : Oper) (K : Fr → St → Prop) (fr : Fr) (σ : St) : Prop :=
  vguard ops fr o (pdo P pf tb o.op fr σ fun v σ' => K (fr.put o.dst v) σ') (K (fr.put o.dst (.t [])) σ)
theorem vguard_cases {fr : Fr} {o : Oper} {x y : Prop} (h : vguard ops fr o x y) : (x ∧ ∀ x' y' : Prop, x' → vguard ops fr o x' y') ∨ (y ∧ ∀ x' y' : Prop, y' → vguard ops fr o x' y') := by
  unfold vguard at h ⊢
  split at h
  · exact .inl ⟨h, fun x' y' h' => h'⟩
  · rename_i j want _
    split at h
    · exact .inr ⟨h, fun x' y' h' => h'⟩
    · split at h
      · rename_i b _
        cases b <;> cases want <;> first | exact .inl ⟨h, fun x' y' h' => h'⟩ | exact .inr ⟨h, fun x' y' h' => h'⟩
      · exact .inr ⟨h, fun x' y' h' => h'⟩
      · exact h.elim
theorem pOne_mono {o : Oper} {K K' : Fr → St → Prop} {fr : Fr} {σ : St} (h : pOne P pf tb ops o K fr σ) (hk : ∀ fr' σ', K fr' σ' → K' fr' σ') : pOne P pf tb ops o K' fr σ := by
  rcases vguard_cases h with ⟨h1, h2⟩ | ⟨h1, h2⟩
  · exact h2 _ _ (pdo_mono h1 fun _ _ h => hk _ _ h)
  · exact h2 _ _ (hk _ _ h1)
def pAny (P : Program) (pf : FuncId → Bool) (tb : Tab) (ops : Array Oper) (K : Fr → St → Prop) : Nat → Array Bool → Fr → St → Prop
  | 0, listed, fr, σ => Region.ready .any ops listed = [] ∧ K fr σ
  | fuel + 1, listed, fr, σ => (Region.ready .any ops listed = [] → K fr σ) ∧
    ∀ i ∈ Region.ready .any ops listed, ∀ o, ops[i]? = some o → pOne P pf tb ops o (pAny P pf tb ops K fuel (listed.setIfInBounds i true)) fr σ
theorem Does.mono {o : Oper} {a : Act} {g : G} {w : World} {σ : St} {k k' : V → St → Prop} (h : Does P o a g w σ k) (hk : ∀ v σ', k v σ' → k' v σ') : Does P o a g w σ k' := by
  rcases h with ⟨r, σ', g', w', v, nx, h1, h2, h3, h4⟩ | ⟨f, vs, h1, l, σ1, g1, k1, k2, h2, h3⟩
  · exact .inl ⟨r, σ', g', w', v, nx, h1, h2, hk _ _ h3, h4⟩
  · exact .inr ⟨f, vs, h1, l, σ1, g1, k1, k2, h2, h3.mono hk⟩
theorem one_ok' (tok : TabOk P tb) {g : G} {w : World} {σ : St} (hr : Rep g w σ) {o : Oper} {a : Act} {fr : Fr} (hf : FrRep g w σ fr a.tmps) (hd : a.defers = []) {K : Fr → St → Prop} {Q : Exit → Act → World → Prop} {next : Act → World → Prop}
    (h : pOne P pf tb ops o K fr σ) (hn : ∀ a' w', Lifts g w σ K a' w' → next a' w') :
    if Region.wanted o (yielded ops a.tmps) then o.wp P a w next Q ∨ (o.asks P a w ∧ LetsOut Q) else next (a.put o.dst undef) w := by
  unfold pOne at h
  rcases guard_ok hf h with ⟨h1, k0, h2, h3⟩ | ⟨h1, h2⟩
  · rw [if_pos h1]
    exact .inl (Oper.wp_mono hn (((vdo_ok tok hr hf h2).mono h3).wp hr hf hd))
  · rw [if_neg (by simp [h1])]
    exact hn _ _ ⟨_, σ, g, h2, hr, Turn.refl _ _ _, by rw [put_tmps]; exact hf.put (v := .t []) ⟨[], rfl, rfl⟩ o.dst, by rw [put_defers]; exact hd⟩
theorem pAny_sound (tok : TabOk P tb) {K : Fr → St → Prop} {Q : Exit → Act → World → Prop} : ∀ (fuel : Nat) (listed : Array Bool) {g : G} {w : World} {σ : St} (hr : Rep g w σ) {a : Act} {fr : Fr} (hf : FrRep g w σ fr a.tmps) (hd : a.defers = [])
    (h : pAny P pf tb ops K fuel listed fr σ) (hQ : ∀ a' w', Lifts g w σ K a' w' → Q .normal a' w'), wpAny P .any ops Q fuel listed a w
  | 0, listed, g, w, σ, hr, a, fr, hf, hd, h, hQ => ⟨h.1, hQ _ _ ⟨fr, σ, g, h.2, hr, Turn.refl _ _ _, hf, hd⟩⟩
  | fuel + 1, listed, g, w, σ, hr, a, fr, hf, hd, h, hQ => by
    refine ⟨fun h0 => hQ _ _ ⟨fr, σ, g, h.1 h0, hr, Turn.refl _ _ _, hf, hd⟩, fun i hi => ?_⟩
    obtain ⟨_, o, ho, _⟩ := mem_ready.1 hi
    unfold wpOp
    rw [ho]
    exact one_ok' tok hr hf hd (h.2 i hi o ho) fun a' w' ⟨fr', σ', g', h1, h2, h3, h4, h5⟩ =>
      pAny_sound tok fuel _ h2 h4 h5 h1 fun a'' w'' h6 => hQ _ _ (h6.trans h3)
theorem opd_put {fr : Fr} {dst : Option Tmp} {v : V} {x : Operand} (h : ∀ d, dst = some d → x ≠ .tmp d) : opd (fr.put dst v) x = opd fr x := by
  cases dst with
  | none => rfl
  | some d =>
    cases x with
    | tmp t =>
      have hne : d ≠ t := fun e => h d rfl (e ▸ rfl)
      simp [opd, Fr.put, List.getD_eq_getElem?_getD, List.getElem?_set, hne]
    | _ => rfl
theorem put_comm (fr : Fr) {x y : Option Tmp} (v u : V) (h : ∀ d, x = some d → y ≠ some d) : (fr.put x v).put y u = (fr.put y u).put x v := by
  cases x with
  | none => rfl
  | some d =>
    cases y with
    | none => rfl
    | some e =>
      have hne : d ≠ e := fun he => h d rfl (he ▸ rfl)
      exact List.set_comm v u hne
theorem pdo_put {o : Oper} {fr : Fr} {dst : Option Tmp} {v : V} (h : ∀ d, dst = some d → d ∉ o.looksAt ops) {σ : St} {k : V → St → Prop} : pdo P pf tb o.op (fr.put dst v) σ k ↔ pdo P pf tb o.op fr σ k := by
  have : ∀ k0, vdo (mx P) pf tb o.op (fr.put dst v) σ k0 = vdo (mx P) pf tb o.op fr σ k0 := fun k0 => vdo_congr fun x hx => opd_put fun d hd hxd => h d hd (by
    subst hxd
    exact List.mem_append_left _ (List.mem_filterMap.2 ⟨.tmp d, by simpa using hx, rfl⟩))
  unfold pdo
  simp only [this]
theorem vguard_put {o : Oper} {fr : Fr} {dst : Option Tmp} {v : V} (h : ∀ d, dst = some d → d ∉ o.looksAt ops) {x y : Prop} : vguard ops (fr.put dst v) o x y = vguard ops fr o x y := by
  cases dst with
  | none => rfl
  | some d =>
    unfold vguard
    cases hg : o.guard with
    | none => rfl
    | some gw =>
      obtain ⟨j, want⟩ := gw
      simp only
      cases ht : (ops[j]?).bind (·.dst) with
      | none => rfl
      | some t =>
        have hne : d ≠ t := fun e => h d rfl (by subst e; simp [Oper.looksAt, hg, ht])
        simp only [Fr.put, List.getElem?_set, hne, if_false]
def PY (P : Program) (pf : FuncId → Bool) (tb : Tab) (ops : Array Oper) (o : Oper) (r : V) (fr : Fr) : Prop := ∀ σ (K : Fr → St → Prop), K (fr.put o.dst r) σ → pOne P pf tb ops o K fr σ
theorem PY.put {oi oj : Oper} {r u : V} {fr : Fr} (hap : oi.apart ops oj = true) (h : PY P pf tb ops oi r fr) : PY P pf tb ops oi r (fr.put oj.dst u) := by
  obtain ⟨h1, h2, h3⟩ := Oper.apart_spec hap
  intro σ K hK
  have hc : ∀ v, (fr.put oj.dst u).put oi.dst v = (fr.put oi.dst v).put oj.dst u := fun v => (put_comm fr v u h2).symm
  have := h σ (fun f τ => K (f.put oj.dst u) τ) (by rw [← hc]; exact hK)
  unfold pOne at this ⊢
  rw [vguard_put h3]
  simp only [hc]
  rcases vguard_cases this with ⟨q1, q2⟩ | ⟨q1, q2⟩
  · exact q2 _ _ ((pdo_put h3).2 q1)
  · exact q2 _ _ q1
theorem pOne_put {oi oj : Oper} {r : V} {fr : Fr} (hap : oi.apart ops oj = true) {K : Fr → St → Prop} {σ : St} (hy : PY P pf tb ops oi r fr) (h : pOne P pf tb ops oj K (fr.put oi.dst r) σ) :
    pOne P pf tb ops oj (fun fr' σ' => PY P pf tb ops oi r fr' ∧ K (fr'.put oi.dst r) σ') fr σ := by
  obtain ⟨h1, h2, h3⟩ := Oper.apart_spec hap
  have hc : ∀ v, (fr.put oi.dst r).put oj.dst v = (fr.put oj.dst v).put oi.dst r := fun v => put_comm fr r v h2
  unfold pOne at h ⊢
  rw [vguard_put h1] at h
  simp only [hc] at h
  rcases vguard_cases h with ⟨q1, q2⟩ | ⟨q1, q2⟩
  · exact q2 _ _ (pdo_mono ((pdo_put h1).1 q1) fun v σ' h => ⟨hy.put hap, h⟩)
  · exact q2 _ _ ⟨hy.put hap, q1⟩
end
end Go.Dm
namespace Go.Dm
set_option linter.unusedVariables false
set_option linter.unusedSimpArgs false
structure TurnN (n : Nat) (g : G) (w : World) (σ : St) (g' : G) (w' : World) (σ' : St) : Prop where
  os : w'.os = w.os
  tape : w'.tape = w.tape
  output : w'.output = w.output
  size : w.heap.size ≤ w'.heap.size
  whole : ∀ b, b < w.heap.size → (∀ o, ¬ Own g σ b o) → w'.heap[b]? = w.heap[b]?
  zs : ∀ b o, g.Z b o → g'.Z b o ∧ w'.cell? ⟨b, o, none⟩ = w.cell? ⟨b, o, none⟩
  znew : ∀ b o, b < w.heap.size → g'.Z b o → g.Z b o ∨ Own g σ b o
  onew : ∀ b o, b < w.heap.size → Own g' σ' b o → Own g σ b o
  turns : ∀ i ob, i < n → σ[i]? = some ob → ∃ ob', σ'[i]? = some ob' ∧ ObTurn g g' i ob ob'
  blks : ∀ i ob, i < n → σ[i]? = some ob → ob.row = false → g'.blk i = g.blk i
theorem Turn.n {g g' : G} {w w' : World} {σ σ' : St} (h : Turn g w σ g' w' σ') (n : Nat) : TurnN n g w σ g' w' σ' :=
  ⟨h.os, h.tape, h.output, h.size, h.whole, h.zs, h.znew, h.onew, fun i ob _ => h.turns i ob, fun i ob _ => h.blks i ob⟩
theorem TurnN.full {g g' : G} {w w' : World} {σ σ' : St} (h : TurnN σ.length g w σ g' w' σ') : Turn g w σ g' w' σ' :=
  ⟨h.os, h.tape, h.output, h.size, h.whole, h.zs, h.znew, h.onew, fun i ob hi => h.turns i ob (lt_of_get hi) hi, fun i ob hi => h.blks i ob (lt_of_get hi) hi⟩
theorem TurnN.trans {n : Nat} {g g' g'' : G} {w w' w'' : World} {σ σ' σ'' : St} (h : TurnN n g w σ g' w' σ') (k : TurnN n g' w' σ' g'' w'' σ'') : TurnN n g w σ g'' w'' σ'' where
  os := k.os.trans h.os
  tape := k.tape.trans h.tape
  output := k.output.trans h.output
  size := Nat.le_trans h.size k.size
  whole b hb hn := (k.whole b (Nat.lt_of_lt_of_le hb h.size) (fun o ho => hn o (h.onew b o hb ho))).trans (h.whole b hb hn)
  zs b o hz := ⟨(k.zs b o (h.zs b o hz).1).1, (k.zs b o (h.zs b o hz).1).2.trans (h.zs b o hz).2⟩
  znew b o hb hz := by
    rcases k.znew b o (Nat.lt_of_lt_of_le hb h.size) hz with h1 | h1
    · exact h.znew b o hb h1
    · exact .inr (h.onew b o hb h1)
  onew b o hb ho := h.onew b o hb (k.onew b o (Nat.lt_of_lt_of_le hb h.size) ho)
  turns i ob hi ho := by
    obtain ⟨ob', h1, h2⟩ := h.turns i ob hi ho
    obtain ⟨ob'', h3, h4⟩ := k.turns i ob' hi h1
    refine ⟨ob'', h3, ?_⟩
    cases ob <;> cases ob' <;> cases ob'' <;> simp_all [ObTurn]
    rcases h2 with h2 | ⟨rfl, rfl, h2a, h2b, h2c⟩ <;> rcases h4 with h4 | ⟨rfl, rfl, h4a, h4b, h4c⟩
    · left; omega
    · left; exact h2
    · left; exact h4
    · right; exact ⟨rfl, rfl, h4a.trans h2a, h4b.trans h2b, h4c.trans h2c⟩
  blks i ob hi ho hr := by
    obtain ⟨ob', h1, h2⟩ := h.turns i ob hi ho
    exact (k.blks i ob' hi h1 (h2.row hr)).trans (h.blks i ob hi ho hr)
abbrev Post := Exit → Fr → St → Prop
def LiftsN (n : Nat) (g : G) (w : World) (σ : St) (K : Fr → St → Prop) (a : Act) (w' : World) : Prop :=
  ∃ fr' σ' g', K fr' σ' ∧ Rep g' w' σ' ∧ TurnN n g w σ g' w' σ' ∧ FrRep g' w' σ' fr' a.tmps ∧ a.defers = []
theorem Lifts.n {g : G} {w : World} {σ : St} {K : Fr → St → Prop} {a : Act} {w' : World} (h : Lifts g w σ K a w') (n : Nat) : LiftsN n g w σ K a w' :=
  let ⟨fr, σ', g', h1, h2, h3, h4, h5⟩ := h; ⟨fr, σ', g', h1, h2, h3.n n, h4, h5⟩
theorem LiftsN.trans {n : Nat} {g g' : G} {w w' : World} {σ σ' : St} (ht : TurnN n g w σ g' w' σ') {K : Fr → St → Prop} {a : Act} {w'' : World} (h : LiftsN n g' w' σ' K a w'') : LiftsN n g w σ K a w'' :=
  let ⟨fr, τ, g'', h1, h2, h3, h4, h5⟩ := h; ⟨fr, τ, g'', h1, h2, ht.trans h3, h4, h5⟩
def DWp (P : Program) (n : Nat) (c : Code) (K : Post) (fr : Fr) (σ : St) : Prop :=
  ∀ g w a, Rep g w σ → FrRep g w σ fr a.tmps → a.defers = [] → c.wp P (fun e a' w' => LiftsN n g w σ (K e) a' w') a w
def LoopAt (P : Program) (n : Nat) (c : Code) (K : Post) (fr : Fr) (σ : St) : Prop :=
  ∀ g w a, Rep g w σ → FrRep g w σ fr a.tmps → a.defers = [] → ∀ (b : Frame) (k : List Item) (cs : List Frame),
    ∃ e a' w', LiftsN n g w σ (K e) a' w' ∧ Arrives P (lone (b.at a (.code c :: .inLoop c :: k)) cs w) b k cs e a' w'
def Post.then (next : Fr → St → Prop) (K : Post) : Exit → Fr → St → Prop
  | .normal, fr, σ => next fr σ
  | .exit i, fr, σ => K (.exit i) fr σ
  | .goto i, fr, σ => K (.goto i) fr σ
  | .ret, fr, σ => K .ret fr σ
  | .panic c, fr, σ => K (.panic c) fr σ
  | .outgrown, fr, σ => K .outgrown fr σ
section
variable {P : Program} {pf : FuncId → Bool} {tb : Tab} {n : Nat}
theorem here_ok {K : Fr → St → Prop} {g : G} {w : World} {σ : St} {fr : Fr} {a : Act} (h : K fr σ) (hr : Rep g w σ) (hf : FrRep g w σ fr a.tmps) (hd : a.defers = []) : LiftsN n g w σ K a w :=
  ⟨fr, σ, g, h, hr, (Turn.refl g w σ).n n, hf, hd⟩
theorem loop_round {c : Code} {K : Post} {fr : Fr} {σ : St} (h : DWp P n c (Post.then (LoopAt P n c K) K) fr σ) : LoopAt P n c K fr σ := by
  intro g w a hr hf hd b k cs
  obtain ⟨e, a₁, w₁, hq, harr⟩ := h g w a hr hf hd b (.inLoop c :: k) cs
  cases e with
  | normal =>
    obtain ⟨fr', σ', g', h1, h2, h3, h4, h5⟩ := hq
    obtain ⟨e₂, a₂, w₂, hq₂, harr₂⟩ := h1 g' w₁ a₁ h2 h4 h5 b k cs
    exact ⟨e₂, a₂, w₂, hq₂.trans h3, .of_steps (Steps.trans harr (.one step_inLoop)) harr₂⟩
  | exit id => exact ⟨_, a₁, w₁, hq, .pass (x := .inLoop c) rfl (fun _ _ => .inl (by simp)) harr⟩
  | goto l => exact ⟨_, a₁, w₁, hq, .pass (x := .inLoop c) rfl (fun _ _ => .inl (by simp)) harr⟩
  | ret => exact ⟨_, a₁, w₁, hq, .pass (x := .inLoop c) rfl (fun _ _ => .inl (by simp)) harr⟩
  | panic ch => exact ⟨_, a₁, w₁, hq, .pass (x := .inLoop c) rfl (fun _ _ => .inl (by simp)) harr⟩
  | outgrown => exact ⟨_, a₁, w₁, hq, .pass (x := .inLoop c) rfl (fun _ _ => .inl (by simp)) harr⟩
def Ghost (fr : Fr) (σ : St) (fr' : Fr) (σ' : St) : Prop :=
  ∀ g w tmps, Rep g w σ → FrRep g w σ fr tmps → ∃ g', Rep g' w σ' ∧ Turn g w σ g' w σ' ∧ FrRep g' w σ' fr' tmps
def Covers : Fr → Fr → Prop
  | [], [] => True
  | x :: r, y :: s => (x = .c .un ∨ x = y) ∧ Covers r s
  | _, _ => False
def resVs (T : Pr) (tb : Tab) : List ResultVar → Fr → St → (List V → Prop) → Prop
  | [], fr, σ, k => k []
  | .tmp t :: r, fr, σ, k => resVs T tb r fr σ fun l => k (fr.getD t (.c .un) :: l)
  | .cell x t :: r, fr, σ, k =>
    (match (tb t).d with
    | .no => False
    | _ => vload T (tb t).agg (tb t).size (addr (fr.getD x (.c .un))) σ fun v => resVs T tb r fr σ fun l => k (v :: l))
def Kret (X : Mx) (tb : Tab) (rs : List ResultVar) (k : V → St → Prop) : Exit → Fr → St → Prop
  | .normal, fr, σ => resVs X.T tb rs fr σ fun l => (match l with | [v] => k v σ | l => k (.t l) σ)
  | .ret, fr, σ => resVs X.T tb rs fr σ fun l => (match l with | [v] => k v σ | l => k (.t l) σ)
  | .exit _, _, _ => False
  | .goto _, _, _ => False
  | .panic _, _, _ => False
  | .outgrown, _, _ => False
def frame0 (n : Nat) (args : List V) : Fr := args ++ List.replicate (n - args.length) (.c .un)
theorem asAddr_load {t : TypeId} (h : (tb t).Ok P t) (hd : (tb t).d ≠ .no) {g : G} {w : World} {σ : St} (hr : Rep g w σ) {x : V} {u : Value} (hx : VRep g w σ x u) {k : V → Prop}
    (hk : vload prims (tb t).agg (tb t).size x σ k) : ∃ r v, (do loadVar t (← asAddr u) : Sem Value).run P w = .ok v w ∧ VRep g w σ r v ∧ k r := by
  obtain ⟨r, v, h1, h2, h3⟩ := load_ok (P := P) h hd hr hx hk
  refine ⟨r, v, ?_, h2, h3⟩
  have : ∃ ad, u = .pointer (some ad) := by
    unfold vload at hk
    split at hk
    · obtain ⟨b, ob, _, rfl, _⟩ := hx; exact ⟨_, rfl⟩
    · obtain ⟨b, o, rfl, _⟩ := hx; exact ⟨_, rfl⟩
    · rename_i o e off
      obtain ⟨_, ob, q1, q2⟩ := hx
      split at hk
      · rename_i wr e0 sz l ho
        rw [ho] at q1; cases q1
        obtain ⟨b, _, rfl⟩ := q2.2 hk.1
        exact ⟨_, rfl⟩
      · exact hk.elim
    · exact hk.elim
  obtain ⟨ad, rfl⟩ := this
  simpa [Instr.loadAt, Instr.sureAddr, asAddr] using h1
def fetch (tmps : Array Value) (r : ResultVar) : Sem Value :=
  match r with
  | .tmp t => pure (tmps.getD t undef)
  | .cell a t => do loadVar t (← asAddr (tmps.getD a undef))
theorem results_ok (tok : TabOk P tb) {g : G} {w : World} {σ : St} (hr : Rep g w σ) {fr : Fr} {tmps : Array Value} (hf : FrRep g w σ fr tmps) : ∀ (rs : List ResultVar) {k : List V → Prop} (h : resVs prims tb rs fr σ k),
    ∃ l vs, (rs.mapM (fetch tmps)).run P w = .ok vs w ∧ k l ∧ VReps g w σ l vs
  | [], k, h => ⟨[], [], rfl, h, rfl⟩
  | .tmp t :: r, k, h => by
    obtain ⟨l, vs, h1, h2, h3⟩ := results_ok tok hr hf r h
    refine ⟨_, tmps.getD t undef :: vs, ?_, h2, ⟨_, _, rfl, hf.2 t, h3⟩⟩
    simp only [List.mapM_cons, fetch, Sem.run_bind, Sem.run_pure, Result.andThen, h1]
  | .cell x t :: r, k, h => by
    obtain ⟨hd, h⟩ := no_of (tb := tb) h
    obtain ⟨r0, v, q1, q2, q3⟩ := asAddr_load (tok t) hd hr (addr_rep (hf.2 x)) h
    obtain ⟨l, vs, h1, h2, h3⟩ := results_ok tok hr hf r q3
    refine ⟨_, v :: vs, ?_, h2, ⟨_, _, rfl, q2, h3⟩⟩
    have q1' : (fetch tmps (.cell x t)).run P w = .ok v w := q1
    simp only [List.mapM_cons, Sem.run_bind, q1', Result.andThen, h1, Sem.run_pure]
theorem VReps.length {g : G} {w : World} {σ : St} : ∀ {l : List V} {vs : List Value}, VReps g w σ l vs → vs.length = l.length
  | [], _, h => by simp only [VReps] at h; subst h; rfl
  | c :: r, vs, h => by obtain ⟨v, vr, rfl, _, h2⟩ := h; simp [VReps.length h2]
theorem frame0_rep {g : G} {w : World} {σ : St} {args : List V} {vs : List Value} (h : VReps g w σ args vs) (m : Nat) :
    FrRep g w σ (frame0 m args) (vs.toArray ++ Array.replicate (m - vs.toArray.size) undef) := by
  have hl := h.length
  refine ⟨by simp [frame0, hl], fun i => ?_⟩
  rw [List.getD_eq_getElem?_getD, Array.getD_eq_getD_getElem?]
  unfold frame0
  by_cases hi : i < args.length
  · rw [List.getElem?_append_left hi, Array.getElem?_append_left (by simp; omega)]
    obtain ⟨v, h1, h2⟩ := h.get (List.getElem?_eq_getElem hi)
    rw [List.getElem?_eq_getElem hi]
    simp only [List.getElem?_toArray, h1, Option.getD_some]
    exact h2
  · have : (args ++ List.replicate (m - args.length) (V.c C.un))[i]?.getD (.c .un) = .c .un := by
      rw [List.getElem?_append_right (by omega), List.getElem?_replicate]
      split <;> rfl
    rw [this]
    trivial
theorem call_of (hm : P.follows .mixedOrders = true) (tok : TabOk P tb) {f : FuncId} {fn : Func} {c : Code} (hf : P.funcs[f]? = some fn) (hb : fn.body = some c) (hname : (fn.name == "runtime.NumGoroutine") = false)
    {args : List V} {σ : St} {k : V → St → Prop} (h : DWp P σ.length c (Kret (mx P) tb fn.results.toList k) (frame0 fn.ntmps args) σ) : CallAt P f args σ k := by
  intro g w vs hr hv
  right
  have hrun : (callFunc f vs.toArray).run P w = .ok (.enter f vs.toArray) w := by
    have hname' : fn.name ≠ "runtime.NumGoroutine" := by simpa using hname
    simp [callFunc, program, Sem.run, hf, hb, hname']
  refine ⟨hrun, calls_of_wp hf hb (wp_mono (h g w ⟨_, []⟩ hr (frame0_rep hv fn.ntmps) rfl) fun e a' w' h' => ?_)⟩
  obtain ⟨fr', σ', g', h1, h2, h3, h4, h5⟩ := h'
  have fin : resVs prims tb fn.results.toList fr' σ' (fun l => match l with | [v] => k v σ' | l => k (.t l) σ') → ∃ v, (results fn a'.tmps).run P w' = .ok v w' ∧ ∃ v', Ending.returned v = .returned v' ∧ CallEnd g w σ k v' w' := by
    intro hres
    obtain ⟨l, rvs, q1, q3, q2⟩ := results_ok tok h2 h4 _ hres
    have hq : (results fn a'.tmps).run P w' = .ok (if h : rvs.toArray.size = 1 then rvs.toArray[0] else .tuple rvs.toArray) w' := by
      have e : results fn a'.tmps = (do let vs ← fn.results.mapM (fetch a'.tmps); pure (if h : vs.size = 1 then vs[0] else .tuple vs)) := rfl
      rw [e, Array.mapM_eq_mapM_toList]
      simp only [map_eq_pure_bind, Sem.run_bind, Sem.run_pure]
      rw [q1]
      rfl
    have hl := q2.length
    cases l with
    | nil =>
      have : rvs = [] := List.eq_nil_of_length_eq_zero hl
      subst this
      exact ⟨_, hq, _, rfl, .t [], σ', g', q3, h2, h3.full, ⟨[], rfl, rfl⟩⟩
    | cons v r =>
      obtain ⟨u, ur, rfl, q4, q5⟩ := q2
      cases r with
      | nil =>
        simp only [VReps] at q5
        subst q5
        exact ⟨u, hq, u, rfl, v, σ', g', q3, h2, h3.full, q4⟩
      | cons v2 r2 =>
        obtain ⟨u2, ur2, rfl, q6, q7⟩ := q5
        exact ⟨_, hq, _, rfl, .t (v :: v2 :: r2), σ', g', q3, h2, h3.full, ⟨u :: u2 :: ur2, by simp, ⟨u, _, rfl, q4, u2, ur2, rfl, q6, q7⟩⟩⟩
  cases e with
  | normal => exact ⟨h5, fin h1⟩
  | ret => exact ⟨h5, fin h1⟩
  | _ => exact h1.elim
end
end Go.Dm
namespace Go.Dm
set_option linter.unusedVariables false
set_option linter.unusedSimpArgs false
def fitsB (P : Program) (t : TypeId) (d : TD) : Bool :=
  match d, P.underlying t with
  | .int k, some (.int k') => k == k'
  | .bool, some .bool => true
  | .str, some .string => true
  | .flo, some (.float .f64) => true
  | .cpl, some (.complex .f64) => true
  | .slice e, some (.slice e') => e == e'
  | .struct fs, some (.struct fields) => fields.toList.map (fun f => (f.offset, f.type)) == fs
  | .array n e, some (.array n' e') => n == n' && e == e'
  | .ptr e, some (.pointer e') => e == e'
  | .map k e, some (.map k' e') => k == k' && e == e'
  | .fn, some (.func _ _ _) => true
  | .uptr, some .unsafePointer => true
  | .bld a b, some (.struct fields) => fields.toList.map (fun f => (f.offset, f.type)) == [(0, a), (1, b)] && liesAt P P.depth t (2 / P.cellsOf t) 0 t 1
  | .no, _ => true
  | _, _ => false
theorem fitsB_ok {P : Program} {t : TypeId} {d : TD} (h : fitsB P t d = true) : d.fits P t := by
  unfold fitsB at h
  split at h <;> rename_i hu <;> simp only [TD.fits] <;> first
    | exact trivial
    | (simp only [Bool.and_eq_true, beq_iff_eq] at h; obtain ⟨rfl, rfl⟩ := h; exact hu)
    | (rw [Bool.and_eq_true] at h; exact ⟨_, hu, eq_of_beq h.1, h.2⟩)
    | (have h' := eq_of_beq h; subst h'; exact hu)
    | exact hu
    | exact ⟨_, hu, eq_of_beq h⟩
    | exact ⟨_, _, _, hu⟩
    | cases h
def zeroB : F → Value → Bool
  | .bool b, .bool b' => b == b'
  | .int k n, .int k' n' => k == k' && n == n'
  | .flo b, .float .f64 b' => b == b'
  | .cpl a b, .complex .f64 a' b' => a == a' && b == b'
  | .str [], .string s => s.data.toList.isEmpty
  | .nils, .slice none 0 0 => true
  | .nilp, .pointer none => true
  | .nilm, .map none => true
  | .nilf, .nilFunc => true
  | _, _ => false
theorem zeroB_ok {x : F} {v : Value} (h : zeroB x v = true) : v = zval x ∧ plain x = true := by
  unfold zeroB at h
  split at h <;> first
    | (cases h; done)
    | (simp only [Bool.and_eq_true, beq_iff_eq] at h; obtain ⟨rfl, rfl⟩ := h; exact ⟨rfl, rfl⟩)
    | (have h' := eq_of_beq h; subst h'; exact ⟨rfl, rfl⟩)
    | exact ⟨rfl, rfl⟩
    | (rename_i s
       have hs : s.data.toList = [] := by simpa using h
       refine ⟨?_, rfl⟩
       obtain ⟨⟨l⟩⟩ := s
       simp at hs
       subst hs
       rfl)
def zerosB : List F → List Value → Bool
  | [], [] => true
  | x :: r, v :: s => zeroB x v && zerosB r s
  | _, _ => false
theorem zerosB_ok : ∀ {l : List F} {vs : List Value}, zerosB l vs = true → vs = l.map zval ∧ l.all plain = true
  | [], [], _ => ⟨rfl, rfl⟩
  | x :: r, v :: s, h => by
    simp only [zerosB, Bool.and_eq_true] at h
    obtain ⟨h1, h2⟩ := zeroB_ok h.1
    obtain ⟨h3, h4⟩ := zerosB_ok h.2
    subst h1 h3
    exact ⟨rfl, by simp [h2, h4]⟩
  | [], v :: s, h => by simp [zerosB] at h
  | x :: r, [], h => by simp [zerosB] at h
def infoB (P : Program) (t : TypeId) (i : TI) : Bool :=
  match P.info? t with
  | none => false
  | some j =>
    j.size == i.size && j.bytes == i.bytes && i.zero.length == i.size &&
    (match j.zero with
    | none => false
    | some z => zerosB i.zero z.cells.toList && (!i.agg || (match z with | .agg _ => true | _ => false)))
def okB (P : Program) (t : TypeId) (i : TI) : Bool := (i.key.isEmpty || keyB P t i.key) && (i.d.isNo || (fitsB P t i.d && infoB P t i))
theorem okB_ok {P : Program} {t : TypeId} {i : TI} (h : okB P t i = true) : i.Ok P t := by
  unfold okB at h
  rw [Bool.and_eq_true] at h
  obtain ⟨hk, h⟩ := h
  have hkey : i.key = [] ∨ KeyOk P t i.key := by
    rw [Bool.or_eq_true] at hk
    exact hk.imp (fun e => by simpa using e) keyB_ok
  cases hn : i.d.isNo with
  | true =>
    have : i.d = .no := by cases hd : i.d <;> simp_all [TD.isNo]
    exact ⟨by rw [this]; trivial, .inl this, hkey⟩
  | false =>
    rw [hn] at h
    simp only [Bool.false_or, Bool.and_eq_true] at h
    refine ⟨fitsB_ok h.1, .inr ?_, hkey⟩
    have h2 := h.2
    unfold infoB at h2
    split at h2
    · cases h2
    · rename_i j hj
      simp only [Bool.and_eq_true, beq_iff_eq] at h2
      obtain ⟨⟨⟨h3, h4⟩, h5⟩, h6⟩ := h2
      split at h6
      · cases h6
      · rename_i z hz
        simp only [Bool.and_eq_true, Bool.or_eq_true, Bool.not_eq_true'] at h6
        obtain ⟨h7, h8⟩ := zerosB_ok h6.1
        refine ⟨j, hj, h3, h4, ⟨z, hz, h7, fun ha => ?_⟩, h8, h5⟩
        rcases h6.2 with h9 | h9
        · rw [ha] at h9; cases h9
        · cases z <;> first | rfl | (simp at h9)
def noTI : TI := ⟨.no, 0, 0, [], []⟩
def tabOf (l : List TI) : Tab := fun t => match l[t]? with | some i => i | none => noTI
def allB (P : Program) : Nat → List TI → Bool
  | _, [] => true
  | t, i :: r => okB P t i && allB P (t + 1) r
theorem allB_ok {P : Program} : ∀ {l : List TI} {s : Nat}, allB P s l = true → ∀ (k : Nat) (i : TI), l[k]? = some i → i.Ok P (s + k)
  | [], s, _, k, i, hi => by simp at hi
  | j :: r, s, h, k, i, hi => by
    simp only [allB, Bool.and_eq_true] at h
    cases k with
    | zero => simp at hi; subst hi; exact okB_ok h.1
    | succ k =>
      simp at hi
      have := allB_ok h.2 k i hi
      rw [show s + (k + 1) = s + 1 + k from by omega]
      exact this
theorem tab_ok {P : Program} {l : List TI} (h : allB P 0 l = true) : TabOk P (tabOf l) := by
  intro t
  unfold tabOf
  cases ht : l[t]? with
  | none => exact ⟨trivial, .inl rfl, .inl rfl⟩
  | some i => simpa using allB_ok h t i ht
end Go.Dm
namespace Go.Dm
set_option linter.unusedVariables false
section
variable {P : Program} {X : Mx} {f : FuncId} {args : List V} {K : V → Prop}
end
end Go.Dm
namespace Go.Dm
open Go.RowKit
set_option linter.unusedVariables false
section
variable {P : Program} {tb : Tab}
theorem turn_of_below {g : G} {w w' : World} {σ : St} (hr : Rep g w σ) (hb : Below w.heap.size w w') : Rep g w' σ ∧ Turn g w σ g w' σ := by
  have hcell : ∀ b o, b < w.heap.size → w'.cell? ⟨b, o, none⟩ = w.cell? ⟨b, o, none⟩ := fun b o h => by simp [World.cell?, hb.block b h]
  have ht : Turn g w σ g w' σ :=
    ⟨hb.os, hb.tape, hb.output, hb.size, fun b h _ => hb.block b h, fun b o hz => ⟨hz, hcell b o (hr.inside b o hz)⟩, fun _ _ _ h => .inl h, fun _ _ _ h => h,
      fun i ob h => ⟨ob, h, by cases ob <;> simp [ObTurn]⟩, fun _ _ _ _ => rfl⟩
  refine ⟨⟨fun i ob h => ?_, hr.inj, hr.apart, fun b o hz => Nat.lt_of_lt_of_le (hr.inside b o hz) hb.size⟩, ht⟩
  by_cases hl : live ob = true
  · exact (hr.ob i ob h).keep ht (fun b hbk => hb.block b ((hr.ob i ob h).inside hl hbk)) rfl rfl
  · cases ob <;> simp_all [live, ObRep]
theorem enter_run {f : FuncId} {fn : Func} {c : Code} (hf : P.funcs[f]? = some fn) (hb : fn.body = some c) (hname : (fn.name == "runtime.NumGoroutine") = false) (vs : Array Value) (w : World) :
    (callFunc f vs).run P w = .ok (.enter f vs) w := by
  have hname' : fn.name ≠ "runtime.NumGoroutine" := by simpa using hname
  simp [callFunc, program, Sem.run, hf, hb, hname']
def ghost0 (w : World) : G := ⟨fun b _ => b < w.heap.size, fun _ => none, fun _ => 0⟩
theorem rep0 (w : World) : Rep (ghost0 w) w [] :=
  ⟨fun i ob h => by simp at h, fun i j a b k h => by simp at h, fun b o _ ho => by obtain ⟨i, ob, h, _⟩ := own_iff.1 ho; simp at h, fun b o h => h⟩
theorem law_true {f : FuncId} {fn : Func} {c : Code} (hf : P.funcs[f]? = some fn) (hb : fn.body = some c) (hname : (fn.name == "runtime.NumGoroutine") = false) {args : List V}
    (h : CallAt P f args [] fun r _ => r = .c (.f (.bool true))) {w : World} {vs : List Value} (hv : VReps (ghost0 w) w [] args vs) : Calls P f vs.toArray w fun e w' => e = .returned (.bool true) ∧ Below w.heap.size w w' := by
  rcases h (ghost0 w) w vs (rep0 w) hv with ⟨v, w', h1, _⟩ | ⟨_, h2⟩
  · rw [enter_run hf hb hname] at h1; cases h1
  · refine h2.mono ?_
    rintro e w' ⟨v, rfl, r, σ', g', rfl, h4, h5, h6⟩
    have hv' : v = .bool true := h6
    subst hv'
    refine ⟨rfl, h5.os, h5.tape, h5.output, h5.size, fun b hb => h5.whole b hb fun o ho => ?_⟩
    obtain ⟨i, ob, h7, _⟩ := own_iff.1 ho
    simp at h7
end
end Go.Dm
namespace Go.Dm
set_option linter.unusedVariables false
set_option linter.unusedSimpArgs false
abbrev AF := List (Nat × V)
def lk : AF → Nat → V
  | [], _ => .c .un
  | (j, v) :: r, i => (match Nat.beq j i with | true => v | false => lk r i)
def putA (m : Nat) (A : AF) (dst : Option Tmp) (v : V) : AF :=
  match dst with
  | none => A
  | some d => (match Nat.blt d m with | true => (d, v) :: A | false => A)
def opA (A : AF) : Operand → V
  | .tmp t => lk A t
  | .const v => ofConst v
  | .func f => .c (.f (.fn f))
  | .global _ => .c .un
def toFr (m : Nat) (A : AF) : Fr := (List.range m).map (lk A)
def inA (m : Nat) (A : AF) : Prop := ∀ i, m ≤ i → lk A i = .c .un
theorem toFr_get {m : Nat} {A : AF} (h : inA m A) (i : Nat) : (toFr m A).getD i (.c .un) = lk A i := by
  unfold toFr
  rw [List.getD_eq_getElem?_getD]
  by_cases hi : i < m
  · simp [hi]
  · rw [h i (by omega)]
    simp [hi]
theorem toFr_opd {m : Nat} {A : AF} (h : inA m A) (x : Operand) : opd (toFr m A) x = opA A x := by
  cases x with
  | tmp t => exact toFr_get h t
  | _ => rfl
theorem lk_cons (j : Nat) (v : V) (r : AF) (i : Nat) : lk ((j, v) :: r) i = if j = i then v else lk r i := by
  show (match Nat.beq j i with | true => v | false => lk r i) = _
  by_cases h : j = i
  · subst h; rw [if_pos rfl, Nat.beq_refl]
  · rw [if_neg h]
    have : Nat.beq j i = false := by
      cases hb : Nat.beq j i with
      | true => exact absurd (Nat.eq_of_beq_eq_true hb) h
      | false => rfl
    rw [this]
theorem blt_true {a b : Nat} (h : a < b) : Nat.blt a b = true := by
  unfold Nat.blt; rw [Nat.ble_eq]; exact h
theorem blt_false {a b : Nat} (h : ¬ a < b) : Nat.blt a b = false := by
  cases hb : Nat.blt a b with
  | true => unfold Nat.blt at hb; rw [Nat.ble_eq] at hb; exact absurd hb h
  | false => rfl
theorem putA_in {m : Nat} {A : AF} (h : inA m A) (dst : Option Tmp) (v : V) : inA m (putA m A dst v) := by
  cases dst with
  | none => exact h
  | some d =>
    revert d
    intro (d : Nat)
    unfold putA
    simp only
    by_cases hd : d < m
    · rw [blt_true hd]
      intro i hi
      simp only
      rw [lk_cons, if_neg (by omega)]
      exact h i hi
    · rw [blt_false hd]; exact h
theorem toFr_put {m : Nat} {A : AF} (dst : Option Tmp) (v : V) : toFr m (putA m A dst v) = (toFr m A).put dst v := by
  cases dst with
  | none => rfl
  | some d =>
    revert d
    intro (d : Nat)
    unfold putA
    simp only
    by_cases hd : d < m
    · rw [blt_true hd]
      simp only
      apply List.ext_getElem?
      intro i
      simp only [toFr, Fr.put, List.getElem?_set, List.getElem?_map, List.length_map, List.length_range]
      by_cases hi : i < m
      · by_cases hdi : d = i
        · subst hdi; simp [hd, lk_cons]
        · simp [hi, hdi, lk_cons]
      · by_cases hdi : d = i
        · omega
        · simp [hi, hdi]
    · rw [blt_false hd]
      simp only [Fr.put]
      rw [List.set_eq_of_length_le]
      simp [toFr]; omega
inductive SOp where
  | mv (x : Operand)
  | pick (c a b : Operand)
  | bin (d : TD) (op : BinOp) (x y : Operand)
  | un (op : UnOp) (x : Operand)
  | alloc (z : List F)
  | box (x : Operand)
  | load (agg : Bool) (n : Nat) (x : Operand)
  | store (n : Nat) (a x : Operand)
  | call (x : Operand) (args : List Operand)
  | fa (off : Nat) (x : Operand)
  | fld (agg : Bool) (off n : Nat) (x : Operand)
  | ixr (sz : Nat) (x i : Operand)
  | ixa (n sz : Nat) (x i : Operand)
  | chr (x i : Operand)
  | len (d : TD) (x : Operand)
  | app (d : TD) (ty sz bytes : Nat) (x y : Operand)
  | slc (d : TD) (sz : Nat) (x : Operand) (lo hi : Option Operand)
  | ext (x : Operand) (i : Nat)
  | nilc (x : Operand)
  | bi (b : Builtin) (ts : Array TypeId) (args : List Operand)
  | bld (z : List F) (parts : List (Nat × Nat × Operand))
  | bsl (n ty sz : Nat) (z : List F) (parts : List (Nat × Operand))
  | raw (o : Op)
  deriving Inhabited
def cparts (tb : Tab) (fs : List (Nat × TypeId)) : List (Nat × Operand) → Option (List (Nat × Nat × Operand))
  | [] => some []
  | (i, x) :: r =>
    match fs[i]?, cparts tb fs r with
    | some (off, t), some l => some ((off, (tb t).size, x) :: l)
    | _, _ => none
def comp0 (tb : Tab) (o : Op) : SOp :=
  match o with
  | .move x => .mv x
  | .assign x => .mv x
  | .pick c a b => .pick c a b
  | .binOp op t x y _ => .bin (tb t).d op x y
  | .unOp op _ x => .un op x
  | .alloc t => (match (tb t).d.isNo with | true => .raw o | false => .alloc (tb t).zero)
  | .box _ x => .box x
  | .load t x => (match (tb t).d.isNo with | true => .raw o | false => .load (tb t).agg (tb t).size x)
  | .store t a x => (match (tb t).d.isNo with | true => .raw o | false => .store (tb t).size a x)
  | .fieldAddr t x i =>
    (match (tb t).d with
    | .struct fs =>
      (match fs[i]? with
      | some (off, u) => (match (tb u).size with | 0 => .raw o | _ => (match (tb u).d.isNo with | true => .raw o | false => .fa off x))
      | none => .raw o)
    | _ => .raw o)
  | .field t x i =>
    (match (tb t).d with
    | .struct fs =>
      (match fs[i]? with
      | some (off, u) => (match (tb u).d.isNo with | true => .raw o | false => .fld (tb u).agg off (tb u).size x)
      | none => .raw o)
    | _ => .raw o)
  | .indexAddr t x i =>
    (match (tb t).d with
    | .slice e => (match (tb e).d.isNo with | true => .raw o | false => .ixr (tb e).size x i)
    | .array n e => (match (tb e).d.isNo with | true => .raw o | false => .ixa n (tb e).size x i)
    | _ => .raw o)
  | .index t x i => (match (tb t).d with | .str => .chr x i | _ => .raw o)
  | .extract x i => .ext x i
  | .nilCheck x => .nilc x
  | .slice t x lo hi none =>
    (match (tb t).d with
    | .str => .slc .str 0 x lo hi
    | .slice e => (match (tb e).d.isNo with | true => .raw o | false => .slc (.slice e) (tb e).size x lo hi)
    | _ => .raw o)
  | .build t parts =>
    (match (tb t).d with
    | .struct fs => (match fs.all (fun p => !(tb p.2).d.isNo), cparts tb fs parts.toList with | true, some l => .bld (tb t).zero l | _, _ => .raw o)
    | _ => .raw o)
  | .buildSlice t n parts =>
    (match (tb t).d with
    | .slice e => (match (tb e).d.isNo, Nat.ble (n * (tb e).size) 16777216, Nat.ble n 16777216 && Nat.ble e 4294967295 with | false, true, true => .bsl n e (tb e).size (tb e).zero parts.toList | _, _, _ => .raw o)
    | _ => .raw o)
  | .call { callee := .value x, args, argTypes } => .call x args.toList
  | .call { callee := .builtin b, args, argTypes } =>
    (match b, args.toList, argTypes.toList with
    | .len, [x], [t] => .len (tb t).d x
    | .append, [x, y], [t, u] => (match (tb t).d with | .slice e => (match (tb e).d.isNo with | true => .raw o | false => .app (tb u).d e (tb e).size (tb e).bytes x y) | _ => .raw o)
    | _, l, _ => .bi b argTypes l)
  | o => .raw o
def comp (tb : Tab) (o : Op) : SOp := match extraB tb o with | true => .raw o | false => comp0 tb o
def sfill (ρ : Operand → V) : List (Nat × Nat × Operand) → List C → Option (List C)
  | [], cs => some cs
  | (off, n, x) :: r, cs =>
    match (ρ x).cells with
    | some l => if l.length = n then (match splice cs off l with | some cs' => sfill ρ r cs' | none => none) else none
    | none => none
def sfillRow (sz : Nat) (ρ : Operand → V) : List (Nat × Operand) → List C → Option (List C)
  | [], cs => some cs
  | (i, x) :: r, cs =>
    match (ρ x).cells with
    | some l => if l.length = sz then (match splice cs (i * sz) l with | some cs' => sfillRow sz ρ r cs' | none => none) else none
    | none => none
def ixrow (T : Pr) (sz : Nat) (x i : V) (σ : St) (k : V → Prop) : Prop :=
  match x, i with
  | .c (.f (.sl n cs)), .c (.f (.int _ j)) => T.idx j (Int.ofNat n) ∧ k (.c (.ep cs (T.atp j sz)))
  | .c (.rs o ep n), .c (.f (.int _ j)) =>
    (match σ[o]? with
    | some (.arr _ e0 _ _) => T.eqN ep e0 ∧ T.idx j (Int.ofNat n) ∧ k (.c (.pa o ep (T.atp j sz)))
    | _ => False)
  | _, _ => False
def ixarr (T : Pr) (n sz : Nat) (x i : V) (σ : St) (k : V → Prop) : Prop :=
  match x, i with
  | .c (.ptr o off), .c (.f (.int _ j)) => T.caseK j n fun i => k (.c (.ptr o (off + i * sz)))
  | .c (.ep cs off), .c (.f (.int _ j)) => T.caseK j n fun i => k (.c (.ep cs (vmore T off (i * sz))))
  | .c (.pa o ep off), .c (.f (.int _ j)) =>
    (match σ[o]? with
    | some (.arr _ e0 _ _) => T.eqN ep e0 ∧ T.caseK j n fun i => k (.c (.pa o ep (vmore T off (i * sz))))
    | _ => False)
  | _, _ => False
def ixchr (T : Pr) (x i : V) (k : V → Prop) : Prop :=
  match x, i with
  | .c (.f (.str s)), .c (.f (.int _ j)) => T.idx j (T.slen s) ∧ k (.c (.f (.int .u8 (T.sget s j))))
  | _, _ => False
def sslice (T : Pr) (d : TD) (sz0 : Nat) (x : V) (lo hi : Option V) (σ : St) (k : V → St → Prop) : Prop :=
  match d, x with
  | .str, .c (.f (.str s)) =>
    (match lo, hi with
    | none, none => k (.c (.f (.str s))) σ
    | some (.c (.f (.int _ a))), none => T.rng 0 a (T.slen s) ∧ k (.c (.f (.str (T.ssub s a (T.slen s))))) σ
    | none, some (.c (.f (.int _ b))) => T.rng 0 b (T.slen s) ∧ k (.c (.f (.str (T.ssub s 0 b)))) σ
    | some (.c (.f (.int _ a))), some (.c (.f (.int _ b))) => T.rng 0 b (T.slen s) ∧ T.rng 0 a b ∧ k (.c (.f (.str (T.ssub s a b)))) σ
    | _, _ => False)
  | .slice e, .c (.f .nils) =>
    (match lo, hi with
    | some (.c (.f (.int _ a))), none => T.rng 0 a 0 ∧ k (.c (.f .nils)) σ
    | none, some (.c (.f (.int _ b))) => T.rng 0 b 0 ∧ k (.c (.f .nils)) σ
    | some (.c (.f (.int _ a))), some (.c (.f (.int _ b))) => T.rng 0 b 0 ∧ T.rng 0 a b ∧ k (.c (.f .nils)) σ
    | none, none => k (.c (.f .nils)) σ
    | _, _ => False)
  | .slice e, .c (.f (.sl n cs)) => 
    (match lo, hi with
    | some (.c (.f (.int _ a))), none => T.rng 0 a (Int.ofNat n) ∧ k (.c (.f (.sl (T.nsub n (T.toNat a)) (T.fcut cs (T.atp a sz0) (T.atp (Int.ofNat (T.nsub n (T.toNat a))) sz0))))) σ
    | none, some (.c (.f (.int _ b))) => T.rng 0 b (Int.ofNat n) ∧ k (.c (.f (.sl (T.toNat b) (T.fcut cs 0 (T.atp b sz0))))) σ
    | some (.c (.f (.int _ a))), some (.c (.f (.int _ b))) => T.rng 0 b (Int.ofNat n) ∧ T.rng 0 a b ∧
        k (.c (.f (.sl (T.nsub (T.toNat b) (T.toNat a)) (T.fcut cs (T.atp a sz0) (T.atp (Int.ofNat (T.nsub (T.toNat b) (T.toNat a))) sz0))))) σ
    | none, none => k (.c (.f (.sl n cs))) σ
    | _, _ => False)
  | .slice e, .c (.rs o ep n) => 
    (match σ[o]?, lo, hi with
    | some (.arr true e0 sz l), none, some (.c (.f (.int _ b))) => T.eqN ep e0 ∧ T.rng 0 b (Int.ofNat n) ∧ k (.c (.rs o (e0 + 8589934592) (T.toNat b))) (σ.set o (.arr true (e0 + 8589934592) sz (T.fcut l 0 (T.atp b sz))))
    | _, _, _ => False)
  | _, _ => False
def sguard (A : AF) (g : Option (Option Tmp × Bool)) (x y : Prop) : Prop :=
  match g with
  | none => x
  | some (d, want) =>
    match d with
    | none => y
    | some d =>
      match lk A d with
      | .c (.f (.bool b)) => (match want with | true => (match b with | true => x | false => y) | false => (match b with | true => y | false => x))
      | .t _ => y
      | _ => False
def vopA (X : Mx) (pf : FuncId → Bool) (tb : Tab) (m : Nat) (s : SOp) (A : AF) (σ : St) (k : V → St → Prop) : Prop :=
  match s with
  | .mv x => k (opA A x) σ
  | .pick c a b => vpick (opA A c) (opA A a) (opA A b) fun v => k v σ
  | .bin d op x y => vbin X.T d op (opA A x) (opA A y) fun v => k v σ
  | .un op x => vun X.T op (opA A x) fun v => k v σ
  | .alloc z => k (.c (.ptr σ.length 0)) (σ ++ [.cells (z.map .f)])
  | .box x => (match (opA A x).cells with | some l => k (.c (.ptr σ.length 0)) (σ ++ [.cells l]) | none => False)
  | .load agg n x => vload X.T agg n (addr (opA A x)) σ fun v => k v σ
  | .store n a x => vstore X.T (opA A a) (opA A x) n σ fun σ' => k (.c .un) σ'
  | .call x args =>
    (match callee (opA A x) (args.map (opA A)) with
    | some (f, l) => (match pf f with | true => vsofts X.T l σ fun l' σ' => X.pk f l' fun r => k r σ' | false => X.ca f l σ k)
    | none => False)
  | .fa off x => vfield X.T (addr (opA A x)) off σ fun v => k v σ
  | .fld agg off n x => (match opA A x with | .a l => vpart agg l off n fun v => k v σ | _ => False)
  | .ixr sz x i => ixrow X.T sz (addr (opA A x)) (opA A i) σ fun v => k v σ
  | .ixa n sz x i => ixarr X.T n sz (addr (opA A x)) (opA A i) σ fun v => k v σ
  | .chr x i => ixchr X.T (opA A x) (opA A i) fun v => k v σ
  | .len d x => vlen X.T d (opA A x) σ fun v => k v σ
  | .app d ty sz bytes x y => vappend X.T d ty sz bytes (opA A x) (opA A y) σ k
  | .slc d sz x lo hi => sslice X.T d sz (opA A x) (lo.map (opA A)) (hi.map (opA A)) σ k
  | .ext x i => (match opA A x with | .t l => (match l[i]? with | some v => k v σ | none => False) | _ => False)
  | .nilc x =>
    (match opA A x with
    | .c (.ptr o off) => k (.c (.ptr o off)) σ
    | .c (.f (.obj cs)) => k (.c (.f (.obj cs))) σ
    | .c (.ep cs off) => k (.c (.ep cs off)) σ
    | .c (.pa o e off) =>
      (match σ[o]? with
      | some (.arr _ e0 _ _) => X.T.eqN e e0 ∧ k (.c (.pa o e off)) σ
      | _ => False)
    | _ => False)
  | .bi b ts args => vbi X.T tb b ts (args.map (opA A)) σ k
  | .bld z parts => (match sfill (opA A) parts (z.map .f) with | some l => k (.a l) σ | none => False)
  | .bsl n ty sz z parts =>
    (match sfillRow sz (opA A) parts (rep n (z.map .f)) with
    | some l => vfrzs X.T l σ fun fs σ' => k (.c (.rs σ'.length (ty + 4294967296) n)) (σ' ++ [.arr true (ty + 4294967296) sz fs])
    | none => False)
  | .raw o => vdo X pf tb o (toFr m A) σ k
end Go.Dm
namespace Go.Dm
set_option linter.unusedVariables false
set_option linter.unusedSimpArgs false
section
variable {X : Mx} {pf : FuncId → Bool} {tb : Tab} {m : Nat} {A : AF} {σ : St} {k : V → St → Prop}
theorem not_isNo {t : TypeId} {p : Prop} (h : (tb t).d.isNo = false) (hp : p) : match (tb t).d with | .no => False | _ => p := by
  split
  · rename_i e; rw [e] at h; cases h
  · exact hp
theorem sfill_eq {fs : List (Nat × TypeId)} {fr : Fr} {ρ : Operand → V} (hρ : opd fr = ρ) : ∀ (parts : List (Nat × Operand)) {l : List (Nat × Nat × Operand)} (h : cparts tb fs parts = some l) (cs : List C), vfill tb fs fr parts cs = sfill ρ l cs
  | [], l, h, cs => by simp only [cparts] at h; cases h; rfl
  | (i, x) :: r, l, h, cs => by
    simp only [cparts] at h
    cases h1 : fs[i]? with
    | none => simp [h1] at h
    | some p =>
      obtain ⟨off, t⟩ := p
      cases h2 : cparts tb fs r with
      | none => simp [h1, h2] at h
      | some l' =>
        simp [h1, h2] at h
        subst h
        simp only [vfill, sfill, h1, hρ]
        cases h3 : (ρ x).cells with
        | none => rfl
        | some lx =>
          simp only
          split
          · cases h4 : splice cs off lx with
            | none => rfl
            | some cs' => exact sfill_eq hρ r h2 cs'
          · rfl
theorem sfillRow_eq {sz : Nat} {fr : Fr} {ρ : Operand → V} (hρ : opd fr = ρ) : ∀ (parts : List (Nat × Operand)) (cs : List C), vfillRow sz fr parts cs = sfillRow sz ρ parts cs
  | [], cs => rfl
  | (i, x) :: r, cs => by
    simp only [vfillRow, sfillRow, hρ]
    cases h3 : (ρ x).cells with
    | none => rfl
    | some lx =>
      simp only
      split
      · cases h4 : splice cs (i * sz) lx with
        | none => rfl
        | some cs' => exact sfillRow_eq hρ r cs'
      · rfl
theorem sslice_str {t : TypeId} (hd : (tb t).d = .str) {x : V} {lo hi : Option V} (h : sslice X.T .str 0 x lo hi σ k) : vslice X.T tb t x lo hi σ k := by
  unfold vslice
  rw [hd]
  unfold sslice at h
  cases x with
  | c c => cases c with
    | f f => cases f <;> exact h
    | _ => exact h
  | _ => exact h
theorem sslice_row {t ty : TypeId} (hd : (tb t).d = .slice ty) (en : (tb ty).d.isNo = false) {x : V} {lo hi : Option V} (h : sslice X.T (.slice ty) (tb ty).size x lo hi σ k) : vslice X.T tb t x lo hi σ k := by
  unfold vslice
  rw [hd]
  unfold sslice at h
  cases x with
  | c c => cases c with
    | f f =>
      cases f with
      | sl n cs => simp only [en, Bool.false_eq_true, if_false]; exact h
      | nils => simp only [en, Bool.false_eq_true, if_false]; exact h
      | _ => exact h
    | rs o ep n => simp only [en, Bool.false_eq_true, if_false]; exact h
    | _ => exact h
  | _ => exact h
theorem comp_ok (hA : inA m A) {o : Op} (h : vopA X pf tb m (comp tb o) A σ k) : vdo X pf tb o (toFr m A) σ k := by
  have e : opd (toFr m A) = opA A := funext (toFr_opd hA)
  cases hx : extraB tb o with
  | true => simp only [comp, hx] at h; exact h
  | false =>
  simp only [comp, hx] at h
  cases o with
  | move x => simp only [vdo, vop2, hx, vop, e]; exact h
  | assign x => simp only [vdo, vop2, hx, vop, e]; exact h
  | pick c a b => simp only [vdo, vop2, hx, vop, e]; exact h
  | binOp op t x y p => simp only [vdo, vop2, hx, vop, e]; exact h
  | unOp op t x => simp only [vdo, vop2, hx, vop, e]; exact h
  | extract x i => simp only [vdo, vop2, hx, vop, e]; exact h
  | nilCheck x => simp only [vdo, vop2, hx, vop, e]; exact h
  | box t x => simp only [vdo, vop2, hx, vop, e]; exact h
  | alloc t =>
    simp only [comp0] at h
    split at h
    · exact h
    · rename_i en
      simp only [vdo, vop2, hx, vop]
      exact not_isNo en h
  | load t x =>
    simp only [comp0] at h
    split at h
    · exact h
    · rename_i en; simp only [vdo, vop2, hx, vop, e]; exact not_isNo en h
  | store t a x =>
    simp only [comp0] at h
    split at h
    · exact h
    · rename_i en; simp only [vdo, vop2, hx, vop, e]; exact not_isNo en h
  | fieldAddr t x i =>
    simp only [comp0] at h
    split at h
    · rename_i fs hd
      split at h
      · rename_i off u hf
        split at h
        · exact h
        · rename_i hs
          split at h
          · exact h
          · rename_i en
            simp only [vdo, vop2, hx, vop, e, hd, hf]
            exact not_isNo en h
      · exact h
    · exact h
  | field t x i =>
    simp only [comp0] at h
    split at h
    · rename_i fs hd
      split at h
      · rename_i off u hf
        split at h
        · exact h
        · rename_i en
          simp only [vdo, vop2, hx, vop, e, hd]
          simp only [vopA] at h
          split at h
          · rename_i l hx
            simp only [hx, hf]
            exact not_isNo en h
          · exact h.elim
      · exact h
    · exact h
  | indexAddr t x i =>
    simp only [comp0] at h
    split at h
    · rename_i ty hd
      split at h
      · exact h
      · rename_i en
        simp only [vdo, vop2, hx, vop, e]
        simp only [vopA, ixrow] at h
        unfold vindexAddr
        split at h
        · rename_i n cs kd j hx hi
          simp only [hd, hx, hi]
          exact not_isNo en h
        · rename_i o ep n kd j hx hi
          simp only [hd, hx, hi]
          split at h
          · rename_i wr e0 sz l ho
            simp only [ho]
            split
            · rename_i e1; rw [e1] at en; cases en
            · rename_i e1 e2
              cases e1
              exact h
            · rename_i hno; exact (hno _ _ _ _ rfl).elim
          · exact h.elim
        · exact h.elim
    · rename_i n ty hd
      split at h
      · exact h
      · rename_i en
        simp only [vdo, vop2, hx, vop, e]
        simp only [vopA, ixarr] at h
        unfold vindexAddr
        split at h
        · rename_i o off kd j hx hi
          simp only [hd, hx, hi]
          exact not_isNo en h
        · rename_i cs off kd j hx hi
          simp only [hd, hx, hi]
          exact not_isNo en h
        · rename_i o ep off kd j hx hi
          simp only [hd, hx, hi]
          split at h
          · rename_i wr e0 sz l ho
            simp only [ho]
            split
            · rename_i e1; rw [e1] at en; cases en
            · rename_i e1 e2
              cases e1
              exact h
            · rename_i hno; exact (hno _ _ _ _ rfl).elim
          · exact h.elim
        · exact h.elim
    · exact h
  | index t x i =>
    simp only [comp0] at h
    split at h
    · rename_i hd
      simp only [vdo, vop2, hx, vop, e]
      simp only [vopA, ixchr] at h
      unfold vindex
      split at h
      · rename_i s kd j hx hi
        simp only [hd, hx, hi]
        exact h
      · exact h.elim
    · exact h
  | slice t x lo hi mx =>
    cases mx with
    | some y => exact h
    | none =>
      simp only [comp0] at h
      split at h
      · rename_i hd
        simp only [vdo, vop2, hx, vop, e]
        exact sslice_str hd h
      · rename_i ty hd
        split at h
        · exact h
        · rename_i en
          simp only [vdo, vop2, hx, vop, e]
          exact sslice_row hd en h
      · exact h
  | build t parts =>
    simp only [comp0] at h
    split at h
    · rename_i fs hd
      split at h
      · rename_i l hall hc
        simp only [vdo, vop2, hx, vop, hd, if_pos hall, sfill_eq e _ hc]
        exact h
      · exact h
    · exact h
  | buildSlice t n parts =>
    simp only [comp0] at h
    split at h
    · rename_i ty hd
      split at h
      · rename_i h1 h2 h3
        simp only [vdo, vop2, hx, vop, hd]
        simp only [Bool.and_eq_true] at h3; rw [Nat.ble_eq] at h2 h3; rw [Nat.ble_eq] at h3
        refine not_isNo h1 ?_
        rw [if_pos ⟨h2, h3.1, h3.2⟩, sfillRow_eq e]
        exact h
      · exact h
    · exact h
  | call c =>
    obtain ⟨cal, args, at'⟩ := c
    cases cal with
    | value f => simp only [vdo, e]; exact h
    | builtin b =>
      simp only [comp0] at h
      split at h
      · rename_i x t ha ht
        simp only [vdo, vop2, hx, vop, vbi, e, ha, ht, List.map_cons, List.map_nil]
        exact h
      · rename_i x y t u ha ht
        split at h
        · rename_i ty hd
          split at h
          · exact h
          · rename_i en
            simp only [vdo, vop2, hx, vop, vbi, e, ha, ht, hd, List.map_cons, List.map_nil]
            exact not_isNo en h
        · exact h
      · simp only [vdo, vop2, hx, vop, e]; exact h
    | invoke r nm => exact h
  | _ => exact h
end
end Go.Dm
namespace Go.Dm
set_option linter.unusedVariables false
set_option linter.unusedSimpArgs false
structure SItem where
  dst : Option Tmp
  g : Option (Option Tmp × Bool)
  o : SOp
  deriving Inhabited
def sitem (tb : Tab) (ops : Array Oper) (o : Oper) : SItem :=
  ⟨o.dst, (match o.guard with | none => none | some (j, want) => some ((ops[j]?).bind (·.dst), want)), comp tb o.op⟩
abbrev PostA := Exit → AF → St → Prop
def PostA.then (next : AF → St → Prop) (K : PostA) : Exit → AF → St → Prop
  | .normal, A, σ => next A σ
  | .exit i, A, σ => K (.exit i) A σ
  | .goto i, A, σ => K (.goto i) A σ
  | .ret, A, σ => K .ret A σ
  | .panic c, A, σ => K (.panic c) A σ
  | .outgrown, A, σ => K .outgrown A σ
def PostA.inBlock (id : Nat) (K : PostA) : Exit → AF → St → Prop
  | .normal, A, σ => K .normal A σ
  | .exit j, A, σ => (match Nat.beq j id with | true => K .normal A σ | false => K (.exit j) A σ)
  | .goto i, A, σ => K (.goto i) A σ
  | .ret, A, σ => K .ret A σ
  | .panic c, A, σ => K (.panic c) A σ
  | .outgrown, A, σ => K .outgrown A σ
def tlessA (pf : FuncId → Bool) (tb : Tab) (o : Op) (A : AF) : Bool :=
  match o with
  | .call { callee := .value x, args, .. } => (match callee (opA A x) (args.toList.map (opA A)) with | some (f, l) => pf f && !l.any V.hasRs | none => false)
  | .load _ x => !farV (opA A x) && !ptrV (opA A x)
  | o => !extraB tb o && stillOp tb o && o.operands.toList.all fun x => !farV (opA A x)
def pickA (pf : FuncId → Bool) (tb : Tab) (ops : Array Oper) (listed : Array Bool) (A : AF) : List Nat → Option Nat
  | [] => none
  | i :: r =>
    match ops[i]? with
    | some o => if tlessA pf tb o.op A && freeAt ops listed i then some i else pickA pf tb ops listed A r
    | none => none
def sany (X : Mx) (pf : FuncId → Bool) (tb : Tab) (m : Nat) (l : List SItem) (ops : Array Oper) (K : AF → St → Prop) : Nat → Array Bool → AF → St → Prop
  | fuel, listed, A, σ =>
    match Region.ready .any ops listed with
    | [] => K A σ
    | rs =>
      match fuel with
      | 0 => False
      | fuel + 1 =>
        match pickA pf tb ops listed A rs with
        | some i => (match l[i]? with
          | some s => sguard A s.g (vopA X pf tb m s.o A [] fun v _ => sany X pf tb m l ops K fuel (listed.setIfInBounds i true) (putA m A s.dst v) σ) (sany X pf tb m l ops K fuel (listed.setIfInBounds i true) (putA m A s.dst (.t [])) σ)
          | none => False)
        | none => vall (fun i => match l[i]? with
          | some s => sguard A s.g (vopA X pf tb m s.o A σ fun v σ' => sany X pf tb m l ops K fuel (listed.setIfInBounds i true) (putA m A s.dst v) σ') (sany X pf tb m l ops K fuel (listed.setIfInBounds i true) (putA m A s.dst (.t [])) σ)
          | none => False) rs
def lowF (m : Nat) (K : AF → St → Prop) : Fr → St → Prop := fun fr σ => ∃ A, inA m A ∧ fr = toFr m A ∧ K A σ
def low (m : Nat) (K : PostA) : Post := fun e => lowF m (K e)
section
variable {P : Program} {pf : FuncId → Bool} {tb : Tab} {n m : Nat}
theorem sguard_eq {ops : Array Oper} {o : Oper} {A : AF} (hA : inA m A) (hm : ∀ d, A.length = A.length → d < m ∨ lk A d = .c .un) {x y : Prop} (h : sguard A (sitem tb ops o).g x y) (hlen : ∀ d, d < m → (toFr m A)[d]? = some (lk A d)) : vguard ops (toFr m A) o x y := by
  unfold vguard
  unfold sguard sitem at h
  cases hg : o.guard with
  | none => rw [hg] at h; exact h
  | some gw =>
    obtain ⟨j, want⟩ := gw
    rw [hg] at h
    simp only at h ⊢
    cases hd : (ops[j]?).bind (·.dst) with
    | none => rw [hd] at h; exact h
    | some d =>
      rw [hd] at h
      simp only at h ⊢
      by_cases hdm : (show Nat from d) < m
      · rw [hlen d hdm]
        split at h
        · rename_i b hb
          rw [hb]
          exact h
        · rename_i l hb
          rw [hb]
          exact h
        · exact h.elim
      · have : lk A d = .c .un := hA d (by show m ≤ (show Nat from d); omega)
        rw [this] at h
        exact h.elim
theorem toFr_at {A : AF} {d : Nat} (h : d < m) : (toFr m A)[d]? = some (lk A d) := by
  simp [toFr, h]
theorem sg {ops : Array Oper} {o : Oper} {A : AF} (hA : inA m A) {x y : Prop} (h : sguard A (sitem tb ops o).g x y) : vguard ops (toFr m A) o x y :=
  sguard_eq hA (fun d _ => by by_cases h : d < m; exact .inl h; exact .inr (hA d (by omega))) h fun d hd => toFr_at hd
theorem sone {ops : Array Oper} {o : Oper} {A : AF} (hA : inA m A) {σ : St} {K : AF → St → Prop} {K' : Fr → St → Prop} (hK : ∀ A σ, inA m A → K A σ → K' (toFr m A) σ)
    (h : sguard A (sitem tb ops o).g (vopA (mx P) pf tb m (comp tb o.op) A σ fun v σ' => K (putA m A o.dst v) σ') (K (putA m A o.dst (.t [])) σ)) : pOne P pf tb ops o K' (toFr m A) σ := by
  have h' := sg hA h
  rcases vguard_cases h' with ⟨h1, h2⟩ | ⟨h1, h2⟩
  · refine h2 _ _ ⟨_, comp_ok hA h1, fun v σ' hk => ?_⟩
    show K' ((toFr m A).put o.dst v) σ'
    rw [← toFr_put]
    exact hK _ _ (putA_in hA _ _) hk
  · refine h2 _ _ ?_
    rw [← toFr_put]
    exact hK _ _ (putA_in hA _ _) h1
theorem tlessA_eq {o : Op} {A : AF} (hA : inA m A) : tlessA pf tb o A = tless pf tb o (toFr m A) := by
  have e : opd (toFr m A) = opA A := funext (toFr_opd hA)
  unfold tlessA tless
  rw [e]
  try rfl
theorem LiftsN.mono {g : G} {w : World} {σ : St} {K K' : Fr → St → Prop} {a : Act} {w' : World} (h : LiftsN n g w σ K a w') (hk : ∀ fr σ', K fr σ' → K' fr σ') : LiftsN n g w σ K' a w' :=
  let ⟨fr, σ', g', h1, h2⟩ := h; ⟨fr, σ', g', hk _ _ h1, h2⟩
theorem DWp.mono {c : Code} {K K' : Post} {fr : Fr} {σ : St} (h : DWp P n c K fr σ) (hk : ∀ e fr σ', K e fr σ' → K' e fr σ') : DWp P n c K' fr σ :=
  fun g w a hr hf hd => wp_mono (h g w a hr hf hd) fun e a' w' h' => h'.mono (hk e)
def CovA : AF → AF → Prop
  | [], _ => True
  | (i, v) :: r, A => lk A i = v ∧ CovA r A
theorem CovA.get {A' A : AF} (h : CovA A' A) (i : Nat) : lk A' i = .c .un ∨ lk A' i = lk A i := by
  induction A' with
  | nil => exact .inl rfl
  | cons p r ih =>
    obtain ⟨j, v⟩ := p
    obtain ⟨h1, h2⟩ := h
    rw [lk_cons]
    split
    · rename_i e; subst e; exact .inr h1.symm
    · exact ih h2
theorem CovA.ghost {A' A : AF} (h : CovA A' A) (hA : inA m A) (σ : St) : Ghost (toFr m A) σ (toFr m A') σ := by
  intro g w tmps hr hf
  refine ⟨g, hr, Turn.refl _ _ _, by rw [← hf.1]; simp [toFr], fun i => ?_⟩
  have h1 := hf.2 i
  rw [toFr_get hA] at h1
  by_cases hi : i < m
  · have e : (toFr m A').getD i (.c .un) = lk A' i := by
      rw [List.getD_eq_getElem?_getD, toFr_at hi]; rfl
    rw [e]
    rcases h.get i with e | e
    · rw [e]; trivial
    · rw [e]; exact h1
  · have e : (toFr m A').getD i (.c .un) = .c .un := by
      rw [List.getD_eq_getElem?_getD]
      simp [toFr, hi]
    rw [e]; trivial
def sresVs (T : Pr) (tb : Tab) : List ResultVar → AF → St → (List V → Prop) → Prop
  | [], A, σ, k => k []
  | .tmp t :: r, A, σ, k => sresVs T tb r A σ fun l => k (lk A t :: l)
  | .cell x t :: r, A, σ, k =>
    (match (tb t).d with
    | .no => False
    | _ => vload T (tb t).agg (tb t).size (addr (lk A x)) σ fun v => sresVs T tb r A σ fun l => k (v :: l))
def sKret (X : Mx) (tb : Tab) (rs : List ResultVar) (k : V → St → Prop) : Exit → AF → St → Prop
  | .normal, A, σ => sresVs X.T tb rs A σ fun l => (match l with | [v] => k v σ | l => k (.t l) σ)
  | .ret, A, σ => sresVs X.T tb rs A σ fun l => (match l with | [v] => k v σ | l => k (.t l) σ)
  | .exit _, _, _ => False
  | .goto _, _, _ => False
  | .panic _, _, _ => False
  | .outgrown, _, _ => False
theorem sresVs_eq {T : Pr} {A : AF} (hA : inA m A) {σ : St} : ∀ (rs : List ResultVar) (k : List V → Prop), resVs T tb rs (toFr m A) σ k = sresVs T tb rs A σ k
  | [], k => rfl
  | .tmp t :: r, k => by
    simp only [resVs, sresVs]
    rw [toFr_get hA]
    exact sresVs_eq hA r _
  | .cell x t :: r, k => by
    simp only [resVs, sresVs]
    rw [toFr_get hA]
    have e : (fun v => resVs T tb r (toFr m A) σ fun l => k (v :: l)) = fun v => sresVs T tb r A σ fun l => k (v :: l) := funext fun v => sresVs_eq hA r _
    rw [e]
    try rfl
theorem low_ret {X : Mx} {rs : List ResultVar} {k : V → St → Prop} {e : Exit} {fr : Fr} {σ : St} (h : low m (sKret X tb rs k) e fr σ) : Kret X tb rs k e fr σ := by
  obtain ⟨A, hA, rfl, h⟩ := h
  cases e with
  | normal => show resVs X.T tb rs (toFr m A) σ _; rw [sresVs_eq hA]; exact h
  | ret => show resVs X.T tb rs (toFr m A) σ _; rw [sresVs_eq hA]; exact h
  | _ => exact h.elim
def args0 : Nat → List V → AF
  | _, [] => []
  | i, x :: r => (i, x) :: args0 (i + 1) r
theorem args0_lk : ∀ (l : List V) (s i : Nat), lk (args0 s l) i = if s ≤ i then (l[i - s]?).getD (.c .un) else .c .un
  | [], s, i => by simp [args0, lk]
  | x :: r, s, i => by
    rw [args0, lk_cons, args0_lk r (s + 1) i]
    by_cases h : s = i
    · subst h; simp
    · rw [if_neg h]
      by_cases hs : s ≤ i
      · rw [if_pos hs, if_pos (by omega), show i - s = (i - (s + 1)) + 1 from by omega]
        rfl
      · rw [if_neg hs, if_neg (by omega)]
theorem toFr_args0 {l : List V} (h : l.length ≤ m) : toFr m (args0 0 l) = frame0 m l := by
  apply List.ext_getElem?
  intro i
  by_cases hi : i < m
  · rw [toFr_at hi, args0_lk, if_pos (Nat.zero_le _)]
    unfold frame0
    by_cases hl : i < l.length
    · rw [List.getElem?_append_left hl]
      simp [hl]
    · rw [List.getElem?_append_right (by omega), List.getElem?_replicate, if_pos (by omega)]
      simp [List.getElem?_eq_none (Nat.le_of_not_lt hl)]
  · have e1 : (toFr m (args0 0 l))[i]? = none := by simp [toFr, hi]
    have e2 : (frame0 m l)[i]? = none := by
      apply List.getElem?_eq_none
      simp [frame0]; omega
    rw [e1, e2]
theorem inA_args0 {l : List V} (h : l.length ≤ m) : inA m (args0 0 l) := by
  intro i hi
  rw [args0_lk, if_pos (Nat.zero_le _), List.getElem?_eq_none (by omega)]
  rfl
end
end Go.Dm
