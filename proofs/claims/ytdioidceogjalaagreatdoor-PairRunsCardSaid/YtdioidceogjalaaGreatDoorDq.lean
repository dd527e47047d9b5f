/- The plain machine: calls; operations one behind the other. -/
import Derived.Test.YtdioidceogjalaaGreatDoorDpa
namespace Go.Dm
set_option linter.unusedVariables false
set_option linter.unusedSimpArgs false

/-- A call's end. -/
def CallEnd (g : G) (w : World) (σ : St) (k : V → St → Prop) (v : Value) (w' : World) : Prop :=
  ∃ r σ' g', k r σ' ∧ Rep g' w' σ' ∧ Turn g w σ g' w' σ' ∧ VRep g' w' σ' r v

/-- A call of a function, from plain arguments. -/
def CallAt (P : Program) (f : FuncId) (args : List V) (σ : St) (k : V → St → Prop) : Prop :=
  ∀ g w vs, Rep g w σ → VReps g w σ args vs →
    (∃ v w', (callFunc f vs.toArray).run P w = .ok (.value v) w' ∧ CallEnd g w σ k v w') ∨
    ((callFunc f vs.toArray).run P w = .ok (.enter f vs.toArray) w ∧ Calls P f vs.toArray w fun e w' => ∃ v, e = .returned v ∧ CallEnd g w σ k v w')

theorem CallEnd.mono {g : G} {w : World} {σ : St} {k k' : V → St → Prop} {v : Value} {w' : World} (h : CallEnd g w σ k v w') (hk : ∀ r σ', k r σ' → k' r σ') : CallEnd g w σ k' v w' :=
  let ⟨r, σ', g', a, b⟩ := h; ⟨r, σ', g', hk _ _ a, b⟩

theorem CallAt.mono {P : Program} {f : FuncId} {args : List V} {σ : St} {k k' : V → St → Prop} (h : CallAt P f args σ k) (hk : ∀ r σ', k r σ' → k' r σ') : CallAt P f args σ k' := by
  intro g w vs hr hv
  rcases h g w vs hr hv with ⟨v, w', h1, h2⟩ | ⟨h1, h2⟩
  · exact .inl ⟨v, w', h1, h2.mono hk⟩
  · exact .inr ⟨h1, h2.mono fun e w' ⟨v, h3, h4⟩ => ⟨v, h3, h4.mono hk⟩⟩

/-- A call that leaves the store as it is, whatever it is. -/
def PureAt (P : Program) (f : FuncId) (args : List V) (r : V) : Prop := ∀ σ, CallAt P f args σ fun r' σ' => r' = r ∧ σ' = σ

def PureK (P : Program) (f : FuncId) (args : List V) (k : V → Prop) : Prop := ∃ r, PureAt P f args r ∧ k r

theorem PureAt.call {P : Program} {f : FuncId} {args : List V} {r : V} (h : PureAt P f args r) {σ : St} {k : V → St → Prop} (hk : k r σ) : CallAt P f args σ k :=
  (h σ).mono fun r' σ' ⟨h1, h2⟩ => by subst h1 h2; exact hk

/-- What a walk asks of its surroundings: the primitives, calls. -/
structure Mx where
  T : Pr
  pk : FuncId → List V → (V → Prop) → Prop
  ca : FuncId → List V → St → (V → St → Prop) → Prop

abbrev mx (P : Program) : Mx := ⟨prims, PureK P, CallAt P⟩

/-- What a call of a function's value comes to. -/
def callee (x : V) (args : List V) : Option (FuncId × List V) :=
  match x with
  | .c (.f (.fn f)) => some (f, args)
  | .c (.clo f caps) => some (f, args ++ caps.map .c)
  | _ => none

/-- One operation, calls too; pf: the functions that are taken as ones that leave the store as it is. -/
def vdo (X : Mx) (pf : FuncId → Bool) (tb : Tab) (o : Op) (fr : Fr) (σ : St) (k : V → St → Prop) : Prop :=
  match o with
  | .call { callee := .value x, args, argTypes } =>
    (match callee (opd fr x) (args.toList.map (opd fr)) with
    | some (f, l) => (match pf f with | true => vsofts X.T l σ fun l' σ' => X.pk f l' fun r => k r σ' | false => X.ca f l σ k)
    | none => False)
  | o => vop2 X.T tb o fr σ k

def Fr.put (fr : Fr) (dst : Option Tmp) (v : V) : Fr :=
  match dst with
  | some d => List.set fr d v
  | none => fr

/-- Is a guarded operation wanted? -/
def vguard (ops : Array Oper) (fr : Fr) (o : Oper) (x y : Prop) : Prop :=
  match o.guard with
  | none => x
  | some (j, want) =>
    match (ops[j]?).bind (·.dst) with
    | none => y
    | some d =>
      match fr[d]? with
      | some (.c (.f (.bool b))) => (match want with | true => (match b with | true => x | false => y) | false => (match b with | true => y | false => x))
      | some (.t _) => y
      | _ => False

def vone (X : Mx) (pf : FuncId → Bool) (tb : Tab) (ops : Array Oper) (o : Oper) (K : Fr → St → Prop) (fr : Fr) (σ : St) : Prop :=
  vguard ops fr o (vdo X pf tb o.op fr σ fun v σ' => K (fr.put o.dst v) σ') (K (fr.put o.dst (.t [])) σ)

def vseq (X : Mx) (pf : FuncId → Bool) (tb : Tab) (ops : Array Oper) (K : Fr → St → Prop) : List Oper → Fr → St → Prop
  | [], fr, σ => K fr σ
  | o :: r, fr, σ => vone X pf tb ops o (vseq X pf tb ops K r) fr σ

section
variable {P : Program} {pf : FuncId → Bool} {tb : Tab} {g : G} {w : World} {σ : St}

theorem VReps.append : ∀ {l l' : List V} {vs vs' : List Value}, VReps g w σ l vs → VReps g w σ l' vs' → VReps g w σ (l ++ l') (vs ++ vs')
  | [], l', vs, vs', h, h' => by simp only [VReps] at h; subst h; exact h'
  | c :: r, l', vs, vs', h, h' => by obtain ⟨v, vr, rfl, h1, h2⟩ := h; exact ⟨v, vr ++ vs', rfl, h1, VReps.append h2 h'⟩

theorem CReps.v : ∀ {l : List C} {vs : List Value}, CReps g w σ l vs → VReps g w σ (l.map .c) vs
  | [], vs, h => h
  | c :: r, vs, h => by obtain ⟨v, vr, rfl, h1, h2⟩ := h; exact ⟨v, vr, rfl, h1, CReps.v h2⟩

/-- What an operation comes to, calls too. -/
def Does (P : Program) (o : Oper) (a : Act) (g : G) (w : World) (σ : St) (k : V → St → Prop) : Prop :=
  Good P o a g w σ k ∨ ∃ f vs, (execOp a.eval o).run P w = (callFunc f (List.toArray vs)).run P w ∧ ∃ l σ' g', Rep g' w σ' ∧ Turn g w σ g' w σ' ∧ VReps g' w σ' l vs ∧ CallAt P f l σ' k

theorem vdo_ok (tok : TabOk P tb) (hr : Rep g w σ) {o : Oper} {a : Act} {fr : Fr} (hf : FrRep g w σ fr a.tmps) {k : V → St → Prop} (hk : vdo (mx P) pf tb o.op fr σ k) : Does P o a g w σ k := by
  unfold vdo at hk
  split at hk
  · rename_i x args at' hop
    refine .inr ?_
    have hargs := opds_rep hf args.toList
    have hx := opd_rep hf x
    split at hk
    · rename_i f l hc
      have hcall : ∀ {vs}, VReps g w σ l vs → ∃ l σ' g', Rep g' w σ' ∧ Turn g w σ g' w σ' ∧ VReps g' w σ' l vs ∧ CallAt P f l σ' k := fun {vs} hvs => by
        split at hk
        · obtain ⟨l', σ', g', q1, q2, q3, r, h1, h2⟩ := softs_ok l hr hvs hk
          exact ⟨l', σ', g', q1, q2, q3, h1.call h2⟩
        · exact ⟨l, σ, g, hr, Turn.refl _ _ _, hvs, hk⟩
      have hat : args.map a.eval = (args.toList.map a.eval).toArray := by apply Array.ext'; rw [Array.toList_map]
      unfold callee at hc
      split at hc
      · rename_i f' e
        cases hc
        rw [e] at hx
        have hv : a.eval x = .func (.func f) #[] #[] := hx
        refine ⟨f, args.toList.map a.eval, ?_, hcall hargs⟩
        unfold execOp
        simp only [hop, resolve, hv, Deferred.ofValue, Sem.run_bind, Sem.run_pure, Result.andThen, invoke, hat]
        congr 2
        simp
      · rename_i f' caps e
        cases hc
        rw [e] at hx
        obtain ⟨cs, hv, hcs⟩ := hx
        refine ⟨f, args.toList.map a.eval ++ cs, ?_, hcall (hargs.append hcs.v)⟩
        unfold execOp
        simp only [hop, resolve, hv, Deferred.ofValue, Sem.run_bind, Sem.run_pure, Result.andThen, invoke, hat]
        congr 2
        simp
      · cases hc
    · exact hk.elim
  · exact .inl (vop2_ok tok hr hf hk)

theorem FrRep.put {fr : Fr} {tmps : Array Value} (hf : FrRep g w σ fr tmps) {v : V} {u : Value} (hv : VRep g w σ v u) (dst : Option Tmp) :
    FrRep g w σ (fr.put dst v) (match dst with | some d => tmps.setIfInBounds d u | none => tmps) := by
  cases dst with
  | none => exact hf
  | some d =>
    refine ⟨by simp [Fr.put, hf.1], fun i => ?_⟩
    have h := hf.2 i
    simp only [Fr.put, List.getD_eq_getElem?_getD, Array.getD_eq_getD_getElem?, List.getElem?_set, Array.getElem?_setIfInBounds] at h ⊢
    by_cases hd : d = i
    · subst hd
      by_cases hlt : d < fr.length
      · have hlt' : d < tmps.size := by rw [← hf.1]; exact hlt
        simpa [hlt, hlt'] using hv
      · have hlt' : ¬ d < tmps.size := by rw [← hf.1]; exact hlt
        simp [hlt, hlt', VRep, CRep]
    · simpa [hd] using h

theorem put_tmps (a : Act) (dst : Option Tmp) (v : Value) : (a.put dst v).tmps = (match dst with | some d => a.tmps.setIfInBounds d v | none => a.tmps) := by
  cases dst <;> rfl

theorem put_defers (a : Act) (dst : Option Tmp) (v : Value) : (a.put dst v).defers = a.defers := by
  cases dst <;> rfl

/-- What a walk's continuation says of the model's states. -/
def Lifts (g : G) (w : World) (σ : St) (K : Fr → St → Prop) (a : Act) (w' : World) : Prop :=
  ∃ fr' σ' g', K fr' σ' ∧ Rep g' w' σ' ∧ Turn g w σ g' w' σ' ∧ FrRep g' w' σ' fr' a.tmps ∧ a.defers = []

theorem Does.wp {o : Oper} {a : Act} {fr : Fr} (hr : Rep g w σ) (hf : FrRep g w σ fr a.tmps) (hd : a.defers = []) {K : Fr → St → Prop} {Q : Exit → Act → World → Prop} (h : Does P o a g w σ fun v σ' => K (fr.put o.dst v) σ') :
    o.wp P a w (Lifts g w σ K) Q := by
  have fin : ∀ {v : Value} {w' : World} {σ' g' r}, K (fr.put o.dst r) σ' → Rep g' w' σ' → Turn g w σ g' w' σ' → VRep g' w' σ' r v → Lifts g w σ K (a.put o.dst v) w' :=
    fun {v w' σ' g' r} h1 h2 h3 h4 => ⟨_, σ', g', h1, h2, h3, by rw [put_tmps]; exact (hf.turn h3).put h4 o.dst, by rw [put_defers]; exact hd⟩
  unfold Oper.wp
  rcases h with ⟨r, σ', g', w', v, nx, h1, h2, h3, h4, h5, h6⟩ | ⟨f, vs, h1, l, σ1, g1, k1, k2, h2, h3⟩
  · rw [h1]
    rcases h2 with rfl | ⟨rfl, rfl⟩
    · rw [Oper.upon_value]; exact fin h3 h4 h5 h6
    · rw [Oper.upon_skip]; exact fin h3 h4 h5 h6
  · rw [h1]
    rcases h3 g1 w vs k1 h2 with ⟨v, w', h4, r, σ', g', h5, h6, h7, h8⟩ | ⟨h4, h5⟩
    · rw [h4, Oper.upon_value]; exact fin h5 h6 (k2.trans h7) h8
    · rw [h4, Oper.upon_enter]
      refine h5.mono ?_
      rintro e w' ⟨v, rfl, r, σ', g', h5, h6, h7, h8⟩
      exact fin h5 h6 (k2.trans h7) h8

theorem guard_ok {ops : Array Oper} {fr : Fr} {tmps : Array Value} (hf : FrRep g w σ fr tmps) {o : Oper} {x y : Prop} (h : vguard ops fr o x y) :
    (Region.wanted o (yielded ops tmps) = true ∧ x) ∨ (Region.wanted o (yielded ops tmps) = false ∧ y) := by
  unfold vguard at h
  unfold Region.wanted
  split at h
  · rename_i hg; rw [hg]; exact .inl ⟨rfl, h⟩
  · rename_i j want hg
    rw [hg]
    simp only
    split at h
    · rename_i hn
      right
      refine ⟨?_, h⟩
      unfold yielded
      rw [hn]
      cases want <;> rfl
    · rename_i d hs
      split at h
      · rename_i b hb
        have hv := hf.2 d
        have hlt : d < fr.length := (List.getElem?_eq_some_iff.1 hb).1
        have hlt' : d < tmps.size := by rw [← hf.1]; exact hlt
        simp only [List.getD_eq_getElem?_getD, hb, Option.getD_some] at hv
        have hv' : tmps.getD d undef = .bool b := hv
        have hget : tmps[d]? = some (.bool b) := by
          rw [Array.getD_eq_getD_getElem?, Array.getElem?_eq_getElem hlt'] at hv'
          rw [Array.getElem?_eq_getElem hlt']
          exact congrArg some hv'
        have hy : yielded ops tmps j = some b := by
          unfold yielded
          rw [hs]
          simp only [Option.bind_some, hget]
        rw [hy]
        cases b <;> cases want <;> first | exact .inl ⟨rfl, h⟩ | exact .inr ⟨rfl, h⟩
      · rename_i l hb
        have hv := hf.2 d
        have hlt : d < fr.length := (List.getElem?_eq_some_iff.1 hb).1
        have hlt' : d < tmps.size := by rw [← hf.1]; exact hlt
        simp only [List.getD_eq_getElem?_getD, hb, Option.getD_some] at hv
        obtain ⟨vs, hv', _⟩ := hv
        have hget : tmps[d]? = some (.tuple vs.toArray) := by
          rw [Array.getD_eq_getD_getElem?, Array.getElem?_eq_getElem hlt'] at hv'
          rw [Array.getElem?_eq_getElem hlt']
          exact congrArg some hv'
        have hy : yielded ops tmps j = none := by
          unfold yielded
          rw [hs]
          simp only [Option.bind_some, hget]
        rw [hy]
        cases want <;> exact .inr ⟨rfl, h⟩
      · exact h.elim

/-- One operation of a region, then what is to follow. -/
theorem one_ok (tok : TabOk P tb) (hr : Rep g w σ) {ops : Array Oper} {o : Oper} {a : Act} {fr : Fr} (hf : FrRep g w σ fr a.tmps) (hd : a.defers = []) {K : Fr → St → Prop} {Q : Exit → Act → World → Prop} {next : Act → World → Prop}
    (h : vone (mx P) pf tb ops o K fr σ) (hn : ∀ a' w', Lifts g w σ K a' w' → next a' w') :
    if Region.wanted o (yielded ops a.tmps) then o.wp P a w next Q ∨ (o.asks P a w ∧ LetsOut Q) else next (a.put o.dst undef) w := by
  unfold vone at h
  rcases guard_ok hf h with ⟨h1, h2⟩ | ⟨h1, h2⟩
  · rw [if_pos h1]
    exact .inl (Oper.wp_mono hn ((vdo_ok tok hr hf h2).wp hr hf hd))
  · rw [if_neg (by simp [h1])]
    exact hn _ _ ⟨_, σ, g, h2, hr, Turn.refl _ _ _, by rw [put_tmps]; exact hf.put (v := .t []) ⟨[], rfl, rfl⟩ o.dst, by rw [put_defers]; exact hd⟩

theorem Lifts.trans {g' : G} {w' : World} {σ' : St} (ht : Turn g w σ g' w' σ') {K : Fr → St → Prop} {a : Act} {w'' : World} (h : Lifts g' w' σ' K a w'') : Lifts g w σ K a w'' :=
  let ⟨fr, τ, g'', h1, h2, h3, h4, h5⟩ := h; ⟨fr, τ, g'', h1, h2, ht.trans h3, h4, h5⟩

/-- A region in its own order. -/
theorem seq_ok (tok : TabOk P tb) {ops : Array Oper} {K : Fr → St → Prop} {Q : Exit → Act → World → Prop} : ∀ (n i : Nat) (hn : i + n = ops.size) {g : G} {w : World} {σ : St} (hr : Rep g w σ) {a : Act} {fr : Fr} (hf : FrRep g w σ fr a.tmps) (hd : a.defers = [])
    (h : vseq (mx P) pf tb ops K (ops.toList.drop i) fr σ) (hQ : ∀ a' w', Lifts g w σ K a' w' → Q .normal a' w'), wpOps P ops Q (List.range' i n) a w
  | 0, i, hn, g, w, σ, hr, a, fr, hf, hd, h, hQ => by
    rw [List.drop_of_length_le (by simp; omega)] at h
    exact hQ _ _ ⟨fr, σ, g, h, hr, Turn.refl _ _ _, hf, hd⟩
  | n + 1, i, hn, g, w, σ, hr, a, fr, hf, hd, h, hQ => by
    have hi : i < ops.size := by omega
    rw [List.drop_eq_getElem_cons (by simpa using hi)] at h
    simp only [List.range'_succ, wpOps, Array.getElem?_eq_getElem hi]
    exact one_ok tok hr hf hd h fun a' w' ⟨fr', σ', g', h1, h2, h3, h4, h5⟩ =>
      seq_ok tok n (i + 1) (by omega) h2 h4 h5 h1 fun a'' w'' h6 => hQ _ _ (h6.trans h3)
end
end Go.Dm
