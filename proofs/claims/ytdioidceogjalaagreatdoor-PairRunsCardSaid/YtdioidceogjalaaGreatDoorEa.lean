/- The plain machine: walks over code made small. -/
import Derived.Test.YtdioidceogjalaaGreatDoorDz
namespace Go.Dm
set_option linter.unusedVariables false
set_option linter.unusedSimpArgs false

structure SItem where
  dst : Option Tmp
  g : Option (Option Tmp × Bool)
  o : SOp
  deriving Inhabited

inductive SCode where
  | skip
  | ops (l : List SItem)
  | any (l : List SItem) (ops : Array Oper)
  | seq (a b : SCode)
  | cond (c : Operand) (a b : SCode)
  | block (id : Nat) (c : SCode)
  | loop (c : SCode)
  | exit (id : Nat)
  | ret
  | bad
  deriving Inhabited

def sitem (tb : Tab) (ops : Array Oper) (o : Oper) : SItem :=
  ⟨o.dst, (match o.guard with | none => none | some (j, want) => some ((ops[j]?).bind (·.dst), want)), comp tb o.op⟩

def scode (tb : Tab) : Code → SCode
  | .skip => .skip
  | .region _ ops draw => (match draw with | false => .ops (ops.toList.map (sitem tb ops)) | true => .any (ops.toList.map (sitem tb ops)) ops)
  | .seq a b => .seq (scode tb a) (scode tb b)
  | .cond c a b => .cond c (scode tb a) (scode tb b)
  | .block id c => .block id (scode tb c)
  | .loop c => .loop (scode tb c)
  | .exit id => .exit id
  | .label _ => .skip
  | .ret => .ret
  | _ => .bad

abbrev PostA := Exit → AF → St → Prop

def PostA.then (next : AF → St → Prop) (K : PostA) : Exit → AF → St → Prop
  | .normal, A, σ => next A σ
  | .exit i, A, σ => K (.exit i) A σ
  | .goto i, A, σ => K (.goto i) A σ
  | .ret, A, σ => K .ret A σ
  | .panic c, A, σ => K (.panic c) A σ
  | .outgrown, A, σ => K .outgrown A σ

def PostA.inBlock (id : Nat) (K : PostA) : Exit → AF → St → Prop
  | .normal, A, σ => K .normal A σ
  | .exit j, A, σ => (match Nat.beq j id with | true => K .normal A σ | false => K (.exit j) A σ)
  | .goto i, A, σ => K (.goto i) A σ
  | .ret, A, σ => K .ret A σ
  | .panic c, A, σ => K (.panic c) A σ
  | .outgrown, A, σ => K .outgrown A σ

def sseq (X : Mx) (pf : FuncId → Bool) (tb : Tab) (m : Nat) (K : AF → St → Prop) : List SItem → AF → St → Prop
  | [], A, σ => K A σ
  | i :: r, A, σ => sguard A i.g (vopA X pf tb m i.o A σ fun v σ' => sseq X pf tb m K r (putA m A i.dst v) σ') (sseq X pf tb m K r (putA m A i.dst (.t [])) σ)

def farsA (A : AF) (xs : List Operand) : Bool := xs.all fun x => !farV (opA A x)

def tlessA (pf : FuncId → Bool) (tb : Tab) (o : Op) (A : AF) : Bool :=
  match o with
  | .call { callee := .value x, args, .. } => (match callee (opA A x) (args.toList.map (opA A)) with | some (f, l) => pf f && !l.any V.hasRs | none => false)
  | .load _ x => !farV (opA A x) && !ptrV (opA A x)
  | o => !extraB tb o && stillOp tb o && o.operands.toList.all fun x => !farV (opA A x)

def pickA (pf : FuncId → Bool) (tb : Tab) (ops : Array Oper) (listed : Array Bool) (A : AF) : List Nat → Option Nat
  | [] => none
  | i :: r =>
    match ops[i]? with
    | some o => if tlessA pf tb o.op A && freeAt ops listed i then some i else pickA pf tb ops listed A r
    | none => none

def sany (X : Mx) (pf : FuncId → Bool) (tb : Tab) (m : Nat) (l : List SItem) (ops : Array Oper) (K : AF → St → Prop) : Nat → Array Bool → AF → St → Prop
  | fuel, listed, A, σ =>
    match Region.ready .any ops listed with
    | [] => K A σ
    | rs =>
      match fuel with
      | 0 => False
      | fuel + 1 =>
        match pickA pf tb ops listed A rs with
        | some i => (match l[i]? with
          | some s => sguard A s.g (vopA X pf tb m s.o A [] fun v _ => sany X pf tb m l ops K fuel (listed.setIfInBounds i true) (putA m A s.dst v) σ) (sany X pf tb m l ops K fuel (listed.setIfInBounds i true) (putA m A s.dst (.t [])) σ)
          | none => False)
        | none => vall (fun i => match l[i]? with
          | some s => sguard A s.g (vopA X pf tb m s.o A σ fun v σ' => sany X pf tb m l ops K fuel (listed.setIfInBounds i true) (putA m A s.dst v) σ') (sany X pf tb m l ops K fuel (listed.setIfInBounds i true) (putA m A s.dst (.t [])) σ)
          | none => False) rs

def svcode (X : Mx) (la : Nat → SCode → PostA → AF → St → Prop) (pf : FuncId → Bool) (tb : Tab) (n m : Nat) : SCode → PostA → AF → St → Prop
  | .skip, K, A, σ => K .normal A σ
  | .ops l, K, A, σ => sseq X pf tb m (K .normal) l A σ
  | .any l ops, K, A, σ => sany X pf tb m l ops (K .normal) ops.size (Array.replicate ops.size false) A σ
  | .seq a b, K, A, σ => svcode X la pf tb n m a (PostA.then (svcode X la pf tb n m b K) K) A σ
  | .cond c a b, K, A, σ =>
    (match opA A c with
    | .c (.f (.bool t)) => (match t with | true => svcode X la pf tb n m a K A σ | false => svcode X la pf tb n m b K A σ)
    | _ => False)
  | .block id c, K, A, σ => svcode X la pf tb n m c (PostA.inBlock id K) A σ
  | .loop c, K, A, σ => la n c K A σ
  | .exit id, K, A, σ => K (.exit id) A σ
  | .ret, K, A, σ => K .ret A σ
  | .bad, _, _, _ => False

/-- What a walk over small frames says of the great ones. -/
def lowF (m : Nat) (K : AF → St → Prop) : Fr → St → Prop := fun fr σ => ∃ A, inA m A ∧ fr = toFr m A ∧ K A σ
def low (m : Nat) (K : PostA) : Post := fun e => lowF m (K e)

def LoopS (P : Program) (tb : Tab) (m : Nat) (n : Nat) (s : SCode) (K : PostA) (A : AF) (σ : St) : Prop := inA m A → ∀ c, scode tb c = s → LoopAt P n c (low m K) (toFr m A) σ

section
variable {P : Program} {pf : FuncId → Bool} {tb : Tab} {n m : Nat}

theorem sguard_eq {ops : Array Oper} {o : Oper} {A : AF} (hA : inA m A) (hm : ∀ d, A.length = A.length → d < m ∨ lk A d = .c .un) {x y : Prop} (h : sguard A (sitem tb ops o).g x y) (hlen : ∀ d, d < m → (toFr m A)[d]? = some (lk A d)) : vguard ops (toFr m A) o x y := by
  unfold vguard
  unfold sguard sitem at h
  cases hg : o.guard with
  | none => rw [hg] at h; exact h
  | some gw =>
    obtain ⟨j, want⟩ := gw
    rw [hg] at h
    simp only at h ⊢
    cases hd : (ops[j]?).bind (·.dst) with
    | none => rw [hd] at h; exact h
    | some d =>
      rw [hd] at h
      simp only at h ⊢
      by_cases hdm : (show Nat from d) < m
      · rw [hlen d hdm]
        split at h
        · rename_i b hb
          rw [hb]
          exact h
        · rename_i l hb
          rw [hb]
          exact h
        · exact h.elim
      · have : lk A d = .c .un := hA d (by show m ≤ (show Nat from d); omega)
        rw [this] at h
        exact h.elim

theorem toFr_at {A : AF} {d : Nat} (h : d < m) : (toFr m A)[d]? = some (lk A d) := by
  simp [toFr, h]

theorem sg {ops : Array Oper} {o : Oper} {A : AF} (hA : inA m A) {x y : Prop} (h : sguard A (sitem tb ops o).g x y) : vguard ops (toFr m A) o x y :=
  sguard_eq hA (fun d _ => by by_cases h : d < m; exact .inl h; exact .inr (hA d (by omega))) h fun d hd => toFr_at hd

/-- One item. -/
theorem sone {ops : Array Oper} {o : Oper} {A : AF} (hA : inA m A) {σ : St} {K : AF → St → Prop} {K' : Fr → St → Prop} (hK : ∀ A σ, inA m A → K A σ → K' (toFr m A) σ)
    (h : sguard A (sitem tb ops o).g (vopA (mx P) pf tb m (comp tb o.op) A σ fun v σ' => K (putA m A o.dst v) σ') (K (putA m A o.dst (.t [])) σ)) : pOne P pf tb ops o K' (toFr m A) σ := by
  have h' := sg hA h
  rcases vguard_cases h' with ⟨h1, h2⟩ | ⟨h1, h2⟩
  · refine h2 _ _ ⟨_, comp_ok hA h1, fun v σ' hk => ?_⟩
    show K' ((toFr m A).put o.dst v) σ'
    rw [← toFr_put]
    exact hK _ _ (putA_in hA _ _) hk
  · refine h2 _ _ ?_
    rw [← toFr_put]
    exact hK _ _ (putA_in hA _ _) h1

/-- A region in its own order. -/
theorem sseq_ok (tok : TabOk P tb) {ops : Array Oper} {K : AF → St → Prop} {Q : Exit → Act → World → Prop} : ∀ (n i : Nat) (hn : i + n = ops.size) {g : G} {w : World} {σ : St} (hr : Rep g w σ) {a : Act} {A : AF} (hA : inA m A) (hf : FrRep g w σ (toFr m A) a.tmps) (hd : a.defers = [])
    (h : sseq (mx P) pf tb m K ((ops.toList.drop i).map (sitem tb ops)) A σ) (hQ : ∀ a' w', Lifts g w σ (lowF m K) a' w' → Q .normal a' w'), wpOps P ops Q (List.range' i n) a w
  | 0, i, hn, g, w, σ, hr, a, A, hA, hf, hd, h, hQ => by
    rw [List.drop_of_length_le (by simp; omega)] at h
    exact hQ _ _ ⟨_, σ, g, ⟨A, hA, rfl, h⟩, hr, Turn.refl _ _ _, hf, hd⟩
  | n + 1, i, hn, g, w, σ, hr, a, A, hA, hf, hd, h, hQ => by
    have hi : i < ops.size := by omega
    rw [List.drop_eq_getElem_cons (by simpa using hi)] at h
    simp only [List.range'_succ, wpOps, Array.getElem?_eq_getElem hi]
    have h' := sone (K := sseq (mx P) pf tb m K ((ops.toList.drop (i + 1)).map (sitem tb ops))) (K' := lowF m (sseq (mx P) pf tb m K ((ops.toList.drop (i + 1)).map (sitem tb ops)))) hA (fun A σ h1 h2 => ⟨A, h1, rfl, h2⟩) h
    exact one_ok' tok hr hf hd h' fun a' w' ⟨fr', σ', g', ⟨A', h0, h1, h1'⟩, h2, h3, h4, h5⟩ => by
      subst h1
      exact sseq_ok tok n (i + 1) (by omega) h2 h0 h4 h5 h1' fun a'' w'' h6 => hQ _ _ (h6.trans h3)

theorem tlessA_eq {o : Op} {A : AF} (hA : inA m A) : tlessA pf tb o A = tless pf tb o (toFr m A) := by
  have e : opd (toFr m A) = opA A := funext (toFr_opd hA)
  unfold tlessA tless
  rw [e]
  rfl

theorem pickA_spec {ops : Array Oper} {listed : Array Bool} {A : AF} : ∀ {rs : List Nat} {i : Nat}, pickA pf tb ops listed A rs = some i → i ∈ rs ∧ ∃ o, ops[i]? = some o ∧ tlessA pf tb o.op A = true ∧ freeAt ops listed i = true
  | [], i, h => by simp [pickA] at h
  | j :: r, i, h => by
    simp only [pickA] at h
    split at h
    · rename_i o ho
      split at h
      · rename_i hc
        cases h
        simp only [Bool.and_eq_true] at hc
        exact ⟨by simp, o, ho, hc.1, hc.2⟩
      · obtain ⟨h1, h2⟩ := pickA_spec h
        exact ⟨List.mem_cons_of_mem _ h1, h2⟩
    · cases h

theorem pAny_of_sany {ops : Array Oper} {K : AF → St → Prop} : ∀ (fuel : Nat) (listed : Array Bool) (A : AF) (hA : inA m A) (σ : St), sany (mx P) pf tb m (ops.toList.map (sitem tb ops)) ops K fuel listed A σ → pAny P pf tb ops (lowF m K) fuel listed (toFr m A) σ := by
  have item : ∀ {i : Nat} {o : Oper}, ops[i]? = some o → (ops.toList.map (sitem tb ops))[i]? = some (sitem tb ops o) := fun {i o} h => by simp [h]
  intro fuel
  induction fuel with
  | zero =>
    intro listed A hA σ h
    unfold sany at h
    split at h
    · rename_i hr; exact ⟨hr, A, hA, rfl, h⟩
    · exact h.elim
  | succ fuel ih =>
    intro listed A hA σ h
    unfold sany at h
    split at h
    · rename_i hr
      exact ⟨fun _ => ⟨A, hA, rfl, h⟩, fun i hi => by rw [hr] at hi; cases hi⟩
    · rename_i hne
      split at h
      · exact h.elim
      rename_i fuel' e
      cases e
      split at h
      · rename_i i hp
        obtain ⟨hmem, o, ho, ht, hfr⟩ := pickA_spec hp
        rw [item ho] at h
        rw [tlessA_eq hA] at ht
        have h' := sg hA h
        have key : ∃ r, PY P pf tb ops o r (toFr m A) ∧ sany (mx P) pf tb m (ops.toList.map (sitem tb ops)) ops K fuel (listed.setIfInBounds i true) (putA m A o.dst r) σ := by
          rcases vguard_cases h' with ⟨h1, h2⟩ | ⟨h1, h2⟩
          · obtain ⟨r, h3, h4⟩ := tless_ok ht (comp_ok hA h1)
            exact ⟨r, fun τ K' hK => h2 _ _ ⟨_, h4 τ (fun v σ' => K' ((toFr m A).put o.dst v) σ') hK, fun _ _ h => h⟩, h3⟩
          · exact ⟨.t [], fun τ K' hK => h2 _ _ hK, h1⟩
        obtain ⟨r, hy, h5⟩ := key
        refine pAny_first ho fuel listed (toFr m A) σ (fun j oj hj hne hun hno => Region.free_spec ho hfr j oj hj hne hun hno) hmem hy ?_
        rw [← toFr_put]
        exact ih _ _ (putA_in hA _ _) _ h5
      · refine ⟨fun h0 => (hne h0).elim, fun i hi o ho => ?_⟩
        have := vall_spec h i hi
        rw [item ho] at this
        exact sone (K := sany (mx P) pf tb m (ops.toList.map (sitem tb ops)) ops K fuel (listed.setIfInBounds i true)) hA (fun A σ h1 h2 => ih _ _ h1 _ h2) this

theorem svcode_ok (hm : P.follows .mixedOrders = true) (tok : TabOk P tb) {c : Code} : ∀ {K : PostA} {A : AF} {σ : St}, inA m A → svcode (mx P) (LoopS P tb m) pf tb n m (scode tb c) K A σ → DWp P n c (low m K) (toFr m A) σ := by
  induction c with
  | skip => intro K A σ hA h g w a hr hf hd; exact wp_skip (here_ok ⟨A, hA, rfl, h⟩ hr hf hd)
  | label l => intro K A σ hA h g w a hr hf hd; exact wp_label (here_ok ⟨A, hA, rfl, h⟩ hr hf hd)
  | exit id => intro K A σ hA h g w a hr hf hd; exact wp_exit (here_ok ⟨A, hA, rfl, h⟩ hr hf hd)
  | ret => intro K A σ hA h g w a hr hf hd; exact wp_ret (here_ok ⟨A, hA, rfl, h⟩ hr hf hd)
  | region id ops draw =>
    intro K A σ hA h g w a hr hf hd
    cases draw with
    | false =>
      refine wp_region ?_
      rw [List.range_eq_range']
      exact sseq_ok tok ops.size 0 (by omega) hr hA hf hd h fun a' w' h' => h'.n n
    | true =>
      obtain ⟨d1, d2⟩ := drew_rep hr
      refine wp_region_any hm ?_
      exact pAny_sound tok _ _ d1 (hf.turn d2) hd (pAny_of_sany _ _ _ hA _ h) fun a' w' h' => (h'.n n).trans (d2.n n)
  | seq x y ihx ihy =>
    intro K A σ hA h g w a hr hf hd
    refine wp_seq (wp_mono (ihx hA h g w a hr hf hd) fun e a' w' h' => ?_)
    cases e with
    | normal =>
      obtain ⟨fr', σ', g', ⟨A', h0, rfl, h1⟩, h2, h3, h4, h5⟩ := h'
      exact wp_mono (ihy h0 h1 g' w' a' h2 h4 h5) fun e a'' w'' h6 => h6.trans h3
    | _ => exact h'
  | cond c x y ihx ihy =>
    intro K A σ hA h g w a hr hf hd
    simp only [scode, svcode] at h
    have hc := opd_rep hf c
    rw [toFr_opd hA] at hc
    split at h
    · rename_i t e
      rw [e] at hc
      have hv : a.eval c = .bool t := hc
      cases t with
      | true => exact wp_cond_true hv (ihx hA h g w a hr hf hd)
      | false => exact wp_cond_false hv (ihy hA h g w a hr hf hd)
    · exact h.elim
  | block id c ih =>
    intro K A σ hA h g w a hr hf hd
    refine wp_block (wp_mono (ih hA h g w a hr hf hd) fun e a' w' h' => ?_)
    cases e with
    | exit j =>
      obtain ⟨fr', σ', g', ⟨A', h0, rfl, h1⟩, h2⟩ := h'
      simp only [Exit.inBlock]
      have h1' : (match Nat.beq j id with | true => K .normal A' σ' | false => K (.exit j) A' σ') := h1
      by_cases hj : j = id
      · subst hj
        rw [if_pos rfl]
        rw [Nat.beq_refl] at h1'
        exact ⟨_, σ', g', ⟨A', h0, rfl, h1'⟩, h2⟩
      · rw [if_neg hj]
        have : Nat.beq j id = false := by
          cases hb : Nat.beq j id with
          | true => exact absurd (Nat.eq_of_beq_eq_true hb) hj
          | false => rfl
        rw [this] at h1'
        exact ⟨_, σ', g', ⟨A', h0, rfl, h1'⟩, h2⟩
    | _ => exact h'
  | loop c ih =>
    intro K A σ hA h g w a hr hf hd b k cs
    have h' : LoopS P tb m n (scode tb c) K A σ := h
    obtain ⟨e, a', w', h1, h2⟩ := h' hA c rfl g w a hr hf hd b k cs
    exact ⟨e, a', w', h1, .of_steps (.one step_loop) h2⟩
  | _ => intro K A σ hA h; exact h.elim

theorem LiftsN.mono {g : G} {w : World} {σ : St} {K K' : Fr → St → Prop} {a : Act} {w' : World} (h : LiftsN n g w σ K a w') (hk : ∀ fr σ', K fr σ' → K' fr σ') : LiftsN n g w σ K' a w' :=
  let ⟨fr, σ', g', h1, h2⟩ := h; ⟨fr, σ', g', hk _ _ h1, h2⟩

theorem DWp.mono {c : Code} {K K' : Post} {fr : Fr} {σ : St} (h : DWp P n c K fr σ) (hk : ∀ e fr σ', K e fr σ' → K' e fr σ') : DWp P n c K' fr σ :=
  fun g w a hr hf hd => wp_mono (h g w a hr hf hd) fun e a' w' h' => h'.mono (hk e)

/-- What is known of a frame is known of another one. -/
def CovA : AF → AF → Prop
  | [], _ => True
  | (i, v) :: r, A => lk A i = v ∧ CovA r A

theorem CovA.get {A' A : AF} (h : CovA A' A) (i : Nat) : lk A' i = .c .un ∨ lk A' i = lk A i := by
  induction A' with
  | nil => exact .inl rfl
  | cons p r ih =>
    obtain ⟨j, v⟩ := p
    obtain ⟨h1, h2⟩ := h
    rw [lk_cons]
    split
    · rename_i e; subst e; exact .inr h1.symm
    · exact ih h2

theorem CovA.ghost {A' A : AF} (h : CovA A' A) (hA : inA m A) (σ : St) : Ghost (toFr m A) σ (toFr m A') σ := by
  intro g w tmps hr hf
  refine ⟨g, hr, Turn.refl _ _ _, by rw [← hf.1]; simp [toFr], fun i => ?_⟩
  have h1 := hf.2 i
  rw [toFr_get hA] at h1
  by_cases hi : i < m
  · have e : (toFr m A').getD i (.c .un) = lk A' i := by
      rw [List.getD_eq_getElem?_getD, toFr_at hi]; rfl
    rw [e]
    rcases h.get i with e | e
    · rw [e]; trivial
    · rw [e]; exact h1
  · have e : (toFr m A').getD i (.c .un) = .c .un := by
      rw [List.getD_eq_getElem?_getD]
      simp [toFr, hi]
    rw [e]; trivial

def keysB (m : Nat) (A : AF) : Bool := A.all fun p => Nat.blt p.1 m

theorem keysB_in {A : AF} (h : keysB m A = true) : inA m A := by
  intro i hi
  induction A with
  | nil => rfl
  | cons p r ih =>
    obtain ⟨j, v⟩ := p
    simp only [keysB, List.all_cons, Bool.and_eq_true] at h
    rw [lk_cons, if_neg (fun e => ?_)]
    · exact ih h.2
    · subst e
      have h1 := h.1
      unfold Nat.blt at h1
      rw [Nat.ble_eq] at h1
      omega

/-- Rounds upon rounds, by walks. -/
theorem sloop_by (hm : P.follows .mixedOrders = true) (tok : TabOk P tb) {α : Type} {N : Nat} {s : SCode} {X : Mx} {L : Nat → SCode → PostA → AF → St → Prop} {K : PostA} (hX : X = mx P) (hL : L = LoopS P tb m) (pf : FuncId → Bool) (F : α → AF) (S : α → St) (I : α → Prop) (μ : α → Nat)
    (hF : ∀ x, keysB m (F x) = true)
    (h : ∀ x, I x → (∀ y A, μ y < μ x → I y → CovA (F y) A → L N s K A (S y)) → svcode X L pf tb N m s (PostA.then (L N s K) K) (F x) (S x))
    (x : α) (hI : I x) {A : AF} (hc : CovA (F x) A) : L N s K A (S x) := by
  subst hX hL
  have key : ∀ M x, μ x = M → I x → LoopS P tb m N s K (F x) (S x) := by
    intro M
    induction M using Nat.strongRecOn with
    | _ M ih =>
      intro x hx hI hA c hcs
      subst hcs
      have hw := svcode_ok hm tok hA (h x hI fun y A h1 h2 h3 hA' c' hc' => LoopAt.ghost (h3.ghost hA' _) (ih (μ y) (hx ▸ h1) y rfl h2 (keysB_in (hF y)) c' hc'))
      refine loop_round (hw.mono fun e fr σ' hk => ?_)
      obtain ⟨A', h0, rfl, h1⟩ := hk
      cases e with
      | normal => exact h1 h0 c rfl
      | _ => exact ⟨A', h0, rfl, h1⟩
  intro hA c hcs
  exact LoopAt.ghost (hc.ghost hA _) (key _ x rfl hI (keysB_in (hF x)) c hcs)

/-! ### Calls -/
def sresVs (T : Pr) (tb : Tab) : List ResultVar → AF → St → (List V → Prop) → Prop
  | [], A, σ, k => k []
  | .tmp t :: r, A, σ, k => sresVs T tb r A σ fun l => k (lk A t :: l)
  | .cell x t :: r, A, σ, k =>
    (match (tb t).d with
    | .no => False
    | _ => vload T (tb t).agg (tb t).size (addr (lk A x)) σ fun v => sresVs T tb r A σ fun l => k (v :: l))

def sKret (X : Mx) (tb : Tab) (rs : List ResultVar) (k : V → St → Prop) : Exit → AF → St → Prop
  | .normal, A, σ => sresVs X.T tb rs A σ fun l => (match l with | [v] => k v σ | l => k (.t l) σ)
  | .ret, A, σ => sresVs X.T tb rs A σ fun l => (match l with | [v] => k v σ | l => k (.t l) σ)
  | .exit _, _, _ => False
  | .goto _, _, _ => False
  | .panic _, _, _ => False
  | .outgrown, _, _ => False

theorem sresVs_eq {T : Pr} {A : AF} (hA : inA m A) {σ : St} : ∀ (rs : List ResultVar) (k : List V → Prop), resVs T tb rs (toFr m A) σ k = sresVs T tb rs A σ k
  | [], k => rfl
  | .tmp t :: r, k => by
    simp only [resVs, sresVs]
    rw [toFr_get hA]
    exact sresVs_eq hA r _
  | .cell x t :: r, k => by
    simp only [resVs, sresVs]
    rw [toFr_get hA]
    have e : (fun v => resVs T tb r (toFr m A) σ fun l => k (v :: l)) = fun v => sresVs T tb r A σ fun l => k (v :: l) := funext fun v => sresVs_eq hA r _
    rw [e]
    rfl

theorem low_ret {X : Mx} {rs : List ResultVar} {k : V → St → Prop} {e : Exit} {fr : Fr} {σ : St} (h : low m (sKret X tb rs k) e fr σ) : Kret X tb rs k e fr σ := by
  obtain ⟨A, hA, rfl, h⟩ := h
  cases e with
  | normal => show resVs X.T tb rs (toFr m A) σ _; rw [sresVs_eq hA]; exact h
  | ret => show resVs X.T tb rs (toFr m A) σ _; rw [sresVs_eq hA]; exact h
  | _ => exact h.elim

/-- The frame at a function's beginning. -/
def args0 : Nat → List V → AF
  | _, [] => []
  | i, x :: r => (i, x) :: args0 (i + 1) r

theorem args0_lk : ∀ (l : List V) (s i : Nat), lk (args0 s l) i = if s ≤ i then (l[i - s]?).getD (.c .un) else .c .un
  | [], s, i => by simp [args0, lk]
  | x :: r, s, i => by
    rw [args0, lk_cons, args0_lk r (s + 1) i]
    by_cases h : s = i
    · subst h; simp
    · rw [if_neg h]
      by_cases hs : s ≤ i
      · rw [if_pos hs, if_pos (by omega), show i - s = (i - (s + 1)) + 1 from by omega]
        rfl
      · rw [if_neg hs, if_neg (by omega)]

theorem toFr_args0 {l : List V} (h : l.length ≤ m) : toFr m (args0 0 l) = frame0 m l := by
  apply List.ext_getElem?
  intro i
  by_cases hi : i < m
  · rw [toFr_at hi, args0_lk, if_pos (Nat.zero_le _)]
    unfold frame0
    by_cases hl : i < l.length
    · rw [List.getElem?_append_left hl]
      simp [hl]
    · rw [List.getElem?_append_right (by omega), List.getElem?_replicate, if_pos (by omega)]
      simp [List.getElem?_eq_none (Nat.le_of_not_lt hl)]
  · have e1 : (toFr m (args0 0 l))[i]? = none := by simp [toFr, hi]
    have e2 : (frame0 m l)[i]? = none := by
      apply List.getElem?_eq_none
      simp [frame0]; omega
    rw [e1, e2]

theorem inA_args0 {l : List V} (h : l.length ≤ m) : inA m (args0 0 l) := by
  intro i hi
  rw [args0_lk, if_pos (Nat.zero_le _), List.getElem?_eq_none (by omega)]
  rfl

/-- A call, by a walk over its code made small. -/
theorem scall_by (hm : P.follows .mixedOrders = true) (tok : TabOk P tb) (pf : FuncId → Bool) {f : FuncId} {fn : Func} {c : Code} (hf : P.funcs[f]? = some fn) (hb : fn.body = some c) (hname : (fn.name == "runtime.NumGoroutine") = false)
    {args : List V} {σ : St} {k : V → St → Prop} (hl : Nat.ble args.length fn.ntmps = true) (h : ∀ X L N, X = mx P → L = LoopS P tb fn.ntmps → N = σ.length → svcode X L pf tb N fn.ntmps (scode tb c) (sKret X tb fn.results.toList k) (args0 0 args) σ) : CallAt P f args σ k := by
  rw [Nat.ble_eq] at hl
  have h1 := svcode_ok hm tok (inA_args0 hl) (h _ _ _ rfl rfl rfl)
  rw [toFr_args0 hl] at h1
  exact call_of hm tok hf hb hname (h1.mono fun e fr σ' h' => low_ret h')

theorem scall_pure (hm : P.follows .mixedOrders = true) (tok : TabOk P tb) (pf : FuncId → Bool) {f : FuncId} {fn : Func} {c : Code} (hf : P.funcs[f]? = some fn) (hb : fn.body = some c) (hname : (fn.name == "runtime.NumGoroutine") = false)
    {args : List V} {r : V} (hl : Nat.ble args.length fn.ntmps = true) (h : ∀ X L N σ r0, X = mx P → L = LoopS P tb fn.ntmps → N = σ.length → r0 = r → svcode X L pf tb N fn.ntmps (scode tb c) (sKret X tb fn.results.toList fun r' σ' => r' = r0 ∧ σ' = σ) (args0 0 args) σ) : PureAt P f args r :=
  fun σ => scall_by hm tok pf hf hb hname hl fun X L N hX hL hN => h X L N σ r hX hL hN rfl
end
end Go.Dm
