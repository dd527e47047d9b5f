/- The plain machine: code; loops; a function's call. -/
import Derived.Test.YtdioidceogjalaaGreatDoorDt
namespace Go.Dm
set_option linter.unusedVariables false
set_option linter.unusedSimpArgs false

/-- A turn as the first n objects see it. -/
structure TurnN (n : Nat) (g : G) (w : World) (σ : St) (g' : G) (w' : World) (σ' : St) : Prop where
  os : w'.os = w.os
  tape : w'.tape = w.tape
  output : w'.output = w.output
  size : w.heap.size ≤ w'.heap.size
  whole : ∀ b, b < w.heap.size → (∀ o, ¬ Own g σ b o) → w'.heap[b]? = w.heap[b]?
  zs : ∀ b o, g.Z b o → g'.Z b o ∧ w'.cell? ⟨b, o, none⟩ = w.cell? ⟨b, o, none⟩
  znew : ∀ b o, b < w.heap.size → g'.Z b o → g.Z b o ∨ Own g σ b o
  onew : ∀ b o, b < w.heap.size → Own g' σ' b o → Own g σ b o
  turns : ∀ i ob, i < n → σ[i]? = some ob → ∃ ob', σ'[i]? = some ob' ∧ ObTurn g g' i ob ob'
  blks : ∀ i ob, i < n → σ[i]? = some ob → ob.row = false → g'.blk i = g.blk i

theorem Turn.n {g g' : G} {w w' : World} {σ σ' : St} (h : Turn g w σ g' w' σ') (n : Nat) : TurnN n g w σ g' w' σ' :=
  ⟨h.os, h.tape, h.output, h.size, h.whole, h.zs, h.znew, h.onew, fun i ob _ => h.turns i ob, fun i ob _ => h.blks i ob⟩

theorem TurnN.full {g g' : G} {w w' : World} {σ σ' : St} (h : TurnN σ.length g w σ g' w' σ') : Turn g w σ g' w' σ' :=
  ⟨h.os, h.tape, h.output, h.size, h.whole, h.zs, h.znew, h.onew, fun i ob hi => h.turns i ob (lt_of_get hi) hi, fun i ob hi => h.blks i ob (lt_of_get hi) hi⟩

theorem TurnN.trans {n : Nat} {g g' g'' : G} {w w' w'' : World} {σ σ' σ'' : St} (h : TurnN n g w σ g' w' σ') (k : TurnN n g' w' σ' g'' w'' σ'') : TurnN n g w σ g'' w'' σ'' where
  os := k.os.trans h.os
  tape := k.tape.trans h.tape
  output := k.output.trans h.output
  size := Nat.le_trans h.size k.size
  whole b hb hn := (k.whole b (Nat.lt_of_lt_of_le hb h.size) (fun o ho => hn o (h.onew b o hb ho))).trans (h.whole b hb hn)
  zs b o hz := ⟨(k.zs b o (h.zs b o hz).1).1, (k.zs b o (h.zs b o hz).1).2.trans (h.zs b o hz).2⟩
  znew b o hb hz := by
    rcases k.znew b o (Nat.lt_of_lt_of_le hb h.size) hz with h1 | h1
    · exact h.znew b o hb h1
    · exact .inr (h.onew b o hb h1)
  onew b o hb ho := h.onew b o hb (k.onew b o (Nat.lt_of_lt_of_le hb h.size) ho)
  turns i ob hi ho := by
    obtain ⟨ob', h1, h2⟩ := h.turns i ob hi ho
    obtain ⟨ob'', h3, h4⟩ := k.turns i ob' hi h1
    refine ⟨ob'', h3, ?_⟩
    cases ob <;> cases ob' <;> cases ob'' <;> simp_all [ObTurn]
    rcases h2 with h2 | ⟨rfl, rfl, h2a, h2b, h2c⟩ <;> rcases h4 with h4 | ⟨rfl, rfl, h4a, h4b, h4c⟩
    · left; omega
    · left; exact h2
    · left; exact h4
    · right; exact ⟨rfl, rfl, h4a.trans h2a, h4b.trans h2b, h4c.trans h2c⟩
  blks i ob hi ho hr := by
    obtain ⟨ob', h1, h2⟩ := h.turns i ob hi ho
    exact (k.blks i ob' hi h1 (h2.row hr)).trans (h.blks i ob hi ho hr)

abbrev Post := Exit → Fr → St → Prop

def LiftsN (n : Nat) (g : G) (w : World) (σ : St) (K : Fr → St → Prop) (a : Act) (w' : World) : Prop :=
  ∃ fr' σ' g', K fr' σ' ∧ Rep g' w' σ' ∧ TurnN n g w σ g' w' σ' ∧ FrRep g' w' σ' fr' a.tmps ∧ a.defers = []

theorem Lifts.n {g : G} {w : World} {σ : St} {K : Fr → St → Prop} {a : Act} {w' : World} (h : Lifts g w σ K a w') (n : Nat) : LiftsN n g w σ K a w' :=
  let ⟨fr, σ', g', h1, h2, h3, h4, h5⟩ := h; ⟨fr, σ', g', h1, h2, h3.n n, h4, h5⟩

theorem LiftsN.trans {n : Nat} {g g' : G} {w w' : World} {σ σ' : St} (ht : TurnN n g w σ g' w' σ') {K : Fr → St → Prop} {a : Act} {w'' : World} (h : LiftsN n g' w' σ' K a w'') : LiftsN n g w σ K a w'' :=
  let ⟨fr, τ, g'', h1, h2, h3, h4, h5⟩ := h; ⟨fr, τ, g'', h1, h2, ht.trans h3, h4, h5⟩

/-- What code comes to, from a plain state. -/
def DWp (P : Program) (n : Nat) (c : Code) (K : Post) (fr : Fr) (σ : St) : Prop :=
  ∀ g w a, Rep g w σ → FrRep g w σ fr a.tmps → a.defers = [] → c.wp P (fun e a' w' => LiftsN n g w σ (K e) a' w') a w

/-- At a loop's head. -/
def LoopAt (P : Program) (n : Nat) (c : Code) (K : Post) (fr : Fr) (σ : St) : Prop :=
  ∀ g w a, Rep g w σ → FrRep g w σ fr a.tmps → a.defers = [] → ∀ (b : Frame) (k : List Item) (cs : List Frame),
    ∃ e a' w', LiftsN n g w σ (K e) a' w' ∧ Arrives P (lone (b.at a (.code c :: .inLoop c :: k)) cs w) b k cs e a' w'

def Post.then (next : Fr → St → Prop) (K : Post) : Exit → Fr → St → Prop
  | .normal, fr, σ => next fr σ
  | .exit i, fr, σ => K (.exit i) fr σ
  | .goto i, fr, σ => K (.goto i) fr σ
  | .ret, fr, σ => K .ret fr σ
  | .panic c, fr, σ => K (.panic c) fr σ
  | .outgrown, fr, σ => K .outgrown fr σ

def Post.inBlock (id : Nat) (K : Post) : Exit → Fr → St → Prop
  | .normal, fr, σ => K .normal fr σ
  | .exit j, fr, σ => (match Nat.beq j id with | true => K .normal fr σ | false => K (.exit j) fr σ)
  | .goto i, fr, σ => K (.goto i) fr σ
  | .ret, fr, σ => K .ret fr σ
  | .panic c, fr, σ => K (.panic c) fr σ
  | .outgrown, fr, σ => K .outgrown fr σ

def vcode (X : Mx) (la : Nat → Code → Post → Fr → St → Prop) (pf : FuncId → Bool) (tb : Tab) (n : Nat) : Code → Post → Fr → St → Prop
  | .skip, K, fr, σ => K .normal fr σ
  | .region _ ops draw, K, fr, σ =>
    (match draw with
    | false => vseq X pf tb ops (K .normal) ops.toList fr σ
    | true => vany X pf tb ops (K .normal) ops.size (Array.replicate ops.size false) fr σ)
  | .seq a b, K, fr, σ => vcode X la pf tb n a (Post.then (vcode X la pf tb n b K) K) fr σ
  | .cond c a b, K, fr, σ =>
    (match opd fr c with
    | .c (.f (.bool t)) => (match t with | true => vcode X la pf tb n a K fr σ | false => vcode X la pf tb n b K fr σ)
    | _ => False)
  | .block id c, K, fr, σ => vcode X la pf tb n c (Post.inBlock id K) fr σ
  | .loop c, K, fr, σ => la n c K fr σ
  | .exit id, K, fr, σ => K (.exit id) fr σ
  | .label _, K, fr, σ => K .normal fr σ
  | .ret, K, fr, σ => K .ret fr σ
  | _, _, _, _ => False

section
variable {P : Program} {pf : FuncId → Bool} {tb : Tab} {n : Nat}

theorem here_ok {K : Fr → St → Prop} {g : G} {w : World} {σ : St} {fr : Fr} {a : Act} (h : K fr σ) (hr : Rep g w σ) (hf : FrRep g w σ fr a.tmps) (hd : a.defers = []) : LiftsN n g w σ K a w :=
  ⟨fr, σ, g, h, hr, (Turn.refl g w σ).n n, hf, hd⟩

theorem vcode_ok (hm : P.follows .mixedOrders = true) (tok : TabOk P tb) {c : Code} : ∀ {K : Post} {fr : Fr} {σ : St}, vcode (mx P) (LoopAt P) pf tb n c K fr σ → DWp P n c K fr σ := by
  induction c with
  | skip => intro K fr σ h g w a hr hf hd; exact wp_skip (here_ok h hr hf hd)
  | label l => intro K fr σ h g w a hr hf hd; exact wp_label (here_ok h hr hf hd)
  | exit id => intro K fr σ h g w a hr hf hd; exact wp_exit (here_ok h hr hf hd)
  | ret => intro K fr σ h g w a hr hf hd; exact wp_ret (here_ok h hr hf hd)
  | region id ops draw =>
    intro K fr σ h g w a hr hf hd
    cases draw with
    | false =>
      refine wp_region ?_
      rw [List.range_eq_range']
      exact seq_ok tok ops.size 0 (by omega) hr hf hd h fun a' w' h' => h'.n n
    | true =>
      obtain ⟨d1, d2⟩ := drew_rep hr
      refine wp_region_any hm ?_
      exact pAny_sound tok _ _ d1 (hf.turn d2) hd (pAny_of_vany _ _ _ _ h) fun a' w' h' => (h'.n n).trans (d2.n n)
  | seq x y ihx ihy =>
    intro K fr σ h g w a hr hf hd
    refine wp_seq (wp_mono (ihx h g w a hr hf hd) fun e a' w' h' => ?_)
    cases e with
    | normal =>
      obtain ⟨fr', σ', g', h1, h2, h3, h4, h5⟩ := h'
      exact wp_mono (ihy h1 g' w' a' h2 h4 h5) fun e a'' w'' h6 => h6.trans h3
    | _ => exact h'
  | cond c x y ihx ihy =>
    intro K fr σ h g w a hr hf hd
    simp only [vcode] at h
    have hc := opd_rep hf c
    split at h
    · rename_i t e
      rw [e] at hc
      have hv : a.eval c = .bool t := hc
      cases t with
      | true => exact wp_cond_true hv (ihx h g w a hr hf hd)
      | false => exact wp_cond_false hv (ihy h g w a hr hf hd)
    · exact h.elim
  | block id c ih =>
    intro K fr σ h g w a hr hf hd
    refine wp_block (wp_mono (ih h g w a hr hf hd) fun e a' w' h' => ?_)
    cases e with
    | exit j =>
      obtain ⟨fr', σ', g', h1, h2⟩ := h'
      simp only [Exit.inBlock] at h1 ⊢
      have h1' : (match Nat.beq j id with | true => K .normal fr' σ' | false => K (.exit j) fr' σ') := h1
      by_cases hj : j = id
      · subst hj
        rw [if_pos rfl]
        rw [Nat.beq_refl] at h1'
        exact ⟨fr', σ', g', h1', h2⟩
      · rw [if_neg hj]
        have : Nat.beq j id = false := by
          cases hb : Nat.beq j id with
          | true => exact absurd (Nat.eq_of_beq_eq_true hb) hj
          | false => rfl
        rw [this] at h1'
        exact ⟨fr', σ', g', h1', h2⟩
    | _ => exact h'
  | loop c ih =>
    intro K fr σ h g w a hr hf hd b k cs
    obtain ⟨e, a', w', h1, h2⟩ := h g w a hr hf hd b k cs
    exact ⟨e, a', w', h1, .of_steps (.one step_loop) h2⟩
  | _ => intro K fr σ h; exact h.elim

/-- A round of a loop. -/
theorem loop_round {c : Code} {K : Post} {fr : Fr} {σ : St} (h : DWp P n c (Post.then (LoopAt P n c K) K) fr σ) : LoopAt P n c K fr σ := by
  intro g w a hr hf hd b k cs
  obtain ⟨e, a₁, w₁, hq, harr⟩ := h g w a hr hf hd b (.inLoop c :: k) cs
  cases e with
  | normal =>
    obtain ⟨fr', σ', g', h1, h2, h3, h4, h5⟩ := hq
    obtain ⟨e₂, a₂, w₂, hq₂, harr₂⟩ := h1 g' w₁ a₁ h2 h4 h5 b k cs
    exact ⟨e₂, a₂, w₂, hq₂.trans h3, .of_steps (Steps.trans harr (.one step_inLoop)) harr₂⟩
  | exit id => exact ⟨_, a₁, w₁, hq, .pass (x := .inLoop c) rfl (fun _ _ => .inl (by simp)) harr⟩
  | goto l => exact ⟨_, a₁, w₁, hq, .pass (x := .inLoop c) rfl (fun _ _ => .inl (by simp)) harr⟩
  | ret => exact ⟨_, a₁, w₁, hq, .pass (x := .inLoop c) rfl (fun _ _ => .inl (by simp)) harr⟩
  | panic ch => exact ⟨_, a₁, w₁, hq, .pass (x := .inLoop c) rfl (fun _ _ => .inl (by simp)) harr⟩
  | outgrown => exact ⟨_, a₁, w₁, hq, .pass (x := .inLoop c) rfl (fun _ _ => .inl (by simp)) harr⟩

/-- Rounds upon rounds. -/
theorem loop_ind {α : Type} {c : Code} {K : Post} (F : α → Fr) (S : α → St) (I : α → Prop) (m : α → Nat)
    (h : ∀ x, I x → (∀ y, m y < m x → I y → LoopAt P n c K (F y) (S y)) → DWp P n c (Post.then (LoopAt P n c K) K) (F x) (S x)) : ∀ x, I x → LoopAt P n c K (F x) (S x) := by
  have key : ∀ N x, m x = N → I x → LoopAt P n c K (F x) (S x) := by
    intro N
    induction N using Nat.strongRecOn with
    | _ N ih => intro x hx hI; exact loop_round (h x hI fun y hy hIy => ih (m y) (hx ▸ hy) y rfl hIy)
  exact fun x hI => key _ x rfl hI

/-! ### Another plain state of the same -/
def Ghost (fr : Fr) (σ : St) (fr' : Fr) (σ' : St) : Prop :=
  ∀ g w tmps, Rep g w σ → FrRep g w σ fr tmps → ∃ g', Rep g' w σ' ∧ Turn g w σ g' w σ' ∧ FrRep g' w σ' fr' tmps

theorem LoopAt.ghost {c : Code} {K : Post} {fr fr' : Fr} {σ σ' : St} (hg : Ghost fr σ fr' σ') (h : LoopAt P n c K fr' σ') : LoopAt P n c K fr σ := by
  intro g w a hr hf hd b k cs
  obtain ⟨g', h1, h2, h3⟩ := hg g w _ hr hf
  obtain ⟨e, a', w', h4, h5⟩ := h g' w a h1 h3 hd b k cs
  exact ⟨e, a', w', h4.trans (h2.n n), h5⟩

theorem DWp.ghost {c : Code} {K : Post} {fr fr' : Fr} {σ σ' : St} (hg : Ghost fr σ fr' σ') (h : DWp P n c K fr' σ') : DWp P n c K fr σ := by
  intro g w a hr hf hd
  obtain ⟨g', h1, h2, h3⟩ := hg g w _ hr hf
  exact wp_mono (h g' w a h1 h3 hd) fun e a' w' h4 => h4.trans (h2.n n)

/-- Temporaries that are not asked any more. -/
def Covers : Fr → Fr → Prop
  | [], [] => True
  | x :: r, y :: s => (x = .c .un ∨ x = y) ∧ Covers r s
  | _, _ => False

theorem Covers.rep {g : G} {w : World} {σ : St} : ∀ {fr fr' : Fr}, Covers fr' fr → fr'.length = fr.length ∧ ∀ i, fr'.getD i (.c .un) = .c .un ∨ fr'.getD i (.c .un) = fr.getD i (.c .un)
  | [], [], _ => ⟨rfl, fun i => .inl (by simp)⟩
  | y :: s, x :: r, h => by
    obtain ⟨h1, h2⟩ := h
    obtain ⟨h3, h4⟩ := Covers.rep (g := g) (w := w) (σ := σ) h2
    refine ⟨by simp [h3], fun i => ?_⟩
    cases i with
    | zero => simpa using h1
    | succ i => simpa using h4 i
  | [], x :: r, h => h.elim
  | y :: s, [], h => h.elim

theorem Covers.ghost {fr fr' : Fr} (h : Covers fr' fr) (σ : St) : Ghost fr σ fr' σ := by
  intro g w tmps hr hf
  obtain ⟨h1, h2⟩ := h.rep (g := g) (w := w) (σ := σ)
  refine ⟨g, hr, Turn.refl _ _ _, h1.trans hf.1, fun i => ?_⟩
  rcases h2 i with e | e
  · rw [e]; trivial
  · rw [e]; exact hf.2 i

/-! ### A function's call -/
def resVs (T : Pr) (tb : Tab) : List ResultVar → Fr → St → (List V → Prop) → Prop
  | [], fr, σ, k => k []
  | .tmp t :: r, fr, σ, k => resVs T tb r fr σ fun l => k (fr.getD t (.c .un) :: l)
  | .cell x t :: r, fr, σ, k =>
    (match (tb t).d with
    | .no => False
    | _ => vload T (tb t).agg (tb t).size (addr (fr.getD x (.c .un))) σ fun v => resVs T tb r fr σ fun l => k (v :: l))

def Kret (X : Mx) (tb : Tab) (rs : List ResultVar) (k : V → St → Prop) : Exit → Fr → St → Prop
  | .normal, fr, σ => resVs X.T tb rs fr σ fun l => (match l with | [v] => k v σ | l => k (.t l) σ)
  | .ret, fr, σ => resVs X.T tb rs fr σ fun l => (match l with | [v] => k v σ | l => k (.t l) σ)
  | .exit _, _, _ => False
  | .goto _, _, _ => False
  | .panic _, _, _ => False
  | .outgrown, _, _ => False

def frame0 (n : Nat) (args : List V) : Fr := args ++ List.replicate (n - args.length) (.c .un)

theorem asAddr_load {t : TypeId} (h : (tb t).Ok P t) (hd : (tb t).d ≠ .no) {g : G} {w : World} {σ : St} (hr : Rep g w σ) {x : V} {u : Value} (hx : VRep g w σ x u) {k : V → Prop}
    (hk : vload prims (tb t).agg (tb t).size x σ k) : ∃ r v, (do loadVar t (← asAddr u) : Sem Value).run P w = .ok v w ∧ VRep g w σ r v ∧ k r := by
  obtain ⟨r, v, h1, h2, h3⟩ := load_ok (P := P) h hd hr hx hk
  refine ⟨r, v, ?_, h2, h3⟩
  have : ∃ ad, u = .pointer (some ad) := by
    unfold vload at hk
    split at hk
    · obtain ⟨b, ob, _, rfl, _⟩ := hx; exact ⟨_, rfl⟩
    · obtain ⟨b, o, rfl, _⟩ := hx; exact ⟨_, rfl⟩
    · rename_i o e off
      obtain ⟨_, ob, q1, q2⟩ := hx
      split at hk
      · rename_i wr e0 sz l ho
        rw [ho] at q1; cases q1
        obtain ⟨b, _, rfl⟩ := q2.2 hk.1
        exact ⟨_, rfl⟩
      · exact hk.elim
    · exact hk.elim
  obtain ⟨ad, rfl⟩ := this
  simpa [Instr.loadAt, Instr.sureAddr, asAddr] using h1

def fetch (tmps : Array Value) (r : ResultVar) : Sem Value :=
  match r with
  | .tmp t => pure (tmps.getD t undef)
  | .cell a t => do loadVar t (← asAddr (tmps.getD a undef))

theorem results_ok (tok : TabOk P tb) {g : G} {w : World} {σ : St} (hr : Rep g w σ) {fr : Fr} {tmps : Array Value} (hf : FrRep g w σ fr tmps) : ∀ (rs : List ResultVar) {k : List V → Prop} (h : resVs prims tb rs fr σ k),
    ∃ l vs, (rs.mapM (fetch tmps)).run P w = .ok vs w ∧ k l ∧ VReps g w σ l vs
  | [], k, h => ⟨[], [], rfl, h, rfl⟩
  | .tmp t :: r, k, h => by
    obtain ⟨l, vs, h1, h2, h3⟩ := results_ok tok hr hf r h
    refine ⟨_, tmps.getD t undef :: vs, ?_, h2, ⟨_, _, rfl, hf.2 t, h3⟩⟩
    simp only [List.mapM_cons, fetch, Sem.run_bind, Sem.run_pure, Result.andThen, h1]
  | .cell x t :: r, k, h => by
    obtain ⟨hd, h⟩ := no_of (tb := tb) h
    obtain ⟨r0, v, q1, q2, q3⟩ := asAddr_load (tok t) hd hr (addr_rep (hf.2 x)) h
    obtain ⟨l, vs, h1, h2, h3⟩ := results_ok tok hr hf r q3
    refine ⟨_, v :: vs, ?_, h2, ⟨_, _, rfl, q2, h3⟩⟩
    have q1' : (fetch tmps (.cell x t)).run P w = .ok v w := q1
    simp only [List.mapM_cons, Sem.run_bind, q1', Result.andThen, h1, Sem.run_pure]

theorem VReps.length {g : G} {w : World} {σ : St} : ∀ {l : List V} {vs : List Value}, VReps g w σ l vs → vs.length = l.length
  | [], _, h => by simp only [VReps] at h; subst h; rfl
  | c :: r, vs, h => by obtain ⟨v, vr, rfl, _, h2⟩ := h; simp [VReps.length h2]

theorem frame0_rep {g : G} {w : World} {σ : St} {args : List V} {vs : List Value} (h : VReps g w σ args vs) (m : Nat) :
    FrRep g w σ (frame0 m args) (vs.toArray ++ Array.replicate (m - vs.toArray.size) undef) := by
  have hl := h.length
  refine ⟨by simp [frame0, hl], fun i => ?_⟩
  rw [List.getD_eq_getElem?_getD, Array.getD_eq_getD_getElem?]
  unfold frame0
  by_cases hi : i < args.length
  · rw [List.getElem?_append_left hi, Array.getElem?_append_left (by simp; omega)]
    obtain ⟨v, h1, h2⟩ := h.get (List.getElem?_eq_getElem hi)
    rw [List.getElem?_eq_getElem hi]
    simp only [List.getElem?_toArray, h1, Option.getD_some]
    exact h2
  · have : (args ++ List.replicate (m - args.length) (V.c C.un))[i]?.getD (.c .un) = .c .un := by
      rw [List.getElem?_append_right (by omega), List.getElem?_replicate]
      split <;> rfl
    rw [this]
    trivial

theorem call_of (hm : P.follows .mixedOrders = true) (tok : TabOk P tb) {f : FuncId} {fn : Func} {c : Code} (hf : P.funcs[f]? = some fn) (hb : fn.body = some c) (hname : (fn.name == "runtime.NumGoroutine") = false)
    {args : List V} {σ : St} {k : V → St → Prop} (h : DWp P σ.length c (Kret (mx P) tb fn.results.toList k) (frame0 fn.ntmps args) σ) : CallAt P f args σ k := by
  intro g w vs hr hv
  right
  have hrun : (callFunc f vs.toArray).run P w = .ok (.enter f vs.toArray) w := by
    have hname' : fn.name ≠ "runtime.NumGoroutine" := by simpa using hname
    simp [callFunc, program, Sem.run, hf, hb, hname']
  refine ⟨hrun, calls_of_wp hf hb (wp_mono (h g w ⟨_, []⟩ hr (frame0_rep hv fn.ntmps) rfl) fun e a' w' h' => ?_)⟩
  obtain ⟨fr', σ', g', h1, h2, h3, h4, h5⟩ := h'
  have fin : resVs prims tb fn.results.toList fr' σ' (fun l => match l with | [v] => k v σ' | l => k (.t l) σ') → ∃ v, (results fn a'.tmps).run P w' = .ok v w' ∧ ∃ v', Ending.returned v = .returned v' ∧ CallEnd g w σ k v' w' := by
    intro hres
    obtain ⟨l, rvs, q1, q3, q2⟩ := results_ok tok h2 h4 _ hres
    have hq : (results fn a'.tmps).run P w' = .ok (if h : rvs.toArray.size = 1 then rvs.toArray[0] else .tuple rvs.toArray) w' := by
      have e : results fn a'.tmps = (do let vs ← fn.results.mapM (fetch a'.tmps); pure (if h : vs.size = 1 then vs[0] else .tuple vs)) := rfl
      rw [e, Array.mapM_eq_mapM_toList]
      simp only [map_eq_pure_bind, Sem.run_bind, Sem.run_pure]
      rw [q1]
      rfl
    have hl := q2.length
    cases l with
    | nil =>
      have : rvs = [] := List.eq_nil_of_length_eq_zero hl
      subst this
      exact ⟨_, hq, _, rfl, .t [], σ', g', q3, h2, h3.full, ⟨[], rfl, rfl⟩⟩
    | cons v r =>
      obtain ⟨u, ur, rfl, q4, q5⟩ := q2
      cases r with
      | nil =>
        simp only [VReps] at q5
        subst q5
        exact ⟨u, hq, u, rfl, v, σ', g', q3, h2, h3.full, q4⟩
      | cons v2 r2 =>
        obtain ⟨u2, ur2, rfl, q6, q7⟩ := q5
        exact ⟨_, hq, _, rfl, .t (v :: v2 :: r2), σ', g', q3, h2, h3.full, ⟨u :: u2 :: ur2, by simp, ⟨u, _, rfl, q4, u2, ur2, rfl, q6, q7⟩⟩⟩
  cases e with
  | normal => exact ⟨h5, fin h1⟩
  | ret => exact ⟨h5, fin h1⟩
  | _ => exact h1.elim
/-- A call, by a walk over its code. -/
theorem call_by (hm : P.follows .mixedOrders = true) (tok : TabOk P tb) (pf : FuncId → Bool) {f : FuncId} {fn : Func} {c : Code} (hf : P.funcs[f]? = some fn) (hb : fn.body = some c) (hname : (fn.name == "runtime.NumGoroutine") = false)
    {args : List V} {σ : St} {k : V → St → Prop} (h : ∀ X L N, X = mx P → L = LoopAt P → N = σ.length → vcode X L pf tb N c (Kret X tb fn.results.toList k) (frame0 fn.ntmps args) σ) : CallAt P f args σ k :=
  call_of hm tok hf hb hname (vcode_ok hm tok (h _ _ _ rfl rfl rfl))

theorem call_pure (hm : P.follows .mixedOrders = true) (tok : TabOk P tb) (pf : FuncId → Bool) {f : FuncId} {fn : Func} {c : Code} (hf : P.funcs[f]? = some fn) (hb : fn.body = some c) (hname : (fn.name == "runtime.NumGoroutine") = false)
    {args : List V} {r : V} (h : ∀ X L N σ r0, X = mx P → L = LoopAt P → N = σ.length → r0 = r → vcode X L pf tb N c (Kret X tb fn.results.toList fun r' σ' => r' = r0 ∧ σ' = σ) (frame0 fn.ntmps args) σ) : PureAt P f args r :=
  fun σ => call_by hm tok pf hf hb hname fun X L N hX hL hN => h X L N σ r hX hL hN rfl

theorem pk_use {X : Mx} (hX : X = mx P) {f : FuncId} {args : List V} {r : V} {K : V → Prop} (h : PureAt P f args r) (hk : K r) : X.pk f args K := by
  subst hX
  exact ⟨r, h, hk⟩

theorem ca_use {X : Mx} (hX : X = mx P) {f : FuncId} {args : List V} {σ : St} {K K0 : V → St → Prop} (h : CallAt P f args σ K0) (hk : ∀ r σ', K0 r σ' → K r σ') : X.ca f args σ K := by
  subst hX
  exact h.mono hk

/-- Rounds upon rounds, by walks. -/
theorem loop_by (hm : P.follows .mixedOrders = true) (tok : TabOk P tb) {α : Type} {N : Nat} {c : Code} {X : Mx} {L : Nat → Code → Post → Fr → St → Prop} {K : Post} (hX : X = mx P) (hL : L = LoopAt P) (pf : FuncId → Bool) (F : α → Fr) (S : α → St) (I : α → Prop) (m : α → Nat)
    (h : ∀ x, I x → (∀ y fr, m y < m x → I y → Covers (F y) fr → L N c K fr (S y)) → vcode X L pf tb N c (Post.then (L N c K) K) (F x) (S x))
    (x : α) (hI : I x) {fr : Fr} (hc : Covers (F x) fr) : L N c K fr (S x) := by
  subst hX hL
  refine LoopAt.ghost (hc.ghost _) (loop_ind F S I m (fun x hx ih => ?_) x hI)
  exact vcode_ok hm tok (h x hx fun y fr h1 h2 h3 => LoopAt.ghost (h3.ghost _) (ih y h1 h2))
end
end Go.Dm
