/- Printed by merge.py: many texts in one. -/
import Derived.Test.YtpoegfkajdbplaaMf
import Derived.Test.YtpoegfkajdbplaaMc
import Derived.Test.YtpoegfkajdbplaaMd

namespace Go.Dm.Sx
open Go.Dm
set_option linter.unusedVariables false
set_option linter.unusedSimpArgs false
set_option linter.unusedSectionVars false
variable {U : Uni} {c c' c'' : Cx U} {e : SE} {Sp : List (FSpec U)} {Post : List (Dyn U.B) → Prop} {Go : Nat → List (Dyn U.B) → Prop} {P : Program} {X : SEnv} {call : CallS} {m : Nat}
theorem FrR.later {A : SA} {A' : AF} (h : FrR c A A') (hl : Le c c') : FrR c' A A' := fun i => hl.vr (h i)
theorem FrR.put {A : SA} {A' : AF} (h : FrR c A A') (dst : Option Tmp) {x : SV} {v : V} (hv : c.vr x v) : FrR c (putS m A dst x) (putA m A' dst v) := by
  cases dst with
  | none => exact h
  | some d =>
    revert d
    intro (d : Nat)
    intro i
    unfold putS putA
    simp only
    by_cases hd : d < m
    · rw [blt_true hd]
      simp only [lkS, lk]
      by_cases hi : d = i
      · subst hi; simp only [Nat.beq_refl]; exact hv
      · rw [nbeq_false hi]; exact h i
    · rw [blt_false hd]; exact h i
theorem vr_skip {ρ : Rho U} {β : Nat → Nat} {ι : Inf} : VR ρ β ι (.t []) (.t []) := by simp only [VR]; exact ⟨[], rfl, by simp only [VRs]⟩
theorem guard_okS (ok : Ok c e) {A : SA} {A' : AF} (hf : FrR c A A') {g : Option (Option Tmp × Bool)} {x y : SE → Tr} {px py : Prop} (h : TDen Sp Post Go (guardS e A g x y) c.ρ)
    (hx : ∀ e', Ok c e' → TDen Sp Post Go (x e') c.ρ → px) (hy : ∀ e', Ok c e' → TDen Sp Post Go (y e') c.ρ → py) : sguard A' g px py := by
  unfold guardS at h
  unfold sguard
  cases g with
  | none => exact hx e ok h
  | some gw =>
    obtain ⟨d, want⟩ := gw
    cases d with
    | none => exact hy e ok h
    | some d =>
      simp only at h ⊢
      have hd := hf d
      split at h
      · rename_i b hb
        rw [hb] at hd
        obtain ⟨t, e1, h1⟩ := vr_bool hd
        rw [e1]
        simp only
        cases want with
        | true =>
          simp only at h ⊢
          obtain ⟨e', ok', h'⟩ := br_ok ok h1 h
          cases t with
          | true => exact hx e' ok' h'
          | false => exact hy e' ok' h'
        | false =>
          simp only at h ⊢
          obtain ⟨e', ok', h'⟩ := br_ok ok h1 h
          cases t with
          | true => exact hy e' ok' h'
          | false => exact hx e' ok' h'
      · rename_i l hl
        rw [hl] at hd
        simp only [Cx.vr, VR] at hd
        obtain ⟨l', e1, _⟩ := hd
        rw [e1]
        exact hy e ok h
      · exact h.elim
def FollK (Sp : List (FSpec U)) (Post : List (Dyn U.B) → Prop) (Go : Nat → List (Dyn U.B) → Prop) (c : Cx U) (m : Nat) (k : KS) (K : AF → St → Prop) : Prop :=
  ∀ (c' : Cx U) e' A A', Le c c' → Ok c' e' → FrR c' A A' → TDen Sp Post Go (k e' A c'.S) c'.ρ → K A' c'.σ
theorem FollK.later {k : KS} {K : AF → St → Prop} (h : FollK Sp Post Go c m k K) (hl : Le c c') : FollK Sp Post Go c' m k K := fun c'' e' A A' h1 => h c'' e' A A' (hl.trans h1)
theorem sxs_ok (hcall : CallSOk (U := U) P Sp Post Go call) (hX : X.lay = U.lay) : ∀ (l : List SItem) {c : Cx U} {e : SE} {A : SA} {A' : AF} {k : KS} {K : AF → St → Prop}, Ok c e → inA m A' → FrR c A A' → FollK Sp Post Go c m k K →
    TDen Sp Post Go (sxs X call m l e A c.S k) c.ρ → wseq (wx P) (fun _ => false) X.tb m K l A' c.σ
  | [], c, e, A, A', k, K, ok, hA, hf, hk, h => hk c e A A' (Le.refl c) ok hf h
  | i :: r, c, e, A, A', k, K, ok, hA, hf, hk, h => by
    refine guard_okS ok hf h (fun e' ok' h' => ?_) (fun e' ok' h' => ?_)
    · refine sop_ok hcall hX ok' hA hf (K := fun v σ' => Next (wseq (wx P) (fun _ => false) X.tb m K r (putA m A' i.dst v) σ')) (fun c1 e1 sv v h1 h2 h3 h4 => ?_) h'
      exact sxs_ok hcall hX r h2 (putA_in hA _ _) ((hf.later h1).put i.dst h3) (hk.later h1) h4
    · exact sxs_ok hcall hX r ok' (putA_in hA _ _) (hf.put i.dst vr_skip) hk h'
theorem strict_cr {ρ : Rho U} {β β' : Nat → Nat} {ι ι' : Inf} {x : SC} {y : Dm.C} (hs : strictC x = true) (h : CR ρ β ι x y) : CR ρ β' ι' x y := by
  cases x <;> simp only [strictC] at hs <;> first
    | (cases hs; done)
    | (simp only [CR] at h ⊢; exact h)
theorem strict_crs {ρ : Rho U} {β β' : Nat → Nat} {ι ι' : Inf} : ∀ {x : List SC} {y : List Dm.C}, x.all strictC = true → CRs ρ β ι x y → CRs ρ β' ι' x y
  | [], y, _, h => by simpa only [CRs] using h
  | x :: r, y, hs, h => by
    simp only [List.all_cons, Bool.and_eq_true] at hs
    simp only [CRs] at h ⊢
    obtain ⟨c, l, rfl, h1, h2⟩ := h
    exact ⟨c, l, rfl, strict_cr hs.1 h1, strict_crs hs.2 h2⟩
theorem strict_vr {ρ : Rho U} {β β' : Nat → Nat} {ι ι' : Inf} {x : SV} {v : V} (hs : strictV x = true) (h : VR ρ β ι x v) : VR ρ β' ι' x v := by
  cases x with
  | c x =>
    by_cases hun : x = .un
    · subst hun; exact VR.un
    · obtain ⟨y, rfl, h1⟩ := V_c hun h
      exact VR.c (strict_cr hs h1)
  | a l =>
    simp only [VR] at h ⊢
    obtain ⟨l', rfl, h1⟩ := h
    exact ⟨l', rfl, strict_crs hs h1⟩
  | t l => cases hs
theorem clean_vr {ρ : Rho U} {β β' : Nat → Nat} {ι ι' : Inf} {x : SV} {v : V} (h : VR ρ β ι x v) : VR ρ β' ι' (cleanV x) v := by
  cases x with
  | c x =>
    simp only [cleanV, cleanC]
    split
    · rename_i hs; exact strict_vr (x := .c x) hs h
    · exact VR.un
  | a l =>
    simp only [cleanV]
    split
    · rename_i hs; exact strict_vr (x := .a l) hs h
    · exact VR.un
  | t l => exact VR.un
theorem lk_clean : ∀ (A : SA) (i : Nat), lkS (cleanA A) i = cleanV (lkS A i) ∨ lkS (cleanA A) i = .c .un
  | [], i => .inr rfl
  | (j, v) :: r, i => by
    simp only [cleanA, List.map_cons, lkS]
    cases Nat.beq j i with
    | true => exact .inl rfl
    | false => exact lk_clean r i
theorem far_strict {ρ : Rho U} {β : Nat → Nat} {ι : Inf} {x : SV} {v : V} (hs : strictV x = true) (h : VR ρ β ι x v) : farV v = false ∧ (ptrS x = false → ptrV v = false) := by
  cases x with
  | c x =>
    cases x <;> simp only [strictV, strictC] at hs <;> first
      | (cases hs; done)
      | (obtain ⟨y, rfl, h1⟩ := V_c (by simp) h
         simp only [CR] at h1
         first
           | (subst h1; exact ⟨rfl, fun _ => rfl⟩)
           | (subst h1; exact ⟨rfl, fun h => by cases h⟩)
           | (obtain ⟨f, d, rfl, _⟩ := h1; exact ⟨rfl, fun _ => rfl⟩)
           | (obtain ⟨cs, off, d, rfl, _⟩ := h1; exact ⟨rfl, fun _ => rfl⟩))
  | a l => simp only [VR] at h; obtain ⟨l', rfl, _⟩ := h; exact ⟨rfl, fun _ => rfl⟩
  | t l => cases hs
theorem tless_okS {A : SA} {A' : AF} (hf : FrR c A A') {o : Op} (h : tlessS X.tb o A = true) : tlessW X.tb o A' = true := by
  unfold tlessW
  unfold tlessS at h
  split at h
  · rfl
  · rfl
  · cases h
  · rename_i t x
    simp only [movOp, Bool.false_or, tlessA]
    simp only [Bool.and_eq_true, Bool.not_eq_true'] at h
    obtain ⟨h1, h2⟩ := far_strict h.1 (op_ok hf x)
    rw [h1, h2 h.2]; rfl
  · rename_i hn1 hn2 hn3 hn4
    rw [Bool.or_eq_true]
    right
    unfold tlessA
    split
    · rename_i x args at' ; exact (hn3 _ _ _ rfl).elim
    · exact (hn4 _ _ rfl).elim
    · simp only [Bool.and_eq_true, List.all_eq_true] at h ⊢
      refine ⟨h.1, fun x hx => ?_⟩
      rw [(far_strict (h.2 x hx) (op_ok hf x)).1]; rfl
variable [Pures]
theorem okS_ok {A : SA} {A' : AF} (hf : FrR c A A') {s : SOp} (h : okS s A = true) : okR s A' := by
  cases s <;> first
    | trivial
    | exact (far_strict h (op_ok hf _)).1
theorem near_ok {ρ : Rho U} {β : Nat → Nat} {ι : Inf} {x : SV} {v : V} (h : nearS x = true) (hv : VR ρ β ι x v) : farV v = false := by
  cases x with
  | c x => exact (far_strict (x := .c x) h hv).1
  | a l => simp only [VR] at hv; obtain ⟨l', rfl, _⟩ := hv; rfl
  | t l => simp only [VR] at hv; obtain ⟨l', rfl, _⟩ := hv; rfl
theorem okCS_ok {A : SA} {A' : AF} (hf : FrR c A A') {s : SOp} (h : okCS s A = true) : okC s A' := by
  cases s <;> first
    | trivial
    | exact near_ok h (op_ok hf _)
theorem sopR_ok (hcall : CallSOk (U := U) P Sp Post Go call) (hpure : PureSOk (U := U) P Sp Post Go X) (hX : X.lay = U.lay) {all : Bool} {s : SOp} (ok : Ok c e) {A : SA} {A' : AF} (hA : inA m A') (hf : FrR c A A') {k : K1} {K : V → St → Prop} (hk : FollS Sp Post Go c k K)
    (h : TDen Sp Post Go (sopR X call m all s e A c.S k) c.ρ) : wopR (wx P) X.tb m all s A' c.σ K := by
  unfold sopR at h
  unfold wopR
  split at h
  · rename_i hp
    rw [hp]
    simp only
    split at h
    · rename_i f args
      obtain ⟨r, h1, h2⟩ := hpure all c e f _ _ _ (fun v => K v c.σ) ok (ops_ok hf args) hk.foll h
      exact ⟨r, by cases all <;> exact h1, h2⟩
    · exact h.elim
  · rename_i hp
    rw [hp]
    simp only
    split at h
    · rename_i hok
      refine ⟨?_, sop_ok hcall hX ok hA hf hk h⟩
      cases all with
      | true => exact okCS_ok hf hok
      | false => exact okS_ok hf hok
    · exact h.elim
theorem sxt_ok (hcall : CallSOk (U := U) P Sp Post Go call) (hpure : PureSOk (U := U) P Sp Post Go X) (hX : X.lay = U.lay) : ∀ (t : YT) {c : Cx U} {e : SE} {A : SA} {A' : AF} {k : KS} {K : AF → St → Prop}, Ok c e → inA m A' → FrR c A A' → (∀ A A' c' e', Le c c' → Ok c' e' → FrR c' A A' → inA m A' → TDen Sp Post Go (k e' A c'.S) c'.ρ → K A' c'.σ) →
    TDen Sp Post Go (sxt X call m t k e A c.S) c.ρ → wtree (wx P) X.tb m t K A' c.σ
  | .done, c, e, A, A', k, K, ok, hA, hf, hk, h => hk A A' c e (Le.refl c) ok hf hA h
  | .stop, c, e, A, A', k, K, ok, hA, hf, hk, h => trivial
  | .go i none p, c, e, A, A', k, K, ok, hA, hf, hk, h => by
    refine guard_okS ok hf h (fun e' ok' h' => ?_) (fun e' ok' h' => ?_)
    · refine sopR_ok hcall hpure hX ok' hA hf (K := fun v σ' => Next (wtree (wx P) X.tb m p K (putA m A' i.dst v) σ')) (fun c1 e1 sv v h1 h2 h3 h4 => ?_) h'
      exact sxt_ok hcall hpure hX p h2 (putA_in hA _ _) ((hf.later h1).put i.dst h3) (fun A A' c' e' g1 => hk A A' c' e' (h1.trans g1)) h4
    · exact sxt_ok hcall hpure hX p ok' (putA_in hA _ _) (hf.put i.dst vr_skip) hk h'
  | .goc i p, c, e, A, A', k, K, ok, hA, hf, hk, h => by
    refine guard_okS ok hf h (fun e' ok' h' => ?_) (fun e' ok' h' => ?_)
    · refine sopR_ok hcall hpure hX ok' hA hf (K := fun v σ' => Next (wtree (wx P) X.tb m p K (putA m A' i.dst v) σ')) (fun c1 e1 sv v h1 h2 h3 h4 => ?_) h'
      exact sxt_ok hcall hpure hX p h2 (putA_in hA _ _) ((hf.later h1).put i.dst h3) (fun A A' c' e' g1 => hk A A' c' e' (h1.trans g1)) h4
    · exact sxt_ok hcall hpure hX p ok' (putA_in hA _ _) (hf.put i.dst vr_skip) hk h'
  | .go i (some o) p, c, e, A, A', k, K, ok, hA, hf, hk, h => by
    simp only [sxt] at h
    split at h
    · rename_i ht
      show (match tlessW X.tb o A' with | true => _ | false => False)
      rw [tless_okS hf ht]
      refine guard_okS ok hf h (fun e' ok' h' => ?_) (fun e' ok' h' => ?_)
      · split at h'
        · rename_i x hx
          rw [hx]
          exact sxt_ok hcall hpure hX p ok' (putA_in hA _ _) (hf.put i.dst (op_ok hf x)) hk h'
        · have hf0 : FrR c.bare (cleanA A) A' := fun j => by
            rcases lk_clean A j with e1 | e1
            · rw [e1]; exact clean_vr (hf j)
            · rw [e1]; exact VR.un
          refine sop_ok hcall hX ok'.bare hA hf0 (K := fun v _ => wtree (wx P) X.tb m p K (putA m A' i.dst v) c.σ) (fun c1 e1 sv v h1 h2 h3 h4 => ?_) h'
          split at h4
          · rename_i hS hs
            obtain ⟨g1, g2⟩ := back_ok ok' h1 h2
            exact sxt_ok (c := { c with ρ := c1.ρ }) hcall hpure hX p g2 (putA_in hA _ _) ((hf.later g1).put i.dst (strict_vr hs h3)) (fun A A' c' e' q1 => hk A A' c' e' (g1.trans q1)) h4
          · exact h4.elim
      · exact sxt_ok hcall hpure hX p ok' (putA_in hA _ _) (hf.put i.dst vr_skip) hk h'
    · exact h.elim
  | .alt i p q, c, e, A, A', k, K, ok, hA, hf, hk, h => by
    obtain ⟨h1, h2⟩ := h
    refine ⟨guard_okS ok hf h1 (fun e' ok' h' => ?_) (fun e' ok' h' => ?_), sxt_ok hcall hpure hX q ok hA hf hk h2⟩
    · refine sopR_ok hcall hpure hX ok' hA hf (K := fun v σ' => Next (wtree (wx P) X.tb m p K (putA m A' i.dst v) σ')) (fun c1 e1 sv v h1 h2 h3 h4 => ?_) h'
      exact sxt_ok hcall hpure hX p h2 (putA_in hA _ _) ((hf.later h1).put i.dst h3) (fun A A' c' e' g1 => hk A A' c' e' (h1.trans g1)) h4
    · exact sxt_ok hcall hpure hX p ok' (putA_in hA _ _) (hf.put i.dst vr_skip) hk h'
  | .sub s p, c, e, A, A', k, K, ok, hA, hf, hk, h => by
    refine sxt_ok hcall hpure hX s ok hA hf (fun A1 A1' c1 e1 g1 g2 g3 g4 g5 => ?_) h
    exact sxt_ok hcall hpure hX p g2 g4 g3 (fun A A' c' e' q1 => hk A A' c' e' (g1.trans q1)) g5
end Go.Dm.Sx
namespace Go.Dm.Sx
open Go.Dm
set_option linter.unusedVariables false
set_option linter.unusedSimpArgs false
def GhostN (n : Nat) (fr : Fr) (σ : St) (fr' : Fr) (σ' : St) : Prop :=
  ∀ g w tmps, Rep g w σ → FrRep g w σ fr tmps → ∃ g', Rep g' w σ' ∧ TurnN n g w σ g' w σ' ∧ FrRep g' w σ' fr' tmps
theorem GhostN.refl (n : Nat) (fr : Fr) (σ : St) : GhostN n fr σ fr σ := fun g w tmps hr hf => ⟨g, hr, (Turn.refl _ _ _).n n, hf⟩
theorem GhostN.trans {n : Nat} {fr fr' fr'' : Fr} {σ σ' σ'' : St} (h : GhostN n fr σ fr' σ') (k : GhostN n fr' σ' fr'' σ'') : GhostN n fr σ fr'' σ'' := fun g w tmps hr hf =>
  let ⟨g1, h1, h2, h3⟩ := h g w tmps hr hf
  let ⟨g2, k1, k2, k3⟩ := k g1 w tmps h1 h3
  ⟨g2, k1, h2.trans k2, k3⟩
theorem GhostN.of {n : Nat} {fr fr' : Fr} {σ σ' : St} (h : Ghost fr σ fr' σ') : GhostN n fr σ fr' σ' := fun g w tmps hr hf =>
  let ⟨g1, h1, h2, h3⟩ := h g w tmps hr hf
  ⟨g1, h1, h2.n n, h3⟩
theorem loop_ghostN {P : Program} {n : Nat} {c : Code} {K : Dm.Post} {fr fr' : Fr} {σ σ' : St} (hg : GhostN n fr σ fr' σ') (h : LoopAt P n c K fr' σ') : LoopAt P n c K fr σ := by
  intro g w a hr hf hd b k cs
  obtain ⟨g', h1, h2, h3⟩ := hg g w _ hr hf
  obtain ⟨e, a', w', h4, h5⟩ := h g' w a h1 h3 hd b k cs
  exact ⟨e, a', w', h4.trans h2, h5⟩
theorem ghost_nil {fr : Fr} {σ : St} {d ep sz : Nat} (hd : fr.getD d (.c .un) = .c (.f .nils)) : Ghost fr σ (fr.set d (.c (.rs σ.length ep 0))) (σ ++ [.arr true ep sz []]) := by
  intro g w tmps hr hf
  let g' : G := ⟨g.Z, fun i => if i = σ.length then none else g.blk i, fun i => if i = σ.length then 0 else g.cap i⟩
  have hb : ∀ i, i < σ.length → g'.blk i = g.blk i := fun i hi => if_neg (Nat.ne_of_lt hi)
  have hc : ∀ i, i < σ.length → g'.cap i = g.cap i := fun i hi => if_neg (Nat.ne_of_lt hi)
  have hown : ∀ b o, Own g' (σ ++ [.arr true ep sz []]) b o → Own g σ b o := by
    rintro b o ⟨i, ob, h1, h2, h3⟩
    by_cases hi : i < σ.length
    · rw [List.getElem?_append_left hi] at h1
      exact ⟨i, ob, h1, by rw [← hb i hi]; exact h2, h3⟩
    · have hlen := (List.getElem?_eq_some_iff.1 h1).1
      simp at hlen
      have : i = σ.length := by omega
      subst this
      have : g'.blk σ.length = none := if_pos rfl
      rw [this] at h2; cases h2
  have T : Turn g w σ g' w (σ ++ [.arr true ep sz []]) :=
    { os := rfl, tape := rfl, output := rfl, size := Nat.le_refl _, whole := fun _ _ _ => rfl, zs := fun b o hz => ⟨hz, rfl⟩, znew := fun b o _ hz => .inl hz, onew := fun b o _ h => hown b o h,
      turns := fun i ob h => by
        have hi := (List.getElem?_eq_some_iff.1 h).1
        refine ⟨ob, by rw [List.getElem?_append_left hi]; exact h, ?_⟩
        cases ob <;> simp [ObTurn, hb i hi, hc i hi]
      blks := fun i ob h _ => hb i (List.getElem?_eq_some_iff.1 h).1 }
  refine ⟨g', ⟨fun i ob h => ?_, fun i j a b k h1 h2 h3 h4 h5 h6 => ?_, fun b o hz ho => hr.apart b o hz (hown b o ho), hr.inside⟩, T, ?_⟩
  · by_cases hi : i < σ.length
    · rw [List.getElem?_append_left hi] at h
      exact (hr.ob i ob h).keep T (fun _ _ => rfl) (hb i hi) (hc i hi)
    · have hlen := (List.getElem?_eq_some_iff.1 h).1
      simp at hlen
      have : i = σ.length := by omega
      subst this
      rw [List.getElem?_append_right (Nat.le_refl _), Nat.sub_self] at h
      simp at h
      subst h
      exact .inl ⟨if_pos rfl, rfl, if_pos rfl⟩
  · have lt : ∀ {i : Nat} {k : Nat}, g'.blk i = some k → i ≠ σ.length := fun {i k} h e => by subst e; rw [show g'.blk σ.length = none from if_pos rfl] at h; cases h
    have l1 : i < σ.length := by
      have := (List.getElem?_eq_some_iff.1 h1).1
      simp at this
      have := lt h5
      omega
    have l2 : j < σ.length := by
      have := (List.getElem?_eq_some_iff.1 h2).1
      simp at this
      have := lt h6
      omega
    rw [List.getElem?_append_left l1] at h1
    rw [List.getElem?_append_left l2] at h2
    exact hr.inj i j a b k h1 h2 h3 h4 (by rw [← hb i l1]; exact h5) (by rw [← hb j l2]; exact h6)
  · have hf' := hf.turn T
    refine ⟨by simp [hf'.1], fun i => ?_⟩
    have h := hf'.2 i
    have h0 := hf.2 i
    by_cases hi : d = i
    · subst hi
      rw [hd] at h0
      have hv : tmps.getD d undef = .slice none 0 0 := h0
      have hlt : d < fr.length := by
        rw [List.getD_eq_getElem?_getD] at hd
        cases hh : fr[d]? with
        | none => rw [hh] at hd; cases hd
        | some x => exact (List.getElem?_eq_some_iff.1 hh).1
      rw [List.getD_eq_getElem?_getD, List.getElem?_set_self hlt, Option.getD_some, hv]
      refine ⟨rfl, .arr true ep sz [], by rw [List.getElem?_append_right (Nat.le_refl _), Nat.sub_self]; rfl, Nat.le_refl _, fun _ => ?_⟩
      refine ⟨?_, by simp, Nat.zero_le _⟩
      rw [show g'.blk σ.length = none from if_pos rfl, show g'.cap σ.length = 0 from if_pos rfl]
      rfl
    · rw [List.getD_eq_getElem?_getD, List.getElem?_set_ne hi, ← List.getD_eq_getElem?_getD]
      exact h
theorem ghost_trim {k : Nat} {fr : Fr} {σ : St} {n : Nat} (hk : k ≤ n) (hf : ∀ i, (fr.getD i (.c .un)).under n = true) (hs : (σ.take n).all (Ob.under n) = true) : GhostN k fr σ fr (σ.take n) := by
  intro g w tmps hr hfr
  refine ⟨g, take_rep hr hs, ?_, hfr.1, fun i => underV (hf i) (hfr.2 i)⟩
  exact
    { os := rfl, tape := rfl, output := rfl, size := Nat.le_refl _, whole := fun _ _ _ => rfl, zs := fun b o hz => ⟨hz, rfl⟩, znew := fun b o _ hz => .inl hz,
      onew := fun b o _ ⟨i, ob, h1, h2⟩ => ⟨i, ob, (get_take h1).2, h2⟩,
      turns := fun i ob hi h => ⟨ob, by rw [take_get (by omega)]; exact h, by cases ob <;> simp [ObTurn]⟩,
      blks := fun _ _ _ _ _ => rfl }
variable {U : Uni} {c c' c'' : Cx U} {e : SE} {Sp : List (FSpec U)} {Post : List (Dyn U.B) → Prop} {Go : Nat → List (Dyn U.B) → Prop} {P : Program} {X : SEnv} {call : CallS} {m : Nat}
theorem tyCell_ok {n : Nat} {x : U.B n} {j : Nat} {t : Ty} (h : nth (U.lay n) j = some t) : ∃ d : Dyn U.B, (cells U ⟨.base n, x⟩)[j]? = some d ∧ d.t = t := by
  rw [nth_eq] at h
  have hj := (List.getElem?_eq_some_iff.1 h).1
  refine ⟨U.acc n x j, ?_, U.acc_t n x j t h⟩
  simp [cells, hj]
theorem tmTy_ok (ok : Ok c e) {x : Tm} {t : Ty} (h : tmTy U.lay e x = some t) : ∃ d : Dyn U.B, x.den? c.ρ = some d ∧ d.t = t := by
  cases x with
  | «at» i => exact ok.ty h
  | fld i j =>
    simp only [tmTy] at h
    split at h
    · rename_i t' ht
      obtain ⟨d, h1, h2⟩ := ok.ty ht
      obtain ⟨t0, v⟩ := d
      simp only at h2
      subst h2
      simp only [Tm.den?, h1, pcells]
      cases t' with
      | base n => exact tyCell_ok h
      | _ =>
        simp only [tyCell] at h
        split at h
        · cases h; refine ⟨_, rfl, ?_⟩; rfl
        · cases h
    · rename_i n ht
      obtain ⟨d, h1, h2⟩ := ok.ty ht
      obtain ⟨t0, v⟩ := d
      simp only at h2
      subst h2
      simp only [Tm.den?, h1, pcells]
      exact tyCell_ok h
    · cases h
  | _ => simp only [tmTy, Option.some.injEq] at h; subst h; exact ⟨_, rfl, rfl⟩
def ThLe (θ θ' : Th) : Prop := ∀ i x, nth θ i = some (some x) → nth θ' i = some (some x)
theorem ThLe.refl (θ : Th) : ThLe θ θ := fun _ _ h => h
theorem ThLe.trans {a b d : Th} (h : ThLe a b) (k : ThLe b d) : ThLe a d := fun i x hx => k i x (h i x hx)
def thR (ρ : Rho U) (θ : Th) : Rho U := θ.map fun o => (o.getD (.bool false)).den ρ
def ThOk (c : Cx U) (tys : List Ty) (θ : Th) : Prop := θ.length = tys.length ∧ ∀ i x, nth θ i = some (some x) → ∃ d t, x.den? c.ρ = some d ∧ nth tys i = some t ∧ d.t = t
theorem thR_get {θ : Th} {i : Nat} {x : Tm} {d : Dyn U.B} {ρ : Rho U} (h : nth θ i = some (some x)) (hd : x.den? ρ = some d) : (thR ρ θ)[i]? = some d := by
  rw [nth_eq] at h
  simp only [thR, List.getElem?_map, h, Option.map_some, Option.getD_some, Tm.den_of hd]
theorem put_len {α : Type} (l : List α) (i : Nat) (v : α) : (put l i v).length = l.length := by rw [put_eq]; simp
theorem bind_ok (ok : Ok c e) {tys : List Ty} {θ θ' : Th} {i : Nat} {x : Tm} (hθ : ThOk c tys θ) (h : bindT U.lay e tys θ i x = some θ') : ThLe θ θ' ∧ ThOk c tys θ' ∧ nth θ' i = some (some x) := by
  unfold bindT at h
  split at h
  · rename_i hi
    split at h
    · rename_i t t' h1 h2
      split at h
      · rename_i ht
        cases h
        have e1 := Ty.eqb_ok ht
        subst e1
        obtain ⟨d, q1, q2⟩ := tmTy_ok ok h2
        have hlt : i < θ.length := by rw [nth_eq] at hi; exact (List.getElem?_eq_some_iff.1 hi).1
        have hne : ∀ j, j ≠ i → nth (put θ i (some x)) j = nth θ j := fun j hj => by rw [nth_eq, nth_eq, put_eq, List.getElem?_set_ne (Ne.symm hj)]
        have heq : nth (put θ i (some x)) i = some (some x) := by rw [nth_eq, put_eq, List.getElem?_set_self hlt]
        refine ⟨fun j y hj => ?_, ⟨by rw [put_len]; exact hθ.1, fun j y hj => ?_⟩, heq⟩
        · by_cases hji : j = i
          · subst hji; rw [hi] at hj; cases hj
          · rw [hne j hji]; exact hj
        · by_cases hji : j = i
          · subst hji
            rw [heq] at hj
            cases hj
            exact ⟨d, t, q1, h1, q2⟩
          · rw [hne j hji] at hj
            exact hθ.2 j y hj
      · cases h
    · cases h
  · rename_i y hi
    split at h
    · rename_i hy
      cases h
      rw [← Tm.eqb_ok hy]
      exact ⟨ThLe.refl _, hθ, hi⟩
    · cases h
  · cases h
theorem mTm_ok (ok : Ok c e) {tys : List Ty} {θ θ' : Th} {p x : Tm} (hθ : ThOk c tys θ) (h : mTm U.lay e tys p x θ = some θ') :
    ThLe θ θ' ∧ ThOk c tys θ' ∧ ∀ θf, ThLe θ' θf → ∀ d, x.den? c.ρ = some d → p.den? (thR c.ρ θf) = some d := by
  unfold mTm at h
  split at h
  · obtain ⟨h1, h2, h3⟩ := bind_ok ok hθ h
    exact ⟨h1, h2, fun θf hf d hd => thR_get (hf _ _ h3) hd⟩
  · cases h
  · rename_i hn1 hn2
    split at h
    · rename_i hp
      cases h
      have := Tm.eqb_ok hp
      subst this
      refine ⟨ThLe.refl _, hθ, fun θf hf d hd => ?_⟩
      cases p with
      | «at» i => exact (hn1 _ rfl).elim
      | fld i j => exact (hn2 _ _ rfl).elim
      | _ => exact hd
    · cases h
structure MCx (c : Cx U) (tm : Tmpl) (θf : Th) (βt : Nat → Nat) (ιt : Inf) : Prop where
  rs : ∀ o k' , freshS c.S o k' = true → isArr tm.S o = true → βt o = c.β o + k' * 4294967296 ∧ ∀ len, c.ι o = some (k', len) → ιt o = some (0, len)
mutual
theorem mC_ok (ok : Ok c e) {tm : Tmpl} : ∀ {p x : SC} {θ θ' : Th}, ThOk c tm.tys θ → mC U.lay e tm c.S p x θ = some θ' →
    ThLe θ θ' ∧ ThOk c tm.tys θ' ∧ ∀ θf βt ιt, ThLe θ' θf → MCx c tm θf βt ιt → ∀ y, c.cr x y → CR (thR c.ρ θf) βt ιt p y
  | .d t p, x, θ, θ', hθ, h => by
    simp only [mC] at h
    split at h
    · rename_i t' y
      split at h
      · rename_i ht
        have := Ty.eqb_ok ht
        subst this
        obtain ⟨h1, h2, h3⟩ := mTm_ok ok hθ h
        refine ⟨h1, h2, fun θf βt ιt hf _ z hz => ?_⟩
        simp only [Cx.cr, CR] at hz ⊢
        obtain ⟨f, d, rfl, q1, q2, q3⟩ := hz
        exact ⟨f, d, rfl, h3 θf hf d q1, q2, q3⟩
      · cases h
    · split at h
      · rename_i u
        obtain ⟨h1, h2, h3⟩ := mTm_ok ok hθ h
        refine ⟨h1, h2, fun θf βt ιt hf _ z hz => ?_⟩
        simp only [Cx.cr, CR] at hz ⊢
        subst hz
        exact ⟨.nils, ⟨.list u, []⟩, rfl, h3 θf hf _ rfl, rfl, by simp only [FD]; exact ⟨u, rfl⟩⟩
      · cases h
    · split at h
      · rename_i u
        obtain ⟨h1, h2, h3⟩ := mTm_ok ok hθ h
        refine ⟨h1, h2, fun θf βt ιt hf _ z hz => ?_⟩
        simp only [Cx.cr, CR] at hz ⊢
        subst hz
        exact ⟨.nilp, ⟨.opt u, none⟩, rfl, h3 θf hf _ rfl, rfl, by simp only [FD]; exact ⟨u, rfl⟩⟩
      · cases h
    · cases h
  | .nil, x, θ, θ', hθ, h => by
    simp only [mC] at h
    split at h
    · cases h; exact ⟨ThLe.refl _, hθ, fun θf βt ιt _ _ z hz => by simpa only [Cx.cr, CR] using hz⟩
    · cases h
  | .nilp, x, θ, θ', hθ, h => by
    simp only [mC] at h
    split at h
    · cases h; exact ⟨ThLe.refl _, hθ, fun θf βt ιt _ _ z hz => by simpa only [Cx.cr, CR] using hz⟩
    · cases h
  | .nilm, x, θ, θ', hθ, h => by
    simp only [mC] at h
    split at h
    · cases h; exact ⟨ThLe.refl _, hθ, fun θf βt ιt _ _ z hz => by simpa only [Cx.cr, CR] using hz⟩
    · cases h
  | .nilf, x, θ, θ', hθ, h => by
    simp only [mC] at h
    split at h
    · cases h; exact ⟨ThLe.refl _, hθ, fun θf βt ιt _ _ z hz => by simpa only [Cx.cr, CR] using hz⟩
    · cases h
  | .fn f, x, θ, θ', hθ, h => by
    simp only [mC] at h
    split at h
    · split at h
      · rename_i hb
        cases h
        have := beq_nat hb
        subst this
        exact ⟨ThLe.refl _, hθ, fun θf βt ιt _ _ z hz => by simpa only [Cx.cr, CR] using hz⟩
      · cases h
    · cases h
  | .clo f caps, x, θ, θ', hθ, h => by
    simp only [mC] at h
    split at h
    · split at h
      · rename_i hb
        have := beq_nat hb
        subst this
        obtain ⟨h1, h2, h3⟩ := mCs_ok ok hθ h
        refine ⟨h1, h2, fun θf βt ιt hf hm z hz => ?_⟩
        simp only [Cx.cr, CR] at hz ⊢
        obtain ⟨l', rfl, hz⟩ := hz
        exact ⟨l', rfl, h3 θf βt ιt hf hm _ hz⟩
      · cases h
    · cases h
  | .ptr o i, x, θ, θ', hθ, h => by
    simp only [mC] at h
    split at h
    · split at h
      · rename_i hb1 hb2
        cases h
        have e1 := beq_nat hb1
        have e2 := beq_nat hb2
        subst e1 e2
        exact ⟨ThLe.refl _, hθ, fun θf βt ιt _ _ z hz => by simpa only [Cx.cr, CR] using hz⟩
      · cases h
    · cases h
  | .el p j, x, θ, θ', hθ, h => by
    simp only [mC] at h
    split at h
    · split at h
      · rename_i hb
        have := beq_nat hb
        subst this
        obtain ⟨h1, h2, h3⟩ := mTm_ok ok hθ h
        refine ⟨h1, h2, fun θf βt ιt hf _ z hz => ?_⟩
        simp only [Cx.cr, CR] at hz ⊢
        obtain ⟨cs, off, d, rfl, q1, q2⟩ := hz
        exact ⟨cs, off, d, rfl, h3 θf hf d q1, q2⟩
      · cases h
    · cases h
  | .rs o k, x, θ, θ', hθ, h => by
    simp only [mC] at h
    split at h
    · rename_i o' k'
      split at h
      · rename_i hb1 hb2 hfr har
        cases h
        have e1 := beq_nat hb1
        have e2 := beq_nat hb2
        subst e1 e2
        refine ⟨ThLe.refl _, hθ, fun θf βt ιt _ hm z hz => ?_⟩
        obtain ⟨h1, h2⟩ := hm.rs o k' hfr har
        obtain ⟨w, ty, sz, t, x, ho⟩ := fresh_ok ok hfr
        obtain ⟨ys, gs, q1, q2, q3, q4, q5, q6⟩ := arr_at ok ho
        simp only [Cx.cr, CR] at hz ⊢
        obtain ⟨n, kc, len, rfl, p1, p2, p3⟩ := hz
        have p1' : c.ι o = some (kc, len) := p1
        rw [q6] at p1'
        cases p1'
        exact ⟨n, 0, _, by rw [h1, Nat.zero_mul, Nat.add_zero], h2 _ q6, Nat.le_refl _, fun _ => p3 rfl⟩
      · cases h
    · cases h
  | .mp o, x, θ, θ', hθ, h => by simp [mC] at h
  | .pa .., x, θ, θ', hθ, h => by simp [mC] at h
  | .un, x, θ, θ', hθ, h => by simp [mC] at h
theorem mCs_ok (ok : Ok c e) {tm : Tmpl} : ∀ {p x : List SC} {θ θ' : Th}, ThOk c tm.tys θ → mCs U.lay e tm c.S p x θ = some θ' →
    ThLe θ θ' ∧ ThOk c tm.tys θ' ∧ ∀ θf βt ιt, ThLe θ' θf → MCx c tm θf βt ιt → ∀ y, c.crs x y → CRs (thR c.ρ θf) βt ιt p y
  | [], x, θ, θ', hθ, h => by
    simp only [mCs] at h
    split at h
    · cases h; exact ⟨ThLe.refl _, hθ, fun θf βt ιt _ _ z hz => by simpa only [Cx.crs, CRs] using hz⟩
    · cases h
  | p :: ps, x, θ, θ', hθ, h => by
    simp only [mCs] at h
    split at h
    · cases h
    · rename_i y ys
      split at h
      · rename_i θ1 h1
        obtain ⟨a1, a2, a3⟩ := mC_ok ok hθ h1
        obtain ⟨b1, b2, b3⟩ := mCs_ok ok a2 h
        refine ⟨a1.trans b1, b2, fun θf βt ιt hf hm z hz => ?_⟩
        simp only [Cx.crs, CRs] at hz ⊢
        obtain ⟨z0, zs, rfl, hz1, hz2⟩ := hz
        exact ⟨z0, zs, rfl, a3 θf βt ιt (b1.trans hf) hm _ hz1, b3 θf βt ιt hf hm _ hz2⟩
      · cases h
end
theorem mV_ok (ok : Ok c e) {tm : Tmpl} {p x : SV} {θ θ' : Th} (hθ : ThOk c tm.tys θ) (h : mV U.lay e tm c.S p x θ = some θ') :
    ThLe θ θ' ∧ ThOk c tm.tys θ' ∧ ∀ θf βt ιt, ThLe θ' θf → MCx c tm θf βt ιt → ∀ y, c.vr x y → VR (thR c.ρ θf) βt ιt p y := by
  unfold mV at h
  split at h
  · rename_i p x
    obtain ⟨h1, h2, h3⟩ := mC_ok ok hθ h
    refine ⟨h1, h2, fun θf βt ιt hf hm z hz => ?_⟩
    by_cases hun : x = .un
    · subst hun
      cases p with
      | un => exact VR.un
      | _ =>
        exfalso
        simp only [mC] at h
        cases h
    · obtain ⟨y, rfl, hz1⟩ := V_c hun hz
      exact VR.c (h3 θf βt ιt hf hm _ hz1)
  · obtain ⟨h1, h2, h3⟩ := mCs_ok ok hθ h
    refine ⟨h1, h2, fun θf βt ιt hf hm z hz => ?_⟩
    simp only [Cx.vr, VR] at hz ⊢
    obtain ⟨l', rfl, hz⟩ := hz
    exact ⟨l', rfl, h3 θf βt ιt hf hm _ hz⟩
  · cases h
theorem mA_ok (ok : Ok c e) {tm : Tmpl} {A : SA} {A' : AF} (hA : FrR c A A') : ∀ {pa : SA} {θ θ' : Th}, ThOk c tm.tys θ → mA U.lay e tm A c.S pa θ = some θ' →
    ThLe θ θ' ∧ ThOk c tm.tys θ' ∧ ∀ θf βt ιt, ThLe θ' θf → MCx c tm θf βt ιt → ∀ q ∈ pa, VR (thR c.ρ θf) βt ιt q.2 (lk A' q.1)
  | [], θ, θ', hθ, h => by
    simp only [mA, Option.some.injEq] at h
    subst h
    exact ⟨ThLe.refl _, hθ, fun _ _ _ _ _ q hq => by cases hq⟩
  | (i, p) :: r, θ, θ', hθ, h => by
    simp only [mA] at h
    split at h
    · rename_i θ1 h1
      obtain ⟨a1, a2, a3⟩ := mV_ok ok hθ h1
      obtain ⟨b1, b2, b3⟩ := mA_ok ok hA a2 h
      refine ⟨a1.trans b1, b2, fun θf βt ιt hf hm q hq => ?_⟩
      rcases List.mem_cons.1 hq with rfl | hq
      · exact a3 θf βt ιt (b1.trans hf) hm _ (hA i)
      · exact b3 θf βt ιt hf hm q hq
    · cases h
def ObM (c : Cx U) (tm : Tmpl) (θf : Th) (o : Nat) (p x : SOb) : Prop :=
  (∀ βt ιt, MCx c tm θf βt ιt → (∀ k', freshS c.S o k' = true → βt o = c.β o + k' * 4294967296) → ∀ ob, OR c.ρ c.β c.ι o x ob → OR (thR c.ρ θf) βt ιt o p ob) ∧
  (∀ w k ty sz t a, p = .arr w k ty sz t a → k = 0 ∧ ∃ w' k' a', x = .arr w' k' ty sz t a' ∧ ∀ d, a'.den? c.ρ = some d → a.den? (thR c.ρ θf) = some d)
theorem mOb_ok (ok : Ok c e) {tm : Tmpl} {o : Nat} {p x : SOb} (ho : nth c.S o = some x) {θ θ' : Th} (hθ : ThOk c tm.tys θ) (h : mOb U.lay e tm c.S p x θ = some θ') :
    ThLe θ θ' ∧ ThOk c tm.tys θ' ∧ ∀ θf, ThLe θ' θf → ObM c tm θf o p x := by
  unfold mOb at h
  split at h
  · obtain ⟨h1, h2, h3⟩ := mCs_ok ok hθ h
    refine ⟨h1, h2, fun θf hf => ⟨fun βt ιt hm _ ob hob => ?_, fun _ _ _ _ _ _ hh => by cases hh⟩⟩
    obtain ⟨l', rfl, hz⟩ := hob
    exact ⟨l', rfl, h3 θf βt ιt hf hm _ hz⟩
  · rename_i w k ty sz t p w' k' ty' sz' t' x
    split at h
    · rename_i e1 e2 e3 e4 e5
      have hw : w = w' := by cases w <;> cases w' <;> first | rfl | cases e1
      have e2 := beq_nat e2
      have e3 := beq_nat e3
      have e4 := beq_nat e4
      have e5 := Ty.eqb_ok e5
      subst hw e2 e3 e4 e5
      obtain ⟨h1, h2, h3⟩ := mTm_ok ok hθ h
      refine ⟨h1, h2, fun θf hf => ⟨fun βt ιt hm hβ ob hob => ?_, fun _ _ _ _ _ _ hh => ?_⟩⟩
      · obtain ⟨d, fs, q1, q2, q3, q4, q5, q6⟩ := hob
        have hk : freshS c.S o k' = true := by unfold freshS; rw [ho]; exact Nat.beq_refl _
        refine ⟨d, fs, h3 θf hf d q1, q2, ?_, q4, ?_, q6⟩
        · rw [hβ k' hk, Nat.zero_mul, Nat.add_zero]; exact q3
        · rw [hβ k' hk, Nat.add_mul_mod_self_right]; exact q5
      · cases hh
        exact ⟨rfl, w, k', x, rfl, fun d hd => h3 θf hf d hd⟩
    · cases h
  · rename_i T u p T' u' x
    split at h
    · rename_i e1 e2
      have e1 := beq_nat e1
      have hu : u = u' := by cases u <;> cases u' <;> first | rfl | cases e2
      subst e1 hu
      obtain ⟨h1, h2, h3⟩ := mC_ok ok hθ h
      refine ⟨h1, h2, fun θf hf => ⟨fun βt ιt hm _ ob hob => ?_, fun _ _ _ _ _ _ hh => by cases hh⟩⟩
      obtain ⟨y, rfl, hz⟩ := hob
      exact ⟨y, rfl, h3 θf βt ιt hf hm _ hz⟩
    · cases h
  · cases h
theorem mS_ok (ok : Ok c e) {tm : Tmpl} : ∀ {ps xs : SSt} {s : Nat} {θ θ' : Th}, ThOk c tm.tys θ → (∀ i x, xs[i]? = some x → nth c.S (s + i) = some x) → mS U.lay e tm c.S ps xs θ = some θ' →
    ThLe θ θ' ∧ ThOk c tm.tys θ' ∧ ∀ θf, ThLe θ' θf → ∀ i p, ps[i]? = some p → ∃ x, nth c.S (s + i) = some x ∧ ObM c tm θf (s + i) p x
  | [], xs, s, θ, θ', hθ, hx, h => by
    simp only [mS, Option.some.injEq] at h
    subst h
    exact ⟨ThLe.refl _, hθ, fun _ _ i p hp => by simp at hp⟩
  | p :: ps, [], s, θ, θ', hθ, hx, h => by simp [mS] at h
  | p :: ps, x :: xs, s, θ, θ', hθ, hx, h => by
    simp only [mS] at h
    split at h
    · rename_i θ1 h1
      have h0 := hx 0 x rfl
      obtain ⟨a1, a2, a3⟩ := mOb_ok (o := s) ok (by simpa using h0) hθ h1
      obtain ⟨b1, b2, b3⟩ := mS_ok (s := s + 1) ok a2 (fun i y hy => by rw [show s + 1 + i = s + (i + 1) from by omega]; exact hx (i + 1) y (by simpa using hy)) h
      refine ⟨a1.trans b1, b2, fun θf hf i q hq => ?_⟩
      cases i with
      | zero => simp at hq; subst hq; exact ⟨x, by simpa using h0, a3 θf (b1.trans hf)⟩
      | succ i =>
        have := b3 θf hf i q (by simpa using hq)
        rwa [show s + 1 + i = s + (i + 1) from by omega] at this
    · cases h
theorem allSome_ok : ∀ {θ : Th} {l : List Tm}, allSome θ = some l → θ = l.map some
  | [], l, h => by simp only [allSome, Option.some.injEq] at h; subst h; rfl
  | none :: r, l, h => by simp [allSome] at h
  | some x :: r, l, h => by
    simp only [allSome] at h
    split at h
    · rename_i l' hl
      cases h
      rw [allSome_ok hl]; rfl
    · cases h
mutual
theorem under_cr {ρ : Rho U} {β : Nat → Nat} {ι : Inf} {n : Nat} : ∀ {x : SC} {y : Dm.C}, inC n x = true → CR ρ β ι x y → y.under n = true
  | .d t a, y, h, hr => by simp only [CR] at hr; obtain ⟨f, d, rfl, _⟩ := hr; rfl
  | .nil, y, h, hr => by simp only [CR] at hr; subst hr; rfl
  | .nilp, y, h, hr => by simp only [CR] at hr; subst hr; rfl
  | .nilm, y, h, hr => by simp only [CR] at hr; subst hr; rfl
  | .nilf, y, h, hr => by simp only [CR] at hr; subst hr; rfl
  | .fn f, y, h, hr => by simp only [CR] at hr; subst hr; rfl
  | .clo f caps, y, h, hr => by
    simp only [CR] at hr
    obtain ⟨l, rfl, hr⟩ := hr
    simp only [inC] at h
    exact under_crs h hr
  | .ptr o i, y, h, hr => by simp only [CR] at hr; subst hr; exact h
  | .el a j, y, h, hr => by simp only [CR] at hr; obtain ⟨cs, off, d, rfl, _⟩ := hr; rfl
  | .rs o k, y, h, hr => by simp only [CR] at hr; obtain ⟨a, b, d, rfl, _⟩ := hr; exact h
  | .mp o, y, h, hr => by simp [inC] at h
  | .pa .., y, h, hr => by simp [inC] at h
  | .un, y, h, hr => by simp [inC] at h
theorem under_crs {ρ : Rho U} {β : Nat → Nat} {ι : Inf} {n : Nat} : ∀ {x : List SC} {y : List Dm.C}, inCs n x = true → CRs ρ β ι x y → C.unders n y = true
  | [], y, h, hr => by simp only [CRs] at hr; subst hr; rfl
  | x :: r, y, h, hr => by
    simp only [CRs] at hr
    obtain ⟨c, l, rfl, h1, h2⟩ := hr
    simp only [inCs] at h
    split at h
    · rename_i hx
      simp only [C.unders, under_cr hx h1]
      exact under_crs h h2
    · cases h
end
theorem under_vr {ρ : Rho U} {β : Nat → Nat} {ι : Inf} {n : Nat} {x : SV} {v : V} (h : inV n x = true) (hr : VR ρ β ι x v) : v.under n = true := by
  cases x with
  | c x =>
    by_cases hun : x = .un
    · subst hun; simp [inV, inC] at h
    · obtain ⟨y, rfl, h1⟩ := V_c hun hr
      exact under_cr h h1
  | a l => simp only [VR] at hr; obtain ⟨l', rfl, hr⟩ := hr; exact under_crs h hr
  | t l => simp [inV] at h
theorem under_or {ρ : Rho U} {β : Nat → Nat} {ι : Inf} {n o : Nat} {x : SOb} {ob : Ob} (h : inOb n x = true) (hr : OR ρ β ι o x ob) : ob.under n = true := by
  cases x with
  | cells l => obtain ⟨l', rfl, hr⟩ := hr; exact under_crs h hr
  | arr w k ty sz t x => obtain ⟨d, fs, _, _, rfl, _⟩ := hr; rfl
  | bld T u x => obtain ⟨y, rfl, hr⟩ := hr; exact under_cr h hr
  | any => simp [inOb] at h
def AtHead (tm : Tmpl) (m n : Nat) (LP : AF → St → Prop) (vals : List (Dyn U.B)) : Prop :=
  ∀ (ct : Cx U) (A' : AF), ct.ρ = vals → ct.S = tm.S → Ok ct ⟨tm.tys, [], []⟩ → FrR ct tm.A A' → inA m A' → LP A' ct.σ
def keepA (tm : SA) (A' : AF) : AF := tm.map fun p => (p.1, lk A' p.1)
theorem lk_keep (A' : AF) : ∀ (tm : SA) (i : Nat), lk (keepA tm A') i = lk A' i ∧ (∃ p ∈ tm, p.1 = i) ∨ lk (keepA tm A') i = .c .un
  | [], i => .inr rfl
  | (j, p) :: r, i => by
    simp only [keepA, List.map_cons, lk_cons]
    by_cases hj : j = i
    · subst hj
      exact .inl ⟨by rw [if_pos rfl], _, List.mem_cons_self .., rfl⟩
    · rw [if_neg hj]
      rcases lk_keep A' r i with ⟨h1, p', hp, h2⟩ | h1
      · exact .inl ⟨h1, p', List.mem_cons_of_mem _ hp, h2⟩
      · exact .inr h1
theorem keep_lk (A' : AF) : ∀ (r : SA) {i : Nat} {p : SV}, (i, p) ∈ r → lk (keepA r A') i = lk A' i
  | [], i, p, h => by cases h
  | (j, q) :: r, i, p, hq => by
    simp only [keepA, List.map_cons, lk_cons]
    by_cases hj : j = i
    · rw [if_pos hj, hj]
    · rw [if_neg hj]
      rcases List.mem_cons.1 hq with hq | hq
      · cases hq; exact absurd rfl hj
      · exact keep_lk A' r hq
theorem cov_keep (A' : AF) : ∀ (r : SA), CovA (keepA r A') A'
  | [] => trivial
  | (j, q) :: r => ⟨rfl, cov_keep A' r⟩
theorem lkS_mem : ∀ {tm : SA} {i : Nat}, lkS tm i = .c .un ∨ ∃ p, (i, p) ∈ tm ∧ lkS tm i = p
  | [], i => .inl rfl
  | (j, p) :: r, i => by
    simp only [lkS]
    by_cases hj : j = i
    · subst hj
      rw [Nat.beq_refl]
      exact .inr ⟨p, List.mem_cons_self .., rfl⟩
    · rw [nbeq_false hj]
      rcases lkS_mem (tm := r) (i := i) with h | ⟨p', h1, h2⟩
      · exact .inl h
      · exact .inr ⟨p', List.mem_cons_of_mem _ h1, h2⟩
theorem head_ok (ok : Ok c e) {tm : Tmpl} {A : SA} {A' : AF} (hA : inA m A') (hf : FrR c A A') (ht : tmplOk tm = true) {θ1 θ2 : Th} (h1 : mA U.lay e tm A c.S tm.A (List.replicate tm.tys.length none) = some θ1) (h2 : mS U.lay e tm c.S tm.S c.S θ1 = some θ2)
    {l : List Tm} (h3 : allSome θ2 = some l) {n : Nat} (hn : n ≤ tm.S.length) {LP : AF → St → Prop} (hLP : ∀ A1 σ1 A2 σ2, inA m A1 → inA m A2 → GhostN n (toFr m A1) σ1 (toFr m A2) σ2 → LP A2 σ2 → LP A1 σ1)
    (h : AtHead (U := U) tm m n LP (l.map fun y => y.den c.ρ)) : LP A' c.σ := by
  have hθ0 : ThOk c tm.tys (List.replicate tm.tys.length none) := ⟨by simp, fun i x hi => by rw [nth_eq, List.getElem?_replicate] at hi; split at hi <;> simp at hi⟩
  obtain ⟨a1, a2, a3⟩ := mA_ok ok hf hθ0 h1
  obtain ⟨b1, b2, b3⟩ := mS_ok (s := 0) ok a2 (fun i x hi => by rw [Nat.zero_add, nth_eq]; exact hi) h2
  have hl := allSome_ok h3
  have hρ : thR c.ρ θ2 = l.map fun y => y.den c.ρ := by rw [hl]; simp [thR]
  have hS := b3 θ2 (ThLe.refl _)
  simp only [Nat.zero_add] at hS
  simp only [tmplOk, Bool.and_eq_true, List.all_eq_true] at ht
  have hlen : tm.S.length ≤ c.S.length := by
    rcases Nat.eq_zero_or_pos tm.S.length with h0 | h0
    · omega
    · obtain ⟨x, hx, _⟩ := hS (tm.S.length - 1) _ (List.getElem?_eq_getElem (by omega))
      rw [nth_eq] at hx
      have := (List.getElem?_eq_some_iff.1 hx).1
      omega
  -- the context at the head
  let k0 : Nat → Nat := fun o => match nth c.S o with | some (.arr _ k _ _ _ _) => k | _ => 0
  let ct : Cx U := ⟨thR c.ρ θ2, fun o => c.β o + k0 o * 4294967296, tm.S, c.σ.take tm.S.length⟩
  have hfresh : ∀ o k', freshS c.S o k' = true → k0 o = k' := fun o k' hfr => by
    obtain ⟨w, ty, sz, t, x, ho⟩ := fresh_ok ok hfr
    simp only [k0, ho]
  have hβ : ∀ o k', freshS c.S o k' = true → ct.β o = c.β o + k' * 4294967296 := fun o k' hfr => by
    show c.β o + k0 o * 4294967296 = _
    rw [hfresh o k' hfr]
  have hm : MCx c tm θ2 ct.β ct.ι := ⟨fun o k' hfr har => ⟨hβ o k' hfr, fun len hlen' => ?_⟩⟩
  rotate_left
  · unfold isArr at har
    split at har
    · rename_i w k ty sz t a ho
      rw [nth_eq] at ho
      obtain ⟨x, hx, hx1, hx2⟩ := hS o _ ho
      obtain ⟨hk, w', k'', a', rfl, hden⟩ := hx2 _ _ _ _ _ _ rfl
      obtain ⟨ys, gs, q1, q2, q3, q4, q5, q6⟩ := arr_at ok hx
      rw [q6] at hlen'
      cases hlen'
      subst hk
      simp only [Cx.ι, inf, ct, ho, hden _ q1, lenOf]
    · cases har
  have hok : Ok ct ⟨tm.tys, [], []⟩ := by
    refine ⟨?_, fun p hp => (by cases hp), fun x hx => (by cases hx), ?_, fun o so ho => ?_⟩
    · show tm.tys = (thR c.ρ θ2).map Dyn.t
      apply List.ext_getElem?
      intro i
      by_cases hi : i < tm.tys.length
      · have hi2 : i < θ2.length := by rw [b2.1]; exact hi
        obtain ⟨x, this⟩ : ∃ x, nth θ2 i = some (some x) := by
          have hi3 : i < l.length := by rw [hl] at hi2; simpa using hi2
          exact ⟨l[i], by rw [nth_eq, hl, List.getElem?_map, List.getElem?_eq_getElem hi3]; rfl⟩
        obtain ⟨d, t, g1, g2, g3⟩ := b2.2 i _ this
        rw [nth_eq] at g2
        rw [g2, List.getElem?_map, thR_get this g1]
        simp [g3]
      · rw [List.getElem?_eq_none (by omega), List.getElem?_eq_none (by rw [List.length_map, thR, List.length_map, b2.1]; omega)]
    · show tm.S.length = (c.σ.take tm.S.length).length
      rw [List.length_take, ← ok.len]
      omega
    · obtain ⟨x, hx, hx1, hx2⟩ := hS o so ho
      obtain ⟨ob, g1, g2⟩ := ok.get hx
      have hlt := (List.getElem?_eq_some_iff.1 ho).1
      exact ⟨ob, by show (c.σ.take tm.S.length)[o]? = _; rw [take_get hlt]; exact g1, hx1 ct.β ct.ι hm (hβ o) ob g2⟩
  have hkeep : inA m (keepA tm.A A') := fun i hi => by
    rcases lk_keep A' tm.A i with ⟨g1, _⟩ | g1
    · rw [g1]; exact hA i hi
    · exact g1
  have hfr : FrR ct tm.A (keepA tm.A A') := fun i => by
    rcases lkS_mem (tm := tm.A) (i := i) with g | ⟨p, g1, g2⟩
    · rw [g]; exact VR.un
    · rw [g2]
      have := a3 θ2 ct.β ct.ι b1 hm (i, p) g1
      rw [keep_lk A' tm.A g1]
      exact this
  have hLPt := h ct (keepA tm.A A') hρ rfl hok hfr hkeep
  refine hLP A' c.σ (keepA tm.A A') _ hA hkeep ?_ hLPt
  have cov : CovA (keepA tm.A A') A' := cov_keep A' tm.A
  refine (GhostN.of (cov.ghost hA c.σ)).trans (ghost_trim hn (fun i => ?_) ?_)
  · rw [toFr_get hkeep]
    rcases lk_keep A' tm.A i with ⟨g1, q, g2, g3⟩ | g1
    · obtain ⟨j, p⟩ := q
      simp only at g3
      subst g3
      rw [g1]
      exact under_vr (ht.1 _ g2) (a3 θ2 ct.β ct.ι b1 hm _ g2)
    · rw [g1]; rfl
  · rw [List.all_eq_true]
    intro ob hob
    obtain ⟨o, ho⟩ := List.mem_iff_getElem?.1 hob
    obtain ⟨hlt, ho'⟩ := get_take ho
    have g0 : tm.S[o]? = some tm.S[o] := List.getElem?_eq_getElem hlt
    obtain ⟨ob', g1, g2⟩ := hok.st o _ g0
    have : ob' = ob := by
      have g1' : (c.σ.take tm.S.length)[o]? = some ob' := g1
      rw [ho] at g1'
      exact (Option.some.inj g1').symm
    subst this
    exact under_or (ht.2 _ (List.getElem_mem hlt)) g2
end Go.Dm.Sx
namespace Go.Dm.Sx
open Go.Dm
set_option linter.unusedVariables false
set_option linter.unusedSimpArgs false
set_option linter.unusedSectionVars false
variable {U : Uni} {c c' c'' : Cx U} {e : SE} {Sp : List (FSpec U)} {Post : List (Dyn U.B) → Prop} {Go : Nat → List (Dyn U.B) → Prop} {P : Program} {X : SEnv} {call : CallS} {m : Nat}
variable [Pures]
theorem own_ok {n : Nat} : ∀ (own : List (Nat × Nat × Nat × Ty)) {c : Cx U} (ok : Ok c e) {A : SA} {A' : AF} (hA : inA m A') (hf : FrR c A A') {A2 : SA} {S2 : SSt} (h : ownS own m U.lay A c.S = some (A2, S2)),
    ∃ c2 A2', GhostN n (toFr m A') c.σ (toFr m A2') c2.σ ∧ Ok c2 e ∧ c2.S = S2 ∧ c2.ρ = c.ρ ∧ FrR c2 A2 A2' ∧ inA m A2'
  | [], c, ok, A, A', hA, hf, A2, S2, h => by
    simp only [ownS, Option.some.injEq, Prod.mk.injEq] at h
    obtain ⟨rfl, rfl⟩ := h
    exact ⟨c, A', GhostN.refl _ _ _, ok, rfl, rfl, hf, hA⟩
  | (d, ty, sz, t) :: r, c, ok, A, A', hA, hf, A2, S2, h => by
    simp only [ownS] at h
    split at h
    · rename_i hd
      split at h
      · rename_i e1 e2 e3
        have e1 := beq_nat e1
        rw [wid_eq] at e1
        have e2 := ble_nat e2
        have e3 := blt_nat e3
        have hv := hf d
        rw [hd] at hv
        obtain ⟨y, hy, h0⟩ := V_c (by simp) hv
        simp only [CR] at h0
        subst h0
        obtain ⟨g1, g2, g3⟩ := add_arr ok (l := .nil t) (xs := ([] : List (T U.B t))) (fs := []) rfl rfl e1 e2
        have gh := ghost_nil (fr := toFr m A') (σ := c.σ) (d := d) (ep := ty) (sz := sz) (by rw [toFr_get hA]; exact hy)
        have hp : (toFr m A').set d (.c (.rs c.σ.length ty 0)) = toFr m (putA m A' (some d) (.c (.rs c.σ.length ty 0))) := (toFr_put (A := A') (some d) _).symm
        have hf2 : FrR (c.add ty (.arr true 0 ty sz t (.nil t)) (.arr true ty sz [])) ((d, .c (.rs c.S.length 0)) :: A) (putA m A' (some d) (.c (.rs c.σ.length ty 0))) := by
          have := (hf.later g1).put (m := m) (some d) g3
          unfold putS at this
          simp only [blt_true e3] at this
          exact this
        obtain ⟨c2, A2', q1, q2, q3, q4, q5, q6⟩ := own_ok r g2 (putA_in hA _ _) hf2 h
        rw [hp] at gh
        exact ⟨c2, A2', (GhostN.of gh).trans q1, q2, q3, q4, q5, q6⟩
      · cases h
    · exact own_ok r ok hA hf h
theorem owo_ok {n : Nat} : ∀ (own : List (Nat × Nat × Nat × Nat × Ty)) {c : Cx U} (ok : Ok c e) {A : SA} {A' : AF} (hA : inA m A') (hf : FrR c A A') {S2 : SSt} (h : ownO own U.lay c.S = some S2),
    ∃ c2, GhostN n (toFr m A') c.σ (toFr m A') c2.σ ∧ Ok c2 e ∧ c2.S = S2 ∧ c2.ρ = c.ρ ∧ FrR c2 A A'
  | [], c, ok, A, A', hA, hf, S2, h => by
    simp only [ownO, Option.some.injEq] at h
    subst h
    exact ⟨c, GhostN.refl _ _ _, ok, rfl, rfl, hf⟩
  | (o, j, ty, sz, t) :: r, c, ok, A, A', hA, hf, S2, h => by
    simp only [ownO] at h
    split at h
    · rename_i l ho
      split at h
      · rename_i hj
        split at h
        · rename_i e1 e2
          have e1 := beq_nat e1
          rw [wid_eq] at e1
          have e2 := ble_nat e2
          obtain ⟨ob, h1, l', rfl, h2⟩ := ok.get ho
          rw [nth_eq] at ho hj
          have hlt := (List.getElem?_eq_some_iff.1 ho).1
          obtain ⟨y, hy, h0⟩ := h2.get hj
          simp only [CR] at h0
          subst h0
          obtain ⟨g1, g2, g3⟩ := add_arr ok (l := .nil t) (xs := ([] : List (T U.B t))) (fs := []) rfl rfl e1 e2
          have ho' : nth (c.add ty (.arr true 0 ty sz t (.nil t)) (.arr true ty sz [])).S o = some (.cells l) := by
            rw [nth_eq]
            show (c.S ++ [_])[o]? = _
            rw [List.getElem?_append_left hlt]; exact ho
          obtain ⟨y0, hy0, h3⟩ := V_c (by simp) g3
          cases hy0
          have h4 : CRs _ _ _ (l.set j (.rs c.S.length 0)) (l'.set j (.rs c.σ.length ty 0)) := (CRs.later g1 h2).set j h3
          obtain ⟨k1, k2⟩ := set_cells (so' := .cells (l.set j (.rs c.S.length 0))) (ob' := .cells (l'.set j (.rs c.σ.length ty 0))) g2 ho' (by simp) fun ρ β ι hl => ⟨_, rfl, CRs.later hl h4⟩
          have gh := ghost_nilo (fr := toFr m A') (σ := c.σ) (o := o) (j := j) (ep := ty) (sz := sz) h1 hy
          rw [put_eq, put_eq] at h
          obtain ⟨c2, q1, q2, q3, q4, q5⟩ := owo_ok r k2 hA (hf.later (g1.trans k1)) h
          exact ⟨c2, (GhostN.of gh).trans q1, q2, q3, q4, q5⟩
        · cases h
      · exact owo_ok r ok hA hf h
    · exact owo_ok r ok hA hf h
theorem go1_ok (ok : Ok c e) {tm : Tmpl} {i : Nat} {A : SA} {A' : AF} (hA : inA m A') (hf : FrR c A A') {n : Nat} {LP : AF → St → Prop} (hLP : ∀ A1 σ1 A2 σ2, inA m A1 → inA m A2 → GhostN n (toFr m A1) σ1 (toFr m A2) σ2 → LP A2 σ2 → LP A1 σ1)
    (hn : n ≤ tm.S.length) (hGo : ∀ vals, Go i vals → AtHead tm m n LP vals) (h : TDen Sp Post Go (go1 U.lay m tm i e A c.S) c.ρ) : LP A' c.σ := by
  unfold go1 at h
  split at h
  · rename_i A2 S2 ht hown
    obtain ⟨c1, A2', q1, q2, rfl, q4, q5, q6⟩ := own_ok (n := n) tm.own ok hA hf hown
    split at h
    · exact h.elim
    rename_i S3 howo
    obtain ⟨c2, r1, r2, rfl, r4, r5⟩ := owo_ok (n := n) tm.owo q2 q6 q5 howo
    refine hLP _ _ _ _ hA q6 (q1.trans r1) ?_
    replace q2 := r2
    replace q4 := r4.trans q4
    replace q5 := r5
    split at h
    · exact h.elim
    · rename_i θ1 h1
      split at h
      · exact h.elim
      · rename_i θ2 h2
        split at h
        · rename_i l hl
          rw [← q4] at h
          exact head_ok q2 q6 q5 ht h1 h2 hl hn hLP (hGo _ h)
        · exact h.elim
  · exact h.elim
theorem goF_cases {lay : Nat → List Ty} {n j : Nat} {A : SA} {S : SSt} {ρ : Rho U} : ∀ (r : List Tmpl) (i : Nat), TDen Sp Post Go (goF lay m n j e A S r i) ρ → ∃ k tm, r[k]? = some tm ∧ tm.q = j ∧ n ≤ tm.S.length ∧ TDen Sp Post Go (go1 lay m tm (i + k) e A S) ρ
  | [], i, h => h.elim
  | tm :: r, i, h => by
    have next : TDen Sp Post Go (goF lay m n j e A S r (i + 1)) ρ → ∃ k tm', (tm :: r)[k]? = some tm' ∧ tm'.q = j ∧ n ≤ tm'.S.length ∧ TDen Sp Post Go (go1 lay m tm' (i + k) e A S) ρ := fun h => by
      obtain ⟨k, tm', h1, h2, h3, h4⟩ := goF_cases r (i + 1) h
      exact ⟨k + 1, tm', by simpa using h1, h2, h3, by rw [show i + (k + 1) = i + 1 + k by omega]; exact h4⟩
    unfold goF at h
    split at h
    · rename_i e1 e2
      split at h
      · exact next h
      · exact ⟨0, tm, rfl, beq_nat e1, ble_nat e2, h⟩
    · exact next h
theorem go_ok (ok : Ok c e) {tms : List Tmpl} {j : Nat} {A : SA} {A' : AF} (hA : inA m A') (hf : FrR c A A') {n n0 : Nat} {LP : AF → St → Prop} (hLP : ∀ A1 σ1 A2 σ2, inA m A1 → inA m A2 → GhostN n (toFr m A1) σ1 (toFr m A2) σ2 → LP A2 σ2 → LP A1 σ1)
    (hn : n ≤ n0) (hGo : ∀ i tm vals, nth tms i = some tm → tm.q = j → n0 ≤ tm.S.length → Go i vals → AtHead tm m n LP vals) (h : TDen Sp Post Go (goF U.lay m n0 j e A c.S tms 0) c.ρ) : LP A' c.σ := by
  obtain ⟨k, tm, h1, h2, h3, h4⟩ := goF_cases tms 0 h
  rw [Nat.zero_add] at h4
  exact go1_ok ok hA hf hLP (Nat.le_trans hn h3) (fun vals hG => hGo k tm vals (by rw [nth_eq]; exact h1) h2 h3 hG) h4
def XEnd.exit' : XEnd → Exit
  | .norm => .normal
  | .exit i => .exit i
  | .ret => .ret
def nlC : Code → Nat
  | .seq a b => nlC a + nlC b
  | .cond _ a b => nlC a + nlC b
  | .block _ c => nlC c
  | .loop c => nlC c + 1
  | _ => 0
theorem nl_eq {tb : Tab} {H : Hints} : ∀ (c : Code), nl (ycomp tb (stlW tb) H c) = nlC c
  | .seq a b => by simp only [ycomp, nl, nlC, nl_eq a, nl_eq b]
  | .cond x a b => by simp only [ycomp, nl, nlC, nl_eq a, nl_eq b]
  | .block id c => by simp only [ycomp, nl, nlC, nl_eq c]
  | .loop c => by simp only [ycomp, nl, nlC, nl_eq c]
  | .region id ops draw => by
    simp only [ycomp, nlC]
    cases draw with
    | false => rfl
    | true =>
      simp only
      split
      · split <;> rfl
      · rfl
  | .skip => rfl
  | .exit id => rfl
  | .label l => rfl
  | .goto l => rfl
  | .ret => rfl
  | .refuse w => rfl
  | .rangeFunc .. => rfl
  | .scope c => rfl
def lpInfo (P : Program) (n m : Nat) : Code → Nat → PostA → Nat → Option (Code × PostA)
  | .seq a b, p, K, q => (match Nat.blt q (p + nlC a) with | true => lpInfo P n m a p (PostA.then (fun A σ => inA m A → DWp P n b (low m K) (toFr m A) σ) K) q | false => lpInfo P n m b (p + nlC a) K q)
  | .cond _ a b, p, K, q => (match Nat.blt q (p + nlC a) with | true => lpInfo P n m a p K q | false => lpInfo P n m b (p + nlC a) K q)
  | .block id c, p, K, q => lpInfo P n m c p (PostA.inBlock id K) q
  | .loop c, p, K, q => (match Nat.beq q p with | true => some (c, K) | false => lpInfo P n m c (p + 1) (PostA.then (fun A σ => LoopAt P n c (low m K) (toFr m A) σ) K) q)
  | _, _, _, _ => none
def LoopQ (P : Program) (n m : Nat) (c : Code) (p : Nat) (K : PostA) (q : Nat) (A : AF) (σ : St) : Prop :=
  match lpInfo P n m c p K q with
  | some (c', K') => LoopAt P n c' (low m K') (toFr m A) σ
  | none => False
theorem loopQ_ghost {n : Nat} {cd : Code} {p : Nat} {K : PostA} {q : Nat} (A1 : AF) (σ1 : St) (A2 : AF) (σ2 : St) (h : GhostN n (toFr m A1) σ1 (toFr m A2) σ2) (hl : LoopQ P n m cd p K q A2 σ2) : LoopQ P n m cd p K q A1 σ1 := by
  unfold LoopQ at hl ⊢
  split at hl
  · exact loop_ghostN h hl
  · exact hl.elim
theorem then_low {f : AF → St → Prop} {K : PostA} {next : Fr → St → Prop} (hf : ∀ A σ, inA m A → f A σ → next (toFr m A) σ) {e : Exit} {fr : Fr} {σ : St} (h : low m (PostA.then f K) e fr σ) : Dm.Post.then next (low m K) e fr σ := by
  obtain ⟨A, h1, rfl, h2⟩ := h
  cases e with
  | normal => exact hf A σ h1 h2
  | _ => exact ⟨A, h1, rfl, h2⟩
section
variable (hm : P.follows .mixedOrders = true) (tok : TabOk P X.tb) (hcall : CallSOk (U := U) P Sp Post Go call) (hpure : PureSOk (U := U) P Sp Post Go X) (hX : X.lay = U.lay) {lp : Nat → KS} {R : Cx U → Prop} (hR : ∀ c c', R c → Le c c' → R c')
  {n : Nat} {LP : Nat → AF → St → Prop} (hlp : ∀ q (c : Cx U) e A A', Ok c e → FrR c A A' → inA m A' → TDen Sp Post Go (lp q e A c.S) c.ρ → LP q A' c.σ) {H : Hints}
include hm tok hcall hpure hX hR hlp
theorem sxc_ok {cd : Code} : ∀ {p : Nat} {K : PostA} {k : KC} {c : Cx U} {e : SE} {A : SA} {A' : AF}, hintsOk X.tb (stlW X.tb) H cd = true → (∀ q, p ≤ q → q < p + nlC cd → ∀ A σ, LP q A σ → LoopQ P n m cd p K q A σ) →
    (∀ x (c' : Cx U) e' A A', R c' → Ok c' e' → FrR c' A A' → inA m A' → TDen Sp Post Go (k x e' A c'.S) c'.ρ → K x.exit' A' c'.σ) → R c → Ok c e → inA m A' → FrR c A A' →
    TDen Sp Post Go (sxc X call m lp (ycomp X.tb (stlW X.tb) H cd) p k e A c.S) c.ρ → DWp P n cd (low m K) (toFr m A') c.σ := by
  induction cd with
  | skip => intro p K k c e A A' hh hL hk r ok hA hf h g w a hr hfr hd; exact wp_skip (here_ok ⟨A', hA, rfl, hk .norm c e A A' r ok hf hA h⟩ hr hfr hd)
  | label l => intro p K k c e A A' hh hL hk r ok hA hf h g w a hr hfr hd; exact wp_label (here_ok ⟨A', hA, rfl, hk .norm c e A A' r ok hf hA h⟩ hr hfr hd)
  | exit id => intro p K k c e A A' hh hL hk r ok hA hf h g w a hr hfr hd; exact wp_exit (here_ok ⟨A', hA, rfl, hk (.exit id) c e A A' r ok hf hA h⟩ hr hfr hd)
  | ret => intro p K k c e A A' hh hL hk r ok hA hf h g w a hr hfr hd; exact wp_ret (here_ok ⟨A', hA, rfl, hk .ret c e A A' r ok hf hA h⟩ hr hfr hd)
  | region id ops draw =>
    intro p K k c e A A' hh hL hk r ok hA hf h g w a hr hfr hd
    cases draw with
    | false =>
      refine wp_region ?_
      rw [List.range_eq_range']
      have hs : wseq (wx P) (fun _ => false) X.tb m (fun A σ => inA m A → K .normal A σ) (ops.toList.map (sitem X.tb ops)) A' c.σ :=
        sxs_ok hcall hX _ ok hA hf (K := fun A σ => inA m A → K .normal A σ) (fun c' e' A1 A1' g1 g2 g3 g4 hA1 => hk .norm c' e' A1 A1' (hR _ _ r g1) g2 g3 hA1 g4) h
      refine wseq_ok (K := fun A σ => inA m A → K .normal A σ) tok ops.size 0 (by omega) hr hA hfr hd hs fun a' w' h' => ?_
      obtain ⟨fr', σ', g', ⟨A1, h0, rfl, h1⟩, h2, h3, h4, h5⟩ := h'
      exact ⟨_, σ', g', ⟨A1, h0, rfl, h1 h0⟩, h2, h3.n n, h4, h5⟩
    | true =>
      obtain ⟨d1, d2⟩ := drew_rep hr
      refine wp_region_any hm ?_
      simp only [ycomp] at h
      simp only [hintsOk] at hh
      split at h
      · rename_i s hs
        rw [hs] at hh
        simp only at hh
        split at h
        · rename_i y hy
          have ht := sxt_ok hcall hpure hX y ok hA hf (K := K .normal) (fun A1 A1' c' e' g1 g2 g3 g4 g5 => hk .norm c' e' A1 A1' (hR _ _ r g1) g2 g3 g4 g5) h
          have hp : pAnyW P X.tb ops (lowF m (K .normal)) ops.size (Array.replicate ops.size false) (toFr m A') c.σ :=
            wtree_ok (K := lowF m (K .normal)) s true (allRun ops) _ _ hA hh hy ht fun n' l' A' σ' hk hA' hK => by
              have hr := nilB_eq hk
              cases n' with
              | zero => exact ⟨hr, A', hA', rfl, hK⟩
              | succ n' => exact ⟨fun _ => ⟨A', hA', rfl, hK⟩, fun i hi => by rw [hr] at hi; cases hi⟩
          exact pAny_sound tok _ _ d1 (hfr.turn d2) hd (pAnyW_weak _ hp) fun a' w' h' => (h'.n n).trans (d2.n n)
        · exact h.elim
      · exact h.elim
  | seq x y ihx ihy =>
    intro p K k c e A A' hh hL hk r ok hA hf h g w a hr hfr hd
    obtain ⟨hx0, hy0⟩ := hints_two (x := hintsOk X.tb (stlW X.tb) H x) (y := hintsOk X.tb (stlW X.tb) H y) hh
    simp only [ycomp, sxc, nl_eq] at h
    have h1 := ihx (K := PostA.then (fun A σ => inA m A → DWp P n y (low m K) (toFr m A) σ) K) hx0 (fun q hq1 hq2 A σ hlq => ?_) (fun z c' e' A1 A1' r' ok' hf' hA1 hz => ?_) r ok hA hf h
    · refine wp_seq (wp_mono (h1 g w a hr hfr hd) fun ex a' w' h' => ?_)
      obtain ⟨fr', σ', g', ⟨A1, h0, rfl, h2⟩, h3, h4, h5, h6⟩ := (show LiftsN n g w c.σ (low m _ ex) a' w' from h')
      cases ex with
      | normal => exact wp_mono (h2 h0 g' w' a' h3 h5 h6) fun e a'' w'' h6 => h6.trans h4
      | _ => exact ⟨_, σ', g', ⟨A1, h0, rfl, h2⟩, h3, h4, h5, h6⟩
    · have := hL q hq1 (by simp only [nlC]; omega) A σ hlq
      unfold LoopQ at this ⊢
      simpa only [lpInfo, blt_true hq2] using this
    · cases z with
      | norm =>
        intro hA1
        refine ihy (p := p + nlC x) hy0 (fun q hq1 hq2 A σ hlq => ?_) hk r' ok' hA1 hf' hz
        have := hL q (by omega) (by simp only [nlC]; omega) A σ hlq
        unfold LoopQ at this ⊢
        simpa only [lpInfo, blt_false (show ¬ q < p + nlC x from by omega)] using this
      | exit i => exact hk (.exit i) c' e' A1 A1' r' ok' hf' hA1 hz
      | ret => exact hk .ret c' e' A1 A1' r' ok' hf' hA1 hz
  | cond cn x y ihx ihy =>
    intro p K k c e A A' hh hL hk r ok hA hf h g w a hr hfr hd
    obtain ⟨hx0, hy0⟩ := hints_two (x := hintsOk X.tb (stlW X.tb) H x) (y := hintsOk X.tb (stlW X.tb) H y) hh
    simp only [ycomp, sxc, nl_eq] at h
    have hc := opd_rep hfr cn
    rw [toFr_opd hA] at hc
    split at h
    · rename_i b hb
      have hv := op_ok hf cn
      rw [hb] at hv
      obtain ⟨t, e1, h1⟩ := vr_bool hv
      rw [e1] at hc
      have hv : a.eval cn = .bool t := hc
      obtain ⟨e', ok', h'⟩ := br_ok ok h1 h
      cases t with
      | true =>
        refine wp_cond_true hv (ihx hx0 (fun q hq1 hq2 A σ hlq => ?_) hk r ok' hA hf h' g w a hr hfr hd)
        have := hL q hq1 (by simp only [nlC]; omega) A σ hlq
        unfold LoopQ at this ⊢
        simpa only [lpInfo, blt_true hq2] using this
      | false =>
        refine wp_cond_false hv (ihy (p := p + nlC x) hy0 (fun q hq1 hq2 A σ hlq => ?_) hk r ok' hA hf h' g w a hr hfr hd)
        have := hL q (by omega) (by simp only [nlC]; omega) A σ hlq
        unfold LoopQ at this ⊢
        simpa only [lpInfo, blt_false (show ¬ q < p + nlC x from by omega)] using this
    · exact h.elim
  | block id cb ih =>
    intro p K k c e A A' hh hL hk r ok hA hf h g w a hr hfr hd
    have h1 := ih (K := PostA.inBlock id K) (k := blockK id k) hh (fun q hq1 hq2 A σ hlq => hL q hq1 hq2 A σ hlq) (fun z c' e' A1 A1' r' ok' hf' hA1 hz => ?_) r ok hA hf h
    · refine wp_block (wp_mono (h1 g w a hr hfr hd) fun ex a' w' h' => ?_)
      cases ex with
      | exit j =>
        obtain ⟨fr', σ', g', ⟨A1, h0, rfl, h2⟩, h3⟩ := h'
        simp only [Exit.inBlock]
        have h2' : (match Nat.beq j id with | true => K .normal A1 σ' | false => K (.exit j) A1 σ') := h2
        by_cases hj : j = id
        · subst hj
          rw [if_pos rfl]
          rw [Nat.beq_refl] at h2'
          exact ⟨_, σ', g', ⟨A1, h0, rfl, h2'⟩, h3⟩
        · rw [if_neg hj]
          rw [nbeq_false hj] at h2'
          exact ⟨_, σ', g', ⟨A1, h0, rfl, h2'⟩, h3⟩
      | _ => exact h'
    · cases z with
      | norm => exact hk .norm c' e' A1 A1' r' ok' hf' hA1 hz
      | exit j =>
        show (match Nat.beq j id with | true => K .normal A1' c'.σ | false => K (.exit j) A1' c'.σ)
        simp only [blockK] at hz
        cases hj : Nat.beq j id with
        | true => rw [hj] at hz; exact hk .norm c' e' A1 A1' r' ok' hf' hA1 hz
        | false => rw [hj] at hz; exact hk (.exit j) c' e' A1 A1' r' ok' hf' hA1 hz
      | ret => exact hk .ret c' e' A1 A1' r' ok' hf' hA1 hz
  | loop cb ih =>
    intro p K k c e A A' hh hL hk r ok hA hf h g w a hr hfr hd b kk cs
    have hq := hL p (Nat.le_refl _) (by simp only [nlC]; omega) A' c.σ (hlp p c e A A' ok hf hA h)
    unfold LoopQ at hq
    simp only [lpInfo, Nat.beq_refl] at hq
    obtain ⟨ex, a', w', h1, h2⟩ := hq g w a hr hfr hd b kk cs
    exact ⟨ex, a', w', h1, .of_steps (.one step_loop) h2⟩
  | _ => intro p K k c e A A' hh hL hk r ok hA hf h; exact h.elim
theorem sxl_ok {q : Nat} (hall : ∀ c, R c) {cd : Code} : ∀ {p : Nat} {K : PostA} {k : KC} {c : Cx U} {e : SE} {A : SA} {A' : AF}, hintsOk X.tb (stlW X.tb) H cd = true → (∀ q', p ≤ q' → q' < p + nlC cd → ∀ A σ, LP q' A σ → LoopQ P n m cd p K q' A σ) → p ≤ q → q < p + nlC cd →
    (∀ x (c' : Cx U) e' A A', Ok c' e' → FrR c' A A' → inA m A' → TDen Sp Post Go (k x e' A c'.S) c'.ρ → K x.exit' A' c'.σ) → Ok c e → inA m A' → FrR c A A' →
    TDen Sp Post Go (sxl X call m lp q (ycomp X.tb (stlW X.tb) H cd) p k e A c.S) c.ρ → LoopQ P n m cd p K q A' c.σ := by
  induction cd with
  | seq x y ihx ihy =>
    intro p K k c e A A' hh hL hq1 hq2 hk ok hA hf h
    obtain ⟨hx0, hy0⟩ := hints_two (x := hintsOk X.tb (stlW X.tb) H x) (y := hintsOk X.tb (stlW X.tb) H y) hh
    simp only [ycomp, sxl, nl_eq] at h
    have hLy : ∀ q', p + nlC x ≤ q' → q' < p + nlC x + nlC y → ∀ A σ, LP q' A σ → LoopQ P n m y (p + nlC x) K q' A σ := fun q' h1 h2 A σ hlq => by
      have := hL q' (by omega) (by simp only [nlC]; omega) A σ hlq
      unfold LoopQ at this ⊢
      simpa only [lpInfo, blt_false (show ¬ q' < p + nlC x from by omega)] using this
    by_cases hlt : q < p + nlC x
    · rw [blt_true hlt] at h
      have := ihx (K := PostA.then (fun A σ => inA m A → DWp P n y (low m K) (toFr m A) σ) K) hx0 (fun q' h1 h2 A σ hlq => by
        have := hL q' h1 (by simp only [nlC]; omega) A σ hlq
        unfold LoopQ at this ⊢
        simpa only [lpInfo, blt_true h2] using this) hq1 hlt (fun z c' e' A1 A1' ok' hf' hA1 hz => ?_) ok hA hf h
      · unfold LoopQ at this ⊢
        simpa only [lpInfo, blt_true hlt] using this
      · cases z with
        | norm => exact fun hA1 => sxc_ok hm tok hcall hpure hX hR hlp hy0 hLy (fun x c' e' A A' _ => hk x c' e' A A') (hall c') ok' hA1 hf' hz
        | exit i => exact hk (.exit i) c' e' A1 A1' ok' hf' hA1 hz
        | ret => exact hk .ret c' e' A1 A1' ok' hf' hA1 hz
    · rw [blt_false hlt] at h
      have := ihy hy0 hLy (by omega) (by simp only [nlC] at hq2; omega) hk ok hA hf h
      unfold LoopQ at this ⊢
      simpa only [lpInfo, blt_false hlt] using this
  | cond cn x y ihx ihy =>
    intro p K k c e A A' hh hL hq1 hq2 hk ok hA hf h
    obtain ⟨hx0, hy0⟩ := hints_two (x := hintsOk X.tb (stlW X.tb) H x) (y := hintsOk X.tb (stlW X.tb) H y) hh
    simp only [ycomp, sxl, nl_eq] at h
    by_cases hlt : q < p + nlC x
    · rw [blt_true hlt] at h
      have := ihx hx0 (fun q' h1 h2 A σ hlq => by
        have := hL q' h1 (by simp only [nlC]; omega) A σ hlq
        unfold LoopQ at this ⊢
        simpa only [lpInfo, blt_true h2] using this) hq1 hlt hk ok hA hf h
      unfold LoopQ at this ⊢
      simpa only [lpInfo, blt_true hlt] using this
    · rw [blt_false hlt] at h
      have := ihy (p := p + nlC x) hy0 (fun q' h1 h2 A σ hlq => by
        have := hL q' (by omega) (by simp only [nlC]; omega) A σ hlq
        unfold LoopQ at this ⊢
        simpa only [lpInfo, blt_false (show ¬ q' < p + nlC x from by omega)] using this) (by omega) (by simp only [nlC] at hq2; omega) hk ok hA hf h
      unfold LoopQ at this ⊢
      simpa only [lpInfo, blt_false hlt] using this
  | block id cb ih =>
    intro p K k c e A A' hh hL hq1 hq2 hk ok hA hf h
    refine ih (K := PostA.inBlock id K) (k := blockK id k) hh (fun q' h1 h2 A σ hlq => hL q' h1 h2 A σ hlq) hq1 hq2 (fun z c' e' A1 A1' ok' hf' hA1 hz => ?_) ok hA hf h
    cases z with
    | norm => exact hk .norm c' e' A1 A1' ok' hf' hA1 hz
    | exit j =>
      show (match Nat.beq j id with | true => K .normal A1' c'.σ | false => K (.exit j) A1' c'.σ)
      simp only [blockK] at hz
      cases hj : Nat.beq j id with
      | true => rw [hj] at hz; exact hk .norm c' e' A1 A1' ok' hf' hA1 hz
      | false => rw [hj] at hz; exact hk (.exit j) c' e' A1 A1' ok' hf' hA1 hz
    | ret => exact hk .ret c' e' A1 A1' ok' hf' hA1 hz
  | loop cb ih =>
    intro p K k c e A A' hh hL hq1 hq2 hk ok hA hf h
    have inner : ∀ q', p + 1 ≤ q' → q' < p + 1 + nlC cb → ∀ A σ, LP q' A σ → LoopQ P n m cb (p + 1) (PostA.then (fun A σ => LoopAt P n cb (low m K) (toFr m A) σ) K) q' A σ := fun q' h1 h2 A σ hlq => by
      have := hL q' (by omega) (by simp only [nlC]; omega) A σ hlq
      unfold LoopQ at this ⊢
      simpa only [lpInfo, nbeq_false (show ¬ q' = p from by omega)] using this
    have kk : ∀ x (c' : Cx U) e' A A', Ok c' e' → FrR c' A A' → inA m A' → TDen Sp Post Go (thenK k (lp p) x e' A c'.S) c'.ρ → PostA.then (fun A σ => LoopAt P n cb (low m K) (toFr m A) σ) K x.exit' A' c'.σ := by
      intro z c' e' A1 A1' ok' hf' hA1 hz
      cases z with
      | norm =>
        have := hL p (Nat.le_refl _) (by simp only [nlC]; omega) A1' c'.σ (hlp p c' e' A1 A1' ok' hf' hA1 hz)
        unfold LoopQ at this
        simp only [lpInfo, Nat.beq_refl] at this
        exact this
      | exit i => exact hk (.exit i) c' e' A1 A1' ok' hf' hA1 hz
      | ret => exact hk .ret c' e' A1 A1' ok' hf' hA1 hz
    simp only [ycomp, sxl] at h
    by_cases heq : q = p
    · subst heq
      rw [Nat.beq_refl] at h
      have hw := sxc_ok (cd := cb) hm tok hcall hpure hX hR hlp (K := PostA.then (fun A σ => LoopAt P n cb (low m K) (toFr m A) σ) K) hh inner (fun x c' e' A A' _ => kk x c' e' A A') (hall c) ok hA hf h
      unfold LoopQ
      simp only [lpInfo, Nat.beq_refl]
      exact loop_round (hw.mono fun ex fr σ' hk' => then_low (fun A σ _ h => h) hk')
    · rw [nbeq_false heq] at h
      have := ih hh inner (by omega) (by simp only [nlC] at hq2; omega) kk ok hA hf h
      unfold LoopQ at this ⊢
      simpa only [lpInfo, nbeq_false heq] using this
  | _ => intro p K k c e A A' hh hL hq1 hq2; simp only [nlC] at hq2; omega
end
end Go.Dm.Sx
namespace Go.Dm.Sx
open Go.Dm
set_option linter.unusedVariables false
set_option linter.unusedSimpArgs false
set_option linter.unusedSectionVars false
variable {U : Uni} {c c' c'' : Cx U} {e : SE} {Sp : List (FSpec U)} {Post : List (Dyn U.B) → Prop} {Go : Nat → List (Dyn U.B) → Prop} {P : Program} {X : SEnv} {call : CallS} {m : Nat}
variable [Pures] [FullU U]
theorem argsA_ok : ∀ {l : List SV} {l' : List V} (s : Nat), c.vrs l l' → FrR c (argsA s l) (args0 s l')
  | [], l', s, h, i => by simp only [Cx.vrs, VRs] at h; subst h; exact VR.un
  | x :: r, l', s, h, i => by
    simp only [Cx.vrs, VRs] at h
    obtain ⟨v, vr, rfl, h1, h2⟩ := h
    simp only [argsA, args0, lkS, lk]
    cases Nat.beq s i with
    | true => exact h1
    | false => exact argsA_ok (s + 1) h2 i
theorem res_ok {k : SE → List SV → Tr} : ∀ (rs : List ResultVar) {c : Cx U} {e : SE} {A : SA} {A' : AF} {K : List V → Prop}, Ok c e → FrR c A A' →
    (∀ (c' : Cx U) e' l l', Le c c' → c'.S = c.S → c'.σ = c.σ → Ok c' e' → c'.vrs l l' → TDen Sp Post Go (k e' l) c'.ρ → K l') → TDen Sp Post Go (resS U.lay X.tb rs e A c.S k) c.ρ → wresVs X.tb rs A' c.σ K
  | [], c, e, A, A', K, ok, hf, hk, h => hk c e [] [] (Le.refl c) rfl rfl ok (by simp only [Cx.vrs, VRs]) h
  | .tmp t :: r, c, e, A, A', K, ok, hf, hk, h => by
    refine res_ok r ok hf (fun c' e' l l' h1 h2 h3 h4 h5 h6 => ?_) h
    exact hk c' e' _ _ h1 h2 h3 h4 (by simp only [Cx.vrs, VRs]; exact ⟨_, _, rfl, h1.vr (hf t), h5⟩) h6
  | .cell x t :: r, c, e, A, A', K, ok, hf, hk, h => by
    simp only [resS] at h
    split at h
    · exact h.elim
    · rename_i hn
      simp only [wresVs]
      have : vload prims (X.tb t).agg (X.tb t).size (addr (lk A' x)) c.σ fun v => wresVs X.tb r A' c.σ fun l => K (v :: l) :=
        addr_ok ok (hf x) (K := fun v => vload prims (X.tb t).agg (X.tb t).size v c.σ fun v => wresVs X.tb r A' c.σ fun l => K (v :: l)) (fun c1 e1 sv v h1 h2 h3 h4 h5 h6 => by
          rw [← h3]
          rw [← h2] at h6
          refine load_ok h4 h5 (fun c2 e2 sv2 v2 g1 g2 g3 g4 g5 g6 => ?_) h6
          rw [← g3]
          rw [← g2] at g6
          refine res_ok r g4 (hf.later (h1.trans g1)) (fun c' e' l l' q1 q2 q3 q4 q5 q6 => ?_) g6
          exact hk c' e' _ _ ((h1.trans g1).trans q1) (q2.trans (g2.trans h2)) (q3.trans (g3.trans h3)) q4 (by simp only [Cx.vrs, VRs]; exact ⟨_, _, rfl, q1.vr g5, q5⟩) q6) h
      exact not_isNo hn this
theorem wk_of {rs : List ResultVar} {k : V → St → Prop} {x : XEnd} (hx : x = .norm ∨ x = .ret) {A : AF} {σ : St} (h : wresVs X.tb rs A σ fun l => k (oneV l) σ) : wKret X.tb rs k x.exit' A σ := by
  have e : (fun l => k (oneV l) σ) = fun l => (match l with | [v] => k v σ | l => k (.t l) σ) := by
    funext l
    match l with
    | [] => rfl
    | [v] => rfl
    | v :: u :: r => rfl
  rw [e] at h
  rcases hx with rfl | rfl <;> exact h
theorem kRet_ok {rs : List ResultVar} {k : K1} {K : V → St → Prop} (c0 : Cx U) (hk : FollS Sp Post Go c0 k K) {x : XEnd} {c : Cx U} (hl : Le c0 c) {e : SE} {A : SA} {A' : AF} (ok : Ok c e) (hf : FrR c A A')
    (h : TDen Sp Post Go (kRet U.lay X.tb rs k x e A c.S) c.ρ) : wKret X.tb rs K x.exit' A' c.σ := by
  have main : TDen Sp Post Go (resS U.lay X.tb rs e A c.S fun e l => k e (oneOf l) c.S) c.ρ → wresVs X.tb rs A' c.σ fun l => K (oneV l) c.σ := fun h =>
    res_ok rs ok hf (fun c' e' l l' h1 h2 h3 h4 h5 h6 => by
      rw [← h3]
      rw [← h2] at h6
      exact hk c' e' _ _ (hl.trans h1) h4 (oneOf_ok h5) h6) h
  cases x with
  | norm => exact wk_of (.inl rfl) (main h)
  | ret => exact wk_of (.inr rfl) (main h)
  | exit i => exact h.elim
structure EnvOk (P : Program) (U : Uni) (X : SEnv) (Sp : List (FSpec U)) : Prop where
  lay : X.lay = U.lay
  sigs : X.sigs = Sp.map FSpec.sig
  good : ∀ s ∈ Sp, FGood P s
  bodies : ∀ f F, X.bodies f = some F → ∃ en : Ent P X.tb (stlW X.tb), en.f = f ∧ en.F = F
  same : ∀ f, X.same f = true → Ext P f Extern.AbiNoEscape.same
theorem callN_ok (hm : P.follows .mixedOrders = true) (tok : TabOk P X.tb) (hE : EnvOk P U X Sp) : ∀ n, CallSOk (U := U) P Sp Post Go (callN X n)
  | 0 => fun c e f args vs k K ok hv hk h => h.elim
  | n + 1 => fun c e f args vs k K ok hv hk h => by
    have ih := callN_ok hm tok hE n
    simp only [callN] at h
    split at h
    · rename_i hs
      split at h
      · rename_i x
        simp only [Cx.vrs, VRs] at hv
        obtain ⟨v, vr, rfl, h1, rfl⟩ := hv
        refine ext_at (hE.same f hs) (r := v) (fun g w us hr hu => ?_) (hk c e x v (Le.refl c) ok h1 h)
        obtain ⟨u, ur, rfl, q1, q2⟩ := hu
        simp only [VReps] at q2
        subst q2
        exact ⟨u, rfl, q1⟩
      · exact h.elim
    · split at h
      · rename_i i sg hf
        obtain ⟨_, h2, h3⟩ := find_ok hf
        rw [Nat.sub_zero, hE.sigs, List.getElem?_map] at h2
        cases hs : Sp[i]? with
        | none => simp [hs] at h2
        | some s =>
          simp only [hs, Option.map_some, Option.some.injEq] at h2
          subst h2
          rw [hE.lay] at h
          have hgood := hE.good s (List.mem_of_getElem? hs)
          split at h
          · rename_i b obs hst
            unfold FGood at hgood
            rw [hst] at hgood
            have := callSt_ok ok hst hgood hs hv hk h
            rwa [h3] at this
          rename_i hst
          have := call_ok ok (hgood.still hst) hs hv hk h
          rwa [h3] at this
      · split at h
        · exact h.elim
        · rename_i F hF
          split at h
          · rename_i hl
            have hl := ble_nat hl
            obtain ⟨⟨f', H, F', eok, chk⟩, rfl, rfl⟩ := hE.bodies f F hF
            obtain ⟨fn, cd, h1, h2, h3, rfl⟩ := yfunOf_spec eok
            simp only at h hl ⊢
            have hH : hintsOk X.tb (stlW X.tb) H cd = true := by
              unfold yhintOk at chk
              rw [h1] at chk
              simp only [h2] at chk
              exact chk
            have hlen : vs.length = args.length := VRs.len hv
            have hw := sxc_ok (lp := fun _ _ _ _ => .fail) (n := c.σ.length) (m := fn.ntmps) (LP := fun _ _ _ => False) (R := fun c1 => Le c c1) hm tok ih (pure_ok hE.lay hE.sigs hE.good) hE.lay (fun c1 c2 a b => a.trans b) (fun q c1 e1 A A' a b d hh => hh.elim) (K := wKret X.tb fn.results.toList K) hH (fun q h1 h2 A σ hh => hh.elim)
              (fun x c1 e1 A A' r1 ok1 hf1 hA1 hz => by rw [hE.lay] at hz; exact kRet_ok c hk r1 ok1 hf1 hz) (Le.refl c) ok (inA_args0 (by omega)) (argsA_ok 0 hv) h
            rw [toFr_args0 (by omega)] at hw
            exact call_of hm tok h1 h2 h3 (hw.mono fun ex fr σ' ⟨A1, a1, a2, a3⟩ => low_ret ⟨A1, a1, a2, wKret_eq a3⟩)
          · exact h.elim
def inSV (lay : Nat → List Ty) (e : SE) : List In → Nat → List SV
  | [], _ => []
  | .ty t :: r, i => resV lay e i t :: inSV lay e r (i + 1)
  | .fnc f :: r, i => .c (.fn f) :: inSV lay e r i
  | .st _ _ :: r, i => inSV lay e r (i + 1)
  | .ptr o off :: r, i => .c (.ptr o off) :: inSV lay e r i
  | .cloP f l :: r, i => .c (.clo f (l.map fun p => .ptr p.1 p.2)) :: inSV lay e r i
  | .clo f ts :: r, i => .c (.clo f ((List.range' i ts.length).map fun j => match nth e.tys j with | some t => .d t (.at j) | none => .un)) :: inSV lay e r (i + ts.length)
def outK (lay : Nat → List Ty) (S : SSt) : List Ty → List SV → SE → (SE → List Tm → Tr) → Tr
  | [], [], e, k => k e []
  | t :: ts, v :: vs, e, k =>
    (match t with
    | .base b => (match v with | .a l => dataK lay e (.base b) l fun e y => outK lay S ts vs e fun e l => k e (y :: l) | _ => .fail)
    | t => (match v with | .c x => tmK e t x fun e y => outK lay S ts vs e fun e l => k e (y :: l) | _ => .fail))
  | _, _, _, _ => .fail
def kOut (lay : Nat → List Ty) (tb : Tab) (rs : List ResultVar) (outs : List Ty) (x : XEnd) (e : SE) (A : SA) (S : SSt) : Tr :=
  let fin : Tr := resS lay tb rs e A S fun e l => (match frzVs l S with | .some (l', S') => outK lay S' outs l' e fun _ tms => .ret tms | .none => .fail)
  match x with
  | .norm => fin
  | .ret => fin
  | .exit _ => .fail
structure Walk where
  F : YFun
  ins : List In
  outs : List Ty
  tms : List Tmpl
def walk0 (X : SEnv) (n : Nat) (w : Walk) : Tr :=
  sxc X (callN X n) w.F.m (goS X.lay w.F.m w.tms) w.F.code 0 (kOut X.lay X.tb w.F.rs w.outs) ⟨insTys w.ins, [], []⟩ (argsA 0 (inSV X.lay ⟨insTys w.ins, [], []⟩ w.ins 0)) []
def walkL (X : SEnv) (n : Nat) (w : Walk) (q : Nat) : Tr :=
  match nth w.tms q with
  | .none => .fail
  | .some tm => (match Nat.blt tm.q (nl w.F.code) with | true => sxl X (callN X n) w.F.m (goS X.lay w.F.m w.tms) tm.q w.F.code 0 (kOut X.lay X.tb w.F.rs w.outs) ⟨tm.tys, [], []⟩ tm.A tm.S | false => .fail)
theorem in_ok (ok : Ok c e) : ∀ {ins : List In} {i : Nat} {ds : List (Dyn U.B)} {vs : List V}, ArgsR U ins ds vs → (∀ j d, ds[j]? = some d → c.ρ[i + j]? = some d) → c.vrs (inSV U.lay e ins i) vs
  | [], i, ds, vs, h, hi => by
    obtain ⟨rfl, rfl⟩ := h
    simp only [inSV, Cx.vrs, VRs]
  | .ty t :: r, i, ds, vs, h, hi => by
    obtain ⟨d, ds', v, vs', rfl, rfl, rfl, h1, h2⟩ := h
    have g1 := in_ok (i := i + 1) ok h2 fun j d' hj => by
      have := hi (j + 1) d' (by simpa using hj)
      rwa [show i + (j + 1) = i + 1 + j from by omega] at this
    simp only [inSV, Cx.vrs, VRs]; exact ⟨v, vs', rfl, resV_ok ok (by simpa using hi 0 d rfl) h1, g1⟩
  | .fnc f :: r, i, ds, vs, h, hi => by
    obtain ⟨vs', rfl, h2⟩ := h
    have g1 := in_ok ok h2 hi
    simp only [inSV, Cx.vrs, VRs]; exact ⟨_, vs', rfl, VR.c (by simp only [CR]), g1⟩
  | .st b obs :: r, i, ds, vs, h, hi => by
    obtain ⟨d, ds', rfl, _, h2⟩ := h
    have g1 := in_ok (i := i + 1) ok h2 fun j d' hj => by
      have := hi (j + 1) d' (by simpa using hj)
      rwa [show i + (j + 1) = i + 1 + j from by omega] at this
    simpa only [inSV] using g1
  | .ptr o off :: r, i, ds, vs, h, hi => by
    obtain ⟨vs', rfl, h2⟩ := h
    have g1 := in_ok ok h2 hi
    simp only [inSV, Cx.vrs, VRs]; exact ⟨_, vs', rfl, VR.c (by simp only [CR]), g1⟩
  | .cloP f l :: r, i, ds, vs, h, hi => by
    obtain ⟨vs', rfl, h2⟩ := h
    have g1 := in_ok ok h2 hi
    simp only [inSV, Cx.vrs, VRs]
    refine ⟨_, vs', rfl, VR.c ?_, g1⟩
    simp only [CR]
    refine ⟨_, rfl, ?_⟩
    clear h2 g1
    induction l with
    | nil => simp only [List.map_nil, CRs]
    | cons p r ih => simp only [List.map_cons, CRs, CR]; exact ⟨_, _, rfl, rfl, ih⟩
  | .clo f ts :: r, i, ds, vs, h, hi => by
    obtain ⟨d1, ds', fs, vs', rfl, rfl, h1, h2, h3⟩ := h
    have hl1 : d1.length = ts.length := by rw [← h1]; simp
    have g1 := in_ok (i := i + ts.length) ok h3 fun j d' hj => by
      have := hi (ts.length + j) d' (by rw [List.getElem?_append_right (by omega), hl1, Nat.add_sub_cancel_left]; exact hj)
      rwa [← Nat.add_assoc] at this
    simp only [inSV, Cx.vrs, VRs]
    refine ⟨_, vs', rfl, VR.c ?_, g1⟩
    simp only [CR]
    refine ⟨_, rfl, ?_⟩
    have key : ∀ (k s : Nat) {d2 : List (Dyn U.B)} {gs : List F}, (∀ j d, d2[j]? = some d → c.ρ[s + j]? = some d) → d2.length = k → FDs U gs d2 → CRs c.ρ c.β c.ι ((List.range' s k).map fun j => match nth e.tys j with | some t => .d t (.at j) | none => .un) (List.map C.f gs) := by
      intro k
      induction k with
      | zero =>
        intro s d2 gs _ hk hg
        have : d2 = [] := List.eq_nil_of_length_eq_zero hk
        subst this
        have : gs = [] := List.eq_nil_of_length_eq_zero (by rw [hg.len]; rfl)
        subst this
        simp only [List.range'_zero, List.map_nil, CRs]
      | succ k ih =>
        intro s d2 gs hd hk hg
        match d2, gs, hk, hg, hd with
        | d :: d2, g :: gs, hk, hg, hd =>
          obtain ⟨_, _, e1, q1, q2⟩ := hg
          cases e1
          simp only [List.range'_succ, List.map_cons, CRs]
          have h0 : c.ρ[s]? = some d := by simpa using hd 0 d rfl
          have ht : nth e.tys s = some d.t := by rw [nth_eq, ok.tys, List.getElem?_map, h0]; rfl
          refine ⟨_, _, rfl, ?_, ih (s + 1) (fun j d' hj => ?_) (by simpa using hk) q2⟩
          · rw [ht]
            simp only [CR]
            exact ⟨g, d, rfl, h0, rfl, q1⟩
          · have := hd (j + 1) d' (by simpa using hj)
            rwa [show s + (j + 1) = s + 1 + j from by omega] at this
        | d :: d2, [], hk, hg, hd => have := hg.len; simp at this
    exact key ts.length i (fun j d hj => hi j d (by rw [List.getElem?_append_left (List.getElem?_eq_some_iff.1 hj).1]; exact hj)) hl1 h2
def plainIns : List In → Bool
  | [] => true
  | .st _ _ :: _ => false
  | .ptr _ _ :: _ => false
  | .cloP _ _ :: _ => false
  | _ :: r => plainIns r
theorem plain_st : ∀ {ins : List In}, plainIns ins = true → stOf ins = none
  | [], _ => rfl
  | i :: r, h => by cases i <;> first | rfl | (simp only [plainIns] at h; cases h)
theorem in_free : ∀ {ins : List In} {ds : List (Dyn U.B)} {vs : List V}, plainIns ins = true → ArgsR U ins ds vs → V.frees vs = true
  | [], ds, vs, _, h => by obtain ⟨rfl, rfl⟩ := h; rfl
  | .ty t :: r, ds, vs, hp, h => by
    obtain ⟨d, ds', v, vs', rfl, rfl, rfl, h1, h2⟩ := h
    have hv : v.free = true := by
      unfold DV at h1
      split at h1
      · obtain ⟨fs, rfl, _⟩ := h1; exact frees_map fs
      · obtain ⟨f, rfl, _⟩ := h1; rfl
    simp only [V.frees, hv, in_free (ins := r) hp h2]
  | .fnc f :: r, ds, vs, hp, h => by
    obtain ⟨vs', rfl, h2⟩ := h
    simp only [V.frees, V.free, C.free, in_free (ins := r) hp h2]
  | .clo f ts :: r, ds, vs, hp, h => by
    obtain ⟨d1, ds', fs, vs', rfl, rfl, h1, h2, h3⟩ := h
    simp only [V.frees, V.free, C.free, frees_map, in_free (ins := r) hp h3]
  | .st _ _ :: _, ds, vs, hp, h => by cases hp
  | .ptr _ _ :: _, ds, vs, hp, h => by cases hp
  | .cloP _ _ :: _, ds, vs, hp, h => by cases hp
theorem DVs.free : ∀ {ds : List (Dyn U.B)} {vs : List V}, DVs U ds vs → V.frees vs = true
  | [], vs, h => by simp only [DVs] at h; subst h; rfl
  | d :: ds, vs, h => by
    obtain ⟨v, vr, rfl, h1, h2⟩ := h
    have hv : v.free = true := by
      unfold DV at h1
      split at h1
      · obtain ⟨fs, rfl, _⟩ := h1; exact frees_map fs
      · obtain ⟨f, rfl, _⟩ := h1; rfl
    simp only [V.frees, hv, DVs.free h2]
theorem out_ok : ∀ {outs : List Ty} {c : Cx U} {e : SE} (ok : Ok c e) {l : List SV} {vs : List V} (hv : c.vrs l vs) {k : SE → List Tm → Tr} (h : TDen Sp Post Go (outK U.lay c.S outs l e k) c.ρ),
    ∃ c' e' tms ds, Le c c' ∧ Ok c' e' ∧ tms.map (Tm.den? c'.ρ) = List.map Option.some ds ∧ DVs U ds vs ∧ TDen Sp Post Go (k e' tms) c'.ρ
  | [], c, e, ok, l, vs, hv, k, h => by
    cases l with
    | nil =>
      simp only [Cx.vrs, VRs] at hv
      subst hv
      exact ⟨c, e, [], [], Le.refl c, ok, rfl, rfl, h⟩
    | cons x l => exact h.elim
  | t :: ts, c, e, ok, l, vs, hv, k, h => by
    cases l with
    | nil => exact h.elim
    | cons x l =>
      simp only [Cx.vrs, VRs] at hv
      obtain ⟨v, vr, rfl, h1, h2⟩ := hv
      simp only [outK] at h
      split at h
      · rename_i b
        split at h
        · rename_i cs
          simp only [VR] at h1
          obtain ⟨ys, rfl, h1⟩ := h1
          obtain ⟨c1, e1, y, d, fs, p1, p2, p3, p4, rfl, p6, p7, p8, p9⟩ := data_ok ok h1 h
          rw [← p2] at p9
          obtain ⟨c2, e2, tms, ds, q1, q2, q3, q4, q5⟩ := out_ok p4 (p1.vrs h2) p9
          refine ⟨c2, e2, y :: tms, d :: ds, p1.trans q1, q2, ?_, ⟨_, vr, rfl, ?_, q4⟩, q5⟩
          · simp only [List.map_cons, q3, q1.den p6]
          · unfold DV; rw [p7]; exact ⟨fs, rfl, p8⟩
        · exact h.elim
      · rename_i hnb
        split at h
        · rename_i y
          by_cases hun : y = .un
          · subst hun; exact h.elim
          obtain ⟨y0, rfl, h1'⟩ := V_c hun h1
          obtain ⟨c1, e1, a, d, f, p1, p2, p3, p4, rfl, p6, p7, p8, p9⟩ := tm_ok ok h1' h
          rw [← p2] at p9
          obtain ⟨c2, e2, tms, ds, q1, q2, q3, q4, q5⟩ := out_ok p4 (p1.vrs h2) p9
          refine ⟨c2, e2, a :: tms, d :: ds, p1.trans q1, q2, ?_, ⟨_, vr, rfl, ?_, q4⟩, q5⟩
          · simp only [List.map_cons, q3, q1.den p6]
          · unfold DV; rw [p7]; cases t <;> first | exact ⟨f, rfl, p8⟩ | exact (hnb _ rfl).elim
        · exact h.elim
theorem hard_one {vs vs' : List V} {σ σ' : St} (h : hardVs vs σ = some (vs', σ')) : hardV (oneV vs) σ = some (oneV vs', σ') := by
  have hlen : ∀ (l : List V) (σ : St) {l' : List V} {σ' : St}, hardVs l σ = some (l', σ') → l'.length = l.length := by
    intro l
    induction l with
    | nil => intro σ l' σ' h; simp only [hardVs, Option.some.injEq, Prod.mk.injEq] at h; rw [← h.1]
    | cons x r ih =>
      intro σ l' σ' h
      simp only [hardVs] at h
      split at h
      · cases h
      · split at h
        · rename_i hr
          cases h
          simp [ih _ hr]
        · cases h
  have hl := hlen _ _ h
  match vs, vs', hl, h with
  | [], [], _, h => simp only [hardVs, Option.some.injEq, Prod.mk.injEq] at h; simp only [oneV, hardV, hardVs, h.2]
  | [x], [y], _, h =>
    simp only [hardVs] at h
    simp only [oneV]
    split at h
    · cases h
    · rename_i y' σ1 hx
      simp only [Option.some.injEq, Prod.mk.injEq, List.cons.injEq, and_true] at h
      rw [hx, h.1, h.2]
  | x :: y :: r, x' :: y' :: r', _, h => simp only [oneV, hardV, h]
theorem kOut_ok {rs : List ResultVar} {outs : List Ty} {ds0 : List (Dyn U.B)} (hP : ∀ l, Post l → l = ds0) {x : XEnd} {c : Cx U} {e : SE} {A : SA} {A' : AF} (ok : Ok c e) (hf : FrR c A A') (h : TDen Sp Post Go (kOut U.lay X.tb rs outs x e A c.S) c.ρ) :
    wKret X.tb rs (fun r τ => ∃ u τ', hardV r τ = some (u, τ') ∧ u.free = true ∧ ResR U ds0 u) x.exit' A' c.σ := by
  have main : TDen Sp Post Go (resS U.lay X.tb rs e A c.S fun e l => (match frzVs l c.S with | .some (l', S') => outK U.lay S' outs l' e fun _ tms => .ret tms | .none => .fail)) c.ρ →
      wresVs X.tb rs A' c.σ fun l => (fun r τ => ∃ u τ', hardV r τ = some (u, τ') ∧ u.free = true ∧ ResR U ds0 u) (oneV l) c.σ := fun h =>
    res_ok rs ok hf (fun c' e' l l' h1 h2 h3 h4 h5 h6 => by
      rw [← h2] at h6
      split at h6
      · rename_i l2 S2 hz
        obtain ⟨c2, vs2, q1, rfl, q3, q4, q5, q6, q7⟩ := frzVs_ok l h4 h5 hz
        rw [← q3] at h6
        obtain ⟨c3, e3, tms, ds, p1, p2, p3, p4, p5⟩ := out_ok q4 q5 h6
        have := hP _ p5
        rw [den_map p3] at this
        subst this
        rw [h3] at q6
        refine ⟨oneV vs2, _, hard_one q6, ?_, vs2, p4, rfl⟩
        have hfr := p4.free
        unfold oneV
        split
        · rename_i v
          simp only [V.frees] at hfr
          split at hfr
          · assumption
          · cases hfr
        · exact hfr
      · exact h6.elim) h
  cases x with
  | norm => exact wk_of (.inl rfl) (main h)
  | ret => exact wk_of (.inr rfl) (main h)
  | exit i => exact h.elim
def Walked (Sp : List (FSpec U)) (X : SEnv) (n : Nat) (w : Walk) (s : FSpec U) : Prop :=
  ∀ (x : HL U (insTys s.sig.ins)), s.pre x → ∀ R : List (Dyn U.B), R = s.fn x → ∀ Go : Nat → List (Dyn U.B) → Prop,
    (∀ (q : Nat) (α : Type) (ρ : α → List (Dyn U.B)) (I : α → Prop) (μ : α → Nat), (∀ y, I y → (∀ z, μ z < μ y → I z → Go q (ρ z)) → TDen Sp (fun l => l = R) Go (walkL X n w q) (ρ y)) → ∀ y, I y → Go q (ρ y)) →
    TDen Sp (fun l => l = R) Go (walk0 X n w) (HL.dyn _ x)
theorem walk_ok (hm : P.follows .mixedOrders = true) (tok : TabOk P X.tb) (hE : EnvOk P U X Sp) {n : Nat} (en : Ent P X.tb (stlW X.tb)) {w : Walk} (hF : w.F = en.F) {s : FSpec U} (hs : s.sig = ⟨en.f, w.ins, w.outs⟩) (hl : Nat.ble w.ins.length w.F.m = true) (h0 : plainIns w.ins = true)
    (h : Walked Sp X n w s) : FGood P s := by
  obtain ⟨sig, pre, fn, ty⟩ := s
  cases hs
  unfold FGood
  rw [show stOf (Sig.mk en.f w.ins w.outs).ins = none from plain_st h0]
  intro x vs ha hpre
  obtain ⟨f, H, F, eok, chk⟩ := en
  obtain ⟨F', ins, outs, tms⟩ := w
  cases hF
  obtain ⟨fn', cd, h1, h2, h3, rfl⟩ := yfunOf_spec eok
  have hH : hintsOk X.tb (stlW X.tb) H cd = true := by
    unfold yhintOk at chk
    rw [h1] at chk
    simp only [h2] at chk
    exact chk
  let ds := HL.dyn (insTys ins) x
  let c0 : Cx U := ⟨ds, fun _ => 0, [], []⟩
  have ok0 : Ok c0 ⟨insTys ins, [], []⟩ := ⟨(dyn_t _ x).symm, fun p hp => (by cases hp), fun p hp => (by cases hp), rfl, fun o so ho => by simp [c0] at ho⟩
  have a1 := in_ok (i := 0) ok0 ha fun j d hj => by rw [Nat.zero_add]; exact hj
  have a2 := in_free h0 ha
  let k0 : V → St → Prop := fun r τ => ∃ u τ', hardV r τ = some (u, τ') ∧ u.free = true ∧ ResR U (fn x) u
  let K0 := wKret X.tb fn'.results.toList k0
  let LP : Nat → AF → St → Prop := fun q A σ => LoopQ P 0 fn'.ntmps cd 0 K0 q A σ
  let Go : Nat → List (Dyn U.B) → Prop := fun q vals => ∀ tm, nth tms q = some tm → AtHead tm fn'.ntmps 0 (LP tm.q) vals
  have hcall := callN_ok (Post := fun l => l = fn x) (Go := Go) hm tok hE n
  have hlp : ∀ q (c : Cx U) e A A', Ok c e → FrR c A A' → inA fn'.ntmps A' → TDen Sp (fun l => l = fn x) Go (goS X.lay fn'.ntmps tms q e A c.S) c.ρ → LP q A' c.σ := fun q c e A A' ok hf hA hD => by
    rw [hE.lay] at hD
    exact go_ok (n := 0) (LP := LP q) ok hA hf (fun A1 σ1 A2 σ2 _ _ hg hh => loopQ_ghost A1 σ1 A2 σ2 hg hh) (Nat.le_refl 0) (fun i tm vals htm hq _ hG => by subst hq; exact hG tm htm) hD
  have hk : ∀ y (c' : Cx U) e' A A', Ok c' e' → FrR c' A A' → inA fn'.ntmps A' → TDen Sp (fun l => l = fn x) Go (kOut X.lay X.tb fn'.results.toList outs y e' A c'.S) c'.ρ → K0 y.exit' A' c'.σ := fun y c' e' A A' ok' hf' hA' hz => by
    rw [hE.lay] at hz
    exact kOut_ok (fun l hl => hl) ok' hf' hz
  have hw := h x hpre _ rfl Go fun q α ρ I μ H' => by
    have key : ∀ M y, μ y = M → I y → Go q (ρ y) := by
      intro M
      induction M using Nat.strongRecOn with
      | _ M ih =>
        intro y hy hI tm htm ct A' hρ hS okt hft hAt
        have hD := H' y hI fun z hz hIz => ih (μ z) (hy ▸ hz) z rfl hIz
        unfold walkL at hD
        simp only [htm] at hD
        split at hD
        · rename_i hq
          have hq := blt_nat hq
          rw [← hρ, ← hS] at hD
          rw [nl_eq] at hq
          exact sxl_ok hm tok hcall (pure_ok hE.lay hE.sigs hE.good) hE.lay (R := fun _ => True) (fun _ _ _ _ => trivial) hlp (LP := LP) (fun _ => trivial) hH (fun q' _ _ A σ hh => hh) (Nat.zero_le _) (by omega) hk okt hAt hft hD
        · exact hD.elim
    exact fun y hI => key _ y rfl hI
  have hlen : vs.length = (inSV X.lay ⟨insTys ins, [], []⟩ ins 0).length := by rw [hE.lay]; exact VRs.len a1
  have hins : ∀ (ins : List In) (i : Nat) (e : SE), (inSV X.lay e ins i).length ≤ ins.length := by
    intro ins
    induction ins with
    | nil => intro i e; exact Nat.le_refl _
    | cons a r ih =>
      intro i e
      cases a <;> simp only [inSV, List.length_cons] <;> first | exact Nat.succ_le_succ (ih _ _) | exact Nat.le_succ_of_le (ih _ _)
  have hins := hins ins 0 ⟨insTys ins, [], []⟩
  have hl := ble_nat hl
  simp only at hl
  have hw' : DWp P 0 cd (low fn'.ntmps K0) (toFr fn'.ntmps (args0 0 vs)) [] := by
    refine sxc_ok (c := c0) hm tok hcall (pure_ok hE.lay hE.sigs hE.good) hE.lay (R := fun _ => True) (fun _ _ _ _ => trivial) hlp (LP := LP) hH (fun q' _ _ A σ hh => hh) (fun y c' e' A A' _ => hk y c' e' A A') trivial ok0 (inA_args0 (by omega)) (argsA_ok 0 a1) ?_
    have := hw
    unfold walk0 at this
    simp only at this
    rw [hE.lay] at this ⊢
    exact this
  rw [toFr_args0 (by omega)] at hw'
  have hc : CallAt P f vs [] k0 := call_of hm tok h1 h2 h3 (hw'.mono fun ex fr σ' ⟨A1, b1, b2, b3⟩ => low_ret ⟨A1, b1, b2, wKret_eq b3⟩)
  intro σ
  exact call_nil (σ := σ) a2 hc fun r τ hh => hh
end Go.Dm.Sx
namespace Go.Dm.Sx
open Go.Dm
set_option linter.unusedVariables false
set_option linter.unusedSimpArgs false
set_option linter.unusedSectionVars false
def stC (lay : Nat → List Ty) (e : SE) : IC → SC
  | .d j => cellOf lay e 0 j
  | .row o _ => .rs o 0
  | .ptr o off => .ptr o off
  | .mp o => .mp o
def stO (lay : Nat → List Ty) (e : SE) : IO → SOb
  | .cells l => .cells (l.map (stC lay e))
  | .row w ty sz t j => .arr w 0 ty sz t (.fld 0 j)
def shapeC (lb : List Ty) (obs : List IO) : List IC → Bool
  | [] => true
  | .d j :: r => (match Nat.blt j lb.length with | true => shapeC lb obs r | false => false)
  | .row o j :: r => (match isRow obs o j with | true => shapeC lb obs r | false => false)
  | .ptr o _ :: r => (match Nat.blt o obs.length with | true => shapeC lb obs r | false => false)
  | .mp _ :: _ => false
def shapeO (lb : List Ty) (obs : List IO) : List IO → Bool
  | [] => true
  | .cells l :: r => (match shapeC lb obs l with | true => shapeO lb obs r | false => false)
  | .row _ _ _ t j :: r => (match isLstT lb j t with | true => shapeO lb obs r | false => false)
def renil1 (S : SSt) (p i o : Nat) : SSt :=
  match nth S p, nth S o with
  | .some (.cells l), .some (.arr w k ty sz t x) => (match nth l i with | .some .nil => put (put S o (.arr true (k + 1) ty sz t (.nil t))) p (.cells (put l i (.rs o (k + 1)))) | _ => S)
  | _, _ => S
def renilC (p : Nat) : List IC → Nat → SSt → SSt
  | [], _, S => S
  | .row o _ :: r, i, S => renilC p r (i + 1) (renil1 S p i o)
  | _ :: r, i, S => renilC p r (i + 1) S
def renilO : List IO → Nat → SSt → SSt
  | [], _, S => S
  | .cells l :: r, p, S => renilO r (p + 1) (renilC p l 0 S)
  | .row .. :: r, p, S => renilO r (p + 1) S
def endK (lay : Nat → List Ty) (outs : List Ty) (b : Nat) (obs : List IO) (S : SSt) (e : SE) (l : List SV) : Tr :=
  match frzVs l (renilO obs 0 S) with
  | .some (l', S') =>
    (match chkOs (lay b) obs (List.range obs.length) S' obs 0, fldsAt S' (List.range obs.length) obs 0 (lay b).length, outs with
    | true, .some fl, _ :: outs' => dataK lay e (.base b) fl fun e y => outK lay S' outs' l' e fun _ tms => .ret (y :: tms)
    | _, _, _ => .fail)
  | .none => .fail
def kOutS (lay : Nat → List Ty) (tb : Tab) (rs : List ResultVar) (outs : List Ty) (b : Nat) (obs : List IO) (x : XEnd) (e : SE) (A : SA) (S : SSt) : Tr :=
  match x with
  | .norm => resS lay tb rs e A S (endK lay outs b obs S)
  | .ret => resS lay tb rs e A S (endK lay outs b obs S)
  | .exit _ => .fail
def goN (lay : Nat → List Ty) (m : Nat) (tms : List Tmpl) (n : Nat) (j : Nat) (e : SE) (A : SA) (S : SSt) : Tr := goF lay m n j e A S tms 0
variable [Pures]
def walkS0 (X : SEnv) (n : Nat) (w : Walk) (b : Nat) (obs : List IO) : Tr :=
  match shapeO (X.lay b) obs obs with
  | true => sxc X (callN X n) w.F.m (goN X.lay w.F.m w.tms obs.length) w.F.code 0 (kOutS X.lay X.tb w.F.rs w.outs b obs) ⟨insTys w.ins, [], []⟩ (argsA 0 (inSV X.lay ⟨insTys w.ins, [], []⟩ w.ins 0)) (obs.map (stO X.lay ⟨insTys w.ins, [], []⟩))
  | false => .fail
def walkSL (X : SEnv) (n : Nat) (w : Walk) (b : Nat) (obs : List IO) (q : Nat) : Tr :=
  match nth w.tms q with
  | .none => .fail
  | .some tm => (match Nat.blt tm.q (nl w.F.code) with | true => sxl X (callN X n) w.F.m (goN X.lay w.F.m w.tms obs.length) tm.q w.F.code 0 (kOutS X.lay X.tb w.F.rs w.outs b obs) ⟨tm.tys, [], []⟩ tm.A tm.S | false => .fail)
variable {U : Uni} [FullU U] {c c' c'' : Cx U} {e : SE} {Sp : List (FSpec U)} {Post : List (Dyn U.B) → Prop} {Go : Nat → List (Dyn U.B) → Prop} {P : Program} {X : SEnv} {call : CallS} {m : Nat}
theorem gh_drop {σ : St} {o : Nat} {w0 : Bool} {E sz : Nat} {fs : List F} (ho : σ[o]? = some (.arr w0 E sz fs)) : ∀ g w, Rep g w σ → ∃ g', Rep g' w (σ.set o (.arr true (E + 4294967296) sz [])) ∧ Turn g w σ g' w (σ.set o (.arr true (E + 4294967296) sz [])) ∧ g'.blk o = none ∧ g'.cap o = 0 := by
  intro g w hr
  let g' : G := ⟨g.Z, fun j => if j = o then none else g.blk j, fun j => if j = o then 0 else g.cap j⟩
  have hg : ∀ {j : Nat} {x : Ob}, (σ.set o (.arr true (E + 4294967296) sz []))[j]? = some x ↔ (j = o ∧ x = .arr true (E + 4294967296) sz []) ∨ (j ≠ o ∧ σ[j]? = some x) := get_set ho
  have own : ∀ {b i : Nat}, Own g' (σ.set o (.arr true (E + 4294967296) sz [])) b i → Own g σ b i := fun {b i} h => by
    obtain ⟨j, x, h1, h2, h3⟩ := own_iff.1 h
    rcases hg.1 h1 with ⟨rfl, rfl⟩ | ⟨h4, h5⟩
    · simp [g'] at h2
    · have h2' : g.blk j = some b := by simpa [g', h4] using h2
      exact own_iff.2 ⟨j, x, h5, h2', h3⟩
  have ht : Turn g w σ g' w (σ.set o (.arr true (E + 4294967296) sz [])) :=
    { os := rfl, tape := rfl, output := rfl, size := Nat.le_refl _, whole := fun _ _ _ => rfl, zs := fun b i hz => ⟨hz, rfl⟩, znew := fun b i _ hz => .inl hz, onew := fun b i _ h => own h,
      turns := fun i ob h => by
        by_cases e1 : i = o
        · subst e1
          rw [ho] at h; cases h
          exact ⟨_, hg.2 (.inl ⟨rfl, rfl⟩), .inl (by omega)⟩
        · exact ⟨ob, hg.2 (.inr ⟨e1, h⟩), by cases ob <;> simp [ObTurn, g', e1]⟩,
      blks := fun i ob h hrow => by
        have e1 : i ≠ o := fun e1 => by subst e1; rw [ho] at h; cases h; cases hrow
        simp [g', e1] }
  refine ⟨g', ⟨fun i ob h => ?_, fun i j a b k hi hj la lb hbi hbj => ?_, fun b i hz h => hr.apart b i hz (own h), hr.inside⟩, ht, by simp [g'], by simp [g']⟩
  · rcases hg.1 h with ⟨rfl, rfl⟩ | ⟨h4, h5⟩
    · exact .inl ⟨by simp [g'], rfl, by simp [g']⟩
    · by_cases hl : live ob = true
      · exact (hr.ob i ob h5).keep ht (fun _ _ => rfl) (by simp [g', h4]) (by simp [g', h4])
      · cases ob <;> simp_all [live, ObRep]
  · have get : ∀ {i : Nat} {a : Ob}, (σ.set o (.arr true (E + 4294967296) sz []))[i]? = some a → g'.blk i = some k → σ[i]? = some a ∧ g.blk i = some k := fun {i a} h hb => by
      rcases hg.1 h with ⟨rfl, rfl⟩ | ⟨h4, h5⟩
      · simp [g'] at hb
      · exact ⟨h5, by simpa [g', h4] using hb⟩
    obtain ⟨a1, a2⟩ := get hi hbi
    obtain ⟨b1, b2⟩ := get hj hbj
    exact hr.inj i j a b k a1 b1 la lb a2 b2
theorem gh_renil {σ : St} {p i o : Nat} {l : List Dm.C} {w0 : Bool} {E sz : Nat} {fs : List F} (hp : σ[p]? = some (.cells l)) (hi : l[i]? = some (.f .nils)) (ho : σ[o]? = some (.arr w0 E sz fs)) :
    Gh σ ((σ.set o (.arr true (E + 4294967296) sz [])).set p (.cells (l.set i (.rs o (E + 4294967296) 0)))) := by
  intro g w hr
  have hne : p ≠ o := fun e1 => by subst e1; rw [hp] at ho; cases ho
  obtain ⟨g1, r1, t1, b1, c1⟩ := gh_drop ho g w hr
  have hp1 : (σ.set o (.arr true (E + 4294967296) sz []))[p]? = some (.cells l) := (get_set ho).2 (.inr ⟨hne, hp⟩)
  obtain ⟨b, vs, T, fz, a1, a2, a3, a4⟩ := r1.ob p _ hp1
  obtain ⟨v, v1, v2⟩ := a4.get hi
  have v2 : v = .slice none 0 0 := v2
  subst v2
  have hcr : CRep g1 w (σ.set o (.arr true (E + 4294967296) sz [])) (.rs o (E + 4294967296) 0) (.slice none 0 0) := by
    refine ⟨rfl, _, (get_set ho).2 (.inl ⟨rfl, rfl⟩), Nat.le_refl _, fun _ => ⟨by rw [b1, c1]; rfl, by simp, Nat.zero_le _⟩⟩
  have hset := a4.set i hcr
  have e1 : vs.toList.set i (.slice none 0 0) = vs.toList := by
    apply List.ext_getElem?
    intro j
    rw [List.getElem?_set]
    split
    · rename_i e1; subst e1
      rw [v1, if_pos (List.getElem?_eq_some_iff.1 v1).1]
    · rfl
  rw [e1] at hset
  obtain ⟨r2, t2⟩ := recast r1 hp1 a1 a2 a3 hset
  exact ⟨g1, r2, t1.trans t2⟩
theorem renil1_ok (ok : Ok c e) (p i o : Nat) : ∃ c', Le c c' ∧ Ok c' e ∧ c'.S = renil1 c.S p i o ∧ c'.ρ = c.ρ ∧ Gh c.σ c'.σ := by
  have none_ : ∃ c', Le c c' ∧ Ok c' e ∧ c'.S = c.S ∧ c'.ρ = c.ρ ∧ Gh c.σ c'.σ := ⟨c, Le.refl c, ok, rfl, rfl, Gh.refl _⟩
  unfold renil1
  split
  · rename_i l w k ty sz t x hp ho
    split
    · rename_i hi
      have hne : p ≠ o := fun e1 => by subst e1; rw [hp] at ho; cases ho
      obtain ⟨ys, gs, q1, q2, q3, q4, q5, q6⟩ := arr_at ok ho
      obtain ⟨ob, h1, l', rfl, h2⟩ := ok.get hp
      rw [nth_eq] at hi
      obtain ⟨y, y1, y2⟩ := h2.get hi
      simp only [CR] at y2
      subst y2
      obtain ⟨A1, A2⟩ := set_arr ok ho q1 (k2 := k + 1) (x2 := .nil t) (ys := ([] : List (T U.B t))) (fs := []) true rfl (.inl (by omega)) rfl
      have hp1 : nth (c.set o (.arr true (k + 1) ty sz t (.nil t)) (.arr true (c.β o + (k + 1) * 4294967296) sz [])).S p = some (.cells l) := by
        rw [nth_eq] at hp ⊢
        show (c.S.set o _)[p]? = _
        rw [List.getElem?_set_ne (Ne.symm hne)]; exact hp
      have hlt : o < c.S.length := by rw [nth_eq] at ho; exact (List.getElem?_eq_some_iff.1 ho).1
      have hinf : (c.set o (.arr true (k + 1) ty sz t (.nil t)) (.arr true (c.β o + (k + 1) * 4294967296) sz [])).ι o = some (k + 1, 0) := by
        show inf c.ρ (c.S.set o _) o = _
        simp only [inf, List.getElem?_set_self hlt, Tm.den?, lenOf]
        rfl
      have hcr : Cx.cr (c.set o (.arr true (k + 1) ty sz t (.nil t)) (.arr true (c.β o + (k + 1) * 4294967296) sz [])) (.rs o (k + 1)) (.rs o (c.β o + (k + 1) * 4294967296) 0) := by
        simp only [Cx.cr, CR]
        exact ⟨0, k + 1, 0, rfl, hinf, Nat.le_refl _, fun _ => rfl⟩
      have hcs : CRs _ _ _ (l.set i (.rs o (k + 1))) (l'.set i (.rs o (c.β o + (k + 1) * 4294967296) 0)) := (CRs.later A1 h2).set i hcr
      obtain ⟨B1, B2⟩ := set_cells (so' := .cells (l.set i (.rs o (k + 1)))) (ob' := .cells (l'.set i (.rs o (c.β o + (k + 1) * 4294967296) 0))) A2 hp1 (by simp) fun ρ β ι hl => ⟨_, rfl, CRs.later hl hcs⟩
      refine ⟨_, A1.trans B1, B2, ?_, rfl, ?_⟩
      · show (c.S.set o _).set p _ = put (put c.S o _) p _
        rw [put_eq, put_eq, put_eq]
      · have := gh_renil h1 y1 q2
        rwa [show c.β o + k * 4294967296 + 4294967296 = c.β o + (k + 1) * 4294967296 by omega] at this
    · exact none_
  · exact none_
theorem renilC_ok (p : Nat) : ∀ (l : List IC) (i : Nat) {c : Cx U} (ok : Ok c e), ∃ c', Le c c' ∧ Ok c' e ∧ c'.S = renilC p l i c.S ∧ c'.ρ = c.ρ ∧ Gh c.σ c'.σ
  | [], i, c, ok => ⟨c, Le.refl c, ok, rfl, rfl, Gh.refl _⟩
  | x :: r, i, c, ok => by
    cases x with
    | row o j =>
      obtain ⟨c1, a1, a2, a3, a4, a5⟩ := renil1_ok ok p i o
      obtain ⟨c2, b1, b2, b3, b4, b5⟩ := renilC_ok p r (i + 1) a2
      exact ⟨c2, a1.trans b1, b2, by rw [b3, a3]; rfl, b4.trans a4, a5.trans b5⟩
    | _ =>
      obtain ⟨c2, b1, b2, b3, b4, b5⟩ := renilC_ok p r (i + 1) ok
      exact ⟨c2, b1, b2, b3, b4, b5⟩
theorem renilO_ok : ∀ (l : List IO) (p : Nat) {c : Cx U} (ok : Ok c e), ∃ c', Le c c' ∧ Ok c' e ∧ c'.S = renilO l p c.S ∧ c'.ρ = c.ρ ∧ Gh c.σ c'.σ
  | [], p, c, ok => ⟨c, Le.refl c, ok, rfl, rfl, Gh.refl _⟩
  | x :: r, p, c, ok => by
    cases x with
    | cells l =>
      obtain ⟨c1, a1, a2, a3, a4, a5⟩ := renilC_ok p l 0 ok
      obtain ⟨c2, b1, b2, b3, b4, b5⟩ := renilO_ok r (p + 1) a2
      exact ⟨c2, a1.trans b1, b2, by rw [b3, a3]; rfl, b4.trans a4, a5.trans b5⟩
    | row =>
      obtain ⟨c2, b1, b2, b3, b4, b5⟩ := renilO_ok r (p + 1) ok
      exact ⟨c2, b1, b2, b3, b4, b5⟩
theorem rn_id {n : Nat} {E : Nat → Nat} : ∀ {x y : Dm.C}, RnC (emOf (List.range n) E E) x y → x = y := by
  intro x
  induction x using Dm.C.rec (motive_2 := fun l => ∀ m, RnCs (emOf (List.range n) E E) l m → l = m) with
  | f x => intro y h; exact h.symm
  | ptr o off =>
    intro y h
    obtain ⟨h1, rfl⟩ := h
    have h1 : o < (List.range n).length := h1
    show _ = Dm.C.ptr ((List.range n).getD o 0) off
    rw [List.getD_eq_getElem?_getD, List.getElem?_eq_getElem h1]; simp
  | rs o e k =>
    intro y h
    obtain ⟨h1, rfl, rfl⟩ := h
    have h1 : o < (List.range n).length := h1
    show _ = Dm.C.rs ((List.range n).getD o 0) (E o) k
    rw [List.getD_eq_getElem?_getD, List.getElem?_eq_getElem h1]; simp; rfl
  | mp o =>
    intro y h
    obtain ⟨h1, rfl⟩ := h
    have h1 : o < (List.range n).length := h1
    show _ = Dm.C.mp ((List.range n).getD o 0)
    rw [List.getD_eq_getElem?_getD, List.getElem?_eq_getElem h1]; simp
  | clo f caps ih => intro y h; obtain ⟨l, rfl, h1⟩ := h; rw [ih l h1]
  | un => intro y h; exact h.symm
  | pa o e off => intro y h; exact h.elim
  | ep cs off => intro y h; exact h.symm
  | nil => rename_i m h; exact h.symm
  | cons c r ih1 ih2 => rename_i m h; obtain ⟨c', r', rfl, h1, h2⟩ := h; rw [ih1 h1, ih2 r' h2]
theorem rnCs_id {n : Nat} {E : Nat → Nat} : ∀ {x y : List Dm.C}, RnCs (emOf (List.range n) E E) x y → x = y
  | [], y, h => h.symm
  | c :: r, y, h => by obtain ⟨c', r', rfl, h1, h2⟩ := h; rw [rn_id h1, rnCs_id h2]
theorem rnO_id {n o : Nat} {E : Nat → Nat} {x y : Ob} (h : RnO (emOf (List.range n) E E) o x y) : x = y := by
  cases x <;> simp only [RnO] at h
  · obtain ⟨l', rfl, h1⟩ := h; rw [rnCs_id h1]
  · obtain ⟨h1, rfl⟩ := h; rw [h1]; rfl
  · exact h.symm
  · obtain ⟨x', rfl, h1⟩ := h; rw [rn_id h1]
  · exact h.symm
theorem fld_ok {os : List Nat} {obs : List IO} {b : Nat} {gs : List F} {d : Dyn U.B} (g2 : gs.length = (U.lay b).length) (g3 : ∀ (m : Nat) g, gs[m]? = some g → ∃ q, locOf (0 + m) obs 0 = some q ∧ AtLoc c os q g) (hd : d.t = .base b) (hf : FDs U gs (cells U d)) : FldOk c os obs (U.lay b) d := fun j q hq hj => by
  have hgl : gs[j]? = some (gs[j]'(by omega)) := List.getElem?_eq_getElem _
  obtain ⟨q', r1, r2⟩ := g3 j _ hgl
  rw [Nat.zero_add, hq] at r1; cases r1
  have hcl : (cells U d).length = (U.lay b).length := by rw [cells_len, hd]; rfl
  have hdj : (cells U d)[j]? = some ((cells U d)[j]'(by omega)) := List.getElem?_eq_getElem _
  obtain ⟨f, f1, f2⟩ := hf.get hdj
  rw [hgl] at f1; cases f1
  refine ⟨_, _, hdj, r2, f2, ?_⟩
  obtain ⟨dt, dx⟩ := d
  simp only at hd
  subst hd
  have := U.acc_t b dx j _ (List.getElem?_eq_getElem hj)
  rw [List.getElem?_eq_getElem hj]
  congr 1
  rw [← this]
  congr 1
  simp [cells]
theorem st_ok (ok : Ok c e) {obs : List IO} {lb : List Ty} {d : Dyn U.B} (hf : FldOk c (List.range obs.length) obs lb d) (hall : ∀ (o : Nat) io, obs[o]? = some io → chkO lb obs (List.range obs.length) c.S o io = true) : StR U (epOf c (List.range obs.length)) d obs c.σ := by
  obtain ⟨σ1, s1, s2, s3⟩ := canon_st ok hf (by simp) List.nodup_range hall
  intro o io ho
  obtain ⟨ob1, h1, h2⟩ := s3 o io ho
  obtain ⟨ob, h3, h4⟩ := s1.at_ o ob1 h1
  have hlt : o < (List.range obs.length).length := by have := (List.getElem?_eq_some_iff.1 ho).1; simpa using this
  have e1 : (List.range obs.length).getD o 0 = o := by rw [List.getD_eq_getElem?_getD, List.getElem?_eq_getElem hlt]; simp
  have h3' : c.σ[(List.range obs.length).getD o 0]? = some ob := h3
  rw [e1] at h3'
  rw [rnO_id h4] at h2
  exact ⟨ob, h3', h2⟩
def EndS (U : Uni) (obs : List IO) (ds0 : List (Dyn U.B)) (r : V) (τ : St) : Prop :=
  ∃ τ1 u τ2, Gh τ τ1 ∧ hardV r τ1 = some (u, τ2) ∧ u.free = true ∧ ∃ E' d' rs, ds0 = d' :: rs ∧ ResR U rs u ∧ StR U E' d' obs τ2
theorem kOutS_ok {rs : List ResultVar} {outs : List Ty} {b : Nat} {obs : List IO} {ds0 : List (Dyn U.B)} (hP : ∀ l, Post l → l = ds0) {x : XEnd} {c : Cx U} {e : SE} {A : SA} {A' : AF} (ok : Ok c e) (hf : FrR c A A') (h : TDen Sp Post Go (kOutS U.lay X.tb rs outs b obs x e A c.S) c.ρ) :
    wKret X.tb rs (EndS U obs ds0) x.exit' A' c.σ := by
  have main : TDen Sp Post Go (resS U.lay X.tb rs e A c.S (endK U.lay outs b obs c.S)) c.ρ → wresVs X.tb rs A' c.σ fun l => EndS U obs ds0 (oneV l) c.σ := fun h =>
    res_ok rs ok hf (fun c' e' l l' h1 h2 h3 h4 h5 h6 => by
      rw [← h2] at h6
      unfold endK at h6
      obtain ⟨c2, a1, a2, a3, a4, a5⟩ := renilO_ok obs 0 h4
      split at h6
      · rename_i l2 S2 hz
        rw [← a3] at hz
        obtain ⟨c3, vs3, q1, rfl, q3, q4, q5, q6, q7⟩ := frzVs_ok l a2 (a1.vrs h5) hz
        rw [← a4, ← q3] at h6
        split at h6
        · rename_i fl t0 outs' hc hfl _
          obtain ⟨gs, g1, g2, g3⟩ := fldsAt_ok q4 _ 0 hfl
          obtain ⟨c4, e4, y, d, gs', p1, p2, p3, p4, p5, p6, p7, p8, p9⟩ := data_ok q4 g1 h6
          have := crs_map (ρ := c3.ρ) (β := c3.β) (ι := c3.ι) (xs := fl) p5
          subst this
          rw [← p2] at p9
          obtain ⟨c5, e5, tms, ds, r1, r2, r3, r4, r5⟩ := out_ok p4 (p1.vrs q5) p9
          have hds := hP _ r5
          simp only [List.map_cons] at hds
          rw [Tm.den_of (r1.den p6), den_map r3] at hds
          have hfr := r4.free
          have hS : StR U _ d obs c4.σ := st_ok p4 (fld_ok g2 (fun m g hm => by
            obtain ⟨q, w1, w2⟩ := g3 m g hm
            exact ⟨q, w1, w2.later p4 p1 p2 p3⟩) p7 p8) fun o io ho => by
              have := chkOs_ok hc o io ho
              rw [Nat.zero_add] at this
              rw [p2]; exact this
          rw [p3] at hS
          rw [h3] at a5
          refine ⟨c2.σ, oneV vs3, c3.σ, a5, hard_one q6, ?_, _, d, ds, hds.symm, ⟨vs3, r4, rfl⟩, hS⟩
          unfold oneV
          split
          · rename_i v
            simp only [V.frees] at hfr
            split at hfr
            · assumption
            · cases hfr
          · exact hfr
        · exact h6.elim
      · exact h6.elim) h
  cases x with
  | norm => exact wk_of (.inl rfl) (main h)
  | ret => exact wk_of (.inr rfl) (main h)
  | exit i => exact h.elim
theorem shapeO_ok {lb : List Ty} {obs : List IO} : ∀ {l : List IO}, shapeO lb obs l = true → ∀ (o : Nat) io, l[o]? = some io → (match io with | .cells l => shapeC lb obs l = true | .row _ _ _ t j => isLstT lb j t = true)
  | [], _, o, io, h => by simp at h
  | x :: r, h, o, io, ho => by
    cases x with
    | cells l =>
      simp only [shapeO] at h
      split at h
      · rename_i h1
        cases o with
        | zero => simp at ho; subst ho; exact h1
        | succ o => exact shapeO_ok h o io (by simpa using ho)
      · cases h
    | row w ty sz t j =>
      simp only [shapeO] at h
      split at h
      · rename_i h1
        cases o with
        | zero => simp at ho; subst ho; exact h1
        | succ o => exact shapeO_ok h o io (by simpa using ho)
      · cases h
theorem stCs_ok {b : Nat} {obs : List IO} {E : Nat → Nat} {d : Dyn U.B} {e : SE} {ρ : Rho U} (hd : d.t = .base b) (h0 : ρ[0]? = some d) (ht : nth e.tys 0 = some (.base b)) (hrow : ∀ (o : Nat) w ty sz t j, obs[o]? = some (.row w ty sz t j) → ∃ d', (cells U d)[j]? = some d' ∧ inf ρ (obs.map (stO U.lay e)) o = some (0, lenOf d')) :
    ∀ {lc : List IC} {l : List Dm.C}, shapeC (U.lay b) obs lc = true → ICRs U E d lc l → CRs ρ E (inf ρ (obs.map (stO U.lay e))) (lc.map (stC U.lay e)) l
  | [], l, _, h => by simpa only [ICRs, List.map_nil, CRs] using h
  | x :: r, l, hs, h => by
    obtain ⟨c, l', rfl, h1, h2⟩ := h
    simp only [List.map_cons, CRs]
    cases x with
    | d j =>
      simp only [shapeC] at hs
      split at hs
      · rename_i hj
        have hj := blt_nat hj
        refine ⟨c, l', rfl, ?_, stCs_ok hd h0 ht hrow hs h2⟩
        obtain ⟨f, d', e1, rfl, e2⟩ := h1
        have hty : (U.lay b)[j]? = some d'.t := by
          obtain ⟨dt, dx⟩ := d
          simp only at hd
          subst hd
          have h3 := U.acc_t b dx j _ (List.getElem?_eq_getElem hj)
          rw [List.getElem?_eq_getElem hj]
          congr 1
          rw [← h3]
          congr 1
          simp [cells, hj] at e1
          exact e1
        simp only [stC, cellOf, ht, nth_eq, hty, CR]
        exact ⟨f, d', rfl, by simp only [Tm.den?, h0]; rw [pcells_base hd]; exact e1, rfl, e2⟩
      · cases hs
    | row o j =>
      simp only [shapeC] at hs
      split at hs
      · rename_i hr
        refine ⟨c, l', rfl, ?_, stCs_ok hd h0 ht hrow hs h2⟩
        obtain ⟨d', e1, rfl⟩ := h1
        obtain ⟨w, ty, sz, t, ho⟩ := isRow_ok hr
        obtain ⟨d2, e2, e3⟩ := hrow o w ty sz t j ho
        rw [e1] at e2; cases e2
        simp only [stC, CR]
        exact ⟨lenOf d', 0, lenOf d', by simp, e3, Nat.le_refl _, fun _ => rfl⟩
      · cases hs
    | ptr o off =>
      simp only [shapeC] at hs
      split at hs
      · refine ⟨c, l', rfl, ?_, stCs_ok hd h0 ht hrow hs h2⟩
        simp only [stC, CR]; exact h1
      · cases hs
    | mp o => simp only [shapeC] at hs; cases hs
theorem init_ok {b : Nat} {obs : List IO} {ins : List In} {E : Nat → Nat} {d : Dyn U.B} {ds : List (Dyn U.B)} {σ : St} (hty : (d :: ds).map Dyn.t = insTys ins) (hd : d.t = .base b) (hs : shapeO (U.lay b) obs obs = true) (hst : StR U E d obs σ) (hlen : σ.length = obs.length) :
    Ok (⟨d :: ds, E, obs.map (stO U.lay ⟨insTys ins, [], []⟩), σ⟩ : Cx U) ⟨insTys ins, [], []⟩ := by
  have h0 : (d :: ds)[0]? = some d := rfl
  have ht : nth (SE.mk (insTys ins) [] []).tys 0 = some (.base b) := by
    show nth (insTys ins) 0 = _
    rw [← hty, nth_eq]; simp [hd]
  have hrow : ∀ (o : Nat) w ty sz t j, obs[o]? = some (.row w ty sz t j) → ∃ d', (cells U d)[j]? = some d' ∧ inf (d :: ds) (obs.map (stO U.lay ⟨insTys ins, [], []⟩)) o = some (0, lenOf d') := fun o w ty sz t j ho => by
    obtain ⟨ob, h1, d', fs, h2, h3, rfl, h5, h6, h7⟩ := hst o _ ho
    refine ⟨d', h2, ?_⟩
    simp only [inf, List.getElem?_map, ho, Option.map_some, stO, Tm.den?, h0]
    rw [pcells_base hd, h2]
  refine ⟨hty.symm, fun p hp => (by cases hp), fun p hp => (by cases hp), by simp [hlen], fun o so ho => ?_⟩
  have ho' : (obs.map (stO U.lay ⟨insTys ins, [], []⟩))[o]? = some so := ho
  rw [List.getElem?_map] at ho'
  cases hio : obs[o]? with
  | none => simp [hio] at ho'
  | some io =>
    simp only [hio, Option.map_some, Option.some.injEq] at ho'
    subst ho'
    obtain ⟨ob, h1, h2⟩ := hst o io hio
    refine ⟨ob, h1, ?_⟩
    have hsh := shapeO_ok hs o io hio
    cases io with
    | cells l =>
      obtain ⟨l', rfl, h3⟩ := h2
      exact ⟨l', rfl, stCs_ok hd h0 ht hrow hsh h3⟩
    | row w ty sz t j =>
      obtain ⟨d', fs, h3, h4, rfl, h5, h6, h7⟩ := h2
      refine ⟨d', fs, ?_, h4, by simp, h7, h6, h5⟩
      simp only [Tm.den?, h0]
      rw [pcells_base hd]; exact h3
def WalkedS (Sp : List (FSpec U)) (X : SEnv) (n : Nat) (w : Walk) (b : Nat) (obs : List IO) (s : FSpec U) : Prop :=
  ∀ (x : HL U (insTys s.sig.ins)), s.pre x → ∀ R : List (Dyn U.B), R = s.fn x → ∀ Go : Nat → List (Dyn U.B) → Prop,
    (∀ (q : Nat) (α : Type) (ρ : α → List (Dyn U.B)) (I : α → Prop) (μ : α → Nat), (∀ y, I y → (∀ z, μ z < μ y → I z → Go q (ρ z)) → TDen Sp (fun l => l = R) Go (walkSL X n w b obs q) (ρ y)) → ∀ y, I y → Go q (ρ y)) →
    TDen Sp (fun l => l = R) Go (walkS0 X n w b obs) (HL.dyn _ x)
theorem walkS_ok (hm : P.follows .mixedOrders = true) (tok : TabOk P X.tb) (hE : EnvOk P U X Sp) {n : Nat} (en : Ent P X.tb (stlW X.tb)) {w : Walk} (hF : w.F = en.F) {s : FSpec U} (hs : s.sig = ⟨en.f, w.ins, w.outs⟩) (hl : Nat.ble w.ins.length w.F.m = true) {b : Nat} {obs : List IO} (hst0 : stOf w.ins = some (b, obs))
    (h : WalkedS Sp X n w b obs s) : FGood P s := by
  obtain ⟨sig, pre, fn, ty⟩ := s
  cases hs
  unfold FGood
  rw [show stOf (Sig.mk en.f w.ins w.outs).ins = some (b, obs) from hst0]
  intro x vs E σ d ds ha hx hst hlen hpre
  obtain ⟨f, H, F, eok, chk⟩ := en
  obtain ⟨F', ins, outs, tms⟩ := w
  cases hF
  obtain ⟨fn', cd, h1, h2, h3, rfl⟩ := yfunOf_spec eok
  have hH : hintsOk X.tb (stlW X.tb) H cd = true := by
    unfold yhintOk at chk
    rw [h1] at chk
    simp only [h2] at chk
    exact chk
  have hty : (d :: ds).map Dyn.t = insTys ins := by rw [← hx]; exact dyn_t _ x
  have hd : d.t = .base b := by
    simp only at hst0
    cases ins with
    | nil => cases hst0
    | cons i r =>
      cases i <;> simp only [stOf] at hst0 <;> first | (cases hst0; done) | skip
      cases hst0
      simp only [insTys, In.tys, List.map_cons, List.cons_append, List.nil_append, List.cons.injEq] at hty
      exact hty.1
  let k0 : V → St → Prop := EndS U obs (fn x)
  let K0 := wKret X.tb fn'.results.toList k0
  let LP : Nat → AF → St → Prop := fun q A σ' => LoopQ P σ.length fn'.ntmps cd 0 K0 q A σ'
  let Go : Nat → List (Dyn U.B) → Prop := fun q vals => ∀ tm, nth tms q = some tm → σ.length ≤ tm.S.length → AtHead tm fn'.ntmps σ.length (LP tm.q) vals
  have hcall := callN_ok (Post := fun l => l = fn x) (Go := Go) hm tok hE n
  have hlp : ∀ q (c : Cx U) e A A', Ok c e → FrR c A A' → inA fn'.ntmps A' → TDen Sp (fun l => l = fn x) Go (goN X.lay fn'.ntmps tms obs.length q e A c.S) c.ρ → LP q A' c.σ := fun q c e A A' ok hf hA hD => by
    rw [hE.lay] at hD
    have hlen' : σ.length = obs.length := hlen
    exact go_ok (n := σ.length) (n0 := obs.length) (LP := LP q) ok hA hf (fun A1 σ1 A2 σ2 _ _ hg hh => loopQ_ghost A1 σ1 A2 σ2 hg hh) (Nat.le_of_eq hlen') (fun i tm vals htm hq hN hG => by subst hq; exact hG tm htm (by rw [hlen']; exact hN)) hD
  have hk : ∀ y (c' : Cx U) e' A A', Ok c' e' → FrR c' A A' → inA fn'.ntmps A' → TDen Sp (fun l => l = fn x) Go (kOutS X.lay X.tb fn'.results.toList outs b obs y e' A c'.S) c'.ρ → K0 y.exit' A' c'.σ := fun y c' e' A A' ok' hf' hA' hz => by
    rw [hE.lay] at hz
    exact kOutS_ok (fun l hl => hl) ok' hf' hz
  have hw := h x hpre _ rfl Go fun q α ρ I μ H' => by
    have key : ∀ M y, μ y = M → I y → Go q (ρ y) := by
      intro M
      induction M using Nat.strongRecOn with
      | _ M ih =>
        intro y hy hI tm htm hN ct A' hρ hS okt hft hAt
        have hD := H' y hI fun z hz hIz => ih (μ z) (hy ▸ hz) z rfl hIz
        unfold walkSL at hD
        simp only [htm] at hD
        split at hD
        · rename_i hq
          have hq := blt_nat hq
          rw [← hρ, ← hS] at hD
          rw [nl_eq] at hq
          exact sxl_ok hm tok hcall (pure_ok hE.lay hE.sigs hE.good) hE.lay (R := fun _ => True) (fun _ _ _ _ => trivial) hlp (LP := LP) (fun _ => trivial) hH (fun q' _ _ A σ hh => hh) (Nat.zero_le _) (by omega) hk okt hAt hft hD
        · exact hD.elim
    exact fun y hI => key _ y rfl hI
  unfold walkS0 at hw
  simp only at hw
  split at hw
  · rename_i hsh
    rw [hE.lay] at hsh
    have ok0 := init_ok hty hd hsh hst hlen
    rw [hx] at hw ha
    have a1 := in_ok (i := 0) ok0 ha fun j d hj => by rw [Nat.zero_add]; exact hj
    have hlenv : vs.length = (inSV X.lay ⟨insTys ins, [], []⟩ ins 0).length := by rw [hE.lay]; exact VRs.len a1
    have hins : ∀ (ins : List In) (i : Nat) (e : SE), (inSV X.lay e ins i).length ≤ ins.length := by
      intro ins
      induction ins with
      | nil => intro i e; exact Nat.le_refl _
      | cons a r ih =>
        intro i e
        cases a <;> simp only [inSV, List.length_cons] <;> first | exact Nat.succ_le_succ (ih _ _) | exact Nat.le_succ_of_le (ih _ _)
    have hins := hins ins 0 ⟨insTys ins, [], []⟩
    have hl := ble_nat hl
    simp only at hl
    have hw' : DWp P σ.length cd (low fn'.ntmps K0) (toFr fn'.ntmps (args0 0 vs)) σ := by
      refine sxc_ok (c := ⟨d :: ds, E, obs.map (stO U.lay ⟨insTys ins, [], []⟩), σ⟩) hm tok hcall (pure_ok hE.lay hE.sigs hE.good) hE.lay (R := fun _ => True) (fun _ _ _ _ => trivial) hlp (LP := LP) hH (fun q' _ _ A σ hh => hh) (fun y c' e' A A' _ => hk y c' e' A A') trivial ok0 (inA_args0 (by omega)) (argsA_ok 0 a1) ?_
      rw [hE.lay] at hw ⊢
      exact hw
    rw [toFr_args0 (by omega)] at hw'
    have hc : CallAt P f vs σ k0 := call_of hm tok h1 h2 h3 (hw'.mono fun ex fr σ' ⟨A1, b1, b2, b3⟩ => low_ret ⟨A1, b1, b2, wKret_eq b3⟩)
    intro g w us hr hv
    have hend : ∀ v w', CallEnd g w σ k0 v w' → CallEnd g w σ (fun r σ' => ∃ E' d' rs, fn x = d' :: rs ∧ ResR U rs r ∧ StR U E' d' obs σ') v w' := by
      rintro v w' ⟨r, τ, g', ⟨τ1, u, τ2, e1, e2, e3, e4⟩, q1, q2, q3⟩
      obtain ⟨g1, r1, r2⟩ := e1 g' w' q1
      obtain ⟨g2, s1, s2, s3⟩ := hardV_ok r1 e2 (VRep.turn r2 _ _ q3)
      exact ⟨u, τ2, g2, e4, s1, (q2.trans r2).trans s2, s3⟩
    rcases hc g w us hr hv with ⟨v, w', c1, c2⟩ | ⟨c1, c2⟩
    · exact .inl ⟨v, w', c1, hend v w' c2⟩
    · exact .inr ⟨c1, c2.mono fun e w' ⟨v, c3, c4⟩ => ⟨v, c3, hend v w' c4⟩⟩
  · exact hw.elim
end Go.Dm.Sx
namespace Go.Dm.Sx
open Go.Dm
set_option linter.unusedVariables false
set_option linter.unusedSimpArgs false
variable {U : Uni}
@[simp] theorem dyn_ty (t : Ty) (r : List In) (x : T U.B t) (xs : HL U (insTys r)) : HL.dyn (insTys (.ty t :: r)) ((x, xs) : HL U (insTys (.ty t :: r))) = ⟨t, x⟩ :: HL.dyn (insTys r) xs := rfl
@[simp] theorem dyn_fn (f : Nat) (r : List In) (xs : HL U (insTys (.fnc f :: r))) : HL.dyn (insTys (.fnc f :: r)) xs = HL.dyn (insTys r) xs := rfl
@[simp] theorem dyn_clo0 (f : Nat) (r : List In) (xs : HL U (insTys (.clo f [] :: r))) : HL.dyn (insTys (.clo f [] :: r)) xs = HL.dyn (insTys r) xs := rfl
@[simp] theorem dyn_clo1 (f : Nat) (t : Ty) (r : List In) (x : T U.B t) (xs : HL U (insTys r)) : HL.dyn (insTys (.clo f [t] :: r)) ((x, xs) : HL U (insTys (.clo f [t] :: r))) = ⟨t, x⟩ :: HL.dyn (insTys r) xs := rfl
@[simp] theorem dyn_nil (xs : HL U (insTys [])) : HL.dyn (insTys []) xs = [] := rfl
@[simp] theorem dyn_cons (t : Ty) (r : List Ty) (x : T U.B t) (xs : HL U r) : HL.dyn (t :: r) ((x, xs) : HL U (t :: r)) = ⟨t, x⟩ :: HL.dyn r xs := rfl
@[simp] theorem dyn_none (xs : HL U []) : HL.dyn [] xs = [] := rfl
@[simp] theorem of_ty (t : Ty) (r : List In) (x : T U.B t) (l : List (Dyn U.B)) : HL.of (insTys (.ty t :: r)) (⟨t, x⟩ :: l) = ((x, HL.of (insTys r) l) : HL U (insTys (.ty t :: r))) := by
  show (Dyn.as t ⟨t, x⟩, _) = _
  rw [as_self]; rfl
@[simp] theorem of_fn (f : Nat) (r : List In) (l : List (Dyn U.B)) : HL.of (insTys (.fnc f :: r)) l = (HL.of (insTys r) l : HL U (insTys (.fnc f :: r))) := rfl
@[simp] theorem of_clo0 (f : Nat) (r : List In) (l : List (Dyn U.B)) : HL.of (insTys (.clo f [] :: r)) l = (HL.of (insTys r) l : HL U (insTys (.clo f [] :: r))) := rfl
@[simp] theorem of_clo1 (f : Nat) (t : Ty) (r : List In) (x : T U.B t) (l : List (Dyn U.B)) : HL.of (insTys (.clo f [t] :: r)) (⟨t, x⟩ :: l) = ((x, HL.of (insTys r) l) : HL U (insTys (.clo f [t] :: r))) := by
  show (Dyn.as t ⟨t, x⟩, _) = _
  rw [as_self]; rfl
@[simp] theorem of_st (b : Nat) (obs : List IO) (r : List In) (x : T U.B (.base b)) (l : List (Dyn U.B)) : HL.of (insTys (.st b obs :: r)) (⟨.base b, x⟩ :: l) = ((x, HL.of (insTys r) l) : HL U (insTys (.st b obs :: r))) := of_ty (.base b) r x l
@[simp] theorem of_ptr (o off : Nat) (r : List In) (l : List (Dyn U.B)) : HL.of (insTys (.ptr o off :: r)) l = (HL.of (insTys r) l : HL U (insTys (.ptr o off :: r))) := rfl
@[simp] theorem of_cloP (f : Nat) (caps : List (Nat × Nat)) (r : List In) (l : List (Dyn U.B)) : HL.of (insTys (.cloP f caps :: r)) l = (HL.of (insTys r) l : HL U (insTys (.cloP f caps :: r))) := rfl
@[simp] theorem of_nil (l : List (Dyn U.B)) : HL.of (insTys []) l = (() : HL U (insTys [])) := rfl
@[simp] theorem d_int (k : IntKind) (n : Int) : Dyn.int (⟨.int k, n⟩ : Dyn U.B) = n := rfl
@[simp] theorem d_bool (n : Bool) : Dyn.bool (⟨.bool, n⟩ : Dyn U.B) = n := rfl
@[simp] theorem d_str (n : List UInt8) : Dyn.str (⟨.str, n⟩ : Dyn U.B) = n := rfl
@[simp] theorem d_flo (n : Nat) : Dyn.flo (⟨.flo, n⟩ : Dyn U.B) = n := rfl
@[simp] theorem d_cpl (n : Nat × Nat) : Dyn.cpl (⟨.cpl, n⟩ : Dyn U.B) = n := rfl
attribute [simp] as_self
@[simp] theorem fld_base (n : Nat) (x : U.B n) (j : Nat) : fldD (⟨.base n, x⟩ : Dyn U.B) j = U.acc n x j := rfl
@[simp] theorem fld_ptr (n : Nat) (x : U.B n) (j : Nat) : fldD (⟨.ptr (.base n), x⟩ : Dyn U.B) j = U.acc n x j := rfl
@[simp] theorem fld_plist (t : Ty) (x : List (T U.B t)) (j : Nat) : fldD (⟨.ptr (.list t), x⟩ : Dyn U.B) j = ⟨.list t, x⟩ := rfl
@[simp] theorem fld_pint (k : IntKind) (x : Int) (j : Nat) : fldD (⟨.ptr (.int k), x⟩ : Dyn U.B) j = ⟨.int k, x⟩ := rfl
theorem bcmp_eql (a b : Int) : bcmp .eql a b = decide (a = b) := by by_cases h : a = b <;> simp [bcmp, h]
theorem bcmp_neq (a b : Int) : bcmp .neq a b = !decide (a = b) := by by_cases h : a = b <;> simp [bcmp, bne, h]
theorem bcmp_lss (a b : Int) : bcmp .lss a b = decide (a < b) := rfl
theorem bcmp_leq (a b : Int) : bcmp .leq a b = decide (a ≤ b) := rfl
theorem bcmp_gtr (a b : Int) : bcmp .gtr a b = decide (b < a) := rfl
theorem bcmp_geq (a b : Int) : bcmp .geq a b = decide (b ≤ a) := rfl
attribute [simp] bcmp_eql bcmp_neq bcmp_lss bcmp_leq bcmp_gtr bcmp_geq
@[simp] theorem bscmp_eql (a b : List UInt8) : bscmp .eql a b = decide (a = b) := by by_cases h : a = b <;> simp [bscmp, h]
@[simp] theorem bscmp_neq (a b : List UInt8) : bscmp .neq a b = !decide (a = b) := by by_cases h : a = b <;> simp [bscmp, bne, h]
@[simp] theorem optI_none (ρ : Rho U) (n : Int) : optI ρ n none = n := rfl
@[simp] theorem optI_some (ρ : Rho U) (n : Int) (x : Tm) : optI ρ n (some x) = (x.den ρ).int := rfl
@[simp] theorem ex_add (a b : Int) : exI .add a b = a + b := rfl
@[simp] theorem ex_sub (a b : Int) : exI .sub a b = a - b := rfl
@[simp] theorem ex_mul (a b : Int) : exI .mul a b = a * b := rfl
@[simp] theorem b_rem (k : IntKind) (a b : Int) : barith .rem k a b = a.tmod b := rfl
@[simp] theorem mnx_t (a b : Int) : mnxI true a b = max a b := rfl
@[simp] theorem mnx_f (a b : Int) : mnxI false a b = min a b := rfl
end Go.Dm.Sx
namespace Go.Dm.Sx
open Go.Dm
set_option linter.unusedVariables false
set_option linter.unusedSimpArgs false
set_option linter.unusedSectionVars false
variable [Pures]
def insN (x : Nat) (l : List Nat) : List Nat := match l with | [] => [x] | y :: r => (match Nat.beq x y with | true => y :: r | false => (match Nat.blt x y with | true => x :: y :: r | false => y :: insN x r))
def uniN (a b : List Nat) : List Nat := match a with | [] => b | x :: r => uniN r (insN x b)
def delN (x : Nat) (l : List Nat) : List Nat := match l with | [] => [] | y :: r => (match Nat.beq x y with | true => delN x r | false => y :: delN x r)
def memN (x : Nat) (l : List Nat) : Bool := match l with | [] => false | y :: r => (match Nat.beq x y with | true => true | false => memN x r)
def useO (x : Operand) (l : List Nat) : List Nat := match x with | .tmp t => insN t l | _ => l
def useL (xs : List Operand) (l : List Nat) : List Nat := match xs with | [] => l | x :: r => useO x (useL r l)
def useOp (o : Option Operand) (l : List Nat) : List Nat := match o with | .some x => useO x l | .none => l
def uses (s : SOp) (l : List Nat) : List Nat :=
  match s with
  | .mv x => useO x l
  | .pick c a b => useL [c, a, b] l
  | .bin _ _ x y => useL [x, y] l
  | .un _ x => useO x l
  | .alloc _ => l
  | .box x => useO x l
  | .load _ _ x => useO x l
  | .store _ a x => useL [a, x] l
  | .call x args => useO x (useL args l)
  | .fa _ x => useO x l
  | .fld _ _ _ x => useO x l
  | .ixr _ x i => useL [x, i] l
  | .ixa _ _ x i => useL [x, i] l
  | .chr x i => useL [x, i] l
  | .len _ x => useO x l
  | .app _ _ _ _ x y => useL [x, y] l
  | .slc _ _ x lo hi => useO x (useOp lo (useOp hi l))
  | .ext x _ => useO x l
  | .nilc x => useO x l
  | .bi _ _ args => useL args l
  | .bld _ parts => useL (parts.map fun p => p.2.2) l
  | .bsl _ _ _ _ parts => useL (parts.map fun p => p.2) l
  | .raw o => useL o.operands.toList l
def liveI (i : SItem) (l : List Nat) : List Nat :=
  let l1 := match i.g, i.dst with | .none, .some d => delN d l | _, _ => l
  let l2 := uses i.o l1
  match i.g with | .some (.some d, _) => insN d l2 | _ => l2
def liveIs : List SItem → List Nat → List Nat
  | [], l => l
  | i :: r, l => liveI i (liveIs r l)
def liveT : YT → List Nat → List Nat
  | .done, l => l
  | .go i _ p, l => liveI i (liveT p l)
  | .goc i p, l => liveI i (liveT p l)
  | .alt i p q, l => uniN (liveI i (liveT p l)) (liveT q l)
  | .stop, _ => []
  | .sub s p, l => liveT s (liveT p l)
abbrev Lv := XEnd → List Nat
def lvAt (e : List (Nat × List Nat)) (i : Nat) : List Nat := match e with | [] => [] | (j, l) :: r => (match Nat.beq j i with | true => l | false => lvAt r i)
def liveC (ex : List (Nat × List Nat)) (r : List Nat) : YCode → List Nat → List Nat
  | .skip, l => l
  | .ops is, l => liveIs is l
  | .tree t, l => liveT t l
  | .any _ _, l => l
  | .seq a b, l => liveC ex r a (liveC ex r b l)
  | .cond c a b, l => useO c (uniN (liveC ex r a l) (liveC ex r b l))
  | .block id c, l => liveC ((id, l) :: ex) r c l
  | .loop c, l => liveC ex r c (liveC ex r c (liveC ex r c []))
  | .exit id, _ => lvAt ex id
  | .ret, _ => r
  | .bad, _ => []
def liveQ (q : Nat) (ex : List (Nat × List Nat)) (r : List Nat) : YCode → Nat → List Nat → Option (List Nat × YCode)
  | .seq a b, p, l => (match Nat.blt q (p + nl a) with | true => liveQ q ex r a p (liveC ex r b l) | false => liveQ q ex r b (p + nl a) l)
  | .cond _ a b, p, l => (match Nat.blt q (p + nl a) with | true => liveQ q ex r a p l | false => liveQ q ex r b (p + nl a) l)
  | .block id c, p, l => liveQ q ((id, l) :: ex) r c p l
  | .loop c, p, l =>
    let h := liveC ex r (.loop c) l
    (match Nat.beq q p with | true => .some (h, c) | false => liveQ q ex r c (p + 1) h)
  | _, _, _ => .none
def itemsT : YT → List SItem
  | .done => []
  | .go i _ p => i :: itemsT p
  | .goc i p => i :: itemsT p
  | .alt i p q => i :: (itemsT p ++ itemsT q)
  | .stop => []
  | .sub s p => itemsT s ++ itemsT p
def items : YCode → List SItem
  | .ops is => is
  | .tree t => itemsT t
  | .seq a b => items a ++ items b
  | .cond _ a b => items a ++ items b
  | .block _ c => items c
  | .loop c => items c
  | _ => []
def dsts : List SItem → List Nat
  | [] => []
  | i :: r => (match i.dst with | .some d => insN d (dsts r) | .none => dsts r)
def appAt (src : List (Nat × Nat)) (d : Nat) : List SItem → Option (Nat × Nat)
  | [] => .none
  | i :: r =>
    match i.o, i.dst with
    | .mv (.tmp s), .some t => appAt ((t, s) :: src) d r
    | .app _ ty sz _ (.tmp x) _, _ => (match Nat.beq x d || (match src.find? fun p => Nat.beq p.1 x with | .some p => Nat.beq p.2 d | .none => false) with | true => .some (ty, sz) | false => appAt src d r)
    | .call _ (.tmp x :: _), _ => appAt src d r
    | _, _ => appAt src d r
def adr? (A : SA) (ad : List (Nat × Nat × Nat)) (d : Nat) : Option (Nat × Nat) :=
  match ad with
  | (t, o, j) :: r => (match Nat.beq t d with | true => .some (o, j) | false => adr? A r d)
  | [] => (match lkS A d with | .c (.ptr o j) => .some (o, j) | _ => .none)
def get3 (l : List (Nat × Nat × Nat)) (d : Nat) : Option (Nat × Nat) := match l with | [] => .none | (t, o, j) :: r => (match Nat.beq t d with | true => .some (o, j) | false => get3 r d)
def memO (o j : Nat) : List (Nat × Nat × Nat × Nat × Ty) → Bool
  | [] => false
  | (a, b, _) :: r => (match Nat.beq a o, Nat.beq b j with | true, true => true | _, _ => memO o j r)
def objCall (sigs : List Sig) (tyO : Nat → Option Ty) (A : SA) (S : SSt) (ad : List (Nat × Nat × Nat)) (f : Nat) (args : List Operand) : List (Nat × Nat × Nat × Nat × Ty) :=
  match sigs.find? fun s => Nat.beq s.f f with
  | .none => []
  | .some sg =>
    match stOf sg.ins with
    | .none => []
    | .some (_, obs) =>
      let svs : List SV := args.map fun x => (match x with | .tmp t => (match adr? A ad t with | .some (o, j) => .c (.ptr o j) | .none => .c .un) | _ => .c .un)
      nilAll obs S (osFind S obs 0 (osArgs sg.ins svs (List.replicate obs.length .none))) obs 0
def objOf (sigs : List Sig) (tyO : Nat → Option Ty) (A : SA) (S : SSt) : List SItem → List (Nat × Nat × Nat) → List (Nat × Nat × Nat) → List (Nat × Nat × Nat × Nat × Ty) → List (Nat × Nat × Nat × Nat × Ty)
  | [], _, _, acc => acc
  | i :: r, ad, ld, acc =>
    match i.o, i.dst with
    | .fa off (.tmp x), .some t => (match adr? A ad x with | .some (o, j) => objOf sigs tyO A S r ((t, o, j + off) :: ad) ld acc | .none => objOf sigs tyO A S r ad ld acc)
    | .mv (.tmp x), .some t => (match adr? A ad x with
      | .some (o, j) => objOf sigs tyO A S r ((t, o, j) :: ad) ld acc
      | .none => match get3 ld x with | .some (o, j) => objOf sigs tyO A S r ad ((t, o, j) :: ld) acc | .none => objOf sigs tyO A S r ad ld acc)
    | .load _ _ (.tmp x), .some t => (match adr? A ad x with | .some (o, j) => objOf sigs tyO A S r ad ((t, o, j) :: ld) acc | .none => objOf sigs tyO A S r ad ld acc)
    | .app _ ty sz _ (.tmp x) _, _ => (match get3 ld x with
      | .some (o, j) => (match nth S o, memO o j acc, tyO ty with
        | .some (.cells l), false, .some t => (match nth l j with | .some .nil => objOf sigs tyO A S r ad ld ((o, j, ty, sz, t) :: acc) | _ => objOf sigs tyO A S r ad ld acc)
        | _, _, _ => objOf sigs tyO A S r ad ld acc)
      | .none => objOf sigs tyO A S r ad ld acc)
    | .call (.func f) args, _ => objOf sigs tyO A S r ad ld (((objCall sigs tyO A S ad f args).filter fun q => !memO q.1 q.2.1 acc) ++ acc)
    | _, _ => objOf sigs tyO A S r ad ld acc
structure GS where
  tys : List Ty
  map : List (Tm × Nat)
  deriving Inhabited
def GS.fresh (g : GS) (t : Ty) : GS × Tm := ({ g with tys := g.tys ++ [t] }, .at g.tys.length)
def genT (keep : Bool) (g : GS) (t : Ty) (x : Tm) : GS × Tm :=
  let lit := match x with | .at _ => false | .fld _ _ => false | _ => true
  match keep, lit with
  | true, true => (g, x)
  | true, false =>
    (match g.map.find? fun p => Tm.eqb p.1 x with
    | .some p => (g, .at p.2)
    | .none => let n := g.tys.length; ({ tys := g.tys ++ [t], map := (x, n) :: g.map }, .at n))
  | false, _ => g.fresh t
mutual
def genC (keep : Bool) (tys : List Ty) (g : GS) : SC → GS × SC
  | .d t x => let (g, y) := genT keep g t x; (g, .d t y)
  | .clo f caps => let (g, l) := genCs true tys g caps; (g, .clo f l)
  | .el x j => let (g, y) := genT true g (match x with | .at i => (match nth tys i with | .some t => t | .none => .bool) | _ => .bool) x; (g, .el y j)
  | .rs o _ => (g, .rs o 0)
  | x => (g, x)
def genCs (keep : Bool) (tys : List Ty) (g : GS) : List SC → GS × List SC
  | [] => (g, [])
  | x :: r => let (g, y) := genC keep tys g x; let (g, l) := genCs keep tys g r; (g, y :: l)
end
def genV (keep : Bool) (tys : List Ty) (g : GS) : SV → GS × SV
  | .c x => let (g, y) := genC keep tys g x; (g, .c y)
  | .a l => let (g, y) := genCs keep tys g l; (g, .a y)
  | .t l => (g, .t l)
def genA (tys : List Ty) (asg : List Nat) (A : SA) : List Nat → GS → GS × SA
  | [], g => (g, [])
  | d :: r, g =>
    match lkS A d with
    | .c .un => genA tys asg A r g
    | .t _ => genA tys asg A r g
    | v => let (g, v) := genV (!memN d asg) tys g v; let (g, l) := genA tys asg A r g; (g, (d, v) :: l)
def genS (tys : List Ty) : SSt → GS → GS × SSt
  | [], g => (g, [])
  | o :: r, g =>
    match o with
    | .cells l => let (g, l) := genCs false tys g l; let (g, r) := genS tys r g; (g, .cells l :: r)
    | .arr w _ ty sz t _ => let (g, y) := g.fresh (.list t); let (g, r) := genS tys r g; (g, .arr w 0 ty sz t y :: r)
    | .bld T u x => let (g, x) := genC false tys g x; let (g, r) := genS tys r g; (g, .bld T u x :: r)
    | .any => let (g, r) := genS tys r g; (g, .any :: r)
mutual
def topC : SC → Nat
  | .ptr o _ => o + 1
  | .rs o _ => o + 1
  | .pa o _ _ _ _ => o + 1
  | .clo _ caps => topCs caps
  | _ => 0
def topCs : List SC → Nat
  | [] => 0
  | x :: r => max (topC x) (topCs r)
end
def topV : SV → Nat
  | .c x => topC x
  | .a l => topCs l
  | .t _ => 0
def topOb : SOb → Nat
  | .cells l => topCs l
  | .bld _ _ x => topC x
  | _ => 0
def topA : SA → Nat
  | [] => 0
  | p :: r => max (topV p.2) (topA r)
def topS (n : Nat) (S : SSt) : Nat := (S.take n).foldl (fun m o => max m (topOb o)) n
def ownOf (tyO : Nat → Option Ty) (A : SA) (is : List SItem) : List Nat → List (Nat × Nat × Nat × Ty)
  | [] => []
  | d :: r =>
    match lkS A d with
    | .c .nil | .c (.rs ..) => (match appAt [] d is with | .some (ty, sz) => (match tyO ty with | .some t => (d, ty, sz, t) :: ownOf tyO A is r | .none => ownOf tyO A is r) | .none => ownOf tyO A is r)
    | _ => ownOf tyO A is r
def rsUse : List ResultVar → List Nat
  | [] => []
  | .tmp t :: r => insN t (rsUse r)
  | .cell x _ :: r => insN x (rsUse r)
def tmplOf0 (sigs : List Sig) (nb : Nat) (tyO : Nat → Option Ty) (lay : Nat → List Ty) (F : YFun) (q : Nat) (tys : List Ty) (A : SA) (S : SSt) : Tmpl :=
  match liveQ q [] (rsUse F.rs) F.code 0 (rsUse F.rs) with
  | .none => ⟨[], [], [], [], [], 0⟩
  | .some (live, body) =>
    let is := items body
    let asg := dsts is
    let own := ownOf tyO A is live
    match ownS own F.m lay A S with
    | .none => ⟨[], [], [], [], [], 0⟩
    | .some (A, S1) =>
      let owo := objOf sigs tyO A S1 is [] [] []
      match ownO owo lay S1 with
      | .none => ⟨[], [], [], [], [], 0⟩
      | .some S =>
      let (g, A2) := genA tys asg A live ⟨[], []⟩
      let n := topS (topS (topS (max nb (topA A2)) S) S) S
      let (g, S2) := genS tys (S.take n) g
      ⟨g.tys, A2, S2, own, owo, 0⟩
def tmplOf (sigs : List Sig) (nb : Nat) (tyO : Nat → Option Ty) (lay : Nat → List Ty) (F : YFun) (q : Nat) (tys : List Ty) (A : SA) (S : SSt) : Tmpl :=
  match tmplOf0 sigs nb tyO lay F q tys A S with
  | ⟨a, b, c, d, f, _⟩ => ⟨a, b, c, d, f, q⟩
def firstAt (q : Nat) : Tr → Option (Unit → List Ty × List (Nat × SV) × List SOb)
  | .here j f => (match Nat.beq j q with | true => .some f | false => .none)
  | .br _ a b => (match firstAt q a with | .some x => .some x | .none => firstAt q b)
  | .both a b => (match firstAt q a with | .some x => .some x | .none => firstAt q b)
  | .lnil _ _ a b => (match firstAt q a with | .some x => .some x | .none => firstAt q b)
  | .ar _ _ _ r | .bin _ _ _ _ r | .cmp _ _ _ r | .scmp _ _ _ r | .beq _ _ _ r | .bnot _ r | .sapp _ _ r | .ssub _ _ _ r | .slen _ r | .sget _ _ r | .wrap _ _ r | .llen _ _ r | .lget _ _ _ r | .lidx _ _ _ r
  | .lapp _ _ _ _ r | .lnew _ _ _ r | .lsub _ _ _ _ r | .lset _ _ _ _ r | .lmk _ _ r | .lrep _ _ _ _ r | .mk _ _ r | .cp _ _ r | .toPtr _ _ r | .deref _ _ r | .some _ _ r | .unopt _ _ r | .isnil _ _ r | .sbytes _ r | .sof _ r
  | .mnx _ _ _ _ r | .ne0 _ r | .nneg _ r | .inn _ _ r | .isn _ _ r | .fcmp _ _ _ r | .fsum _ _ _ r | .fofi _ r | .foi _ r | .cx _ _ r | .re _ r | .im _ r | .and _ _ r | .call _ _ r => firstAt q r
  | _ => .none
def hereK (q : Nat) (e : SE) (A : SA) (S : SSt) : Tr := .here q fun _ => (e.tys, A, S)
def nlF (w : Walk) : Nat := nl w.F.code
def S0of (lay : Nat → List Ty) (ins : List In) : SSt := match stOf ins with | .none => [] | .some (_, obs) => obs.map (stO lay ⟨insTys ins, [], []⟩)
def findT (X : SEnv) (n : Nat) (w : Walk) (q : Nat) : List Tmpl → Nat → Option (Unit → List Ty × List (Nat × SV) × List SOb)
  | [], _ => firstAt q (sxc X (callN X n) w.F.m hereK w.F.code 0 (fun _ _ _ _ => .fail) ⟨insTys w.ins, [], []⟩ (argsA 0 (inSV X.lay ⟨insTys w.ins, [], []⟩ w.ins 0)) (S0of X.lay w.ins))
  | tm :: r, j =>
    match findT X n w q r (j + 1) with
    | .some f => .some f
    | .none => firstAt q (sxl X (callN X n) w.F.m hereK j w.F.code 0 (fun _ _ _ _ => .fail) ⟨tm.tys, [], []⟩ tm.A tm.S)
def tmplsGo (X : SEnv) (n : Nat) (w : Walk) : Nat → List Tmpl → List Tmpl
  | 0, acc => acc
  | k + 1, acc =>
    match findT X n w acc.length acc 0 with
    | .none => tmplsGo X n w k (acc ++ [⟨[], [], [], [], [], acc.length⟩])
    | .some f => let (tys, A, S) := f (); tmplsGo X n w k (acc ++ [tmplOf X.sigs (S0of X.lay w.ins).length X.tyO X.lay w.F acc.length tys A S])
def anyAt : Tr → Option (Nat × (Unit → List Ty × List (Nat × SV) × List SOb))
  | .here j f => .some (j, f)
  | .br _ a b => (match anyAt a with | .some x => .some x | .none => anyAt b)
  | .both a b => (match anyAt a with | .some x => .some x | .none => anyAt b)
  | .lnil _ _ a b => (match anyAt a with | .some x => .some x | .none => anyAt b)
  | .ar _ _ _ r | .bin _ _ _ _ r | .cmp _ _ _ r | .scmp _ _ _ r | .beq _ _ _ r | .bnot _ r | .sapp _ _ r | .ssub _ _ _ r | .slen _ r | .sget _ _ r | .wrap _ _ r | .llen _ _ r | .lget _ _ _ r | .lidx _ _ _ r
  | .lapp _ _ _ _ r | .lnew _ _ _ r | .lsub _ _ _ _ r | .lset _ _ _ _ r | .lmk _ _ r | .lrep _ _ _ _ r | .mk _ _ r | .cp _ _ r | .toPtr _ _ r | .deref _ _ r | .some _ _ r | .unopt _ _ r | .isnil _ _ r | .sbytes _ r | .sof _ r
  | .mnx _ _ _ _ r | .ne0 _ r | .nneg _ r | .inn _ _ r | .isn _ _ r | .fcmp _ _ _ r | .fsum _ _ _ r | .fofi _ r | .foi _ r | .cx _ _ r | .re _ r | .im _ r | .and _ _ r | .call _ _ r => anyAt r
  | _ => .none
def hereM (lay : Nat → List Ty) (m nb : Nat) (acc : List Tmpl) (j : Nat) (e : SE) (A : SA) (S : SSt) : Tr :=
  match goF lay m nb j e A S acc 0 with
  | .fail => .here j fun _ => (e.tys, A, S)
  | _ => .triv
def findM (X : SEnv) (n nb : Nat) (w : Walk) (acc : List Tmpl) : List Tmpl → Option (Nat × (Unit → List Ty × List (Nat × SV) × List SOb))
  | [] => anyAt (sxc X (callN X n) w.F.m (hereM X.lay w.F.m nb acc) w.F.code 0 (fun _ _ _ _ => .fail) ⟨insTys w.ins, [], []⟩ (argsA 0 (inSV X.lay ⟨insTys w.ins, [], []⟩ w.ins 0)) (S0of X.lay w.ins))
  | tm :: r =>
    match findM X n nb w acc r with
    | .some f => .some f
    | .none => anyAt (sxl X (callN X n) w.F.m (hereM X.lay w.F.m nb acc) tm.q w.F.code 0 (fun _ _ _ _ => .fail) ⟨tm.tys, [], []⟩ tm.A tm.S)
def tmplsMore (X : SEnv) (n : Nat) (w : Walk) : Nat → List Tmpl → List Tmpl
  | 0, acc => acc
  | k + 1, acc =>
    match findM X n (S0of X.lay w.ins).length w acc acc with
    | .none => acc
    | .some (q, f) => let (tys, A, S) := f (); tmplsMore X n w k (acc ++ [tmplOf X.sigs (S0of X.lay w.ins).length X.tyO X.lay w.F q tys A S])
def walkOf (X : SEnv) (n : Nat) (F : YFun) (ins : List In) (outs : List Ty) (more : Nat := 0) : Walk :=
  ⟨F, ins, outs, tmplsMore X n ⟨F, ins, outs, []⟩ more (tmplsGo X n ⟨F, ins, outs, []⟩ (nl F.code) [])⟩
structure Wk (X : SEnv) (F : YFun) (ins : List In) (outs : List Ty) (more : Nat := 0) where
  w : Walk
  eq : walkOf X 9 F ins outs more = w
  t0 : Tr
  e0 : walk0 X 9 w = t0
  ts : List Tr
  es : (List.range w.tms.length).map (walkL X 9 w) = ts
variable {U : Uni} [FullU U]
def Asked (Sp : List (FSpec U)) (t0 : Tr) (ts : List Tr) (s : FSpec U) : Prop :=
  ∀ (x : HL U (insTys s.sig.ins)), s.pre x → ∀ R : List (Dyn U.B), R = s.fn x → ∀ Go : Nat → List (Dyn U.B) → Prop,
    (∀ (q : Nat) (t : Tr), nth ts q = some t → ∀ (α : Type) (ρ : α → List (Dyn U.B)) (I : α → Prop) (μ : α → Nat), (∀ y, I y → (∀ z, μ z < μ y → I z → Go q (ρ z)) → TDen Sp (fun l => l = R) Go t (ρ y)) → ∀ y, I y → Go q (ρ y)) →
    TDen Sp (fun l => l = R) Go t0 (HL.dyn _ x)
theorem Wk.ok {P : Program} {X : SEnv} {Sp : List (FSpec U)} (hm : P.follows .mixedOrders = true) (tok : TabOk P X.tb) (hE : EnvOk P U X Sp) (en : Ent P X.tb (stlW X.tb)) {s : FSpec U} {more : Nat} (k : Wk X en.F s.sig.ins s.sig.outs more) (hf : s.sig.f = en.f) (hl : Nat.ble s.sig.ins.length en.F.m = true)
    (h : Asked Sp k.t0 k.ts s) (h0 : plainIns s.sig.ins = true := by rfl) : FGood P s := by
  obtain ⟨w, eq, t0, e0, ts, es⟩ := k
  subst eq
  refine walk_ok hm tok hE (n := 9) en (w := walkOf X 9 en.F s.sig.ins s.sig.outs more) rfl (by rw [← hf]; rfl) hl h0 ?_
  intro x hp R hR Go hGo
  rw [e0]
  refine h x hp R hR Go fun q t ht => ?_
  have : walkL X 9 (walkOf X 9 en.F s.sig.ins s.sig.outs more) q = t := by
    simp only at ht
    rw [← es, nth_eq, List.getElem?_map] at ht
    cases hq : (List.range (walkOf X 9 en.F s.sig.ins s.sig.outs more).tms.length)[q]? with
    | none => simp [hq] at ht
    | some q' =>
      have := (List.getElem?_eq_some_iff.1 hq)
      obtain ⟨h1, h2⟩ := this
      simp at h2
      subst h2
      simpa [hq] using ht
  rw [← this]
  exact hGo q
structure WkS (X : SEnv) (F : YFun) (ins : List In) (outs : List Ty) (b : Nat) (obs : List IO) (more : Nat := 0) where
  w : Walk
  eq : walkOf X 9 F ins outs more = w
  t0 : Tr
  e0 : walkS0 X 9 w b obs = t0
  ts : List Tr
  es : (List.range w.tms.length).map (walkSL X 9 w b obs) = ts
theorem WkS.ok {P : Program} {X : SEnv} {Sp : List (FSpec U)} (hm : P.follows .mixedOrders = true) (tok : TabOk P X.tb) (hE : EnvOk P U X Sp) (en : Ent P X.tb (stlW X.tb)) {s : FSpec U} {b : Nat} {obs : List IO} {more : Nat} (k : WkS X en.F s.sig.ins s.sig.outs b obs more) (hf : s.sig.f = en.f) (hl : Nat.ble s.sig.ins.length en.F.m = true)
    (h : Asked Sp k.t0 k.ts s) (h0 : stOf s.sig.ins = some (b, obs) := by rfl) : FGood P s := by
  obtain ⟨w, eq, t0, e0, ts, es⟩ := k
  subst eq
  refine walkS_ok hm tok hE (n := 9) en (w := walkOf X 9 en.F s.sig.ins s.sig.outs more) rfl (by rw [← hf]; rfl) hl h0 ?_
  intro x hp R hR Go hGo
  rw [e0]
  refine h x hp R hR Go fun q t ht => ?_
  have : walkSL X 9 (walkOf X 9 en.F s.sig.ins s.sig.outs more) b obs q = t := by
    simp only at ht
    rw [← es, nth_eq, List.getElem?_map] at ht
    cases hq : (List.range (walkOf X 9 en.F s.sig.ins s.sig.outs more).tms.length)[q]? with
    | none => simp [hq] at ht
    | some q' =>
      have := (List.getElem?_eq_some_iff.1 hq)
      obtain ⟨h1, h2⟩ := this
      simp at h2
      subst h2
      simpa [hq] using ht
  rw [← this]
  exact hGo q
def bodiesOf {P : Program} {tb : Tab} (l : List (Ent P tb (stlW tb))) (f : Nat) : Option YFun :=
  match l with
  | [] => .none
  | e :: r => (match Nat.beq e.f f with | true => .some e.F | false => bodiesOf r f)
theorem bodiesOf_ok {P : Program} {tb : Tab} : ∀ {l : List (Ent P tb (stlW tb))} {f : Nat} {F : YFun}, bodiesOf l f = some F → ∃ en : Ent P tb (stlW tb), en.f = f ∧ en.F = F
  | [], f, F, h => by simp [bodiesOf] at h
  | e :: r, f, F, h => by
    simp only [bodiesOf] at h
    split at h
    · rename_i hb
      cases h
      exact ⟨e, beq_nat hb, rfl⟩
    · exact bodiesOf_ok h
inductive FAll (P : Program) : List (FSpec U) → Prop
  | nil : FAll P []
  | cons {s : FSpec U} {r : List (FSpec U)} : FGood P s → FAll P r → FAll P (s :: r)
theorem FAll.mem {P : Program} {l : List (FSpec U)} (h : FAll P l) : ∀ s ∈ l, FGood P s := by
  induction h with
  | nil => intro s hs; cases hs
  | cons h1 h2 ih =>
    intro s hs
    rcases List.mem_cons.1 hs with rfl | hs
    · exact h1
    · exact ih s hs
abbrev XE (U : Uni) {P : Program} {tb : Tab} (tyO : Nat → Option Ty) (Sp : List (FSpec U)) (inl : List (Ent P tb (stlW tb))) (sm : List Nat) : SEnv := ⟨tb, U.lay, tyO, Sp.map FSpec.sig, bodiesOf inl, fun f => memN f sm⟩
theorem memN_ok {x : Nat} : ∀ {l : List Nat}, memN x l = true → x ∈ l
  | [], h => by simp [memN] at h
  | y :: r, h => by
    simp only [memN] at h
    split at h
    · rename_i hb; rw [beq_nat hb]; exact List.mem_cons_self ..
    · exact List.mem_cons_of_mem _ (memN_ok h)
theorem envOk {P : Program} {tb : Tab} {tyO : Nat → Option Ty} {Sp : List (FSpec U)} (h : FAll P Sp) (inl : List (Ent P tb (stlW tb))) {sm : List Nat} (hs : ∀ f ∈ sm, Ext P f Extern.AbiNoEscape.same) : EnvOk P U (XE U tyO Sp inl sm) Sp :=
  ⟨rfl, rfl, h.mem, fun f F hF => bodiesOf_ok hF, fun f hf => hs f (memN_ok hf)⟩
theorem no_same {P : Program} : ∀ f ∈ ([] : List Nat), Ext P f Extern.AbiNoEscape.same := fun f h => by cases h
def sIndexByte (f : Nat) : FSpec U := ⟨⟨f, [.ty .str, .ty (.int .u8)], [.int .i64]⟩, fun (s, c, _) => 0 ≤ c ∧ c < 256, fun (s, c, _) => [⟨.int .i64, idxFrom c.toNat s 0⟩], fun _ => rfl⟩
theorem indexByte_ok {P : Program} {f : Nat} (he : Ext P f Extern.BytealgIndexByte.indexByte) : FGood P (sIndexByte (U := U) f) := by
  rintro ⟨(s : List UInt8), (c : Int), _⟩ vs ha ⟨h1, h2⟩ σ
  obtain ⟨d, ds, v, vs', e1, rfl, e2, hv, d2, ds2, v2, vs2, e3, rfl, e4, hv2, e5, rfl⟩ := ha
  cases e1; cases e3
  obtain ⟨x, rfl, hx⟩ := hv
  obtain ⟨y, rfl, hy⟩ := hv2
  have q1 := FD.str hx
  have q2 := FD.int hy
  subst q1 q2
  have hs : spIndex [.c (.f (.str s)), .c (.f (.int .u8 c))] σ = some [(vint' .i64 (idxFrom c.toNat s 0), σ)] := by
    obtain ⟨n, rfl⟩ : ∃ n : Nat, c = n := ⟨c.toNat, by have : (0 : Int) ≤ c := h1; omega⟩
    have : n < 256 := by have : ((n : Int)) < 256 := h2; omega
    show (match Nat.blt n 256 with | true => _ | false => _) = _
    rw [blt_true this]
    rfl
  refine (index_ok' he hs).mono fun r σ' hm => ?_
  rw [List.mem_singleton] at hm
  cases hm
  exact ⟨⟨[vint' .i64 (idxFrom c.toNat s 0)], ⟨_, [], rfl, ⟨_, rfl, rfl⟩, rfl⟩, rfl⟩, rfl⟩
end Go.Dm.Sx
namespace Go.Dm.Sx
open Go.Dm
set_option linter.unusedVariables false
set_option linter.unusedSimpArgs false
variable {U : Uni} {P : Program}
def ctys (lay : Nat → List Ty) : Ty → List Ty
  | .base n => lay n
  | t => [t]
def Cw (U : Uni) (fs : List F) (l : List Ty) : Prop := fs.length = l.length ∧ ∀ (j : Nat) (f : F) (t : Ty), fs[j]? = some f → l[j]? = some t → ∃ d : Dyn U.B, FD U f d ∧ d.t = t
theorem Cw.list : ∀ {fs : List F} {l : List Ty}, Cw U fs l → ∃ ds : List (Dyn U.B), FDs U fs ds ∧ ds.map Dyn.t = l
  | [], [], h => ⟨[], rfl, rfl⟩
  | [], t :: l, h => by have := h.1; simp at this
  | f :: r, [], h => by have := h.1; simp at this
  | f :: r, t :: l, h => by
    obtain ⟨d, h1, h2⟩ := h.2 0 f t rfl rfl
    obtain ⟨ds, h3, h4⟩ := Cw.list (fs := r) (l := l) ⟨by have := h.1; simpa using this, fun j f' t' hf ht => h.2 (j + 1) f' t' (by simpa using hf) (by simpa using ht)⟩
    exact ⟨d :: ds, ⟨d, ds, rfl, h1, h3⟩, by simp [h2, h4]⟩
theorem Cw.data {fs : List F} {u : Ty} (h : Cw U fs (ctys U.lay u)) : ∃ x : T U.B u, FDs U fs (cells U ⟨u, x⟩) := by
  obtain ⟨ds, h1, h2⟩ := h.list
  by_cases hb : ∃ n, u = .base n
  · obtain ⟨n, rfl⟩ := hb
    refine ⟨U.bd n ds, ?_⟩
    have : cells U (⟨.base n, U.bd n ds⟩ : Dyn U.B) = ds := by
      have hl : ds.length = (U.lay n).length := by rw [← List.length_map (f := Dyn.t), h2]; rfl
      apply List.ext_getElem?
      intro j
      by_cases hj : j < (U.lay n).length
      · have hd : ds[j]? = some ds[j] := List.getElem?_eq_getElem (by omega)
        rw [hd]
        simp only [cells, List.getElem?_map, List.getElem?_range hj, Option.map_some]
        rw [U.bd_acc n ds h2 j _ hd]
      · rw [List.getElem?_eq_none (by simp [cells]; omega), List.getElem?_eq_none (by omega)]
    rw [this]
    exact h1
  · have hc : ctys U.lay u = [u] := by cases u <;> first | rfl | exact absurd ⟨_, rfl⟩ hb
    rw [hc] at h2
    match ds, h2 with
    | [⟨t, v⟩], h2 =>
      simp only [List.map_cons, List.map_nil, List.cons.injEq, and_true] at h2
      subst h2
      refine ⟨v, ?_⟩
      have : cells U (⟨t, v⟩ : Dyn U.B) = [⟨t, v⟩] := by cases t <;> first | rfl | exact absurd ⟨_, rfl⟩ hb
      rw [this]
      exact h1
theorem FDs.appd : ∀ {fs gs : List F} {l m : List (Dyn U.B)}, FDs U fs l → FDs U gs m → FDs U (fs ++ gs) (l ++ m)
  | [], gs, l, m, h, k => by simp only [FDs] at h; subst h; exact k
  | f :: r, gs, l, m, h, k => by
    simp only [FDs] at h
    obtain ⟨d, l', rfl, h1, h2⟩ := h
    exact ⟨d, l' ++ m, rfl, h1, FDs.appd h2 k⟩
theorem rows_data {u : Ty} {sz : Nat} : ∀ (m : Nat) {cs : List F}, cs.length = m * sz → (∀ i, i < m → ∃ x : T U.B u, FDs U ((cs.drop (i * sz)).take sz) (cells U ⟨u, x⟩)) → ∃ xs : List (T U.B u), xs.length = m ∧ FDs U cs (flat U xs)
  | 0, cs, hl, h => ⟨[], rfl, by
    have : cs = [] := List.eq_nil_of_length_eq_zero (by simpa using hl)
    subst this; rfl⟩
  | m + 1, cs, hl, h => by
    rw [Nat.succ_mul] at hl
    obtain ⟨x, hx⟩ := h 0 (by omega)
    rw [Nat.zero_mul, List.drop_zero] at hx
    obtain ⟨xs, h1, h2⟩ := rows_data (u := u) (sz := sz) m (cs := cs.drop sz) (by rw [List.length_drop]; omega) fun i hi => by
      have := h (i + 1) (by omega)
      rw [Nat.succ_mul] at this
      rw [List.drop_drop, Nat.add_comm sz]
      exact this
    refine ⟨x :: xs, by simp [h1], ?_⟩
    rw [flat_cons]
    have := hx.appd h2
    rwa [List.take_append_drop] at this
def tyM (P : Program) (lay : Nat → List Ty) : Nat → TypeId → List Ty → Bool
  | 0, _, _ => false
  | n + 1, t, l =>
    match P.underlying t with
    | some .bool => (match l with | [.bool] => true | _ => false)
    | some (.int k) => (match l with | [.int k'] => decide (k = k') | _ => false)
    | some .string => (match l with | [.str] => true | _ => false)
    | some (.slice e) => (match l with | [.list u] => tyM P lay n e (ctys lay u) && Nat.beq (P.cellsOf e) (ctys lay u).length | _ => false)
    | some (.struct fields) => Nat.beq l.length (P.cellsOf t) && (fields.toList.all (fun f => tyM P lay n f.type ((l.drop f.offset).take (P.cellsOf f.type))) &&
        (List.range (P.cellsOf t)).all fun j => fields.toList.any fun f => Nat.ble f.offset j && Nat.blt j (f.offset + P.cellsOf f.type))
    | _ => false
theorem tyM_ok : ∀ (n : Nat) {t : TypeId} {l : List Ty} {fs : List F}, tyM P U.lay n t l = true → TyF P n t fs → Cw U fs l
  | 0, t, l, fs, h, _ => by cases h
  | n + 1, t, l, fs, h, hf => by
    simp only [tyM] at h
    simp only [TyF] at hf
    have one : ∀ {f : F} {d : Dyn U.B}, FD U f d → Cw U [f] [d.t] := fun {f d} hd => ⟨rfl, fun j f' t' h1 h2 => by
      cases j with
      | zero => simp at h1 h2; subst h1 h2; exact ⟨d, hd, rfl⟩
      | succ j => simp at h1⟩
    split at h
    · rename_i hu
      rw [hu] at hf
      split at h
      · obtain ⟨b, rfl⟩ := hf; exact one (d := ⟨.bool, b⟩) rfl
      · cases h
    · rename_i k hu
      rw [hu] at hf
      split at h
      · obtain ⟨v, rfl, _⟩ := hf
        have := of_decide_eq_true h
        subst this
        exact one (d := ⟨.int k, v⟩) rfl
      · cases h
    · rename_i hu
      rw [hu] at hf
      split at h
      · obtain ⟨s, rfl, _⟩ := hf; exact one (d := ⟨.str, s⟩) rfl
      · cases h
    · rename_i e hu
      rw [hu] at hf
      split at h
      · rename_i u
        simp only [Bool.and_eq_true] at h
        obtain ⟨h1, h2⟩ := h
        have h2 := Nat.eq_of_beq_eq_true h2
        rcases hf with rfl | ⟨m, cs, rfl, _, h3, h4⟩
        · exact one (d := ⟨.list u, []⟩) ⟨u, rfl⟩
        · obtain ⟨xs, h5, h6⟩ := rows_data (U := U) (u := u) m h3 fun i hi => (tyM_ok n h1 (h4 i hi)).data
          exact one (d := ⟨.list u, xs⟩) ⟨u, xs, rfl, h5.symm, h6⟩
      · cases h
    · rename_i fields hu
      rw [hu] at hf
      simp only [Bool.and_eq_true, List.all_eq_true, List.any_eq_true, List.mem_range] at h
      obtain ⟨h1, h2, h3⟩ := h
      have h1 := Nat.eq_of_beq_eq_true h1
      obtain ⟨h4, h5⟩ := hf
      refine ⟨by omega, fun j f t' hj ht => ?_⟩
      have hlt := (List.getElem?_eq_some_iff.1 hj).1
      obtain ⟨fd, hfd, h6, h7⟩ := h3 j (by omega)
      have h6 := Nat.le_of_ble_eq_true h6
      have h7 : j < fd.offset + P.cellsOf fd.type := Nat.le_of_ble_eq_true h7
      refine (tyM_ok n (h2 fd hfd) (h5 fd hfd)).2 (j - fd.offset) f t' ?_ ?_
      · rw [List.getElem?_take_of_lt (by omega), List.getElem?_drop, show fd.offset + (j - fd.offset) = j by omega]; exact hj
      · rw [List.getElem?_take_of_lt (by omega), List.getElem?_drop, show fd.offset + (j - fd.offset) = j by omega]; exact ht
    · cases h
def baseT : Ty → Bool
  | .base _ => true
  | _ => false
def argsM (P : Program) (lay : Nat → List Ty) (n : Nat) : List TypeId → List In → Bool
  | [], [] => true
  | t :: ts, .ty u :: r => tyM P lay n t (ctys lay u) && ((aggT P t == baseT u) && argsM P lay n ts r)
  | _, _ => false
theorem argsM_ok {n : Nat} : ∀ {ts : List TypeId} {ins : List In} {xs : List V}, argsM P U.lay n ts ins = true → ArgsF P n ts xs → ∃ x : HL U (insTys ins), ArgsR U ins (HL.dyn _ x) xs
  | [], [], xs, h, hx => ⟨(), rfl, hx⟩
  | [], _ :: _, xs, h, hx => by cases h
  | _ :: _, [], xs, h, hx => by cases h
  | _ :: _, .fnc _ :: _, xs, h, hx => by cases h
  | _ :: _, .clo _ _ :: _, xs, h, hx => by cases h
  | t :: ts, .ty u :: r, xs, h, hx => by
    simp only [argsM, Bool.and_eq_true] at h
    obtain ⟨h1, h2, h3⟩ := h
    obtain ⟨x, xr, rfl, ha, hr⟩ := hx
    obtain ⟨y, hy⟩ := argsM_ok h3 hr
    have hag := eq_of_beq h2
    unfold ArgF at ha
    split at ha
    · rename_i hb
      obtain ⟨fs, rfl, hf⟩ := ha
      obtain ⟨v, hv⟩ := (tyM_ok (U := U) n h1 hf).data
      rw [hb] at hag
      cases u with
      | base k => exact ⟨(v, y), _, _, _, _, rfl, rfl, rfl, ⟨fs, rfl, hv⟩, hy⟩
      | _ => cases hag
    · rename_i hb
      obtain ⟨f, rfl, hf⟩ := ha
      obtain ⟨v, hv⟩ := (tyM_ok (U := U) n h1 hf).data
      rw [hb] at hag
      have hc : cells U (⟨u, v⟩ : Dyn U.B) = [⟨u, v⟩] := by cases u <;> first | rfl | cases hag
      rw [hc] at hv
      simp only [FDs] at hv
      obtain ⟨d, l', h4, h5, _⟩ := hv
      cases h4
      refine ⟨(v, y), _, _, _, _, rfl, rfl, rfl, ?_, hy⟩
      cases u with
      | base k => cases hag
      | _ => exact ⟨f, rfl, h5⟩
end Go.Dm.Sx
namespace Go.Dm.Sx
open Go.Dm
set_option linter.unusedVariables false
set_option linter.unusedSimpArgs false
structure PRx where
  kind : Int
  min : Int
  max : Int
  n : Int
  s0 : Int
  s1 : Int
  s2 : Int
  s3 : Int
  kids : List (PRx)
  deriving Inhabited
structure PAddr where
  kind : Int
  line : Int
  rx : PRx
  deriving Inhabited
structure PPiece where
  group : Int
  lit : List UInt8
  deriving Inhabited
structure PCmd where
  a : PAddr
  b : PAddr
  not_ : Bool
  op : Int
  text : List UInt8
  rx : PRx
  tpl : List (PPiece)
  global : Bool
  show_ : Bool
  nth : Int
  y : List UInt8
  z : List UInt8
  deriving Inhabited
structure PEnv where
  line : Int
  last : Bool
  space : List UInt8
  deriving Inhabited
@[reducible] def UB : Nat → Type
  | 0 => PRx
  | 1 => PAddr
  | 2 => PPiece
  | 3 => PCmd
  | 4 => PEnv
  | _ => Unit
def Udft : (n : Nat) → UB n
  | 0 => (default : PRx)
  | 1 => (default : PAddr)
  | 2 => (default : PPiece)
  | 3 => (default : PCmd)
  | 4 => (default : PEnv)
  | _ + 5 => ()
def Ulay : Nat → List Ty
  | 0 => [.int .i64, .int .i64, .int .i64, .int .i64, .int .u64, .int .u64, .int .u64, .int .u64, .list (.base 0)]
  | 1 => [.int .i64, .int .i64, .int .i64, .int .i64, .int .i64, .int .i64, .int .u64, .int .u64, .int .u64, .int .u64, .list (.base 0)]
  | 2 => [.int .i64, .str]
  | 3 => [.int .i64, .int .i64, .int .i64, .int .i64, .int .i64, .int .i64, .int .u64, .int .u64, .int .u64, .int .u64, .list (.base 0), .int .i64, .int .i64, .int .i64, .int .i64, .int .i64, .int .i64, .int .u64, .int .u64, .int .u64, .int .u64, .list (.base 0), .bool, .int .u8, .str, .int .i64, .int .i64, .int .i64, .int .i64, .int .u64, .int .u64, .int .u64, .int .u64, .list (.base 0), .list (.base 2), .bool, .bool, .int .i64, .str, .str]
  | 4 => [.int .i64, .bool, .str]
  | _ => []
def noU : Dyn UB := ⟨.bool, false⟩
def Uacc : (n : Nat) → UB n → Nat → Dyn UB
  | 0, x, 0 => ⟨.int .i64, ((x : PRx).kind)⟩
  | 0, x, 1 => ⟨.int .i64, ((x : PRx).min)⟩
  | 0, x, 2 => ⟨.int .i64, ((x : PRx).max)⟩
  | 0, x, 3 => ⟨.int .i64, ((x : PRx).n)⟩
  | 0, x, 4 => ⟨.int .u64, ((x : PRx).s0)⟩
  | 0, x, 5 => ⟨.int .u64, ((x : PRx).s1)⟩
  | 0, x, 6 => ⟨.int .u64, ((x : PRx).s2)⟩
  | 0, x, 7 => ⟨.int .u64, ((x : PRx).s3)⟩
  | 0, x, 8 => ⟨.list (.base 0), ((x : PRx).kids)⟩
  | 1, x, 0 => ⟨.int .i64, ((x : PAddr).kind)⟩
  | 1, x, 1 => ⟨.int .i64, ((x : PAddr).line)⟩
  | 1, x, 2 => ⟨.int .i64, ((x : PAddr).rx.kind)⟩
  | 1, x, 3 => ⟨.int .i64, ((x : PAddr).rx.min)⟩
  | 1, x, 4 => ⟨.int .i64, ((x : PAddr).rx.max)⟩
  | 1, x, 5 => ⟨.int .i64, ((x : PAddr).rx.n)⟩
  | 1, x, 6 => ⟨.int .u64, ((x : PAddr).rx.s0)⟩
  | 1, x, 7 => ⟨.int .u64, ((x : PAddr).rx.s1)⟩
  | 1, x, 8 => ⟨.int .u64, ((x : PAddr).rx.s2)⟩
  | 1, x, 9 => ⟨.int .u64, ((x : PAddr).rx.s3)⟩
  | 1, x, 10 => ⟨.list (.base 0), ((x : PAddr).rx.kids)⟩
  | 2, x, 0 => ⟨.int .i64, ((x : PPiece).group)⟩
  | 2, x, 1 => ⟨.str, ((x : PPiece).lit)⟩
  | 3, x, 0 => ⟨.int .i64, ((x : PCmd).a.kind)⟩
  | 3, x, 1 => ⟨.int .i64, ((x : PCmd).a.line)⟩
  | 3, x, 2 => ⟨.int .i64, ((x : PCmd).a.rx.kind)⟩
  | 3, x, 3 => ⟨.int .i64, ((x : PCmd).a.rx.min)⟩
  | 3, x, 4 => ⟨.int .i64, ((x : PCmd).a.rx.max)⟩
  | 3, x, 5 => ⟨.int .i64, ((x : PCmd).a.rx.n)⟩
  | 3, x, 6 => ⟨.int .u64, ((x : PCmd).a.rx.s0)⟩
  | 3, x, 7 => ⟨.int .u64, ((x : PCmd).a.rx.s1)⟩
  | 3, x, 8 => ⟨.int .u64, ((x : PCmd).a.rx.s2)⟩
  | 3, x, 9 => ⟨.int .u64, ((x : PCmd).a.rx.s3)⟩
  | 3, x, 10 => ⟨.list (.base 0), ((x : PCmd).a.rx.kids)⟩
  | 3, x, 11 => ⟨.int .i64, ((x : PCmd).b.kind)⟩
  | 3, x, 12 => ⟨.int .i64, ((x : PCmd).b.line)⟩
  | 3, x, 13 => ⟨.int .i64, ((x : PCmd).b.rx.kind)⟩
  | 3, x, 14 => ⟨.int .i64, ((x : PCmd).b.rx.min)⟩
  | 3, x, 15 => ⟨.int .i64, ((x : PCmd).b.rx.max)⟩
  | 3, x, 16 => ⟨.int .i64, ((x : PCmd).b.rx.n)⟩
  | 3, x, 17 => ⟨.int .u64, ((x : PCmd).b.rx.s0)⟩
  | 3, x, 18 => ⟨.int .u64, ((x : PCmd).b.rx.s1)⟩
  | 3, x, 19 => ⟨.int .u64, ((x : PCmd).b.rx.s2)⟩
  | 3, x, 20 => ⟨.int .u64, ((x : PCmd).b.rx.s3)⟩
  | 3, x, 21 => ⟨.list (.base 0), ((x : PCmd).b.rx.kids)⟩
  | 3, x, 22 => ⟨.bool, ((x : PCmd).not_)⟩
  | 3, x, 23 => ⟨.int .u8, ((x : PCmd).op)⟩
  | 3, x, 24 => ⟨.str, ((x : PCmd).text)⟩
  | 3, x, 25 => ⟨.int .i64, ((x : PCmd).rx.kind)⟩
  | 3, x, 26 => ⟨.int .i64, ((x : PCmd).rx.min)⟩
  | 3, x, 27 => ⟨.int .i64, ((x : PCmd).rx.max)⟩
  | 3, x, 28 => ⟨.int .i64, ((x : PCmd).rx.n)⟩
  | 3, x, 29 => ⟨.int .u64, ((x : PCmd).rx.s0)⟩
  | 3, x, 30 => ⟨.int .u64, ((x : PCmd).rx.s1)⟩
  | 3, x, 31 => ⟨.int .u64, ((x : PCmd).rx.s2)⟩
  | 3, x, 32 => ⟨.int .u64, ((x : PCmd).rx.s3)⟩
  | 3, x, 33 => ⟨.list (.base 0), ((x : PCmd).rx.kids)⟩
  | 3, x, 34 => ⟨.list (.base 2), ((x : PCmd).tpl)⟩
  | 3, x, 35 => ⟨.bool, ((x : PCmd).global)⟩
  | 3, x, 36 => ⟨.bool, ((x : PCmd).show_)⟩
  | 3, x, 37 => ⟨.int .i64, ((x : PCmd).nth)⟩
  | 3, x, 38 => ⟨.str, ((x : PCmd).y)⟩
  | 3, x, 39 => ⟨.str, ((x : PCmd).z)⟩
  | 4, x, 0 => ⟨.int .i64, ((x : PEnv).line)⟩
  | 4, x, 1 => ⟨.bool, ((x : PEnv).last)⟩
  | 4, x, 2 => ⟨.str, ((x : PEnv).space)⟩
  | _, _, _ => noU
def gt (l : List (Dyn UB)) (i : Nat) : Dyn UB := l.getD i noU
def gi : Dyn UB → Int
  | ⟨.int _, n⟩ => n
  | _ => 0
def gb : Dyn UB → Bool
  | ⟨.bool, n⟩ => n
  | _ => false
def gs : Dyn UB → List UInt8
  | ⟨.str, n⟩ => n
  | _ => []
def gf : Dyn UB → Nat
  | ⟨.flo, n⟩ => n
  | _ => 0
def gc : Dyn UB → Nat × Nat
  | ⟨.cpl, n⟩ => n
  | _ => (0, 0)
def gd : (t : Ty) → T UB t
  | .int _ => (0 : Int)
  | .bool => false
  | .str => ([] : List UInt8)
  | .flo => (0 : Nat)
  | .cpl => ((0, 0) : Nat × Nat)
  | .list _ => []
  | .ptr t => gd t
  | .opt _ => none
  | .base n => Udft n
def ga (t : Ty) (d : Dyn UB) : T UB t := if h : d.t = t then h ▸ d.v else gd t
theorem ga_self (t : Ty) (x : T UB t) : ga t ⟨t, x⟩ = x := by simp [ga]
theorem gt_of {l : List (Dyn UB)} {i : Nat} {d : Dyn UB} (h : l[i]? = some d) : gt l i = d := by simp [gt, h]
def Ubd : (n : Nat) → List (Dyn UB) → UB n
  | 0, l => (PRx.mk (gi (gt l 0)) (gi (gt l 1)) (gi (gt l 2)) (gi (gt l 3)) (gi (gt l 4)) (gi (gt l 5)) (gi (gt l 6)) (gi (gt l 7)) (ga (.list (.base 0)) (gt l 8)))
  | 1, l => (PAddr.mk (gi (gt l 0)) (gi (gt l 1)) (PRx.mk (gi (gt l 2)) (gi (gt l 3)) (gi (gt l 4)) (gi (gt l 5)) (gi (gt l 6)) (gi (gt l 7)) (gi (gt l 8)) (gi (gt l 9)) (ga (.list (.base 0)) (gt l 10))))
  | 2, l => (PPiece.mk (gi (gt l 0)) (gs (gt l 1)))
  | 3, l => (PCmd.mk (PAddr.mk (gi (gt l 0)) (gi (gt l 1)) (PRx.mk (gi (gt l 2)) (gi (gt l 3)) (gi (gt l 4)) (gi (gt l 5)) (gi (gt l 6)) (gi (gt l 7)) (gi (gt l 8)) (gi (gt l 9)) (ga (.list (.base 0)) (gt l 10)))) (PAddr.mk (gi (gt l 11)) (gi (gt l 12)) (PRx.mk (gi (gt l 13)) (gi (gt l 14)) (gi (gt l 15)) (gi (gt l 16)) (gi (gt l 17)) (gi (gt l 18)) (gi (gt l 19)) (gi (gt l 20)) (ga (.list (.base 0)) (gt l 21)))) (gb (gt l 22)) (gi (gt l 23)) (gs (gt l 24)) (PRx.mk (gi (gt l 25)) (gi (gt l 26)) (gi (gt l 27)) (gi (gt l 28)) (gi (gt l 29)) (gi (gt l 30)) (gi (gt l 31)) (gi (gt l 32)) (ga (.list (.base 0)) (gt l 33))) (ga (.list (.base 2)) (gt l 34)) (gb (gt l 35)) (gb (gt l 36)) (gi (gt l 37)) (gs (gt l 38)) (gs (gt l 39)))
  | 4, l => (PEnv.mk (gi (gt l 0)) (gb (gt l 1)) (gs (gt l 2)))
  | _ + 5, _ => ()
theorem Uty {l : List (Dyn UB)} {k : Nat} (h : l.map Dyn.t = Ulay k) {j : Nat} {d : Dyn UB} (hd : l[j]? = some d) {t : Ty} (ht : (Ulay k)[j]? = some t) : ∃ v : T UB t, d = ⟨t, v⟩ := by
  rw [← h, List.getElem?_map, hd] at ht
  obtain ⟨t', v⟩ := d
  simp only [Option.map_some, Option.some.injEq] at ht
  subst ht
  exact ⟨v, rfl⟩
theorem Uat_0 (x : PRx) : ∀ j t, (Ulay 0)[j]? = some t → (Uacc 0 x j).t = t
  | 0, t, h => by simp only [Ulay, List.getElem?_cons_zero, List.getElem?_cons_succ, Option.some.injEq] at h; exact h
  | 1, t, h => by simp only [Ulay, List.getElem?_cons_zero, List.getElem?_cons_succ, Option.some.injEq] at h; exact h
  | 2, t, h => by simp only [Ulay, List.getElem?_cons_zero, List.getElem?_cons_succ, Option.some.injEq] at h; exact h
  | 3, t, h => by simp only [Ulay, List.getElem?_cons_zero, List.getElem?_cons_succ, Option.some.injEq] at h; exact h
  | 4, t, h => by simp only [Ulay, List.getElem?_cons_zero, List.getElem?_cons_succ, Option.some.injEq] at h; exact h
  | 5, t, h => by simp only [Ulay, List.getElem?_cons_zero, List.getElem?_cons_succ, Option.some.injEq] at h; exact h
  | 6, t, h => by simp only [Ulay, List.getElem?_cons_zero, List.getElem?_cons_succ, Option.some.injEq] at h; exact h
  | 7, t, h => by simp only [Ulay, List.getElem?_cons_zero, List.getElem?_cons_succ, Option.some.injEq] at h; exact h
  | 8, t, h => by simp only [Ulay, List.getElem?_cons_zero, List.getElem?_cons_succ, Option.some.injEq] at h; exact h
  | j + 9, t, h => by simp [Ulay] at h
theorem Uba_0 (l : List (Dyn UB)) (h : l.map Dyn.t = Ulay 0) : ∀ j d, l[j]? = some d → Uacc 0 (Ubd 0 l) j = d
  | 0, d, hd => by
    obtain ⟨v, rfl⟩ := Uty h hd (t := .int .i64) rfl
    show (⟨.int .i64, (gi (gt l 0))⟩ : Dyn UB) = _
    rw [gt_of hd]
    rfl
  | 1, d, hd => by
    obtain ⟨v, rfl⟩ := Uty h hd (t := .int .i64) rfl
    show (⟨.int .i64, (gi (gt l 1))⟩ : Dyn UB) = _
    rw [gt_of hd]
    rfl
  | 2, d, hd => by
    obtain ⟨v, rfl⟩ := Uty h hd (t := .int .i64) rfl
    show (⟨.int .i64, (gi (gt l 2))⟩ : Dyn UB) = _
    rw [gt_of hd]
    rfl
  | 3, d, hd => by
    obtain ⟨v, rfl⟩ := Uty h hd (t := .int .i64) rfl
    show (⟨.int .i64, (gi (gt l 3))⟩ : Dyn UB) = _
    rw [gt_of hd]
    rfl
  | 4, d, hd => by
    obtain ⟨v, rfl⟩ := Uty h hd (t := .int .u64) rfl
    show (⟨.int .u64, (gi (gt l 4))⟩ : Dyn UB) = _
    rw [gt_of hd]
    rfl
  | 5, d, hd => by
    obtain ⟨v, rfl⟩ := Uty h hd (t := .int .u64) rfl
    show (⟨.int .u64, (gi (gt l 5))⟩ : Dyn UB) = _
    rw [gt_of hd]
    rfl
  | 6, d, hd => by
    obtain ⟨v, rfl⟩ := Uty h hd (t := .int .u64) rfl
    show (⟨.int .u64, (gi (gt l 6))⟩ : Dyn UB) = _
    rw [gt_of hd]
    rfl
  | 7, d, hd => by
    obtain ⟨v, rfl⟩ := Uty h hd (t := .int .u64) rfl
    show (⟨.int .u64, (gi (gt l 7))⟩ : Dyn UB) = _
    rw [gt_of hd]
    rfl
  | 8, d, hd => by
    obtain ⟨v, rfl⟩ := Uty h hd (t := .list (.base 0)) rfl
    show (⟨.list (.base 0), (ga (.list (.base 0)) (gt l 8))⟩ : Dyn UB) = _
    rw [gt_of hd, ga_self]
  | j + 9, d, hd => by
    have h1 := (List.getElem?_eq_some_iff.1 hd).1
    have h2 := congrArg List.length h
    simp [Ulay] at h2
    omega
theorem Uat_1 (x : PAddr) : ∀ j t, (Ulay 1)[j]? = some t → (Uacc 1 x j).t = t
  | 0, t, h => by simp only [Ulay, List.getElem?_cons_zero, List.getElem?_cons_succ, Option.some.injEq] at h; exact h
  | 1, t, h => by simp only [Ulay, List.getElem?_cons_zero, List.getElem?_cons_succ, Option.some.injEq] at h; exact h
  | 2, t, h => by simp only [Ulay, List.getElem?_cons_zero, List.getElem?_cons_succ, Option.some.injEq] at h; exact h
  | 3, t, h => by simp only [Ulay, List.getElem?_cons_zero, List.getElem?_cons_succ, Option.some.injEq] at h; exact h
  | 4, t, h => by simp only [Ulay, List.getElem?_cons_zero, List.getElem?_cons_succ, Option.some.injEq] at h; exact h
  | 5, t, h => by simp only [Ulay, List.getElem?_cons_zero, List.getElem?_cons_succ, Option.some.injEq] at h; exact h
  | 6, t, h => by simp only [Ulay, List.getElem?_cons_zero, List.getElem?_cons_succ, Option.some.injEq] at h; exact h
  | 7, t, h => by simp only [Ulay, List.getElem?_cons_zero, List.getElem?_cons_succ, Option.some.injEq] at h; exact h
  | 8, t, h => by simp only [Ulay, List.getElem?_cons_zero, List.getElem?_cons_succ, Option.some.injEq] at h; exact h
  | 9, t, h => by simp only [Ulay, List.getElem?_cons_zero, List.getElem?_cons_succ, Option.some.injEq] at h; exact h
  | 10, t, h => by simp only [Ulay, List.getElem?_cons_zero, List.getElem?_cons_succ, Option.some.injEq] at h; exact h
  | j + 11, t, h => by simp [Ulay] at h
theorem Uba_1 (l : List (Dyn UB)) (h : l.map Dyn.t = Ulay 1) : ∀ j d, l[j]? = some d → Uacc 1 (Ubd 1 l) j = d
  | 0, d, hd => by
    obtain ⟨v, rfl⟩ := Uty h hd (t := .int .i64) rfl
    show (⟨.int .i64, (gi (gt l 0))⟩ : Dyn UB) = _
    rw [gt_of hd]
    rfl
  | 1, d, hd => by
    obtain ⟨v, rfl⟩ := Uty h hd (t := .int .i64) rfl
    show (⟨.int .i64, (gi (gt l 1))⟩ : Dyn UB) = _
    rw [gt_of hd]
    rfl
  | 2, d, hd => by
    obtain ⟨v, rfl⟩ := Uty h hd (t := .int .i64) rfl
    show (⟨.int .i64, (gi (gt l 2))⟩ : Dyn UB) = _
    rw [gt_of hd]
    rfl
  | 3, d, hd => by
    obtain ⟨v, rfl⟩ := Uty h hd (t := .int .i64) rfl
    show (⟨.int .i64, (gi (gt l 3))⟩ : Dyn UB) = _
    rw [gt_of hd]
    rfl
  | 4, d, hd => by
    obtain ⟨v, rfl⟩ := Uty h hd (t := .int .i64) rfl
    show (⟨.int .i64, (gi (gt l 4))⟩ : Dyn UB) = _
    rw [gt_of hd]
    rfl
  | 5, d, hd => by
    obtain ⟨v, rfl⟩ := Uty h hd (t := .int .i64) rfl
    show (⟨.int .i64, (gi (gt l 5))⟩ : Dyn UB) = _
    rw [gt_of hd]
    rfl
  | 6, d, hd => by
    obtain ⟨v, rfl⟩ := Uty h hd (t := .int .u64) rfl
    show (⟨.int .u64, (gi (gt l 6))⟩ : Dyn UB) = _
    rw [gt_of hd]
    rfl
  | 7, d, hd => by
    obtain ⟨v, rfl⟩ := Uty h hd (t := .int .u64) rfl
    show (⟨.int .u64, (gi (gt l 7))⟩ : Dyn UB) = _
    rw [gt_of hd]
    rfl
  | 8, d, hd => by
    obtain ⟨v, rfl⟩ := Uty h hd (t := .int .u64) rfl
    show (⟨.int .u64, (gi (gt l 8))⟩ : Dyn UB) = _
    rw [gt_of hd]
    rfl
  | 9, d, hd => by
    obtain ⟨v, rfl⟩ := Uty h hd (t := .int .u64) rfl
    show (⟨.int .u64, (gi (gt l 9))⟩ : Dyn UB) = _
    rw [gt_of hd]
    rfl
  | 10, d, hd => by
    obtain ⟨v, rfl⟩ := Uty h hd (t := .list (.base 0)) rfl
    show (⟨.list (.base 0), (ga (.list (.base 0)) (gt l 10))⟩ : Dyn UB) = _
    rw [gt_of hd, ga_self]
  | j + 11, d, hd => by
    have h1 := (List.getElem?_eq_some_iff.1 hd).1
    have h2 := congrArg List.length h
    simp [Ulay] at h2
    omega
theorem Uat_2 (x : PPiece) : ∀ j t, (Ulay 2)[j]? = some t → (Uacc 2 x j).t = t
  | 0, t, h => by simp only [Ulay, List.getElem?_cons_zero, List.getElem?_cons_succ, Option.some.injEq] at h; exact h
  | 1, t, h => by simp only [Ulay, List.getElem?_cons_zero, List.getElem?_cons_succ, Option.some.injEq] at h; exact h
  | j + 2, t, h => by simp [Ulay] at h
theorem Uba_2 (l : List (Dyn UB)) (h : l.map Dyn.t = Ulay 2) : ∀ j d, l[j]? = some d → Uacc 2 (Ubd 2 l) j = d
  | 0, d, hd => by
    obtain ⟨v, rfl⟩ := Uty h hd (t := .int .i64) rfl
    show (⟨.int .i64, (gi (gt l 0))⟩ : Dyn UB) = _
    rw [gt_of hd]
    rfl
  | 1, d, hd => by
    obtain ⟨v, rfl⟩ := Uty h hd (t := .str) rfl
    show (⟨.str, (gs (gt l 1))⟩ : Dyn UB) = _
    rw [gt_of hd]
    rfl
  | j + 2, d, hd => by
    have h1 := (List.getElem?_eq_some_iff.1 hd).1
    have h2 := congrArg List.length h
    simp [Ulay] at h2
    omega
theorem Uat_3 (x : PCmd) : ∀ j t, (Ulay 3)[j]? = some t → (Uacc 3 x j).t = t
  | 0, t, h => by simp only [Ulay, List.getElem?_cons_zero, List.getElem?_cons_succ, Option.some.injEq] at h; exact h
  | 1, t, h => by simp only [Ulay, List.getElem?_cons_zero, List.getElem?_cons_succ, Option.some.injEq] at h; exact h
  | 2, t, h => by simp only [Ulay, List.getElem?_cons_zero, List.getElem?_cons_succ, Option.some.injEq] at h; exact h
  | 3, t, h => by simp only [Ulay, List.getElem?_cons_zero, List.getElem?_cons_succ, Option.some.injEq] at h; exact h
  | 4, t, h => by simp only [Ulay, List.getElem?_cons_zero, List.getElem?_cons_succ, Option.some.injEq] at h; exact h
  | 5, t, h => by simp only [Ulay, List.getElem?_cons_zero, List.getElem?_cons_succ, Option.some.injEq] at h; exact h
  | 6, t, h => by simp only [Ulay, List.getElem?_cons_zero, List.getElem?_cons_succ, Option.some.injEq] at h; exact h
  | 7, t, h => by simp only [Ulay, List.getElem?_cons_zero, List.getElem?_cons_succ, Option.some.injEq] at h; exact h
  | 8, t, h => by simp only [Ulay, List.getElem?_cons_zero, List.getElem?_cons_succ, Option.some.injEq] at h; exact h
  | 9, t, h => by simp only [Ulay, List.getElem?_cons_zero, List.getElem?_cons_succ, Option.some.injEq] at h; exact h
  | 10, t, h => by simp only [Ulay, List.getElem?_cons_zero, List.getElem?_cons_succ, Option.some.injEq] at h; exact h
  | 11, t, h => by simp only [Ulay, List.getElem?_cons_zero, List.getElem?_cons_succ, Option.some.injEq] at h; exact h
  | 12, t, h => by simp only [Ulay, List.getElem?_cons_zero, List.getElem?_cons_succ, Option.some.injEq] at h; exact h
  | 13, t, h => by simp only [Ulay, List.getElem?_cons_zero, List.getElem?_cons_succ, Option.some.injEq] at h; exact h
  | 14, t, h => by simp only [Ulay, List.getElem?_cons_zero, List.getElem?_cons_succ, Option.some.injEq] at h; exact h
  | 15, t, h => by simp only [Ulay, List.getElem?_cons_zero, List.getElem?_cons_succ, Option.some.injEq] at h; exact h
  | 16, t, h => by simp only [Ulay, List.getElem?_cons_zero, List.getElem?_cons_succ, Option.some.injEq] at h; exact h
  | 17, t, h => by simp only [Ulay, List.getElem?_cons_zero, List.getElem?_cons_succ, Option.some.injEq] at h; exact h
  | 18, t, h => by simp only [Ulay, List.getElem?_cons_zero, List.getElem?_cons_succ, Option.some.injEq] at h; exact h
  | 19, t, h => by simp only [Ulay, List.getElem?_cons_zero, List.getElem?_cons_succ, Option.some.injEq] at h; exact h
  | 20, t, h => by simp only [Ulay, List.getElem?_cons_zero, List.getElem?_cons_succ, Option.some.injEq] at h; exact h
  | 21, t, h => by simp only [Ulay, List.getElem?_cons_zero, List.getElem?_cons_succ, Option.some.injEq] at h; exact h
  | 22, t, h => by simp only [Ulay, List.getElem?_cons_zero, List.getElem?_cons_succ, Option.some.injEq] at h; exact h
  | 23, t, h => by simp only [Ulay, List.getElem?_cons_zero, List.getElem?_cons_succ, Option.some.injEq] at h; exact h
  | 24, t, h => by simp only [Ulay, List.getElem?_cons_zero, List.getElem?_cons_succ, Option.some.injEq] at h; exact h
  | 25, t, h => by simp only [Ulay, List.getElem?_cons_zero, List.getElem?_cons_succ, Option.some.injEq] at h; exact h
  | 26, t, h => by simp only [Ulay, List.getElem?_cons_zero, List.getElem?_cons_succ, Option.some.injEq] at h; exact h
  | 27, t, h => by simp only [Ulay, List.getElem?_cons_zero, List.getElem?_cons_succ, Option.some.injEq] at h; exact h
  | 28, t, h => by simp only [Ulay, List.getElem?_cons_zero, List.getElem?_cons_succ, Option.some.injEq] at h; exact h
  | 29, t, h => by simp only [Ulay, List.getElem?_cons_zero, List.getElem?_cons_succ, Option.some.injEq] at h; exact h
  | 30, t, h => by simp only [Ulay, List.getElem?_cons_zero, List.getElem?_cons_succ, Option.some.injEq] at h; exact h
  | 31, t, h => by simp only [Ulay, List.getElem?_cons_zero, List.getElem?_cons_succ, Option.some.injEq] at h; exact h
  | 32, t, h => by simp only [Ulay, List.getElem?_cons_zero, List.getElem?_cons_succ, Option.some.injEq] at h; exact h
  | 33, t, h => by simp only [Ulay, List.getElem?_cons_zero, List.getElem?_cons_succ, Option.some.injEq] at h; exact h
  | 34, t, h => by simp only [Ulay, List.getElem?_cons_zero, List.getElem?_cons_succ, Option.some.injEq] at h; exact h
  | 35, t, h => by simp only [Ulay, List.getElem?_cons_zero, List.getElem?_cons_succ, Option.some.injEq] at h; exact h
  | 36, t, h => by simp only [Ulay, List.getElem?_cons_zero, List.getElem?_cons_succ, Option.some.injEq] at h; exact h
  | 37, t, h => by simp only [Ulay, List.getElem?_cons_zero, List.getElem?_cons_succ, Option.some.injEq] at h; exact h
  | 38, t, h => by simp only [Ulay, List.getElem?_cons_zero, List.getElem?_cons_succ, Option.some.injEq] at h; exact h
  | 39, t, h => by simp only [Ulay, List.getElem?_cons_zero, List.getElem?_cons_succ, Option.some.injEq] at h; exact h
  | j + 40, t, h => by simp [Ulay] at h
theorem Uba_3 (l : List (Dyn UB)) (h : l.map Dyn.t = Ulay 3) : ∀ j d, l[j]? = some d → Uacc 3 (Ubd 3 l) j = d
  | 0, d, hd => by
    obtain ⟨v, rfl⟩ := Uty h hd (t := .int .i64) rfl
    show (⟨.int .i64, (gi (gt l 0))⟩ : Dyn UB) = _
    rw [gt_of hd]
    rfl
  | 1, d, hd => by
    obtain ⟨v, rfl⟩ := Uty h hd (t := .int .i64) rfl
    show (⟨.int .i64, (gi (gt l 1))⟩ : Dyn UB) = _
    rw [gt_of hd]
    rfl
  | 2, d, hd => by
    obtain ⟨v, rfl⟩ := Uty h hd (t := .int .i64) rfl
    show (⟨.int .i64, (gi (gt l 2))⟩ : Dyn UB) = _
    rw [gt_of hd]
    rfl
  | 3, d, hd => by
    obtain ⟨v, rfl⟩ := Uty h hd (t := .int .i64) rfl
    show (⟨.int .i64, (gi (gt l 3))⟩ : Dyn UB) = _
    rw [gt_of hd]
    rfl
  | 4, d, hd => by
    obtain ⟨v, rfl⟩ := Uty h hd (t := .int .i64) rfl
    show (⟨.int .i64, (gi (gt l 4))⟩ : Dyn UB) = _
    rw [gt_of hd]
    rfl
  | 5, d, hd => by
    obtain ⟨v, rfl⟩ := Uty h hd (t := .int .i64) rfl
    show (⟨.int .i64, (gi (gt l 5))⟩ : Dyn UB) = _
    rw [gt_of hd]
    rfl
  | 6, d, hd => by
    obtain ⟨v, rfl⟩ := Uty h hd (t := .int .u64) rfl
    show (⟨.int .u64, (gi (gt l 6))⟩ : Dyn UB) = _
    rw [gt_of hd]
    rfl
  | 7, d, hd => by
    obtain ⟨v, rfl⟩ := Uty h hd (t := .int .u64) rfl
    show (⟨.int .u64, (gi (gt l 7))⟩ : Dyn UB) = _
    rw [gt_of hd]
    rfl
  | 8, d, hd => by
    obtain ⟨v, rfl⟩ := Uty h hd (t := .int .u64) rfl
    show (⟨.int .u64, (gi (gt l 8))⟩ : Dyn UB) = _
    rw [gt_of hd]
    rfl
  | 9, d, hd => by
    obtain ⟨v, rfl⟩ := Uty h hd (t := .int .u64) rfl
    show (⟨.int .u64, (gi (gt l 9))⟩ : Dyn UB) = _
    rw [gt_of hd]
    rfl
  | 10, d, hd => by
    obtain ⟨v, rfl⟩ := Uty h hd (t := .list (.base 0)) rfl
    show (⟨.list (.base 0), (ga (.list (.base 0)) (gt l 10))⟩ : Dyn UB) = _
    rw [gt_of hd, ga_self]
  | 11, d, hd => by
    obtain ⟨v, rfl⟩ := Uty h hd (t := .int .i64) rfl
    show (⟨.int .i64, (gi (gt l 11))⟩ : Dyn UB) = _
    rw [gt_of hd]
    rfl
  | 12, d, hd => by
    obtain ⟨v, rfl⟩ := Uty h hd (t := .int .i64) rfl
    show (⟨.int .i64, (gi (gt l 12))⟩ : Dyn UB) = _
    rw [gt_of hd]
    rfl
  | 13, d, hd => by
    obtain ⟨v, rfl⟩ := Uty h hd (t := .int .i64) rfl
    show (⟨.int .i64, (gi (gt l 13))⟩ : Dyn UB) = _
    rw [gt_of hd]
    rfl
  | 14, d, hd => by
    obtain ⟨v, rfl⟩ := Uty h hd (t := .int .i64) rfl
    show (⟨.int .i64, (gi (gt l 14))⟩ : Dyn UB) = _
    rw [gt_of hd]
    rfl
  | 15, d, hd => by
    obtain ⟨v, rfl⟩ := Uty h hd (t := .int .i64) rfl
    show (⟨.int .i64, (gi (gt l 15))⟩ : Dyn UB) = _
    rw [gt_of hd]
    rfl
  | 16, d, hd => by
    obtain ⟨v, rfl⟩ := Uty h hd (t := .int .i64) rfl
    show (⟨.int .i64, (gi (gt l 16))⟩ : Dyn UB) = _
    rw [gt_of hd]
    rfl
  | 17, d, hd => by
    obtain ⟨v, rfl⟩ := Uty h hd (t := .int .u64) rfl
    show (⟨.int .u64, (gi (gt l 17))⟩ : Dyn UB) = _
    rw [gt_of hd]
    rfl
  | 18, d, hd => by
    obtain ⟨v, rfl⟩ := Uty h hd (t := .int .u64) rfl
    show (⟨.int .u64, (gi (gt l 18))⟩ : Dyn UB) = _
    rw [gt_of hd]
    rfl
  | 19, d, hd => by
    obtain ⟨v, rfl⟩ := Uty h hd (t := .int .u64) rfl
    show (⟨.int .u64, (gi (gt l 19))⟩ : Dyn UB) = _
    rw [gt_of hd]
    rfl
  | 20, d, hd => by
    obtain ⟨v, rfl⟩ := Uty h hd (t := .int .u64) rfl
    show (⟨.int .u64, (gi (gt l 20))⟩ : Dyn UB) = _
    rw [gt_of hd]
    rfl
  | 21, d, hd => by
    obtain ⟨v, rfl⟩ := Uty h hd (t := .list (.base 0)) rfl
    show (⟨.list (.base 0), (ga (.list (.base 0)) (gt l 21))⟩ : Dyn UB) = _
    rw [gt_of hd, ga_self]
  | 22, d, hd => by
    obtain ⟨v, rfl⟩ := Uty h hd (t := .bool) rfl
    show (⟨.bool, (gb (gt l 22))⟩ : Dyn UB) = _
    rw [gt_of hd]
    rfl
  | 23, d, hd => by
    obtain ⟨v, rfl⟩ := Uty h hd (t := .int .u8) rfl
    show (⟨.int .u8, (gi (gt l 23))⟩ : Dyn UB) = _
    rw [gt_of hd]
    rfl
  | 24, d, hd => by
    obtain ⟨v, rfl⟩ := Uty h hd (t := .str) rfl
    show (⟨.str, (gs (gt l 24))⟩ : Dyn UB) = _
    rw [gt_of hd]
    rfl
  | 25, d, hd => by
    obtain ⟨v, rfl⟩ := Uty h hd (t := .int .i64) rfl
    show (⟨.int .i64, (gi (gt l 25))⟩ : Dyn UB) = _
    rw [gt_of hd]
    rfl
  | 26, d, hd => by
    obtain ⟨v, rfl⟩ := Uty h hd (t := .int .i64) rfl
    show (⟨.int .i64, (gi (gt l 26))⟩ : Dyn UB) = _
    rw [gt_of hd]
    rfl
  | 27, d, hd => by
    obtain ⟨v, rfl⟩ := Uty h hd (t := .int .i64) rfl
    show (⟨.int .i64, (gi (gt l 27))⟩ : Dyn UB) = _
    rw [gt_of hd]
    rfl
  | 28, d, hd => by
    obtain ⟨v, rfl⟩ := Uty h hd (t := .int .i64) rfl
    show (⟨.int .i64, (gi (gt l 28))⟩ : Dyn UB) = _
    rw [gt_of hd]
    rfl
  | 29, d, hd => by
    obtain ⟨v, rfl⟩ := Uty h hd (t := .int .u64) rfl
    show (⟨.int .u64, (gi (gt l 29))⟩ : Dyn UB) = _
    rw [gt_of hd]
    rfl
  | 30, d, hd => by
    obtain ⟨v, rfl⟩ := Uty h hd (t := .int .u64) rfl
    show (⟨.int .u64, (gi (gt l 30))⟩ : Dyn UB) = _
    rw [gt_of hd]
    rfl
  | 31, d, hd => by
    obtain ⟨v, rfl⟩ := Uty h hd (t := .int .u64) rfl
    show (⟨.int .u64, (gi (gt l 31))⟩ : Dyn UB) = _
    rw [gt_of hd]
    rfl
  | 32, d, hd => by
    obtain ⟨v, rfl⟩ := Uty h hd (t := .int .u64) rfl
    show (⟨.int .u64, (gi (gt l 32))⟩ : Dyn UB) = _
    rw [gt_of hd]
    rfl
  | 33, d, hd => by
    obtain ⟨v, rfl⟩ := Uty h hd (t := .list (.base 0)) rfl
    show (⟨.list (.base 0), (ga (.list (.base 0)) (gt l 33))⟩ : Dyn UB) = _
    rw [gt_of hd, ga_self]
  | 34, d, hd => by
    obtain ⟨v, rfl⟩ := Uty h hd (t := .list (.base 2)) rfl
    show (⟨.list (.base 2), (ga (.list (.base 2)) (gt l 34))⟩ : Dyn UB) = _
    rw [gt_of hd, ga_self]
  | 35, d, hd => by
    obtain ⟨v, rfl⟩ := Uty h hd (t := .bool) rfl
    show (⟨.bool, (gb (gt l 35))⟩ : Dyn UB) = _
    rw [gt_of hd]
    rfl
  | 36, d, hd => by
    obtain ⟨v, rfl⟩ := Uty h hd (t := .bool) rfl
    show (⟨.bool, (gb (gt l 36))⟩ : Dyn UB) = _
    rw [gt_of hd]
    rfl
  | 37, d, hd => by
    obtain ⟨v, rfl⟩ := Uty h hd (t := .int .i64) rfl
    show (⟨.int .i64, (gi (gt l 37))⟩ : Dyn UB) = _
    rw [gt_of hd]
    rfl
  | 38, d, hd => by
    obtain ⟨v, rfl⟩ := Uty h hd (t := .str) rfl
    show (⟨.str, (gs (gt l 38))⟩ : Dyn UB) = _
    rw [gt_of hd]
    rfl
  | 39, d, hd => by
    obtain ⟨v, rfl⟩ := Uty h hd (t := .str) rfl
    show (⟨.str, (gs (gt l 39))⟩ : Dyn UB) = _
    rw [gt_of hd]
    rfl
  | j + 40, d, hd => by
    have h1 := (List.getElem?_eq_some_iff.1 hd).1
    have h2 := congrArg List.length h
    simp [Ulay] at h2
    omega
theorem Uat_4 (x : PEnv) : ∀ j t, (Ulay 4)[j]? = some t → (Uacc 4 x j).t = t
  | 0, t, h => by simp only [Ulay, List.getElem?_cons_zero, List.getElem?_cons_succ, Option.some.injEq] at h; exact h
  | 1, t, h => by simp only [Ulay, List.getElem?_cons_zero, List.getElem?_cons_succ, Option.some.injEq] at h; exact h
  | 2, t, h => by simp only [Ulay, List.getElem?_cons_zero, List.getElem?_cons_succ, Option.some.injEq] at h; exact h
  | j + 3, t, h => by simp [Ulay] at h
theorem Uba_4 (l : List (Dyn UB)) (h : l.map Dyn.t = Ulay 4) : ∀ j d, l[j]? = some d → Uacc 4 (Ubd 4 l) j = d
  | 0, d, hd => by
    obtain ⟨v, rfl⟩ := Uty h hd (t := .int .i64) rfl
    show (⟨.int .i64, (gi (gt l 0))⟩ : Dyn UB) = _
    rw [gt_of hd]
    rfl
  | 1, d, hd => by
    obtain ⟨v, rfl⟩ := Uty h hd (t := .bool) rfl
    show (⟨.bool, (gb (gt l 1))⟩ : Dyn UB) = _
    rw [gt_of hd]
    rfl
  | 2, d, hd => by
    obtain ⟨v, rfl⟩ := Uty h hd (t := .str) rfl
    show (⟨.str, (gs (gt l 2))⟩ : Dyn UB) = _
    rw [gt_of hd]
    rfl
  | j + 3, d, hd => by
    have h1 := (List.getElem?_eq_some_iff.1 hd).1
    have h2 := congrArg List.length h
    simp [Ulay] at h2
    omega
theorem Uat : ∀ n (x : UB n) j t, (Ulay n)[j]? = some t → (Uacc n x j).t = t
  | 0, x => Uat_0 x
  | 1, x => Uat_1 x
  | 2, x => Uat_2 x
  | 3, x => Uat_3 x
  | 4, x => Uat_4 x
  | _ + 5, x => fun j t h => by simp [Ulay] at h
theorem Uba : ∀ n l, l.map Dyn.t = Ulay n → ∀ j d, l[j]? = some d → Uacc n (Ubd n l) j = d
  | 0, l => Uba_0 l
  | 1, l => Uba_1 l
  | 2, l => Uba_2 l
  | 3, l => Uba_3 l
  | 4, l => Uba_4 l
  | _ + 5, l => fun h j d hd => by
    have h1 := (List.getElem?_eq_some_iff.1 hd).1
    have h2 := congrArg List.length h
    simp [Ulay] at h2
    subst h2
    simp at h1
def Un : Uni := ⟨UB, Udft, Ulay, Uacc, Ubd, Uat, Uba⟩
@[simp] theorem ac_0_0 (x : PRx) : Un.acc 0 x 0 = ⟨.int .i64, x.kind⟩ := rfl
@[simp] theorem ad_0_0 (x : Un.B 0) : Un.acc 0 x 0 = ⟨.int .i64, let x : PRx := x; x.kind⟩ := rfl
@[simp] theorem fl_0_0 (x : PRx) : fldD (@Dyn.mk Un.B (.base 0) x) 0 = ⟨.int .i64, x.kind⟩ := rfl
@[simp] theorem fp_0_0 (x : PRx) : fldD (@Dyn.mk Un.B (.ptr (.base 0)) x) 0 = ⟨.int .i64, x.kind⟩ := rfl
@[simp] theorem ac_0_1 (x : PRx) : Un.acc 0 x 1 = ⟨.int .i64, x.min⟩ := rfl
@[simp] theorem ad_0_1 (x : Un.B 0) : Un.acc 0 x 1 = ⟨.int .i64, let x : PRx := x; x.min⟩ := rfl
@[simp] theorem fl_0_1 (x : PRx) : fldD (@Dyn.mk Un.B (.base 0) x) 1 = ⟨.int .i64, x.min⟩ := rfl
@[simp] theorem fp_0_1 (x : PRx) : fldD (@Dyn.mk Un.B (.ptr (.base 0)) x) 1 = ⟨.int .i64, x.min⟩ := rfl
@[simp] theorem ac_0_2 (x : PRx) : Un.acc 0 x 2 = ⟨.int .i64, x.max⟩ := rfl
@[simp] theorem ad_0_2 (x : Un.B 0) : Un.acc 0 x 2 = ⟨.int .i64, let x : PRx := x; x.max⟩ := rfl
@[simp] theorem fl_0_2 (x : PRx) : fldD (@Dyn.mk Un.B (.base 0) x) 2 = ⟨.int .i64, x.max⟩ := rfl
@[simp] theorem fp_0_2 (x : PRx) : fldD (@Dyn.mk Un.B (.ptr (.base 0)) x) 2 = ⟨.int .i64, x.max⟩ := rfl
@[simp] theorem ac_0_3 (x : PRx) : Un.acc 0 x 3 = ⟨.int .i64, x.n⟩ := rfl
@[simp] theorem ad_0_3 (x : Un.B 0) : Un.acc 0 x 3 = ⟨.int .i64, let x : PRx := x; x.n⟩ := rfl
@[simp] theorem fl_0_3 (x : PRx) : fldD (@Dyn.mk Un.B (.base 0) x) 3 = ⟨.int .i64, x.n⟩ := rfl
@[simp] theorem fp_0_3 (x : PRx) : fldD (@Dyn.mk Un.B (.ptr (.base 0)) x) 3 = ⟨.int .i64, x.n⟩ := rfl
@[simp] theorem ac_0_4 (x : PRx) : Un.acc 0 x 4 = ⟨.int .u64, x.s0⟩ := rfl
@[simp] theorem ad_0_4 (x : Un.B 0) : Un.acc 0 x 4 = ⟨.int .u64, let x : PRx := x; x.s0⟩ := rfl
@[simp] theorem fl_0_4 (x : PRx) : fldD (@Dyn.mk Un.B (.base 0) x) 4 = ⟨.int .u64, x.s0⟩ := rfl
@[simp] theorem fp_0_4 (x : PRx) : fldD (@Dyn.mk Un.B (.ptr (.base 0)) x) 4 = ⟨.int .u64, x.s0⟩ := rfl
@[simp] theorem ac_0_5 (x : PRx) : Un.acc 0 x 5 = ⟨.int .u64, x.s1⟩ := rfl
@[simp] theorem ad_0_5 (x : Un.B 0) : Un.acc 0 x 5 = ⟨.int .u64, let x : PRx := x; x.s1⟩ := rfl
@[simp] theorem fl_0_5 (x : PRx) : fldD (@Dyn.mk Un.B (.base 0) x) 5 = ⟨.int .u64, x.s1⟩ := rfl
@[simp] theorem fp_0_5 (x : PRx) : fldD (@Dyn.mk Un.B (.ptr (.base 0)) x) 5 = ⟨.int .u64, x.s1⟩ := rfl
@[simp] theorem ac_0_6 (x : PRx) : Un.acc 0 x 6 = ⟨.int .u64, x.s2⟩ := rfl
@[simp] theorem ad_0_6 (x : Un.B 0) : Un.acc 0 x 6 = ⟨.int .u64, let x : PRx := x; x.s2⟩ := rfl
@[simp] theorem fl_0_6 (x : PRx) : fldD (@Dyn.mk Un.B (.base 0) x) 6 = ⟨.int .u64, x.s2⟩ := rfl
@[simp] theorem fp_0_6 (x : PRx) : fldD (@Dyn.mk Un.B (.ptr (.base 0)) x) 6 = ⟨.int .u64, x.s2⟩ := rfl
@[simp] theorem ac_0_7 (x : PRx) : Un.acc 0 x 7 = ⟨.int .u64, x.s3⟩ := rfl
@[simp] theorem ad_0_7 (x : Un.B 0) : Un.acc 0 x 7 = ⟨.int .u64, let x : PRx := x; x.s3⟩ := rfl
@[simp] theorem fl_0_7 (x : PRx) : fldD (@Dyn.mk Un.B (.base 0) x) 7 = ⟨.int .u64, x.s3⟩ := rfl
@[simp] theorem fp_0_7 (x : PRx) : fldD (@Dyn.mk Un.B (.ptr (.base 0)) x) 7 = ⟨.int .u64, x.s3⟩ := rfl
@[simp] theorem ac_0_8 (x : PRx) : Un.acc 0 x 8 = ⟨.list (.base 0), x.kids⟩ := rfl
@[simp] theorem ad_0_8 (x : Un.B 0) : Un.acc 0 x 8 = ⟨.list (.base 0), let x : PRx := x; x.kids⟩ := rfl
@[simp] theorem fl_0_8 (x : PRx) : fldD (@Dyn.mk Un.B (.base 0) x) 8 = ⟨.list (.base 0), x.kids⟩ := rfl
@[simp] theorem fp_0_8 (x : PRx) : fldD (@Dyn.mk Un.B (.ptr (.base 0)) x) 8 = ⟨.list (.base 0), x.kids⟩ := rfl
theorem bdU_0 (a0 : Int) (a1 : Int) (a2 : Int) (a3 : Int) (a4 : Int) (a5 : Int) (a6 : Int) (a7 : Int) (a8 : List (PRx)) : Un.bd 0 [(⟨.int .i64, a0⟩ : Dyn UB), (⟨.int .i64, a1⟩ : Dyn UB), (⟨.int .i64, a2⟩ : Dyn UB), (⟨.int .i64, a3⟩ : Dyn UB), (⟨.int .u64, a4⟩ : Dyn UB), (⟨.int .u64, a5⟩ : Dyn UB), (⟨.int .u64, a6⟩ : Dyn UB), (⟨.int .u64, a7⟩ : Dyn UB), (⟨.list (.base 0), a8⟩ : Dyn UB)] = (PRx.mk a0 a1 a2 a3 a4 a5 a6 a7 a8) := by simp only [Un, Ubd, gt, List.getD_cons_zero, List.getD_cons_succ, ga_self, gi, gb, gs, gf, gc]
@[simp] theorem bd_0 (a0 : Int) (a1 : Int) (a2 : Int) (a3 : Int) (a4 : Int) (a5 : Int) (a6 : Int) (a7 : Int) (a8 : T Un.B (.list (.base 0))) : Un.bd 0 [@Dyn.mk Un.B (.int .i64) a0, @Dyn.mk Un.B (.int .i64) a1, @Dyn.mk Un.B (.int .i64) a2, @Dyn.mk Un.B (.int .i64) a3, @Dyn.mk Un.B (.int .u64) a4, @Dyn.mk Un.B (.int .u64) a5, @Dyn.mk Un.B (.int .u64) a6, @Dyn.mk Un.B (.int .u64) a7, @Dyn.mk Un.B (.list (.base 0)) a8] = (PRx.mk a0 a1 a2 a3 a4 a5 a6 a7 a8) := bdU_0 a0 a1 a2 a3 a4 a5 a6 a7 a8
@[simp] theorem bdl_0 (a0 : Int) (a1 : Int) (a2 : Int) (a3 : Int) (a4 : Int) (a5 : Int) (a6 : Int) (a7 : Int) (a8 : List (PRx)) : Un.bd 0 [@Dyn.mk Un.B (.int .i64) a0, @Dyn.mk Un.B (.int .i64) a1, @Dyn.mk Un.B (.int .i64) a2, @Dyn.mk Un.B (.int .i64) a3, @Dyn.mk Un.B (.int .u64) a4, @Dyn.mk Un.B (.int .u64) a5, @Dyn.mk Un.B (.int .u64) a6, @Dyn.mk Un.B (.int .u64) a7, @Dyn.mk Un.B (.list (.base 0)) a8] = (PRx.mk a0 a1 a2 a3 a4 a5 a6 a7 a8) := bdU_0 a0 a1 a2 a3 a4 a5 a6 a7 a8
@[simp] theorem ac_1_0 (x : PAddr) : Un.acc 1 x 0 = ⟨.int .i64, x.kind⟩ := rfl
@[simp] theorem ad_1_0 (x : Un.B 1) : Un.acc 1 x 0 = ⟨.int .i64, let x : PAddr := x; x.kind⟩ := rfl
@[simp] theorem fl_1_0 (x : PAddr) : fldD (@Dyn.mk Un.B (.base 1) x) 0 = ⟨.int .i64, x.kind⟩ := rfl
@[simp] theorem fp_1_0 (x : PAddr) : fldD (@Dyn.mk Un.B (.ptr (.base 1)) x) 0 = ⟨.int .i64, x.kind⟩ := rfl
@[simp] theorem ac_1_1 (x : PAddr) : Un.acc 1 x 1 = ⟨.int .i64, x.line⟩ := rfl
@[simp] theorem ad_1_1 (x : Un.B 1) : Un.acc 1 x 1 = ⟨.int .i64, let x : PAddr := x; x.line⟩ := rfl
@[simp] theorem fl_1_1 (x : PAddr) : fldD (@Dyn.mk Un.B (.base 1) x) 1 = ⟨.int .i64, x.line⟩ := rfl
@[simp] theorem fp_1_1 (x : PAddr) : fldD (@Dyn.mk Un.B (.ptr (.base 1)) x) 1 = ⟨.int .i64, x.line⟩ := rfl
@[simp] theorem ac_1_2 (x : PAddr) : Un.acc 1 x 2 = ⟨.int .i64, x.rx.kind⟩ := rfl
@[simp] theorem ad_1_2 (x : Un.B 1) : Un.acc 1 x 2 = ⟨.int .i64, let x : PAddr := x; x.rx.kind⟩ := rfl
@[simp] theorem fl_1_2 (x : PAddr) : fldD (@Dyn.mk Un.B (.base 1) x) 2 = ⟨.int .i64, x.rx.kind⟩ := rfl
@[simp] theorem fp_1_2 (x : PAddr) : fldD (@Dyn.mk Un.B (.ptr (.base 1)) x) 2 = ⟨.int .i64, x.rx.kind⟩ := rfl
@[simp] theorem ac_1_3 (x : PAddr) : Un.acc 1 x 3 = ⟨.int .i64, x.rx.min⟩ := rfl
@[simp] theorem ad_1_3 (x : Un.B 1) : Un.acc 1 x 3 = ⟨.int .i64, let x : PAddr := x; x.rx.min⟩ := rfl
@[simp] theorem fl_1_3 (x : PAddr) : fldD (@Dyn.mk Un.B (.base 1) x) 3 = ⟨.int .i64, x.rx.min⟩ := rfl
@[simp] theorem fp_1_3 (x : PAddr) : fldD (@Dyn.mk Un.B (.ptr (.base 1)) x) 3 = ⟨.int .i64, x.rx.min⟩ := rfl
@[simp] theorem ac_1_4 (x : PAddr) : Un.acc 1 x 4 = ⟨.int .i64, x.rx.max⟩ := rfl
@[simp] theorem ad_1_4 (x : Un.B 1) : Un.acc 1 x 4 = ⟨.int .i64, let x : PAddr := x; x.rx.max⟩ := rfl
@[simp] theorem fl_1_4 (x : PAddr) : fldD (@Dyn.mk Un.B (.base 1) x) 4 = ⟨.int .i64, x.rx.max⟩ := rfl
@[simp] theorem fp_1_4 (x : PAddr) : fldD (@Dyn.mk Un.B (.ptr (.base 1)) x) 4 = ⟨.int .i64, x.rx.max⟩ := rfl
@[simp] theorem ac_1_5 (x : PAddr) : Un.acc 1 x 5 = ⟨.int .i64, x.rx.n⟩ := rfl
@[simp] theorem ad_1_5 (x : Un.B 1) : Un.acc 1 x 5 = ⟨.int .i64, let x : PAddr := x; x.rx.n⟩ := rfl
@[simp] theorem fl_1_5 (x : PAddr) : fldD (@Dyn.mk Un.B (.base 1) x) 5 = ⟨.int .i64, x.rx.n⟩ := rfl
@[simp] theorem fp_1_5 (x : PAddr) : fldD (@Dyn.mk Un.B (.ptr (.base 1)) x) 5 = ⟨.int .i64, x.rx.n⟩ := rfl
@[simp] theorem ac_1_6 (x : PAddr) : Un.acc 1 x 6 = ⟨.int .u64, x.rx.s0⟩ := rfl
@[simp] theorem ad_1_6 (x : Un.B 1) : Un.acc 1 x 6 = ⟨.int .u64, let x : PAddr := x; x.rx.s0⟩ := rfl
@[simp] theorem fl_1_6 (x : PAddr) : fldD (@Dyn.mk Un.B (.base 1) x) 6 = ⟨.int .u64, x.rx.s0⟩ := rfl
@[simp] theorem fp_1_6 (x : PAddr) : fldD (@Dyn.mk Un.B (.ptr (.base 1)) x) 6 = ⟨.int .u64, x.rx.s0⟩ := rfl
@[simp] theorem ac_1_7 (x : PAddr) : Un.acc 1 x 7 = ⟨.int .u64, x.rx.s1⟩ := rfl
@[simp] theorem ad_1_7 (x : Un.B 1) : Un.acc 1 x 7 = ⟨.int .u64, let x : PAddr := x; x.rx.s1⟩ := rfl
@[simp] theorem fl_1_7 (x : PAddr) : fldD (@Dyn.mk Un.B (.base 1) x) 7 = ⟨.int .u64, x.rx.s1⟩ := rfl
@[simp] theorem fp_1_7 (x : PAddr) : fldD (@Dyn.mk Un.B (.ptr (.base 1)) x) 7 = ⟨.int .u64, x.rx.s1⟩ := rfl
@[simp] theorem ac_1_8 (x : PAddr) : Un.acc 1 x 8 = ⟨.int .u64, x.rx.s2⟩ := rfl
@[simp] theorem ad_1_8 (x : Un.B 1) : Un.acc 1 x 8 = ⟨.int .u64, let x : PAddr := x; x.rx.s2⟩ := rfl
@[simp] theorem fl_1_8 (x : PAddr) : fldD (@Dyn.mk Un.B (.base 1) x) 8 = ⟨.int .u64, x.rx.s2⟩ := rfl
@[simp] theorem fp_1_8 (x : PAddr) : fldD (@Dyn.mk Un.B (.ptr (.base 1)) x) 8 = ⟨.int .u64, x.rx.s2⟩ := rfl
@[simp] theorem ac_1_9 (x : PAddr) : Un.acc 1 x 9 = ⟨.int .u64, x.rx.s3⟩ := rfl
@[simp] theorem ad_1_9 (x : Un.B 1) : Un.acc 1 x 9 = ⟨.int .u64, let x : PAddr := x; x.rx.s3⟩ := rfl
@[simp] theorem fl_1_9 (x : PAddr) : fldD (@Dyn.mk Un.B (.base 1) x) 9 = ⟨.int .u64, x.rx.s3⟩ := rfl
@[simp] theorem fp_1_9 (x : PAddr) : fldD (@Dyn.mk Un.B (.ptr (.base 1)) x) 9 = ⟨.int .u64, x.rx.s3⟩ := rfl
@[simp] theorem ac_1_10 (x : PAddr) : Un.acc 1 x 10 = ⟨.list (.base 0), x.rx.kids⟩ := rfl
@[simp] theorem ad_1_10 (x : Un.B 1) : Un.acc 1 x 10 = ⟨.list (.base 0), let x : PAddr := x; x.rx.kids⟩ := rfl
@[simp] theorem fl_1_10 (x : PAddr) : fldD (@Dyn.mk Un.B (.base 1) x) 10 = ⟨.list (.base 0), x.rx.kids⟩ := rfl
@[simp] theorem fp_1_10 (x : PAddr) : fldD (@Dyn.mk Un.B (.ptr (.base 1)) x) 10 = ⟨.list (.base 0), x.rx.kids⟩ := rfl
theorem bdU_1 (a0 : Int) (a1 : Int) (a2 : Int) (a3 : Int) (a4 : Int) (a5 : Int) (a6 : Int) (a7 : Int) (a8 : Int) (a9 : Int) (a10 : List (PRx)) : Un.bd 1 [(⟨.int .i64, a0⟩ : Dyn UB), (⟨.int .i64, a1⟩ : Dyn UB), (⟨.int .i64, a2⟩ : Dyn UB), (⟨.int .i64, a3⟩ : Dyn UB), (⟨.int .i64, a4⟩ : Dyn UB), (⟨.int .i64, a5⟩ : Dyn UB), (⟨.int .u64, a6⟩ : Dyn UB), (⟨.int .u64, a7⟩ : Dyn UB), (⟨.int .u64, a8⟩ : Dyn UB), (⟨.int .u64, a9⟩ : Dyn UB), (⟨.list (.base 0), a10⟩ : Dyn UB)] = (PAddr.mk a0 a1 (PRx.mk a2 a3 a4 a5 a6 a7 a8 a9 a10)) := by simp only [Un, Ubd, gt, List.getD_cons_zero, List.getD_cons_succ, ga_self, gi, gb, gs, gf, gc]
@[simp] theorem bd_1 (a0 : Int) (a1 : Int) (a2 : Int) (a3 : Int) (a4 : Int) (a5 : Int) (a6 : Int) (a7 : Int) (a8 : Int) (a9 : Int) (a10 : T Un.B (.list (.base 0))) : Un.bd 1 [@Dyn.mk Un.B (.int .i64) a0, @Dyn.mk Un.B (.int .i64) a1, @Dyn.mk Un.B (.int .i64) a2, @Dyn.mk Un.B (.int .i64) a3, @Dyn.mk Un.B (.int .i64) a4, @Dyn.mk Un.B (.int .i64) a5, @Dyn.mk Un.B (.int .u64) a6, @Dyn.mk Un.B (.int .u64) a7, @Dyn.mk Un.B (.int .u64) a8, @Dyn.mk Un.B (.int .u64) a9, @Dyn.mk Un.B (.list (.base 0)) a10] = (PAddr.mk a0 a1 (PRx.mk a2 a3 a4 a5 a6 a7 a8 a9 a10)) := bdU_1 a0 a1 a2 a3 a4 a5 a6 a7 a8 a9 a10
@[simp] theorem bdl_1 (a0 : Int) (a1 : Int) (a2 : Int) (a3 : Int) (a4 : Int) (a5 : Int) (a6 : Int) (a7 : Int) (a8 : Int) (a9 : Int) (a10 : List (PRx)) : Un.bd 1 [@Dyn.mk Un.B (.int .i64) a0, @Dyn.mk Un.B (.int .i64) a1, @Dyn.mk Un.B (.int .i64) a2, @Dyn.mk Un.B (.int .i64) a3, @Dyn.mk Un.B (.int .i64) a4, @Dyn.mk Un.B (.int .i64) a5, @Dyn.mk Un.B (.int .u64) a6, @Dyn.mk Un.B (.int .u64) a7, @Dyn.mk Un.B (.int .u64) a8, @Dyn.mk Un.B (.int .u64) a9, @Dyn.mk Un.B (.list (.base 0)) a10] = (PAddr.mk a0 a1 (PRx.mk a2 a3 a4 a5 a6 a7 a8 a9 a10)) := bdU_1 a0 a1 a2 a3 a4 a5 a6 a7 a8 a9 a10
@[simp] theorem ac_2_0 (x : PPiece) : Un.acc 2 x 0 = ⟨.int .i64, x.group⟩ := rfl
@[simp] theorem ad_2_0 (x : Un.B 2) : Un.acc 2 x 0 = ⟨.int .i64, let x : PPiece := x; x.group⟩ := rfl
@[simp] theorem fl_2_0 (x : PPiece) : fldD (@Dyn.mk Un.B (.base 2) x) 0 = ⟨.int .i64, x.group⟩ := rfl
@[simp] theorem fp_2_0 (x : PPiece) : fldD (@Dyn.mk Un.B (.ptr (.base 2)) x) 0 = ⟨.int .i64, x.group⟩ := rfl
@[simp] theorem ac_2_1 (x : PPiece) : Un.acc 2 x 1 = ⟨.str, x.lit⟩ := rfl
@[simp] theorem ad_2_1 (x : Un.B 2) : Un.acc 2 x 1 = ⟨.str, let x : PPiece := x; x.lit⟩ := rfl
@[simp] theorem fl_2_1 (x : PPiece) : fldD (@Dyn.mk Un.B (.base 2) x) 1 = ⟨.str, x.lit⟩ := rfl
@[simp] theorem fp_2_1 (x : PPiece) : fldD (@Dyn.mk Un.B (.ptr (.base 2)) x) 1 = ⟨.str, x.lit⟩ := rfl
theorem bdU_2 (a0 : Int) (a1 : List UInt8) : Un.bd 2 [(⟨.int .i64, a0⟩ : Dyn UB), (⟨.str, a1⟩ : Dyn UB)] = (PPiece.mk a0 a1) := rfl
@[simp] theorem bd_2 (a0 : Int) (a1 : List UInt8) : Un.bd 2 [@Dyn.mk Un.B (.int .i64) a0, @Dyn.mk Un.B (.str) a1] = (PPiece.mk a0 a1) := bdU_2 a0 a1
@[simp] theorem ac_3_0 (x : PCmd) : Un.acc 3 x 0 = ⟨.int .i64, x.a.kind⟩ := rfl
@[simp] theorem ad_3_0 (x : Un.B 3) : Un.acc 3 x 0 = ⟨.int .i64, let x : PCmd := x; x.a.kind⟩ := rfl
@[simp] theorem fl_3_0 (x : PCmd) : fldD (@Dyn.mk Un.B (.base 3) x) 0 = ⟨.int .i64, x.a.kind⟩ := rfl
@[simp] theorem fp_3_0 (x : PCmd) : fldD (@Dyn.mk Un.B (.ptr (.base 3)) x) 0 = ⟨.int .i64, x.a.kind⟩ := rfl
@[simp] theorem ac_3_1 (x : PCmd) : Un.acc 3 x 1 = ⟨.int .i64, x.a.line⟩ := rfl
@[simp] theorem ad_3_1 (x : Un.B 3) : Un.acc 3 x 1 = ⟨.int .i64, let x : PCmd := x; x.a.line⟩ := rfl
@[simp] theorem fl_3_1 (x : PCmd) : fldD (@Dyn.mk Un.B (.base 3) x) 1 = ⟨.int .i64, x.a.line⟩ := rfl
@[simp] theorem fp_3_1 (x : PCmd) : fldD (@Dyn.mk Un.B (.ptr (.base 3)) x) 1 = ⟨.int .i64, x.a.line⟩ := rfl
@[simp] theorem ac_3_2 (x : PCmd) : Un.acc 3 x 2 = ⟨.int .i64, x.a.rx.kind⟩ := rfl
@[simp] theorem ad_3_2 (x : Un.B 3) : Un.acc 3 x 2 = ⟨.int .i64, let x : PCmd := x; x.a.rx.kind⟩ := rfl
@[simp] theorem fl_3_2 (x : PCmd) : fldD (@Dyn.mk Un.B (.base 3) x) 2 = ⟨.int .i64, x.a.rx.kind⟩ := rfl
@[simp] theorem fp_3_2 (x : PCmd) : fldD (@Dyn.mk Un.B (.ptr (.base 3)) x) 2 = ⟨.int .i64, x.a.rx.kind⟩ := rfl
@[simp] theorem ac_3_3 (x : PCmd) : Un.acc 3 x 3 = ⟨.int .i64, x.a.rx.min⟩ := rfl
@[simp] theorem ad_3_3 (x : Un.B 3) : Un.acc 3 x 3 = ⟨.int .i64, let x : PCmd := x; x.a.rx.min⟩ := rfl
@[simp] theorem fl_3_3 (x : PCmd) : fldD (@Dyn.mk Un.B (.base 3) x) 3 = ⟨.int .i64, x.a.rx.min⟩ := rfl
@[simp] theorem fp_3_3 (x : PCmd) : fldD (@Dyn.mk Un.B (.ptr (.base 3)) x) 3 = ⟨.int .i64, x.a.rx.min⟩ := rfl
@[simp] theorem ac_3_4 (x : PCmd) : Un.acc 3 x 4 = ⟨.int .i64, x.a.rx.max⟩ := rfl
@[simp] theorem ad_3_4 (x : Un.B 3) : Un.acc 3 x 4 = ⟨.int .i64, let x : PCmd := x; x.a.rx.max⟩ := rfl
@[simp] theorem fl_3_4 (x : PCmd) : fldD (@Dyn.mk Un.B (.base 3) x) 4 = ⟨.int .i64, x.a.rx.max⟩ := rfl
@[simp] theorem fp_3_4 (x : PCmd) : fldD (@Dyn.mk Un.B (.ptr (.base 3)) x) 4 = ⟨.int .i64, x.a.rx.max⟩ := rfl
@[simp] theorem ac_3_5 (x : PCmd) : Un.acc 3 x 5 = ⟨.int .i64, x.a.rx.n⟩ := rfl
@[simp] theorem ad_3_5 (x : Un.B 3) : Un.acc 3 x 5 = ⟨.int .i64, let x : PCmd := x; x.a.rx.n⟩ := rfl
@[simp] theorem fl_3_5 (x : PCmd) : fldD (@Dyn.mk Un.B (.base 3) x) 5 = ⟨.int .i64, x.a.rx.n⟩ := rfl
@[simp] theorem fp_3_5 (x : PCmd) : fldD (@Dyn.mk Un.B (.ptr (.base 3)) x) 5 = ⟨.int .i64, x.a.rx.n⟩ := rfl
@[simp] theorem ac_3_6 (x : PCmd) : Un.acc 3 x 6 = ⟨.int .u64, x.a.rx.s0⟩ := rfl
@[simp] theorem ad_3_6 (x : Un.B 3) : Un.acc 3 x 6 = ⟨.int .u64, let x : PCmd := x; x.a.rx.s0⟩ := rfl
@[simp] theorem fl_3_6 (x : PCmd) : fldD (@Dyn.mk Un.B (.base 3) x) 6 = ⟨.int .u64, x.a.rx.s0⟩ := rfl
@[simp] theorem fp_3_6 (x : PCmd) : fldD (@Dyn.mk Un.B (.ptr (.base 3)) x) 6 = ⟨.int .u64, x.a.rx.s0⟩ := rfl
@[simp] theorem ac_3_7 (x : PCmd) : Un.acc 3 x 7 = ⟨.int .u64, x.a.rx.s1⟩ := rfl
@[simp] theorem ad_3_7 (x : Un.B 3) : Un.acc 3 x 7 = ⟨.int .u64, let x : PCmd := x; x.a.rx.s1⟩ := rfl
@[simp] theorem fl_3_7 (x : PCmd) : fldD (@Dyn.mk Un.B (.base 3) x) 7 = ⟨.int .u64, x.a.rx.s1⟩ := rfl
@[simp] theorem fp_3_7 (x : PCmd) : fldD (@Dyn.mk Un.B (.ptr (.base 3)) x) 7 = ⟨.int .u64, x.a.rx.s1⟩ := rfl
@[simp] theorem ac_3_8 (x : PCmd) : Un.acc 3 x 8 = ⟨.int .u64, x.a.rx.s2⟩ := rfl
@[simp] theorem ad_3_8 (x : Un.B 3) : Un.acc 3 x 8 = ⟨.int .u64, let x : PCmd := x; x.a.rx.s2⟩ := rfl
@[simp] theorem fl_3_8 (x : PCmd) : fldD (@Dyn.mk Un.B (.base 3) x) 8 = ⟨.int .u64, x.a.rx.s2⟩ := rfl
@[simp] theorem fp_3_8 (x : PCmd) : fldD (@Dyn.mk Un.B (.ptr (.base 3)) x) 8 = ⟨.int .u64, x.a.rx.s2⟩ := rfl
@[simp] theorem ac_3_9 (x : PCmd) : Un.acc 3 x 9 = ⟨.int .u64, x.a.rx.s3⟩ := rfl
@[simp] theorem ad_3_9 (x : Un.B 3) : Un.acc 3 x 9 = ⟨.int .u64, let x : PCmd := x; x.a.rx.s3⟩ := rfl
@[simp] theorem fl_3_9 (x : PCmd) : fldD (@Dyn.mk Un.B (.base 3) x) 9 = ⟨.int .u64, x.a.rx.s3⟩ := rfl
@[simp] theorem fp_3_9 (x : PCmd) : fldD (@Dyn.mk Un.B (.ptr (.base 3)) x) 9 = ⟨.int .u64, x.a.rx.s3⟩ := rfl
@[simp] theorem ac_3_10 (x : PCmd) : Un.acc 3 x 10 = ⟨.list (.base 0), x.a.rx.kids⟩ := rfl
@[simp] theorem ad_3_10 (x : Un.B 3) : Un.acc 3 x 10 = ⟨.list (.base 0), let x : PCmd := x; x.a.rx.kids⟩ := rfl
@[simp] theorem fl_3_10 (x : PCmd) : fldD (@Dyn.mk Un.B (.base 3) x) 10 = ⟨.list (.base 0), x.a.rx.kids⟩ := rfl
@[simp] theorem fp_3_10 (x : PCmd) : fldD (@Dyn.mk Un.B (.ptr (.base 3)) x) 10 = ⟨.list (.base 0), x.a.rx.kids⟩ := rfl
@[simp] theorem ac_3_11 (x : PCmd) : Un.acc 3 x 11 = ⟨.int .i64, x.b.kind⟩ := rfl
@[simp] theorem ad_3_11 (x : Un.B 3) : Un.acc 3 x 11 = ⟨.int .i64, let x : PCmd := x; x.b.kind⟩ := rfl
@[simp] theorem fl_3_11 (x : PCmd) : fldD (@Dyn.mk Un.B (.base 3) x) 11 = ⟨.int .i64, x.b.kind⟩ := rfl
@[simp] theorem fp_3_11 (x : PCmd) : fldD (@Dyn.mk Un.B (.ptr (.base 3)) x) 11 = ⟨.int .i64, x.b.kind⟩ := rfl
@[simp] theorem ac_3_12 (x : PCmd) : Un.acc 3 x 12 = ⟨.int .i64, x.b.line⟩ := rfl
@[simp] theorem ad_3_12 (x : Un.B 3) : Un.acc 3 x 12 = ⟨.int .i64, let x : PCmd := x; x.b.line⟩ := rfl
@[simp] theorem fl_3_12 (x : PCmd) : fldD (@Dyn.mk Un.B (.base 3) x) 12 = ⟨.int .i64, x.b.line⟩ := rfl
@[simp] theorem fp_3_12 (x : PCmd) : fldD (@Dyn.mk Un.B (.ptr (.base 3)) x) 12 = ⟨.int .i64, x.b.line⟩ := rfl
@[simp] theorem ac_3_13 (x : PCmd) : Un.acc 3 x 13 = ⟨.int .i64, x.b.rx.kind⟩ := rfl
@[simp] theorem ad_3_13 (x : Un.B 3) : Un.acc 3 x 13 = ⟨.int .i64, let x : PCmd := x; x.b.rx.kind⟩ := rfl
@[simp] theorem fl_3_13 (x : PCmd) : fldD (@Dyn.mk Un.B (.base 3) x) 13 = ⟨.int .i64, x.b.rx.kind⟩ := rfl
@[simp] theorem fp_3_13 (x : PCmd) : fldD (@Dyn.mk Un.B (.ptr (.base 3)) x) 13 = ⟨.int .i64, x.b.rx.kind⟩ := rfl
@[simp] theorem ac_3_14 (x : PCmd) : Un.acc 3 x 14 = ⟨.int .i64, x.b.rx.min⟩ := rfl
@[simp] theorem ad_3_14 (x : Un.B 3) : Un.acc 3 x 14 = ⟨.int .i64, let x : PCmd := x; x.b.rx.min⟩ := rfl
@[simp] theorem fl_3_14 (x : PCmd) : fldD (@Dyn.mk Un.B (.base 3) x) 14 = ⟨.int .i64, x.b.rx.min⟩ := rfl
@[simp] theorem fp_3_14 (x : PCmd) : fldD (@Dyn.mk Un.B (.ptr (.base 3)) x) 14 = ⟨.int .i64, x.b.rx.min⟩ := rfl
@[simp] theorem ac_3_15 (x : PCmd) : Un.acc 3 x 15 = ⟨.int .i64, x.b.rx.max⟩ := rfl
@[simp] theorem ad_3_15 (x : Un.B 3) : Un.acc 3 x 15 = ⟨.int .i64, let x : PCmd := x; x.b.rx.max⟩ := rfl
@[simp] theorem fl_3_15 (x : PCmd) : fldD (@Dyn.mk Un.B (.base 3) x) 15 = ⟨.int .i64, x.b.rx.max⟩ := rfl
@[simp] theorem fp_3_15 (x : PCmd) : fldD (@Dyn.mk Un.B (.ptr (.base 3)) x) 15 = ⟨.int .i64, x.b.rx.max⟩ := rfl
@[simp] theorem ac_3_16 (x : PCmd) : Un.acc 3 x 16 = ⟨.int .i64, x.b.rx.n⟩ := rfl
@[simp] theorem ad_3_16 (x : Un.B 3) : Un.acc 3 x 16 = ⟨.int .i64, let x : PCmd := x; x.b.rx.n⟩ := rfl
@[simp] theorem fl_3_16 (x : PCmd) : fldD (@Dyn.mk Un.B (.base 3) x) 16 = ⟨.int .i64, x.b.rx.n⟩ := rfl
@[simp] theorem fp_3_16 (x : PCmd) : fldD (@Dyn.mk Un.B (.ptr (.base 3)) x) 16 = ⟨.int .i64, x.b.rx.n⟩ := rfl
@[simp] theorem ac_3_17 (x : PCmd) : Un.acc 3 x 17 = ⟨.int .u64, x.b.rx.s0⟩ := rfl
@[simp] theorem ad_3_17 (x : Un.B 3) : Un.acc 3 x 17 = ⟨.int .u64, let x : PCmd := x; x.b.rx.s0⟩ := rfl
@[simp] theorem fl_3_17 (x : PCmd) : fldD (@Dyn.mk Un.B (.base 3) x) 17 = ⟨.int .u64, x.b.rx.s0⟩ := rfl
@[simp] theorem fp_3_17 (x : PCmd) : fldD (@Dyn.mk Un.B (.ptr (.base 3)) x) 17 = ⟨.int .u64, x.b.rx.s0⟩ := rfl
@[simp] theorem ac_3_18 (x : PCmd) : Un.acc 3 x 18 = ⟨.int .u64, x.b.rx.s1⟩ := rfl
@[simp] theorem ad_3_18 (x : Un.B 3) : Un.acc 3 x 18 = ⟨.int .u64, let x : PCmd := x; x.b.rx.s1⟩ := rfl
@[simp] theorem fl_3_18 (x : PCmd) : fldD (@Dyn.mk Un.B (.base 3) x) 18 = ⟨.int .u64, x.b.rx.s1⟩ := rfl
@[simp] theorem fp_3_18 (x : PCmd) : fldD (@Dyn.mk Un.B (.ptr (.base 3)) x) 18 = ⟨.int .u64, x.b.rx.s1⟩ := rfl
@[simp] theorem ac_3_19 (x : PCmd) : Un.acc 3 x 19 = ⟨.int .u64, x.b.rx.s2⟩ := rfl
@[simp] theorem ad_3_19 (x : Un.B 3) : Un.acc 3 x 19 = ⟨.int .u64, let x : PCmd := x; x.b.rx.s2⟩ := rfl
@[simp] theorem fl_3_19 (x : PCmd) : fldD (@Dyn.mk Un.B (.base 3) x) 19 = ⟨.int .u64, x.b.rx.s2⟩ := rfl
@[simp] theorem fp_3_19 (x : PCmd) : fldD (@Dyn.mk Un.B (.ptr (.base 3)) x) 19 = ⟨.int .u64, x.b.rx.s2⟩ := rfl
@[simp] theorem ac_3_20 (x : PCmd) : Un.acc 3 x 20 = ⟨.int .u64, x.b.rx.s3⟩ := rfl
@[simp] theorem ad_3_20 (x : Un.B 3) : Un.acc 3 x 20 = ⟨.int .u64, let x : PCmd := x; x.b.rx.s3⟩ := rfl
@[simp] theorem fl_3_20 (x : PCmd) : fldD (@Dyn.mk Un.B (.base 3) x) 20 = ⟨.int .u64, x.b.rx.s3⟩ := rfl
@[simp] theorem fp_3_20 (x : PCmd) : fldD (@Dyn.mk Un.B (.ptr (.base 3)) x) 20 = ⟨.int .u64, x.b.rx.s3⟩ := rfl
@[simp] theorem ac_3_21 (x : PCmd) : Un.acc 3 x 21 = ⟨.list (.base 0), x.b.rx.kids⟩ := rfl
@[simp] theorem ad_3_21 (x : Un.B 3) : Un.acc 3 x 21 = ⟨.list (.base 0), let x : PCmd := x; x.b.rx.kids⟩ := rfl
@[simp] theorem fl_3_21 (x : PCmd) : fldD (@Dyn.mk Un.B (.base 3) x) 21 = ⟨.list (.base 0), x.b.rx.kids⟩ := rfl
@[simp] theorem fp_3_21 (x : PCmd) : fldD (@Dyn.mk Un.B (.ptr (.base 3)) x) 21 = ⟨.list (.base 0), x.b.rx.kids⟩ := rfl
@[simp] theorem ac_3_22 (x : PCmd) : Un.acc 3 x 22 = ⟨.bool, x.not_⟩ := rfl
@[simp] theorem ad_3_22 (x : Un.B 3) : Un.acc 3 x 22 = ⟨.bool, let x : PCmd := x; x.not_⟩ := rfl
@[simp] theorem fl_3_22 (x : PCmd) : fldD (@Dyn.mk Un.B (.base 3) x) 22 = ⟨.bool, x.not_⟩ := rfl
@[simp] theorem fp_3_22 (x : PCmd) : fldD (@Dyn.mk Un.B (.ptr (.base 3)) x) 22 = ⟨.bool, x.not_⟩ := rfl
@[simp] theorem ac_3_23 (x : PCmd) : Un.acc 3 x 23 = ⟨.int .u8, x.op⟩ := rfl
@[simp] theorem ad_3_23 (x : Un.B 3) : Un.acc 3 x 23 = ⟨.int .u8, let x : PCmd := x; x.op⟩ := rfl
@[simp] theorem fl_3_23 (x : PCmd) : fldD (@Dyn.mk Un.B (.base 3) x) 23 = ⟨.int .u8, x.op⟩ := rfl
@[simp] theorem fp_3_23 (x : PCmd) : fldD (@Dyn.mk Un.B (.ptr (.base 3)) x) 23 = ⟨.int .u8, x.op⟩ := rfl
@[simp] theorem ac_3_24 (x : PCmd) : Un.acc 3 x 24 = ⟨.str, x.text⟩ := rfl
@[simp] theorem ad_3_24 (x : Un.B 3) : Un.acc 3 x 24 = ⟨.str, let x : PCmd := x; x.text⟩ := rfl
@[simp] theorem fl_3_24 (x : PCmd) : fldD (@Dyn.mk Un.B (.base 3) x) 24 = ⟨.str, x.text⟩ := rfl
@[simp] theorem fp_3_24 (x : PCmd) : fldD (@Dyn.mk Un.B (.ptr (.base 3)) x) 24 = ⟨.str, x.text⟩ := rfl
@[simp] theorem ac_3_25 (x : PCmd) : Un.acc 3 x 25 = ⟨.int .i64, x.rx.kind⟩ := rfl
@[simp] theorem ad_3_25 (x : Un.B 3) : Un.acc 3 x 25 = ⟨.int .i64, let x : PCmd := x; x.rx.kind⟩ := rfl
@[simp] theorem fl_3_25 (x : PCmd) : fldD (@Dyn.mk Un.B (.base 3) x) 25 = ⟨.int .i64, x.rx.kind⟩ := rfl
@[simp] theorem fp_3_25 (x : PCmd) : fldD (@Dyn.mk Un.B (.ptr (.base 3)) x) 25 = ⟨.int .i64, x.rx.kind⟩ := rfl
@[simp] theorem ac_3_26 (x : PCmd) : Un.acc 3 x 26 = ⟨.int .i64, x.rx.min⟩ := rfl
@[simp] theorem ad_3_26 (x : Un.B 3) : Un.acc 3 x 26 = ⟨.int .i64, let x : PCmd := x; x.rx.min⟩ := rfl
@[simp] theorem fl_3_26 (x : PCmd) : fldD (@Dyn.mk Un.B (.base 3) x) 26 = ⟨.int .i64, x.rx.min⟩ := rfl
@[simp] theorem fp_3_26 (x : PCmd) : fldD (@Dyn.mk Un.B (.ptr (.base 3)) x) 26 = ⟨.int .i64, x.rx.min⟩ := rfl
@[simp] theorem ac_3_27 (x : PCmd) : Un.acc 3 x 27 = ⟨.int .i64, x.rx.max⟩ := rfl
@[simp] theorem ad_3_27 (x : Un.B 3) : Un.acc 3 x 27 = ⟨.int .i64, let x : PCmd := x; x.rx.max⟩ := rfl
@[simp] theorem fl_3_27 (x : PCmd) : fldD (@Dyn.mk Un.B (.base 3) x) 27 = ⟨.int .i64, x.rx.max⟩ := rfl
@[simp] theorem fp_3_27 (x : PCmd) : fldD (@Dyn.mk Un.B (.ptr (.base 3)) x) 27 = ⟨.int .i64, x.rx.max⟩ := rfl
@[simp] theorem ac_3_28 (x : PCmd) : Un.acc 3 x 28 = ⟨.int .i64, x.rx.n⟩ := rfl
@[simp] theorem ad_3_28 (x : Un.B 3) : Un.acc 3 x 28 = ⟨.int .i64, let x : PCmd := x; x.rx.n⟩ := rfl
@[simp] theorem fl_3_28 (x : PCmd) : fldD (@Dyn.mk Un.B (.base 3) x) 28 = ⟨.int .i64, x.rx.n⟩ := rfl
@[simp] theorem fp_3_28 (x : PCmd) : fldD (@Dyn.mk Un.B (.ptr (.base 3)) x) 28 = ⟨.int .i64, x.rx.n⟩ := rfl
@[simp] theorem ac_3_29 (x : PCmd) : Un.acc 3 x 29 = ⟨.int .u64, x.rx.s0⟩ := rfl
@[simp] theorem ad_3_29 (x : Un.B 3) : Un.acc 3 x 29 = ⟨.int .u64, let x : PCmd := x; x.rx.s0⟩ := rfl
@[simp] theorem fl_3_29 (x : PCmd) : fldD (@Dyn.mk Un.B (.base 3) x) 29 = ⟨.int .u64, x.rx.s0⟩ := rfl
@[simp] theorem fp_3_29 (x : PCmd) : fldD (@Dyn.mk Un.B (.ptr (.base 3)) x) 29 = ⟨.int .u64, x.rx.s0⟩ := rfl
@[simp] theorem ac_3_30 (x : PCmd) : Un.acc 3 x 30 = ⟨.int .u64, x.rx.s1⟩ := rfl
@[simp] theorem ad_3_30 (x : Un.B 3) : Un.acc 3 x 30 = ⟨.int .u64, let x : PCmd := x; x.rx.s1⟩ := rfl
@[simp] theorem fl_3_30 (x : PCmd) : fldD (@Dyn.mk Un.B (.base 3) x) 30 = ⟨.int .u64, x.rx.s1⟩ := rfl
@[simp] theorem fp_3_30 (x : PCmd) : fldD (@Dyn.mk Un.B (.ptr (.base 3)) x) 30 = ⟨.int .u64, x.rx.s1⟩ := rfl
@[simp] theorem ac_3_31 (x : PCmd) : Un.acc 3 x 31 = ⟨.int .u64, x.rx.s2⟩ := rfl
@[simp] theorem ad_3_31 (x : Un.B 3) : Un.acc 3 x 31 = ⟨.int .u64, let x : PCmd := x; x.rx.s2⟩ := rfl
@[simp] theorem fl_3_31 (x : PCmd) : fldD (@Dyn.mk Un.B (.base 3) x) 31 = ⟨.int .u64, x.rx.s2⟩ := rfl
@[simp] theorem fp_3_31 (x : PCmd) : fldD (@Dyn.mk Un.B (.ptr (.base 3)) x) 31 = ⟨.int .u64, x.rx.s2⟩ := rfl
@[simp] theorem ac_3_32 (x : PCmd) : Un.acc 3 x 32 = ⟨.int .u64, x.rx.s3⟩ := rfl
@[simp] theorem ad_3_32 (x : Un.B 3) : Un.acc 3 x 32 = ⟨.int .u64, let x : PCmd := x; x.rx.s3⟩ := rfl
@[simp] theorem fl_3_32 (x : PCmd) : fldD (@Dyn.mk Un.B (.base 3) x) 32 = ⟨.int .u64, x.rx.s3⟩ := rfl
@[simp] theorem fp_3_32 (x : PCmd) : fldD (@Dyn.mk Un.B (.ptr (.base 3)) x) 32 = ⟨.int .u64, x.rx.s3⟩ := rfl
@[simp] theorem ac_3_33 (x : PCmd) : Un.acc 3 x 33 = ⟨.list (.base 0), x.rx.kids⟩ := rfl
@[simp] theorem ad_3_33 (x : Un.B 3) : Un.acc 3 x 33 = ⟨.list (.base 0), let x : PCmd := x; x.rx.kids⟩ := rfl
@[simp] theorem fl_3_33 (x : PCmd) : fldD (@Dyn.mk Un.B (.base 3) x) 33 = ⟨.list (.base 0), x.rx.kids⟩ := rfl
@[simp] theorem fp_3_33 (x : PCmd) : fldD (@Dyn.mk Un.B (.ptr (.base 3)) x) 33 = ⟨.list (.base 0), x.rx.kids⟩ := rfl
@[simp] theorem ac_3_34 (x : PCmd) : Un.acc 3 x 34 = ⟨.list (.base 2), x.tpl⟩ := rfl
@[simp] theorem ad_3_34 (x : Un.B 3) : Un.acc 3 x 34 = ⟨.list (.base 2), let x : PCmd := x; x.tpl⟩ := rfl
@[simp] theorem fl_3_34 (x : PCmd) : fldD (@Dyn.mk Un.B (.base 3) x) 34 = ⟨.list (.base 2), x.tpl⟩ := rfl
@[simp] theorem fp_3_34 (x : PCmd) : fldD (@Dyn.mk Un.B (.ptr (.base 3)) x) 34 = ⟨.list (.base 2), x.tpl⟩ := rfl
@[simp] theorem ac_3_35 (x : PCmd) : Un.acc 3 x 35 = ⟨.bool, x.global⟩ := rfl
@[simp] theorem ad_3_35 (x : Un.B 3) : Un.acc 3 x 35 = ⟨.bool, let x : PCmd := x; x.global⟩ := rfl
@[simp] theorem fl_3_35 (x : PCmd) : fldD (@Dyn.mk Un.B (.base 3) x) 35 = ⟨.bool, x.global⟩ := rfl
@[simp] theorem fp_3_35 (x : PCmd) : fldD (@Dyn.mk Un.B (.ptr (.base 3)) x) 35 = ⟨.bool, x.global⟩ := rfl
@[simp] theorem ac_3_36 (x : PCmd) : Un.acc 3 x 36 = ⟨.bool, x.show_⟩ := rfl
@[simp] theorem ad_3_36 (x : Un.B 3) : Un.acc 3 x 36 = ⟨.bool, let x : PCmd := x; x.show_⟩ := rfl
@[simp] theorem fl_3_36 (x : PCmd) : fldD (@Dyn.mk Un.B (.base 3) x) 36 = ⟨.bool, x.show_⟩ := rfl
@[simp] theorem fp_3_36 (x : PCmd) : fldD (@Dyn.mk Un.B (.ptr (.base 3)) x) 36 = ⟨.bool, x.show_⟩ := rfl
@[simp] theorem ac_3_37 (x : PCmd) : Un.acc 3 x 37 = ⟨.int .i64, x.nth⟩ := rfl
@[simp] theorem ad_3_37 (x : Un.B 3) : Un.acc 3 x 37 = ⟨.int .i64, let x : PCmd := x; x.nth⟩ := rfl
@[simp] theorem fl_3_37 (x : PCmd) : fldD (@Dyn.mk Un.B (.base 3) x) 37 = ⟨.int .i64, x.nth⟩ := rfl
@[simp] theorem fp_3_37 (x : PCmd) : fldD (@Dyn.mk Un.B (.ptr (.base 3)) x) 37 = ⟨.int .i64, x.nth⟩ := rfl
@[simp] theorem ac_3_38 (x : PCmd) : Un.acc 3 x 38 = ⟨.str, x.y⟩ := rfl
@[simp] theorem ad_3_38 (x : Un.B 3) : Un.acc 3 x 38 = ⟨.str, let x : PCmd := x; x.y⟩ := rfl
@[simp] theorem fl_3_38 (x : PCmd) : fldD (@Dyn.mk Un.B (.base 3) x) 38 = ⟨.str, x.y⟩ := rfl
@[simp] theorem fp_3_38 (x : PCmd) : fldD (@Dyn.mk Un.B (.ptr (.base 3)) x) 38 = ⟨.str, x.y⟩ := rfl
@[simp] theorem ac_3_39 (x : PCmd) : Un.acc 3 x 39 = ⟨.str, x.z⟩ := rfl
@[simp] theorem ad_3_39 (x : Un.B 3) : Un.acc 3 x 39 = ⟨.str, let x : PCmd := x; x.z⟩ := rfl
@[simp] theorem fl_3_39 (x : PCmd) : fldD (@Dyn.mk Un.B (.base 3) x) 39 = ⟨.str, x.z⟩ := rfl
@[simp] theorem fp_3_39 (x : PCmd) : fldD (@Dyn.mk Un.B (.ptr (.base 3)) x) 39 = ⟨.str, x.z⟩ := rfl
theorem bdU_3 (a0 : Int) (a1 : Int) (a2 : Int) (a3 : Int) (a4 : Int) (a5 : Int) (a6 : Int) (a7 : Int) (a8 : Int) (a9 : Int) (a10 : List (PRx)) (a11 : Int) (a12 : Int) (a13 : Int) (a14 : Int) (a15 : Int) (a16 : Int) (a17 : Int) (a18 : Int) (a19 : Int) (a20 : Int) (a21 : List (PRx)) (a22 : Bool) (a23 : Int) (a24 : List UInt8) (a25 : Int) (a26 : Int) (a27 : Int) (a28 : Int) (a29 : Int) (a30 : Int) (a31 : Int) (a32 : Int) (a33 : List (PRx)) (a34 : List (PPiece)) (a35 : Bool) (a36 : Bool) (a37 : Int) (a38 : List UInt8) (a39 : List UInt8) : Un.bd 3 [(⟨.int .i64, a0⟩ : Dyn UB), (⟨.int .i64, a1⟩ : Dyn UB), (⟨.int .i64, a2⟩ : Dyn UB), (⟨.int .i64, a3⟩ : Dyn UB), (⟨.int .i64, a4⟩ : Dyn UB), (⟨.int .i64, a5⟩ : Dyn UB), (⟨.int .u64, a6⟩ : Dyn UB), (⟨.int .u64, a7⟩ : Dyn UB), (⟨.int .u64, a8⟩ : Dyn UB), (⟨.int .u64, a9⟩ : Dyn UB), (⟨.list (.base 0), a10⟩ : Dyn UB), (⟨.int .i64, a11⟩ : Dyn UB), (⟨.int .i64, a12⟩ : Dyn UB), (⟨.int .i64, a13⟩ : Dyn UB), (⟨.int .i64, a14⟩ : Dyn UB), (⟨.int .i64, a15⟩ : Dyn UB), (⟨.int .i64, a16⟩ : Dyn UB), (⟨.int .u64, a17⟩ : Dyn UB), (⟨.int .u64, a18⟩ : Dyn UB), (⟨.int .u64, a19⟩ : Dyn UB), (⟨.int .u64, a20⟩ : Dyn UB), (⟨.list (.base 0), a21⟩ : Dyn UB), (⟨.bool, a22⟩ : Dyn UB), (⟨.int .u8, a23⟩ : Dyn UB), (⟨.str, a24⟩ : Dyn UB), (⟨.int .i64, a25⟩ : Dyn UB), (⟨.int .i64, a26⟩ : Dyn UB), (⟨.int .i64, a27⟩ : Dyn UB), (⟨.int .i64, a28⟩ : Dyn UB), (⟨.int .u64, a29⟩ : Dyn UB), (⟨.int .u64, a30⟩ : Dyn UB), (⟨.int .u64, a31⟩ : Dyn UB), (⟨.int .u64, a32⟩ : Dyn UB), (⟨.list (.base 0), a33⟩ : Dyn UB), (⟨.list (.base 2), a34⟩ : Dyn UB), (⟨.bool, a35⟩ : Dyn UB), (⟨.bool, a36⟩ : Dyn UB), (⟨.int .i64, a37⟩ : Dyn UB), (⟨.str, a38⟩ : Dyn UB), (⟨.str, a39⟩ : Dyn UB)] = (PCmd.mk (PAddr.mk a0 a1 (PRx.mk a2 a3 a4 a5 a6 a7 a8 a9 a10)) (PAddr.mk a11 a12 (PRx.mk a13 a14 a15 a16 a17 a18 a19 a20 a21)) a22 a23 a24 (PRx.mk a25 a26 a27 a28 a29 a30 a31 a32 a33) a34 a35 a36 a37 a38 a39) := by simp only [Un, Ubd, gt, List.getD_cons_zero, List.getD_cons_succ, ga_self, gi, gb, gs, gf, gc]
@[simp] theorem bd_3 (a0 : Int) (a1 : Int) (a2 : Int) (a3 : Int) (a4 : Int) (a5 : Int) (a6 : Int) (a7 : Int) (a8 : Int) (a9 : Int) (a10 : T Un.B (.list (.base 0))) (a11 : Int) (a12 : Int) (a13 : Int) (a14 : Int) (a15 : Int) (a16 : Int) (a17 : Int) (a18 : Int) (a19 : Int) (a20 : Int) (a21 : T Un.B (.list (.base 0))) (a22 : Bool) (a23 : Int) (a24 : List UInt8) (a25 : Int) (a26 : Int) (a27 : Int) (a28 : Int) (a29 : Int) (a30 : Int) (a31 : Int) (a32 : Int) (a33 : T Un.B (.list (.base 0))) (a34 : T Un.B (.list (.base 2))) (a35 : Bool) (a36 : Bool) (a37 : Int) (a38 : List UInt8) (a39 : List UInt8) : Un.bd 3 [@Dyn.mk Un.B (.int .i64) a0, @Dyn.mk Un.B (.int .i64) a1, @Dyn.mk Un.B (.int .i64) a2, @Dyn.mk Un.B (.int .i64) a3, @Dyn.mk Un.B (.int .i64) a4, @Dyn.mk Un.B (.int .i64) a5, @Dyn.mk Un.B (.int .u64) a6, @Dyn.mk Un.B (.int .u64) a7, @Dyn.mk Un.B (.int .u64) a8, @Dyn.mk Un.B (.int .u64) a9, @Dyn.mk Un.B (.list (.base 0)) a10, @Dyn.mk Un.B (.int .i64) a11, @Dyn.mk Un.B (.int .i64) a12, @Dyn.mk Un.B (.int .i64) a13, @Dyn.mk Un.B (.int .i64) a14, @Dyn.mk Un.B (.int .i64) a15, @Dyn.mk Un.B (.int .i64) a16, @Dyn.mk Un.B (.int .u64) a17, @Dyn.mk Un.B (.int .u64) a18, @Dyn.mk Un.B (.int .u64) a19, @Dyn.mk Un.B (.int .u64) a20, @Dyn.mk Un.B (.list (.base 0)) a21, @Dyn.mk Un.B (.bool) a22, @Dyn.mk Un.B (.int .u8) a23, @Dyn.mk Un.B (.str) a24, @Dyn.mk Un.B (.int .i64) a25, @Dyn.mk Un.B (.int .i64) a26, @Dyn.mk Un.B (.int .i64) a27, @Dyn.mk Un.B (.int .i64) a28, @Dyn.mk Un.B (.int .u64) a29, @Dyn.mk Un.B (.int .u64) a30, @Dyn.mk Un.B (.int .u64) a31, @Dyn.mk Un.B (.int .u64) a32, @Dyn.mk Un.B (.list (.base 0)) a33, @Dyn.mk Un.B (.list (.base 2)) a34, @Dyn.mk Un.B (.bool) a35, @Dyn.mk Un.B (.bool) a36, @Dyn.mk Un.B (.int .i64) a37, @Dyn.mk Un.B (.str) a38, @Dyn.mk Un.B (.str) a39] = (PCmd.mk (PAddr.mk a0 a1 (PRx.mk a2 a3 a4 a5 a6 a7 a8 a9 a10)) (PAddr.mk a11 a12 (PRx.mk a13 a14 a15 a16 a17 a18 a19 a20 a21)) a22 a23 a24 (PRx.mk a25 a26 a27 a28 a29 a30 a31 a32 a33) a34 a35 a36 a37 a38 a39) := bdU_3 a0 a1 a2 a3 a4 a5 a6 a7 a8 a9 a10 a11 a12 a13 a14 a15 a16 a17 a18 a19 a20 a21 a22 a23 a24 a25 a26 a27 a28 a29 a30 a31 a32 a33 a34 a35 a36 a37 a38 a39
@[simp] theorem bdl_3 (a0 : Int) (a1 : Int) (a2 : Int) (a3 : Int) (a4 : Int) (a5 : Int) (a6 : Int) (a7 : Int) (a8 : Int) (a9 : Int) (a10 : List (PRx)) (a11 : Int) (a12 : Int) (a13 : Int) (a14 : Int) (a15 : Int) (a16 : Int) (a17 : Int) (a18 : Int) (a19 : Int) (a20 : Int) (a21 : List (PRx)) (a22 : Bool) (a23 : Int) (a24 : List UInt8) (a25 : Int) (a26 : Int) (a27 : Int) (a28 : Int) (a29 : Int) (a30 : Int) (a31 : Int) (a32 : Int) (a33 : List (PRx)) (a34 : List (PPiece)) (a35 : Bool) (a36 : Bool) (a37 : Int) (a38 : List UInt8) (a39 : List UInt8) : Un.bd 3 [@Dyn.mk Un.B (.int .i64) a0, @Dyn.mk Un.B (.int .i64) a1, @Dyn.mk Un.B (.int .i64) a2, @Dyn.mk Un.B (.int .i64) a3, @Dyn.mk Un.B (.int .i64) a4, @Dyn.mk Un.B (.int .i64) a5, @Dyn.mk Un.B (.int .u64) a6, @Dyn.mk Un.B (.int .u64) a7, @Dyn.mk Un.B (.int .u64) a8, @Dyn.mk Un.B (.int .u64) a9, @Dyn.mk Un.B (.list (.base 0)) a10, @Dyn.mk Un.B (.int .i64) a11, @Dyn.mk Un.B (.int .i64) a12, @Dyn.mk Un.B (.int .i64) a13, @Dyn.mk Un.B (.int .i64) a14, @Dyn.mk Un.B (.int .i64) a15, @Dyn.mk Un.B (.int .i64) a16, @Dyn.mk Un.B (.int .u64) a17, @Dyn.mk Un.B (.int .u64) a18, @Dyn.mk Un.B (.int .u64) a19, @Dyn.mk Un.B (.int .u64) a20, @Dyn.mk Un.B (.list (.base 0)) a21, @Dyn.mk Un.B (.bool) a22, @Dyn.mk Un.B (.int .u8) a23, @Dyn.mk Un.B (.str) a24, @Dyn.mk Un.B (.int .i64) a25, @Dyn.mk Un.B (.int .i64) a26, @Dyn.mk Un.B (.int .i64) a27, @Dyn.mk Un.B (.int .i64) a28, @Dyn.mk Un.B (.int .u64) a29, @Dyn.mk Un.B (.int .u64) a30, @Dyn.mk Un.B (.int .u64) a31, @Dyn.mk Un.B (.int .u64) a32, @Dyn.mk Un.B (.list (.base 0)) a33, @Dyn.mk Un.B (.list (.base 2)) a34, @Dyn.mk Un.B (.bool) a35, @Dyn.mk Un.B (.bool) a36, @Dyn.mk Un.B (.int .i64) a37, @Dyn.mk Un.B (.str) a38, @Dyn.mk Un.B (.str) a39] = (PCmd.mk (PAddr.mk a0 a1 (PRx.mk a2 a3 a4 a5 a6 a7 a8 a9 a10)) (PAddr.mk a11 a12 (PRx.mk a13 a14 a15 a16 a17 a18 a19 a20 a21)) a22 a23 a24 (PRx.mk a25 a26 a27 a28 a29 a30 a31 a32 a33) a34 a35 a36 a37 a38 a39) := bdU_3 a0 a1 a2 a3 a4 a5 a6 a7 a8 a9 a10 a11 a12 a13 a14 a15 a16 a17 a18 a19 a20 a21 a22 a23 a24 a25 a26 a27 a28 a29 a30 a31 a32 a33 a34 a35 a36 a37 a38 a39
@[simp] theorem ac_4_0 (x : PEnv) : Un.acc 4 x 0 = ⟨.int .i64, x.line⟩ := rfl
@[simp] theorem ad_4_0 (x : Un.B 4) : Un.acc 4 x 0 = ⟨.int .i64, let x : PEnv := x; x.line⟩ := rfl
@[simp] theorem fl_4_0 (x : PEnv) : fldD (@Dyn.mk Un.B (.base 4) x) 0 = ⟨.int .i64, x.line⟩ := rfl
@[simp] theorem fp_4_0 (x : PEnv) : fldD (@Dyn.mk Un.B (.ptr (.base 4)) x) 0 = ⟨.int .i64, x.line⟩ := rfl
@[simp] theorem ac_4_1 (x : PEnv) : Un.acc 4 x 1 = ⟨.bool, x.last⟩ := rfl
@[simp] theorem ad_4_1 (x : Un.B 4) : Un.acc 4 x 1 = ⟨.bool, let x : PEnv := x; x.last⟩ := rfl
@[simp] theorem fl_4_1 (x : PEnv) : fldD (@Dyn.mk Un.B (.base 4) x) 1 = ⟨.bool, x.last⟩ := rfl
@[simp] theorem fp_4_1 (x : PEnv) : fldD (@Dyn.mk Un.B (.ptr (.base 4)) x) 1 = ⟨.bool, x.last⟩ := rfl
@[simp] theorem ac_4_2 (x : PEnv) : Un.acc 4 x 2 = ⟨.str, x.space⟩ := rfl
@[simp] theorem ad_4_2 (x : Un.B 4) : Un.acc 4 x 2 = ⟨.str, let x : PEnv := x; x.space⟩ := rfl
@[simp] theorem fl_4_2 (x : PEnv) : fldD (@Dyn.mk Un.B (.base 4) x) 2 = ⟨.str, x.space⟩ := rfl
@[simp] theorem fp_4_2 (x : PEnv) : fldD (@Dyn.mk Un.B (.ptr (.base 4)) x) 2 = ⟨.str, x.space⟩ := rfl
theorem bdU_4 (a0 : Int) (a1 : Bool) (a2 : List UInt8) : Un.bd 4 [(⟨.int .i64, a0⟩ : Dyn UB), (⟨.bool, a1⟩ : Dyn UB), (⟨.str, a2⟩ : Dyn UB)] = (PEnv.mk a0 a1 a2) := rfl
@[simp] theorem bd_4 (a0 : Int) (a1 : Bool) (a2 : List UInt8) : Un.bd 4 [@Dyn.mk Un.B (.int .i64) a0, @Dyn.mk Un.B (.bool) a1, @Dyn.mk Un.B (.str) a2] = (PEnv.mk a0 a1 a2) := bdU_4 a0 a1 a2
@[simp] theorem of_b0 (r : List In) (x : PRx) (l : List (Dyn Un.B)) : HL.of (insTys (.ty (.base 0) :: r)) (@Dyn.mk Un.B (.base 0) x :: l) = ((x, HL.of (insTys r) l) : HL Un (insTys (.ty (.base 0) :: r))) := of_ty (U := Un) (.base 0) r x l
@[simp] theorem as_b0 (x : PRx) : Dyn.as (.base 0) (@Dyn.mk Un.B (.base 0) x) = x := as_self (U := Un) (.base 0) x
@[simp] theorem of_l0 (r : List In) (x : List PRx) (l : List (Dyn Un.B)) : HL.of (insTys (.ty (.list (.base 0)) :: r)) (@Dyn.mk Un.B (.list (.base 0)) x :: l) = ((x, HL.of (insTys r) l) : HL Un (insTys (.ty (.list (.base 0)) :: r))) := of_ty (U := Un) (.list (.base 0)) r x l
@[simp] theorem as_l0 (x : List PRx) : Dyn.as (.list (.base 0)) (@Dyn.mk Un.B (.list (.base 0)) x) = x := as_self (U := Un) (.list (.base 0)) x
@[simp] theorem of_o0 (r : List In) (x : Option PRx) (l : List (Dyn Un.B)) : HL.of (insTys (.ty (.opt (.base 0)) :: r)) (@Dyn.mk Un.B (.opt (.base 0)) x :: l) = ((x, HL.of (insTys r) l) : HL Un (insTys (.ty (.opt (.base 0)) :: r))) := of_ty (U := Un) (.opt (.base 0)) r x l
@[simp] theorem as_o0 (x : Option PRx) : Dyn.as (.opt (.base 0)) (@Dyn.mk Un.B (.opt (.base 0)) x) = x := as_self (U := Un) (.opt (.base 0)) x
@[simp] theorem of_p0 (r : List In) (x : PRx) (l : List (Dyn Un.B)) : HL.of (insTys (.ty (.ptr (.base 0)) :: r)) (@Dyn.mk Un.B (.ptr (.base 0)) x :: l) = ((x, HL.of (insTys r) l) : HL Un (insTys (.ty (.ptr (.base 0)) :: r))) := of_ty (U := Un) (.ptr (.base 0)) r x l
@[simp] theorem as_p0 (x : PRx) : Dyn.as (.ptr (.base 0)) (@Dyn.mk Un.B (.ptr (.base 0)) x) = x := as_self (U := Un) (.ptr (.base 0)) x
@[simp] theorem of_b1 (r : List In) (x : PAddr) (l : List (Dyn Un.B)) : HL.of (insTys (.ty (.base 1) :: r)) (@Dyn.mk Un.B (.base 1) x :: l) = ((x, HL.of (insTys r) l) : HL Un (insTys (.ty (.base 1) :: r))) := of_ty (U := Un) (.base 1) r x l
@[simp] theorem as_b1 (x : PAddr) : Dyn.as (.base 1) (@Dyn.mk Un.B (.base 1) x) = x := as_self (U := Un) (.base 1) x
@[simp] theorem of_l1 (r : List In) (x : List PAddr) (l : List (Dyn Un.B)) : HL.of (insTys (.ty (.list (.base 1)) :: r)) (@Dyn.mk Un.B (.list (.base 1)) x :: l) = ((x, HL.of (insTys r) l) : HL Un (insTys (.ty (.list (.base 1)) :: r))) := of_ty (U := Un) (.list (.base 1)) r x l
@[simp] theorem as_l1 (x : List PAddr) : Dyn.as (.list (.base 1)) (@Dyn.mk Un.B (.list (.base 1)) x) = x := as_self (U := Un) (.list (.base 1)) x
@[simp] theorem of_o1 (r : List In) (x : Option PAddr) (l : List (Dyn Un.B)) : HL.of (insTys (.ty (.opt (.base 1)) :: r)) (@Dyn.mk Un.B (.opt (.base 1)) x :: l) = ((x, HL.of (insTys r) l) : HL Un (insTys (.ty (.opt (.base 1)) :: r))) := of_ty (U := Un) (.opt (.base 1)) r x l
@[simp] theorem as_o1 (x : Option PAddr) : Dyn.as (.opt (.base 1)) (@Dyn.mk Un.B (.opt (.base 1)) x) = x := as_self (U := Un) (.opt (.base 1)) x
@[simp] theorem of_p1 (r : List In) (x : PAddr) (l : List (Dyn Un.B)) : HL.of (insTys (.ty (.ptr (.base 1)) :: r)) (@Dyn.mk Un.B (.ptr (.base 1)) x :: l) = ((x, HL.of (insTys r) l) : HL Un (insTys (.ty (.ptr (.base 1)) :: r))) := of_ty (U := Un) (.ptr (.base 1)) r x l
@[simp] theorem as_p1 (x : PAddr) : Dyn.as (.ptr (.base 1)) (@Dyn.mk Un.B (.ptr (.base 1)) x) = x := as_self (U := Un) (.ptr (.base 1)) x
@[simp] theorem of_b2 (r : List In) (x : PPiece) (l : List (Dyn Un.B)) : HL.of (insTys (.ty (.base 2) :: r)) (@Dyn.mk Un.B (.base 2) x :: l) = ((x, HL.of (insTys r) l) : HL Un (insTys (.ty (.base 2) :: r))) := of_ty (U := Un) (.base 2) r x l
@[simp] theorem as_b2 (x : PPiece) : Dyn.as (.base 2) (@Dyn.mk Un.B (.base 2) x) = x := as_self (U := Un) (.base 2) x
@[simp] theorem of_l2 (r : List In) (x : List PPiece) (l : List (Dyn Un.B)) : HL.of (insTys (.ty (.list (.base 2)) :: r)) (@Dyn.mk Un.B (.list (.base 2)) x :: l) = ((x, HL.of (insTys r) l) : HL Un (insTys (.ty (.list (.base 2)) :: r))) := of_ty (U := Un) (.list (.base 2)) r x l
@[simp] theorem as_l2 (x : List PPiece) : Dyn.as (.list (.base 2)) (@Dyn.mk Un.B (.list (.base 2)) x) = x := as_self (U := Un) (.list (.base 2)) x
@[simp] theorem of_o2 (r : List In) (x : Option PPiece) (l : List (Dyn Un.B)) : HL.of (insTys (.ty (.opt (.base 2)) :: r)) (@Dyn.mk Un.B (.opt (.base 2)) x :: l) = ((x, HL.of (insTys r) l) : HL Un (insTys (.ty (.opt (.base 2)) :: r))) := of_ty (U := Un) (.opt (.base 2)) r x l
@[simp] theorem as_o2 (x : Option PPiece) : Dyn.as (.opt (.base 2)) (@Dyn.mk Un.B (.opt (.base 2)) x) = x := as_self (U := Un) (.opt (.base 2)) x
@[simp] theorem of_p2 (r : List In) (x : PPiece) (l : List (Dyn Un.B)) : HL.of (insTys (.ty (.ptr (.base 2)) :: r)) (@Dyn.mk Un.B (.ptr (.base 2)) x :: l) = ((x, HL.of (insTys r) l) : HL Un (insTys (.ty (.ptr (.base 2)) :: r))) := of_ty (U := Un) (.ptr (.base 2)) r x l
@[simp] theorem as_p2 (x : PPiece) : Dyn.as (.ptr (.base 2)) (@Dyn.mk Un.B (.ptr (.base 2)) x) = x := as_self (U := Un) (.ptr (.base 2)) x
@[simp] theorem of_b3 (r : List In) (x : PCmd) (l : List (Dyn Un.B)) : HL.of (insTys (.ty (.base 3) :: r)) (@Dyn.mk Un.B (.base 3) x :: l) = ((x, HL.of (insTys r) l) : HL Un (insTys (.ty (.base 3) :: r))) := of_ty (U := Un) (.base 3) r x l
@[simp] theorem as_b3 (x : PCmd) : Dyn.as (.base 3) (@Dyn.mk Un.B (.base 3) x) = x := as_self (U := Un) (.base 3) x
@[simp] theorem of_l3 (r : List In) (x : List PCmd) (l : List (Dyn Un.B)) : HL.of (insTys (.ty (.list (.base 3)) :: r)) (@Dyn.mk Un.B (.list (.base 3)) x :: l) = ((x, HL.of (insTys r) l) : HL Un (insTys (.ty (.list (.base 3)) :: r))) := of_ty (U := Un) (.list (.base 3)) r x l
@[simp] theorem as_l3 (x : List PCmd) : Dyn.as (.list (.base 3)) (@Dyn.mk Un.B (.list (.base 3)) x) = x := as_self (U := Un) (.list (.base 3)) x
@[simp] theorem of_o3 (r : List In) (x : Option PCmd) (l : List (Dyn Un.B)) : HL.of (insTys (.ty (.opt (.base 3)) :: r)) (@Dyn.mk Un.B (.opt (.base 3)) x :: l) = ((x, HL.of (insTys r) l) : HL Un (insTys (.ty (.opt (.base 3)) :: r))) := of_ty (U := Un) (.opt (.base 3)) r x l
@[simp] theorem as_o3 (x : Option PCmd) : Dyn.as (.opt (.base 3)) (@Dyn.mk Un.B (.opt (.base 3)) x) = x := as_self (U := Un) (.opt (.base 3)) x
@[simp] theorem of_p3 (r : List In) (x : PCmd) (l : List (Dyn Un.B)) : HL.of (insTys (.ty (.ptr (.base 3)) :: r)) (@Dyn.mk Un.B (.ptr (.base 3)) x :: l) = ((x, HL.of (insTys r) l) : HL Un (insTys (.ty (.ptr (.base 3)) :: r))) := of_ty (U := Un) (.ptr (.base 3)) r x l
@[simp] theorem as_p3 (x : PCmd) : Dyn.as (.ptr (.base 3)) (@Dyn.mk Un.B (.ptr (.base 3)) x) = x := as_self (U := Un) (.ptr (.base 3)) x
@[simp] theorem of_b4 (r : List In) (x : PEnv) (l : List (Dyn Un.B)) : HL.of (insTys (.ty (.base 4) :: r)) (@Dyn.mk Un.B (.base 4) x :: l) = ((x, HL.of (insTys r) l) : HL Un (insTys (.ty (.base 4) :: r))) := of_ty (U := Un) (.base 4) r x l
@[simp] theorem as_b4 (x : PEnv) : Dyn.as (.base 4) (@Dyn.mk Un.B (.base 4) x) = x := as_self (U := Un) (.base 4) x
@[simp] theorem of_l4 (r : List In) (x : List PEnv) (l : List (Dyn Un.B)) : HL.of (insTys (.ty (.list (.base 4)) :: r)) (@Dyn.mk Un.B (.list (.base 4)) x :: l) = ((x, HL.of (insTys r) l) : HL Un (insTys (.ty (.list (.base 4)) :: r))) := of_ty (U := Un) (.list (.base 4)) r x l
@[simp] theorem as_l4 (x : List PEnv) : Dyn.as (.list (.base 4)) (@Dyn.mk Un.B (.list (.base 4)) x) = x := as_self (U := Un) (.list (.base 4)) x
@[simp] theorem of_o4 (r : List In) (x : Option PEnv) (l : List (Dyn Un.B)) : HL.of (insTys (.ty (.opt (.base 4)) :: r)) (@Dyn.mk Un.B (.opt (.base 4)) x :: l) = ((x, HL.of (insTys r) l) : HL Un (insTys (.ty (.opt (.base 4)) :: r))) := of_ty (U := Un) (.opt (.base 4)) r x l
@[simp] theorem as_o4 (x : Option PEnv) : Dyn.as (.opt (.base 4)) (@Dyn.mk Un.B (.opt (.base 4)) x) = x := as_self (U := Un) (.opt (.base 4)) x
@[simp] theorem of_p4 (r : List In) (x : PEnv) (l : List (Dyn Un.B)) : HL.of (insTys (.ty (.ptr (.base 4)) :: r)) (@Dyn.mk Un.B (.ptr (.base 4)) x :: l) = ((x, HL.of (insTys r) l) : HL Un (insTys (.ty (.ptr (.base 4)) :: r))) := of_ty (U := Un) (.ptr (.base 4)) r x l
@[simp] theorem as_p4 (x : PEnv) : Dyn.as (.ptr (.base 4)) (@Dyn.mk Un.B (.ptr (.base 4)) x) = x := as_self (U := Un) (.ptr (.base 4)) x
@[simp] theorem of_s0 (obs : List IO) (r : List In) (x : PRx) (l : List (Dyn Un.B)) : HL.of (insTys (.st 0 obs :: r)) (@Dyn.mk Un.B (.base 0) x :: l) = ((x, HL.of (insTys r) l) : HL Un (insTys (.st 0 obs :: r))) := of_ty (U := Un) (.base 0) r x l
@[simp] theorem of_s1 (obs : List IO) (r : List In) (x : PAddr) (l : List (Dyn Un.B)) : HL.of (insTys (.st 1 obs :: r)) (@Dyn.mk Un.B (.base 1) x :: l) = ((x, HL.of (insTys r) l) : HL Un (insTys (.st 1 obs :: r))) := of_ty (U := Un) (.base 1) r x l
@[simp] theorem of_s2 (obs : List IO) (r : List In) (x : PPiece) (l : List (Dyn Un.B)) : HL.of (insTys (.st 2 obs :: r)) (@Dyn.mk Un.B (.base 2) x :: l) = ((x, HL.of (insTys r) l) : HL Un (insTys (.st 2 obs :: r))) := of_ty (U := Un) (.base 2) r x l
@[simp] theorem of_s3 (obs : List IO) (r : List In) (x : PCmd) (l : List (Dyn Un.B)) : HL.of (insTys (.st 3 obs :: r)) (@Dyn.mk Un.B (.base 3) x :: l) = ((x, HL.of (insTys r) l) : HL Un (insTys (.st 3 obs :: r))) := of_ty (U := Un) (.base 3) r x l
@[simp] theorem of_s4 (obs : List IO) (r : List In) (x : PEnv) (l : List (Dyn Un.B)) : HL.of (insTys (.st 4 obs :: r)) (@Dyn.mk Un.B (.base 4) x :: l) = ((x, HL.of (insTys r) l) : HL Un (insTys (.st 4 obs :: r))) := of_ty (U := Un) (.base 4) r x l
theorem ltS_0 {x y : PRx} (hm : y ∈ (x.kids : List PRx)) : SizeOf.sizeOf y < SizeOf.sizeOf x := by
  have := List.sizeOf_lt_of_mem hm
  cases x
  simp only [PRx.mk.sizeOf_spec] at *
  omega
theorem hasLt_0 : ∀ m, m < 0 → ∀ x : Un.B m, Has Un ⟨.base m, x⟩ := fun m h => by omega
theorem has_0 (x : PRx) : Has Un ⟨.base 0, x⟩ := has_base (U := Un) (n := 0) (hasLt_0) x fun j t h => by
  have hall : ∀ j t, (Ulay 0)[j]? = some t → noBase t = true ∧ (tyBelow 0 t = true ∨ j = 8) := by
    intro j t h
    have hj := (List.getElem?_eq_some_iff.1 h).1
    have hc : ((List.range 9).all fun j => match (Ulay 0)[j]? with | some t => noBase t && (tyBelow 0 t || Nat.beq j 8) | none => true) = true := by decide
    have := List.all_eq_true.1 hc j (List.mem_range.2 hj)
    rw [h] at this
    simp only [Bool.and_eq_true, Bool.or_eq_true] at this
    exact ⟨this.1, this.2.imp id fun e => Nat.eq_of_beq_eq_true e⟩
  obtain ⟨h1, h2⟩ := hall j t h
  refine ⟨h1, h2.imp id fun e => ?_⟩
  subst e
  exact ⟨x.kids, rfl, fun (y : PRx) hy => has_0 y⟩
termination_by SizeOf.sizeOf x
decreasing_by exact ltS_0 hy
theorem hasLt_1 : ∀ m, m < 1 → ∀ x : Un.B m, Has Un ⟨.base m, x⟩
  | 0, _, x => has_0 x
  | m + 1, h, _ => by omega
theorem has_1 (x : Un.B 1) : Has Un ⟨.base 1, x⟩ := has_base (U := Un) (n := 1) (hasLt_1) x fun j t h => by
  have : ((Ulay 1).all fun t => noBase t && tyBelow 1 t) = true := by decide
  have := List.all_eq_true.1 this t (List.mem_of_getElem? h)
  rw [Bool.and_eq_true] at this
  exact ⟨this.1, .inl this.2⟩
theorem hasLt_2 : ∀ m, m < 2 → ∀ x : Un.B m, Has Un ⟨.base m, x⟩
  | 0, _, x => has_0 x
  | 1, _, x => has_1 x
  | m + 2, h, _ => by omega
theorem has_2 (x : Un.B 2) : Has Un ⟨.base 2, x⟩ := has_base (U := Un) (n := 2) (hasLt_2) x fun j t h => by
  have : ((Ulay 2).all fun t => noBase t && tyBelow 2 t) = true := by decide
  have := List.all_eq_true.1 this t (List.mem_of_getElem? h)
  rw [Bool.and_eq_true] at this
  exact ⟨this.1, .inl this.2⟩
theorem hasLt_3 : ∀ m, m < 3 → ∀ x : Un.B m, Has Un ⟨.base m, x⟩
  | 0, _, x => has_0 x
  | 1, _, x => has_1 x
  | 2, _, x => has_2 x
  | m + 3, h, _ => by omega
theorem has_3 (x : Un.B 3) : Has Un ⟨.base 3, x⟩ := has_base (U := Un) (n := 3) (hasLt_3) x fun j t h => by
  have : ((Ulay 3).all fun t => noBase t && tyBelow 3 t) = true := by decide
  have := List.all_eq_true.1 this t (List.mem_of_getElem? h)
  rw [Bool.and_eq_true] at this
  exact ⟨this.1, .inl this.2⟩
theorem hasLt_4 : ∀ m, m < 4 → ∀ x : Un.B m, Has Un ⟨.base m, x⟩
  | 0, _, x => has_0 x
  | 1, _, x => has_1 x
  | 2, _, x => has_2 x
  | 3, _, x => has_3 x
  | m + 4, h, _ => by omega
theorem has_4 (x : Un.B 4) : Has Un ⟨.base 4, x⟩ := has_base (U := Un) (n := 4) (hasLt_4) x fun j t h => by
  have : ((Ulay 4).all fun t => noBase t && tyBelow 4 t) = true := by decide
  have := List.all_eq_true.1 this t (List.mem_of_getElem? h)
  rw [Bool.and_eq_true] at this
  exact ⟨this.1, .inl this.2⟩
theorem hasAll : ∀ m, ∀ x : Un.B m, Has Un ⟨.base m, x⟩
  | 0, x => has_0 x
  | 1, x => has_1 x
  | 2, x => has_2 x
  | 3, x => has_3 x
  | 4, x => has_4 x
  | m + 5, _ => ⟨[], rfl⟩
instance : FullU Un := ⟨fun d => by
  obtain ⟨t, x⟩ := d
  have key : ∀ (t : Ty), ∃ n, tyBelow n t = true := fun t => by
    induction t with
    | list t ih => exact ih
    | ptr t ih => exact ih
    | opt t ih => exact ih
    | base m => exact ⟨m + 1, by show Nat.blt m (m + 1) = true; unfold Nat.blt; rw [Nat.ble_eq]; omega⟩
    | _ => exact ⟨0, rfl⟩
  obtain ⟨n, h⟩ := key t
  exact has_ty (fun m _ x => hasAll m x) t h x⟩
end Go.Dm.Sx
