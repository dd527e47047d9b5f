/- Printed by merge2.py: many texts in one. -/
import Derived.Test.YtpoegfkajdbplaaDoorMg
import Derived.Test.YtpoegfkajdbplaaDoorMd
import Derived.Laws.Externs
import Derived.Lib.Builder
import Derived.Lib.Bytealg
import Derived.Test.YtpoegfkajdbplaaDoorMe
import Derived.ChangeArms
import Derived.OpenShut
import Derived.Carry
import Derived.ChangeSame

namespace Go.Dm.Sx
open Go.Dm
set_option linter.unusedVariables false
set_option linter.unusedSimpArgs false
set_option linter.unusedSectionVars false
variable {U : Uni} {c c' c'' : Cx U} {e : SE} {Sp : List (FSpec U)} {Post : List (Dyn U.B) → Prop} {Go : Nat → List (Dyn U.B) → Prop} {P : Program} {X : SEnv} {call : CallS} {m : Nat}
theorem FrR.later {A : SA} {A' : AF} (h : FrR c A A') (hl : Le c c') : FrR c' A A' := fun i => hl.vr (h i)
theorem FrR.put {A : SA} {A' : AF} (h : FrR c A A') (dst : Option Tmp) {x : SV} {v : V} (hv : c.vr x v) : FrR c (putS m A dst x) (putA m A' dst v) := by
  cases dst with
  | none => exact h
  | some d =>
    revert d
    intro (d : Nat)
    intro i
    unfold putS putA
    simp only
    by_cases hd : d < m
    · rw [blt_true hd]
      simp only [lkS, lk]
      by_cases hi : d = i
      · subst hi; simp only [Nat.beq_refl]; exact hv
      · rw [nbeq_false hi]; exact h i
    · rw [blt_false hd]; exact h i
theorem vr_skip {ρ : Rho U} {β : Nat → Nat} {ι : Inf} : VR ρ β ι (.t []) (.t []) := by simp only [VR]; exact ⟨[], rfl, by simp only [VRs]⟩
theorem guard_okS (ok : Ok c e) {A : SA} {A' : AF} (hf : FrR c A A') {g : Option (Option Tmp × Bool)} {x y : SE → Tr} {px py : Prop} (h : TDen Sp Post Go (guardS e A g x y) c.ρ)
    (hx : ∀ e', Ok c e' → TDen Sp Post Go (x e') c.ρ → px) (hy : ∀ e', Ok c e' → TDen Sp Post Go (y e') c.ρ → py) : sguard A' g px py := by
  unfold guardS at h
  unfold sguard
  cases g with
  | none => exact hx e ok h
  | some gw =>
    obtain ⟨d, want⟩ := gw
    cases d with
    | none => exact hy e ok h
    | some d =>
      simp only at h ⊢
      have hd := hf d
      split at h
      · rename_i b hb
        rw [hb] at hd
        obtain ⟨t, e1, h1⟩ := vr_bool hd
        rw [e1]
        simp only
        cases want with
        | true =>
          simp only at h ⊢
          obtain ⟨e', ok', h'⟩ := br_ok ok h1 h
          cases t with
          | true => exact hx e' ok' h'
          | false => exact hy e' ok' h'
        | false =>
          simp only at h ⊢
          obtain ⟨e', ok', h'⟩ := br_ok ok h1 h
          cases t with
          | true => exact hy e' ok' h'
          | false => exact hx e' ok' h'
      · rename_i l hl
        rw [hl] at hd
        simp only [Cx.vr, VR] at hd
        obtain ⟨l', e1, _⟩ := hd
        rw [e1]
        exact hy e ok h
      · exact h.elim
def FollK (Sp : List (FSpec U)) (Post : List (Dyn U.B) → Prop) (Go : Nat → List (Dyn U.B) → Prop) (c : Cx U) (m : Nat) (k : KS) (K : AF → St → Prop) : Prop :=
  ∀ (c' : Cx U) e' A A', Le c c' → Ok c' e' → FrR c' A A' → TDen Sp Post Go (k e' A c'.S) c'.ρ → K A' c'.σ
theorem FollK.later {k : KS} {K : AF → St → Prop} (h : FollK Sp Post Go c m k K) (hl : Le c c') : FollK Sp Post Go c' m k K := fun c'' e' A A' h1 => h c'' e' A A' (hl.trans h1)
theorem sxs_ok (hcall : CallSOk (U := U) P Sp Post Go call) (hX : X.lay = U.lay) : ∀ (l : List SItem) {c : Cx U} {e : SE} {A : SA} {A' : AF} {k : KS} {K : AF → St → Prop}, Ok c e → inA m A' → FrR c A A' → FollK Sp Post Go c m k K →
    TDen Sp Post Go (sxs X call m l e A c.S k) c.ρ → wseq (wx P) (fun _ => false) X.tb m K l A' c.σ
  | [], c, e, A, A', k, K, ok, hA, hf, hk, h => hk c e A A' (Le.refl c) ok hf h
  | i :: r, c, e, A, A', k, K, ok, hA, hf, hk, h => by
    refine guard_okS ok hf h (fun e' ok' h' => ?_) (fun e' ok' h' => ?_)
    · refine sop_ok hcall hX ok' hA hf (K := fun v σ' => Next (wseq (wx P) (fun _ => false) X.tb m K r (putA m A' i.dst v) σ')) (fun c1 e1 sv v h1 h2 h3 h4 => ?_) h'
      exact sxs_ok hcall hX r h2 (putA_in hA _ _) ((hf.later h1).put i.dst h3) (hk.later h1) h4
    · exact sxs_ok hcall hX r ok' (putA_in hA _ _) (hf.put i.dst vr_skip) hk h'
theorem strict_cr {ρ : Rho U} {β β' : Nat → Nat} {ι ι' : Inf} {x : SC} {y : Dm.C} (hs : strictC x = true) (h : CR ρ β ι x y) : CR ρ β' ι' x y := by
  cases x <;> simp only [strictC] at hs <;> first
    | (cases hs; done)
    | (simp only [CR] at h ⊢; exact h)
theorem strict_crs {ρ : Rho U} {β β' : Nat → Nat} {ι ι' : Inf} : ∀ {x : List SC} {y : List Dm.C}, x.all strictC = true → CRs ρ β ι x y → CRs ρ β' ι' x y
  | [], y, _, h => by simpa only [CRs] using h
  | x :: r, y, hs, h => by
    simp only [List.all_cons, Bool.and_eq_true] at hs
    simp only [CRs] at h ⊢
    obtain ⟨c, l, rfl, h1, h2⟩ := h
    exact ⟨c, l, rfl, strict_cr hs.1 h1, strict_crs hs.2 h2⟩
theorem strict_vr {ρ : Rho U} {β β' : Nat → Nat} {ι ι' : Inf} {x : SV} {v : V} (hs : strictV x = true) (h : VR ρ β ι x v) : VR ρ β' ι' x v := by
  cases x with
  | c x =>
    by_cases hun : x = .un
    · subst hun; exact VR.un
    · obtain ⟨y, rfl, h1⟩ := V_c hun h
      exact VR.c (strict_cr hs h1)
  | a l =>
    simp only [VR] at h ⊢
    obtain ⟨l', rfl, h1⟩ := h
    exact ⟨l', rfl, strict_crs hs h1⟩
  | t l => cases hs
theorem clean_vr {ρ : Rho U} {β β' : Nat → Nat} {ι ι' : Inf} {x : SV} {v : V} (h : VR ρ β ι x v) : VR ρ β' ι' (cleanV x) v := by
  cases x with
  | c x =>
    simp only [cleanV, cleanC]
    split
    · rename_i hs; exact strict_vr (x := .c x) hs h
    · exact VR.un
  | a l =>
    simp only [cleanV]
    split
    · rename_i hs; exact strict_vr (x := .a l) hs h
    · exact VR.un
  | t l => exact VR.un
theorem lk_clean : ∀ (A : SA) (i : Nat), lkS (cleanA A) i = cleanV (lkS A i) ∨ lkS (cleanA A) i = .c .un
  | [], i => .inr rfl
  | (j, v) :: r, i => by
    simp only [cleanA, List.map_cons, lkS]
    cases Nat.beq j i with
    | true => exact .inl rfl
    | false => exact lk_clean r i
theorem far_strict {ρ : Rho U} {β : Nat → Nat} {ι : Inf} {x : SV} {v : V} (hs : strictV x = true) (h : VR ρ β ι x v) : farV v = false ∧ (ptrS x = false → ptrV v = false) := by
  cases x with
  | c x =>
    cases x <;> simp only [strictV, strictC] at hs <;> first
      | (cases hs; done)
      | (obtain ⟨y, rfl, h1⟩ := V_c (by simp) h
         simp only [CR] at h1
         first
           | (subst h1; exact ⟨rfl, fun _ => rfl⟩)
           | (subst h1; exact ⟨rfl, fun h => by cases h⟩)
           | (obtain ⟨f, d, rfl, _⟩ := h1; exact ⟨rfl, fun _ => rfl⟩)
           | (obtain ⟨cs, off, d, rfl, _⟩ := h1; exact ⟨rfl, fun _ => rfl⟩))
  | a l => simp only [VR] at h; obtain ⟨l', rfl, _⟩ := h; exact ⟨rfl, fun _ => rfl⟩
  | t l => cases hs
theorem tless_okS {A : SA} {A' : AF} (hf : FrR c A A') {o : Op} (h : tlessS X.tb o A = true) : tlessW X.tb o A' = true := by
  unfold tlessW
  unfold tlessS at h
  split at h
  · rfl
  · rfl
  · cases h
  · rename_i t x
    simp only [movOp, Bool.false_or, tlessA]
    simp only [Bool.and_eq_true, Bool.not_eq_true'] at h
    obtain ⟨h1, h2⟩ := far_strict h.1 (op_ok hf x)
    rw [h1, h2 h.2]; rfl
  · rename_i hn1 hn2 hn3 hn4
    rw [Bool.or_eq_true]
    right
    unfold tlessA
    split
    · rename_i x args at' ; exact (hn3 _ _ _ rfl).elim
    · exact (hn4 _ _ rfl).elim
    · simp only [Bool.and_eq_true, List.all_eq_true] at h ⊢
      refine ⟨h.1, fun x hx => ?_⟩
      rw [(far_strict (h.2 x hx) (op_ok hf x)).1]; rfl
variable [Pures]
theorem okS_ok {A : SA} {A' : AF} (hf : FrR c A A') {s : SOp} (h : okS s A = true) : okR s A' := by
  cases s <;> first
    | trivial
    | exact (far_strict h (op_ok hf _)).1
theorem near_ok {ρ : Rho U} {β : Nat → Nat} {ι : Inf} {x : SV} {v : V} (h : nearS x = true) (hv : VR ρ β ι x v) : farV v = false := by
  cases x with
  | c x => exact (far_strict (x := .c x) h hv).1
  | a l => simp only [VR] at hv; obtain ⟨l', rfl, _⟩ := hv; rfl
  | t l => simp only [VR] at hv; obtain ⟨l', rfl, _⟩ := hv; rfl
theorem okCS_ok {A : SA} {A' : AF} (hf : FrR c A A') {s : SOp} (h : okCS s A = true) : okC s A' := by
  cases s <;> first
    | trivial
    | exact near_ok h (op_ok hf _)
theorem sopR_ok (hcall : CallSOk (U := U) P Sp Post Go call) (hpure : PureSOk (U := U) P Sp Post Go X) (hX : X.lay = U.lay) {all : Bool} {s : SOp} (ok : Ok c e) {A : SA} {A' : AF} (hA : inA m A') (hf : FrR c A A') {k : K1} {K : V → St → Prop} (hk : FollS Sp Post Go c k K)
    (h : TDen Sp Post Go (sopR X call m all s e A c.S k) c.ρ) : wopR (wx P) X.tb m all s A' c.σ K := by
  unfold sopR at h
  unfold wopR
  split at h
  · rename_i hp
    rw [hp]
    simp only
    split at h
    · rename_i f args
      obtain ⟨r, h1, h2⟩ := hpure all c e f _ _ _ (fun v => K v c.σ) ok (ops_ok hf args) hk.foll h
      exact ⟨r, by cases all <;> exact h1, h2⟩
    · exact h.elim
  · rename_i hp
    rw [hp]
    simp only
    split at h
    · rename_i hok
      refine ⟨?_, sop_ok hcall hX ok hA hf hk h⟩
      cases all with
      | true => exact okCS_ok hf hok
      | false => exact okS_ok hf hok
    · exact h.elim
theorem sxt_ok (hcall : CallSOk (U := U) P Sp Post Go call) (hpure : PureSOk (U := U) P Sp Post Go X) (hX : X.lay = U.lay) : ∀ (t : YT) {c : Cx U} {e : SE} {A : SA} {A' : AF} {k : KS} {K : AF → St → Prop}, Ok c e → inA m A' → FrR c A A' → (∀ A A' c' e', Le c c' → Ok c' e' → FrR c' A A' → inA m A' → TDen Sp Post Go (k e' A c'.S) c'.ρ → K A' c'.σ) →
    TDen Sp Post Go (sxt X call m t k e A c.S) c.ρ → wtree (wx P) X.tb m t K A' c.σ
  | .done, c, e, A, A', k, K, ok, hA, hf, hk, h => hk A A' c e (Le.refl c) ok hf hA h
  | .stop, c, e, A, A', k, K, ok, hA, hf, hk, h => trivial
  | .go i none p, c, e, A, A', k, K, ok, hA, hf, hk, h => by
    refine guard_okS ok hf h (fun e' ok' h' => ?_) (fun e' ok' h' => ?_)
    · refine sopR_ok hcall hpure hX ok' hA hf (K := fun v σ' => Next (wtree (wx P) X.tb m p K (putA m A' i.dst v) σ')) (fun c1 e1 sv v h1 h2 h3 h4 => ?_) h'
      exact sxt_ok hcall hpure hX p h2 (putA_in hA _ _) ((hf.later h1).put i.dst h3) (fun A A' c' e' g1 => hk A A' c' e' (h1.trans g1)) h4
    · exact sxt_ok hcall hpure hX p ok' (putA_in hA _ _) (hf.put i.dst vr_skip) hk h'
  | .goc i p, c, e, A, A', k, K, ok, hA, hf, hk, h => by
    refine guard_okS ok hf h (fun e' ok' h' => ?_) (fun e' ok' h' => ?_)
    · refine sopR_ok hcall hpure hX ok' hA hf (K := fun v σ' => Next (wtree (wx P) X.tb m p K (putA m A' i.dst v) σ')) (fun c1 e1 sv v h1 h2 h3 h4 => ?_) h'
      exact sxt_ok hcall hpure hX p h2 (putA_in hA _ _) ((hf.later h1).put i.dst h3) (fun A A' c' e' g1 => hk A A' c' e' (h1.trans g1)) h4
    · exact sxt_ok hcall hpure hX p ok' (putA_in hA _ _) (hf.put i.dst vr_skip) hk h'
  | .go i (some o) p, c, e, A, A', k, K, ok, hA, hf, hk, h => by
    simp only [sxt] at h
    split at h
    · rename_i ht
      show (match tlessW X.tb o A' with | true => _ | false => False)
      rw [tless_okS hf ht]
      refine guard_okS ok hf h (fun e' ok' h' => ?_) (fun e' ok' h' => ?_)
      · split at h'
        · rename_i x hx
          rw [hx]
          exact sxt_ok hcall hpure hX p ok' (putA_in hA _ _) (hf.put i.dst (op_ok hf x)) hk h'
        · have hf0 : FrR c.bare (cleanA A) A' := fun j => by
            rcases lk_clean A j with e1 | e1
            · rw [e1]; exact clean_vr (hf j)
            · rw [e1]; exact VR.un
          refine sop_ok hcall hX ok'.bare hA hf0 (K := fun v _ => wtree (wx P) X.tb m p K (putA m A' i.dst v) c.σ) (fun c1 e1 sv v h1 h2 h3 h4 => ?_) h'
          split at h4
          · rename_i hS hs
            obtain ⟨g1, g2⟩ := back_ok ok' h1 h2
            exact sxt_ok (c := { c with ρ := c1.ρ }) hcall hpure hX p g2 (putA_in hA _ _) ((hf.later g1).put i.dst (strict_vr hs h3)) (fun A A' c' e' q1 => hk A A' c' e' (g1.trans q1)) h4
          · exact h4.elim
      · exact sxt_ok hcall hpure hX p ok' (putA_in hA _ _) (hf.put i.dst vr_skip) hk h'
    · exact h.elim
  | .alt i p q, c, e, A, A', k, K, ok, hA, hf, hk, h => by
    obtain ⟨h1, h2⟩ := h
    refine ⟨guard_okS ok hf h1 (fun e' ok' h' => ?_) (fun e' ok' h' => ?_), sxt_ok hcall hpure hX q ok hA hf hk h2⟩
    · refine sopR_ok hcall hpure hX ok' hA hf (K := fun v σ' => Next (wtree (wx P) X.tb m p K (putA m A' i.dst v) σ')) (fun c1 e1 sv v h1 h2 h3 h4 => ?_) h'
      exact sxt_ok hcall hpure hX p h2 (putA_in hA _ _) ((hf.later h1).put i.dst h3) (fun A A' c' e' g1 => hk A A' c' e' (h1.trans g1)) h4
    · exact sxt_ok hcall hpure hX p ok' (putA_in hA _ _) (hf.put i.dst vr_skip) hk h'
  | .sub s p, c, e, A, A', k, K, ok, hA, hf, hk, h => by
    refine sxt_ok hcall hpure hX s ok hA hf (fun A1 A1' c1 e1 g1 g2 g3 g4 g5 => ?_) h
    exact sxt_ok hcall hpure hX p g2 g4 g3 (fun A A' c' e' q1 => hk A A' c' e' (g1.trans q1)) g5
end Go.Dm.Sx
namespace Go.Dm.Sx
open Go.Dm
set_option linter.unusedVariables false
set_option linter.unusedSimpArgs false
def GhostN (n : Nat) (fr : Fr) (σ : St) (fr' : Fr) (σ' : St) : Prop :=
  ∀ g w tmps, Rep g w σ → FrRep g w σ fr tmps → ∃ g', Rep g' w σ' ∧ TurnN n g w σ g' w σ' ∧ FrRep g' w σ' fr' tmps
theorem GhostN.refl (n : Nat) (fr : Fr) (σ : St) : GhostN n fr σ fr σ := fun g w tmps hr hf => ⟨g, hr, (Turn.refl _ _ _).n n, hf⟩
theorem GhostN.trans {n : Nat} {fr fr' fr'' : Fr} {σ σ' σ'' : St} (h : GhostN n fr σ fr' σ') (k : GhostN n fr' σ' fr'' σ'') : GhostN n fr σ fr'' σ'' := fun g w tmps hr hf =>
  let ⟨g1, h1, h2, h3⟩ := h g w tmps hr hf
  let ⟨g2, k1, k2, k3⟩ := k g1 w tmps h1 h3
  ⟨g2, k1, h2.trans k2, k3⟩
theorem GhostN.of {n : Nat} {fr fr' : Fr} {σ σ' : St} (h : Ghost fr σ fr' σ') : GhostN n fr σ fr' σ' := fun g w tmps hr hf =>
  let ⟨g1, h1, h2, h3⟩ := h g w tmps hr hf
  ⟨g1, h1, h2.n n, h3⟩
theorem loop_ghostN {P : Program} {n : Nat} {c : Code} {K : Dm.Post} {fr fr' : Fr} {σ σ' : St} (hg : GhostN n fr σ fr' σ') (h : LoopAt P n c K fr' σ') : LoopAt P n c K fr σ := by
  intro g w a hr hf hd b k cs
  obtain ⟨g', h1, h2, h3⟩ := hg g w _ hr hf
  obtain ⟨e, a', w', h4, h5⟩ := h g' w a h1 h3 hd b k cs
  exact ⟨e, a', w', h4.trans h2, h5⟩
theorem ghost_nil {fr : Fr} {σ : St} {d ep sz : Nat} (hd : fr.getD d (.c .un) = .c (.f .nils)) : Ghost fr σ (fr.set d (.c (.rs σ.length ep 0))) (σ ++ [.arr true ep sz []]) := by
  intro g w tmps hr hf
  let g' : G := ⟨g.Z, fun i => if i = σ.length then none else g.blk i, fun i => if i = σ.length then 0 else g.cap i⟩
  have hb : ∀ i, i < σ.length → g'.blk i = g.blk i := fun i hi => if_neg (Nat.ne_of_lt hi)
  have hc : ∀ i, i < σ.length → g'.cap i = g.cap i := fun i hi => if_neg (Nat.ne_of_lt hi)
  have hown : ∀ b o, Own g' (σ ++ [.arr true ep sz []]) b o → Own g σ b o := by
    rintro b o ⟨i, ob, h1, h2, h3⟩
    by_cases hi : i < σ.length
    · rw [List.getElem?_append_left hi] at h1
      exact ⟨i, ob, h1, by rw [← hb i hi]; exact h2, h3⟩
    · have hlen := (List.getElem?_eq_some_iff.1 h1).1
      simp at hlen
      have : i = σ.length := by omega
      subst this
      have : g'.blk σ.length = none := if_pos rfl
      rw [this] at h2; cases h2
  have T : Turn g w σ g' w (σ ++ [.arr true ep sz []]) :=
    { os := rfl, tape := rfl, output := rfl, size := Nat.le_refl _, whole := fun _ _ _ => rfl, zs := fun b o hz => ⟨hz, rfl⟩, znew := fun b o _ hz => .inl hz, onew := fun b o _ h => hown b o h,
      turns := fun i ob h => by
        have hi := (List.getElem?_eq_some_iff.1 h).1
        refine ⟨ob, by rw [List.getElem?_append_left hi]; exact h, ?_⟩
        cases ob <;> simp [ObTurn, hb i hi, hc i hi]
      blks := fun i ob h _ => hb i (List.getElem?_eq_some_iff.1 h).1 }
  refine ⟨g', ⟨fun i ob h => ?_, fun i j a b k h1 h2 h3 h4 h5 h6 => ?_, fun b o hz ho => hr.apart b o hz (hown b o ho), hr.inside⟩, T, ?_⟩
  · by_cases hi : i < σ.length
    · rw [List.getElem?_append_left hi] at h
      exact (hr.ob i ob h).keep T (fun _ _ => rfl) (hb i hi) (hc i hi)
    · have hlen := (List.getElem?_eq_some_iff.1 h).1
      simp at hlen
      have : i = σ.length := by omega
      subst this
      rw [List.getElem?_append_right (Nat.le_refl _), Nat.sub_self] at h
      simp at h
      subst h
      exact .inl ⟨if_pos rfl, rfl, if_pos rfl⟩
  · have lt : ∀ {i : Nat} {k : Nat}, g'.blk i = some k → i ≠ σ.length := fun {i k} h e => by subst e; rw [show g'.blk σ.length = none from if_pos rfl] at h; cases h
    have l1 : i < σ.length := by
      have := (List.getElem?_eq_some_iff.1 h1).1
      simp at this
      have := lt h5
      omega
    have l2 : j < σ.length := by
      have := (List.getElem?_eq_some_iff.1 h2).1
      simp at this
      have := lt h6
      omega
    rw [List.getElem?_append_left l1] at h1
    rw [List.getElem?_append_left l2] at h2
    exact hr.inj i j a b k h1 h2 h3 h4 (by rw [← hb i l1]; exact h5) (by rw [← hb j l2]; exact h6)
  · have hf' := hf.turn T
    refine ⟨by simp [hf'.1], fun i => ?_⟩
    have h := hf'.2 i
    have h0 := hf.2 i
    by_cases hi : d = i
    · subst hi
      rw [hd] at h0
      have hv : tmps.getD d undef = .slice none 0 0 := h0
      have hlt : d < fr.length := by
        rw [List.getD_eq_getElem?_getD] at hd
        cases hh : fr[d]? with
        | none => rw [hh] at hd; cases hd
        | some x => exact (List.getElem?_eq_some_iff.1 hh).1
      rw [List.getD_eq_getElem?_getD, List.getElem?_set_self hlt, Option.getD_some, hv]
      refine ⟨rfl, .arr true ep sz [], by rw [List.getElem?_append_right (Nat.le_refl _), Nat.sub_self]; rfl, Nat.le_refl _, fun _ => ?_⟩
      refine ⟨?_, by simp, Nat.zero_le _⟩
      rw [show g'.blk σ.length = none from if_pos rfl, show g'.cap σ.length = 0 from if_pos rfl]
      rfl
    · rw [List.getD_eq_getElem?_getD, List.getElem?_set_ne hi, ← List.getD_eq_getElem?_getD]
      exact h
theorem ghost_trim {k : Nat} {fr : Fr} {σ : St} {n : Nat} (hk : k ≤ n) (hf : ∀ i, (fr.getD i (.c .un)).under n = true) (hs : (σ.take n).all (Ob.under n) = true) : GhostN k fr σ fr (σ.take n) := by
  intro g w tmps hr hfr
  refine ⟨g, take_rep hr hs, ?_, hfr.1, fun i => underV (hf i) (hfr.2 i)⟩
  exact
    { os := rfl, tape := rfl, output := rfl, size := Nat.le_refl _, whole := fun _ _ _ => rfl, zs := fun b o hz => ⟨hz, rfl⟩, znew := fun b o _ hz => .inl hz,
      onew := fun b o _ ⟨i, ob, h1, h2⟩ => ⟨i, ob, (get_take h1).2, h2⟩,
      turns := fun i ob hi h => ⟨ob, by rw [take_get (by omega)]; exact h, by cases ob <;> simp [ObTurn]⟩,
      blks := fun _ _ _ _ _ => rfl }
variable {U : Uni} {c c' c'' : Cx U} {e : SE} {Sp : List (FSpec U)} {Post : List (Dyn U.B) → Prop} {Go : Nat → List (Dyn U.B) → Prop} {P : Program} {X : SEnv} {call : CallS} {m : Nat}
theorem tyCell_ok {n : Nat} {x : U.B n} {j : Nat} {t : Ty} (h : nth (U.lay n) j = some t) : ∃ d : Dyn U.B, (cells U ⟨.base n, x⟩)[j]? = some d ∧ d.t = t := by
  rw [nth_eq] at h
  have hj := (List.getElem?_eq_some_iff.1 h).1
  refine ⟨U.acc n x j, ?_, U.acc_t n x j t h⟩
  simp [cells, hj]
theorem tmTy_ok (ok : Ok c e) {x : Tm} {t : Ty} (h : tmTy U.lay e x = some t) : ∃ d : Dyn U.B, x.den? c.ρ = some d ∧ d.t = t := by
  cases x with
  | «at» i => exact ok.ty h
  | fld i j =>
    simp only [tmTy] at h
    split at h
    · rename_i t' ht
      obtain ⟨d, h1, h2⟩ := ok.ty ht
      obtain ⟨t0, v⟩ := d
      simp only at h2
      subst h2
      simp only [Tm.den?, h1, pcells]
      cases t' with
      | base n => exact tyCell_ok h
      | _ =>
        simp only [tyCell] at h
        split at h
        · cases h; refine ⟨_, rfl, ?_⟩; rfl
        · cases h
    · rename_i n ht
      obtain ⟨d, h1, h2⟩ := ok.ty ht
      obtain ⟨t0, v⟩ := d
      simp only at h2
      subst h2
      simp only [Tm.den?, h1, pcells]
      exact tyCell_ok h
    · cases h
  | _ => simp only [tmTy, Option.some.injEq] at h; subst h; exact ⟨_, rfl, rfl⟩
def ThLe (θ θ' : Th) : Prop := ∀ i x, nth θ i = some (some x) → nth θ' i = some (some x)
theorem ThLe.refl (θ : Th) : ThLe θ θ := fun _ _ h => h
theorem ThLe.trans {a b d : Th} (h : ThLe a b) (k : ThLe b d) : ThLe a d := fun i x hx => k i x (h i x hx)
def thR (ρ : Rho U) (θ : Th) : Rho U := θ.map fun o => (o.getD (.bool false)).den ρ
def ThOk (c : Cx U) (tys : List Ty) (θ : Th) : Prop := θ.length = tys.length ∧ ∀ i x, nth θ i = some (some x) → ∃ d t, x.den? c.ρ = some d ∧ nth tys i = some t ∧ d.t = t
theorem thR_get {θ : Th} {i : Nat} {x : Tm} {d : Dyn U.B} {ρ : Rho U} (h : nth θ i = some (some x)) (hd : x.den? ρ = some d) : (thR ρ θ)[i]? = some d := by
  rw [nth_eq] at h
  simp only [thR, List.getElem?_map, h, Option.map_some, Option.getD_some, Tm.den_of hd]
theorem put_len {α : Type} (l : List α) (i : Nat) (v : α) : (put l i v).length = l.length := by rw [put_eq]; simp
theorem bind_ok (ok : Ok c e) {tys : List Ty} {θ θ' : Th} {i : Nat} {x : Tm} (hθ : ThOk c tys θ) (h : bindT U.lay e tys θ i x = some θ') : ThLe θ θ' ∧ ThOk c tys θ' ∧ nth θ' i = some (some x) := by
  unfold bindT at h
  split at h
  · rename_i hi
    split at h
    · rename_i t t' h1 h2
      split at h
      · rename_i ht
        cases h
        have e1 := Ty.eqb_ok ht
        subst e1
        obtain ⟨d, q1, q2⟩ := tmTy_ok ok h2
        have hlt : i < θ.length := by rw [nth_eq] at hi; exact (List.getElem?_eq_some_iff.1 hi).1
        have hne : ∀ j, j ≠ i → nth (put θ i (some x)) j = nth θ j := fun j hj => by rw [nth_eq, nth_eq, put_eq, List.getElem?_set_ne (Ne.symm hj)]
        have heq : nth (put θ i (some x)) i = some (some x) := by rw [nth_eq, put_eq, List.getElem?_set_self hlt]
        refine ⟨fun j y hj => ?_, ⟨by rw [put_len]; exact hθ.1, fun j y hj => ?_⟩, heq⟩
        · by_cases hji : j = i
          · subst hji; rw [hi] at hj; cases hj
          · rw [hne j hji]; exact hj
        · by_cases hji : j = i
          · subst hji
            rw [heq] at hj
            cases hj
            exact ⟨d, t, q1, h1, q2⟩
          · rw [hne j hji] at hj
            exact hθ.2 j y hj
      · cases h
    · cases h
  · rename_i y hi
    split at h
    · rename_i hy
      cases h
      rw [← Tm.eqb_ok hy]
      exact ⟨ThLe.refl _, hθ, hi⟩
    · cases h
  · cases h
theorem mTm_ok (ok : Ok c e) {tys : List Ty} {θ θ' : Th} {p x : Tm} (hθ : ThOk c tys θ) (h : mTm U.lay e tys p x θ = some θ') :
    ThLe θ θ' ∧ ThOk c tys θ' ∧ ∀ θf, ThLe θ' θf → ∀ d, x.den? c.ρ = some d → p.den? (thR c.ρ θf) = some d := by
  unfold mTm at h
  split at h
  · obtain ⟨h1, h2, h3⟩ := bind_ok ok hθ h
    exact ⟨h1, h2, fun θf hf d hd => thR_get (hf _ _ h3) hd⟩
  · cases h
  · rename_i hn1 hn2
    split at h
    · rename_i hp
      cases h
      have := Tm.eqb_ok hp
      subst this
      refine ⟨ThLe.refl _, hθ, fun θf hf d hd => ?_⟩
      cases p with
      | «at» i => exact (hn1 _ rfl).elim
      | fld i j => exact (hn2 _ _ rfl).elim
      | _ => exact hd
    · cases h
structure MCx (c : Cx U) (tm : Tmpl) (θf : Th) (βt : Nat → Nat) (ιt : Inf) : Prop where
  rs : ∀ o k' , freshS c.S o k' = true → isArr tm.S o = true → βt o = c.β o + k' * 8589934592 ∧ ∀ len, c.ι o = some (k', len) → ιt o = some (0, len)
mutual
theorem mC_ok (ok : Ok c e) {tm : Tmpl} : ∀ {p x : SC} {θ θ' : Th}, ThOk c tm.tys θ → mC U.lay e tm c.S p x θ = some θ' →
    ThLe θ θ' ∧ ThOk c tm.tys θ' ∧ ∀ θf βt ιt, ThLe θ' θf → MCx c tm θf βt ιt → ∀ y, c.cr x y → CR (thR c.ρ θf) βt ιt p y
  | .d t p, x, θ, θ', hθ, h => by
    simp only [mC] at h
    split at h
    · rename_i t' y
      split at h
      · rename_i ht
        have := Ty.eqb_ok ht
        subst this
        obtain ⟨h1, h2, h3⟩ := mTm_ok ok hθ h
        refine ⟨h1, h2, fun θf βt ιt hf _ z hz => ?_⟩
        simp only [Cx.cr, CR] at hz ⊢
        obtain ⟨f, d, rfl, q1, q2, q3⟩ := hz
        exact ⟨f, d, rfl, h3 θf hf d q1, q2, q3⟩
      · cases h
    · split at h
      · rename_i u
        obtain ⟨h1, h2, h3⟩ := mTm_ok ok hθ h
        refine ⟨h1, h2, fun θf βt ιt hf _ z hz => ?_⟩
        simp only [Cx.cr, CR] at hz ⊢
        subst hz
        exact ⟨.nils, ⟨.list u, []⟩, rfl, h3 θf hf _ rfl, rfl, by simp only [FD]; exact ⟨u, rfl⟩⟩
      · cases h
    · split at h
      · rename_i u
        obtain ⟨h1, h2, h3⟩ := mTm_ok ok hθ h
        refine ⟨h1, h2, fun θf βt ιt hf _ z hz => ?_⟩
        simp only [Cx.cr, CR] at hz ⊢
        subst hz
        exact ⟨.nilp, ⟨.opt u, none⟩, rfl, h3 θf hf _ rfl, rfl, by simp only [FD]; exact ⟨u, rfl⟩⟩
      · cases h
    · cases h
  | .nil, x, θ, θ', hθ, h => by
    simp only [mC] at h
    split at h
    · cases h; exact ⟨ThLe.refl _, hθ, fun θf βt ιt _ _ z hz => by simpa only [Cx.cr, CR] using hz⟩
    · cases h
  | .nilp, x, θ, θ', hθ, h => by
    simp only [mC] at h
    split at h
    · cases h; exact ⟨ThLe.refl _, hθ, fun θf βt ιt _ _ z hz => by simpa only [Cx.cr, CR] using hz⟩
    · cases h
  | .nilm, x, θ, θ', hθ, h => by
    simp only [mC] at h
    split at h
    · cases h; exact ⟨ThLe.refl _, hθ, fun θf βt ιt _ _ z hz => by simpa only [Cx.cr, CR] using hz⟩
    · cases h
  | .nilf, x, θ, θ', hθ, h => by
    simp only [mC] at h
    split at h
    · cases h; exact ⟨ThLe.refl _, hθ, fun θf βt ιt _ _ z hz => by simpa only [Cx.cr, CR] using hz⟩
    · cases h
  | .fn f, x, θ, θ', hθ, h => by
    simp only [mC] at h
    split at h
    · split at h
      · rename_i hb
        cases h
        have := beq_nat hb
        subst this
        exact ⟨ThLe.refl _, hθ, fun θf βt ιt _ _ z hz => by simpa only [Cx.cr, CR] using hz⟩
      · cases h
    · cases h
  | .clo f caps, x, θ, θ', hθ, h => by
    simp only [mC] at h
    split at h
    · split at h
      · rename_i hb
        have := beq_nat hb
        subst this
        obtain ⟨h1, h2, h3⟩ := mCs_ok ok hθ h
        refine ⟨h1, h2, fun θf βt ιt hf hm z hz => ?_⟩
        simp only [Cx.cr, CR] at hz ⊢
        obtain ⟨l', rfl, hz⟩ := hz
        exact ⟨l', rfl, h3 θf βt ιt hf hm _ hz⟩
      · cases h
    · cases h
  | .ptr o i, x, θ, θ', hθ, h => by
    simp only [mC] at h
    split at h
    · split at h
      · rename_i hb1 hb2
        cases h
        have e1 := beq_nat hb1
        have e2 := beq_nat hb2
        subst e1 e2
        exact ⟨ThLe.refl _, hθ, fun θf βt ιt _ _ z hz => by simpa only [Cx.cr, CR] using hz⟩
      · cases h
    · cases h
  | .el p j, x, θ, θ', hθ, h => by
    simp only [mC] at h
    split at h
    · split at h
      · rename_i hb
        have := beq_nat hb
        subst this
        obtain ⟨h1, h2, h3⟩ := mTm_ok ok hθ h
        refine ⟨h1, h2, fun θf βt ιt hf _ z hz => ?_⟩
        simp only [Cx.cr, CR] at hz ⊢
        obtain ⟨cs, off, d, rfl, q1, q2⟩ := hz
        exact ⟨cs, off, d, rfl, h3 θf hf d q1, q2⟩
      · cases h
    · cases h
  | .rs o k, x, θ, θ', hθ, h => by
    simp only [mC] at h
    split at h
    · rename_i o' k'
      split at h
      · rename_i hb1 hb2 hfr har
        cases h
        have e1 := beq_nat hb1
        have e2 := beq_nat hb2
        subst e1 e2
        refine ⟨ThLe.refl _, hθ, fun θf βt ιt _ hm z hz => ?_⟩
        obtain ⟨h1, h2⟩ := hm.rs o k' hfr har
        obtain ⟨w, ty, sz, t, x, ho⟩ := fresh_ok ok hfr
        obtain ⟨ys, gs, q1, q2, q3, q4, q5, q6⟩ := arr_at ok ho
        simp only [Cx.cr, CR] at hz ⊢
        obtain ⟨n, kc, len, rfl, p1, p2, p3⟩ := hz
        have p1' : c.ι o = some (kc, len) := p1
        rw [q6] at p1'
        cases p1'
        exact ⟨n, 0, _, by rw [h1, Nat.zero_mul, Nat.add_zero], h2 _ q6, Nat.le_refl _, fun _ => p3 rfl⟩
      · cases h
    · cases h
  | .mp o, x, θ, θ', hθ, h => by simp [mC] at h
  | .pa .., x, θ, θ', hθ, h => by simp [mC] at h
  | .un, x, θ, θ', hθ, h => by simp [mC] at h
theorem mCs_ok (ok : Ok c e) {tm : Tmpl} : ∀ {p x : List SC} {θ θ' : Th}, ThOk c tm.tys θ → mCs U.lay e tm c.S p x θ = some θ' →
    ThLe θ θ' ∧ ThOk c tm.tys θ' ∧ ∀ θf βt ιt, ThLe θ' θf → MCx c tm θf βt ιt → ∀ y, c.crs x y → CRs (thR c.ρ θf) βt ιt p y
  | [], x, θ, θ', hθ, h => by
    simp only [mCs] at h
    split at h
    · cases h; exact ⟨ThLe.refl _, hθ, fun θf βt ιt _ _ z hz => by simpa only [Cx.crs, CRs] using hz⟩
    · cases h
  | p :: ps, x, θ, θ', hθ, h => by
    simp only [mCs] at h
    split at h
    · cases h
    · rename_i y ys
      split at h
      · rename_i θ1 h1
        obtain ⟨a1, a2, a3⟩ := mC_ok ok hθ h1
        obtain ⟨b1, b2, b3⟩ := mCs_ok ok a2 h
        refine ⟨a1.trans b1, b2, fun θf βt ιt hf hm z hz => ?_⟩
        simp only [Cx.crs, CRs] at hz ⊢
        obtain ⟨z0, zs, rfl, hz1, hz2⟩ := hz
        exact ⟨z0, zs, rfl, a3 θf βt ιt (b1.trans hf) hm _ hz1, b3 θf βt ιt hf hm _ hz2⟩
      · cases h
end
theorem mV_ok (ok : Ok c e) {tm : Tmpl} {p x : SV} {θ θ' : Th} (hθ : ThOk c tm.tys θ) (h : mV U.lay e tm c.S p x θ = some θ') :
    ThLe θ θ' ∧ ThOk c tm.tys θ' ∧ ∀ θf βt ιt, ThLe θ' θf → MCx c tm θf βt ιt → ∀ y, c.vr x y → VR (thR c.ρ θf) βt ιt p y := by
  unfold mV at h
  split at h
  · rename_i p x
    obtain ⟨h1, h2, h3⟩ := mC_ok ok hθ h
    refine ⟨h1, h2, fun θf βt ιt hf hm z hz => ?_⟩
    by_cases hun : x = .un
    · subst hun
      cases p with
      | un => exact VR.un
      | _ =>
        exfalso
        simp only [mC] at h
        cases h
    · obtain ⟨y, rfl, hz1⟩ := V_c hun hz
      exact VR.c (h3 θf βt ιt hf hm _ hz1)
  · obtain ⟨h1, h2, h3⟩ := mCs_ok ok hθ h
    refine ⟨h1, h2, fun θf βt ιt hf hm z hz => ?_⟩
    simp only [Cx.vr, VR] at hz ⊢
    obtain ⟨l', rfl, hz⟩ := hz
    exact ⟨l', rfl, h3 θf βt ιt hf hm _ hz⟩
  · cases h
theorem mA_ok (ok : Ok c e) {tm : Tmpl} {A : SA} {A' : AF} (hA : FrR c A A') : ∀ {pa : SA} {θ θ' : Th}, ThOk c tm.tys θ → mA U.lay e tm A c.S pa θ = some θ' →
    ThLe θ θ' ∧ ThOk c tm.tys θ' ∧ ∀ θf βt ιt, ThLe θ' θf → MCx c tm θf βt ιt → ∀ q ∈ pa, VR (thR c.ρ θf) βt ιt q.2 (lk A' q.1)
  | [], θ, θ', hθ, h => by
    simp only [mA, Option.some.injEq] at h
    subst h
    exact ⟨ThLe.refl _, hθ, fun _ _ _ _ _ q hq => by cases hq⟩
  | (i, p) :: r, θ, θ', hθ, h => by
    simp only [mA] at h
    split at h
    · rename_i θ1 h1
      obtain ⟨a1, a2, a3⟩ := mV_ok ok hθ h1
      obtain ⟨b1, b2, b3⟩ := mA_ok ok hA a2 h
      refine ⟨a1.trans b1, b2, fun θf βt ιt hf hm q hq => ?_⟩
      rcases List.mem_cons.1 hq with rfl | hq
      · exact a3 θf βt ιt (b1.trans hf) hm _ (hA i)
      · exact b3 θf βt ιt hf hm q hq
    · cases h
def ObM (c : Cx U) (tm : Tmpl) (θf : Th) (o : Nat) (p x : SOb) : Prop :=
  (∀ βt ιt, MCx c tm θf βt ιt → (∀ k', freshS c.S o k' = true → βt o = c.β o + k' * 8589934592) → ∀ ob, OR c.ρ c.β c.ι o x ob → OR (thR c.ρ θf) βt ιt o p ob) ∧
  (∀ w k ty sz t a, p = .arr w k ty sz t a → k = 0 ∧ ∃ w' k' a', x = .arr w' k' ty sz t a' ∧ ∀ d, a'.den? c.ρ = some d → a.den? (thR c.ρ θf) = some d)
theorem mOb_ok (ok : Ok c e) {tm : Tmpl} {o : Nat} {p x : SOb} (ho : nth c.S o = some x) {θ θ' : Th} (hθ : ThOk c tm.tys θ) (h : mOb U.lay e tm c.S p x θ = some θ') :
    ThLe θ θ' ∧ ThOk c tm.tys θ' ∧ ∀ θf, ThLe θ' θf → ObM c tm θf o p x := by
  unfold mOb at h
  split at h
  · obtain ⟨h1, h2, h3⟩ := mCs_ok ok hθ h
    refine ⟨h1, h2, fun θf hf => ⟨fun βt ιt hm _ ob hob => ?_, fun _ _ _ _ _ _ hh => by cases hh⟩⟩
    obtain ⟨l', rfl, hz⟩ := hob
    exact ⟨l', rfl, h3 θf βt ιt hf hm _ hz⟩
  · rename_i w k ty sz t p w' k' ty' sz' t' x
    split at h
    · rename_i e1 e2 e3 e4 e5
      have hw : w = w' := by cases w <;> cases w' <;> first | rfl | cases e1
      have e2 := beq_nat e2
      have e3 := nbeq_ok e3
      have e4 := beq_nat e4
      have e5 := Ty.eqb_ok e5
      subst hw e2 e3 e4 e5
      obtain ⟨h1, h2, h3⟩ := mTm_ok ok hθ h
      refine ⟨h1, h2, fun θf hf => ⟨fun βt ιt hm hβ ob hob => ?_, fun _ _ _ _ _ _ hh => ?_⟩⟩
      · obtain ⟨d, fs, q1, q2, q3, q4, q5, q6⟩ := hob
        have hk : freshS c.S o k' = true := by unfold freshS; rw [ho]; exact Nat.beq_refl _
        refine ⟨d, fs, h3 θf hf d q1, q2, ?_, q4, ?_, q6⟩
        · rw [hβ k' hk, Nat.zero_mul, Nat.add_zero]; exact q3
        · rw [hβ k' hk, Nat.add_mul_mod_self_right]; exact q5
      · cases hh
        exact ⟨rfl, w, k', x, rfl, fun d hd => h3 θf hf d hd⟩
    · cases h
  · rename_i T u p T' u' x
    split at h
    · rename_i e1 e2
      have e1 := beq_nat e1
      have hu : ∀ b, u = some b → u' = some b := fun b hb => by
        subst hb
        cases b <;> cases u' with
          | none => cases e2
          | some b' => cases b' <;> first | rfl | cases e2
      subst e1
      obtain ⟨h1, h2, h3⟩ := mC_ok ok hθ h
      refine ⟨h1, h2, fun θf hf => ⟨fun βt ιt hm _ ob hob => ?_, fun _ _ _ _ _ _ hh => by cases hh⟩⟩
      obtain ⟨v, y, rfl, hv, hz⟩ := hob
      exact ⟨v, y, rfl, fun b hb => hv b (hu b hb), h3 θf βt ιt hf hm _ hz⟩
    · cases h
  · cases h
theorem mS_ok (ok : Ok c e) {tm : Tmpl} : ∀ {ps xs : SSt} {s : Nat} {θ θ' : Th}, ThOk c tm.tys θ → (∀ i x, xs[i]? = some x → nth c.S (s + i) = some x) → mS U.lay e tm c.S ps xs θ = some θ' →
    ThLe θ θ' ∧ ThOk c tm.tys θ' ∧ ∀ θf, ThLe θ' θf → ∀ i p, ps[i]? = some p → ∃ x, nth c.S (s + i) = some x ∧ ObM c tm θf (s + i) p x
  | [], xs, s, θ, θ', hθ, hx, h => by
    simp only [mS, Option.some.injEq] at h
    subst h
    exact ⟨ThLe.refl _, hθ, fun _ _ i p hp => by simp at hp⟩
  | p :: ps, [], s, θ, θ', hθ, hx, h => by simp [mS] at h
  | p :: ps, x :: xs, s, θ, θ', hθ, hx, h => by
    simp only [mS] at h
    split at h
    · rename_i θ1 h1
      have h0 := hx 0 x rfl
      obtain ⟨a1, a2, a3⟩ := mOb_ok (o := s) ok (by simpa using h0) hθ h1
      obtain ⟨b1, b2, b3⟩ := mS_ok (s := s + 1) ok a2 (fun i y hy => by rw [show s + 1 + i = s + (i + 1) from by omega]; exact hx (i + 1) y (by simpa using hy)) h
      refine ⟨a1.trans b1, b2, fun θf hf i q hq => ?_⟩
      cases i with
      | zero => simp at hq; subst hq; exact ⟨x, by simpa using h0, a3 θf (b1.trans hf)⟩
      | succ i =>
        have := b3 θf hf i q (by simpa using hq)
        rwa [show s + 1 + i = s + (i + 1) from by omega] at this
    · cases h
theorem allSome_ok : ∀ {θ : Th} {l : List Tm}, allSome θ = some l → θ = l.map some
  | [], l, h => by simp only [allSome, Option.some.injEq] at h; subst h; rfl
  | none :: r, l, h => by simp [allSome] at h
  | some x :: r, l, h => by
    simp only [allSome] at h
    split at h
    · rename_i l' hl
      cases h
      rw [allSome_ok hl]; rfl
    · cases h
mutual
theorem under_cr {ρ : Rho U} {β : Nat → Nat} {ι : Inf} {n : Nat} : ∀ {x : SC} {y : Dm.C}, inC n x = true → CR ρ β ι x y → y.under n = true
  | .d t a, y, h, hr => by simp only [CR] at hr; obtain ⟨f, d, rfl, _⟩ := hr; rfl
  | .nil, y, h, hr => by simp only [CR] at hr; subst hr; rfl
  | .nilp, y, h, hr => by simp only [CR] at hr; subst hr; rfl
  | .nilm, y, h, hr => by simp only [CR] at hr; subst hr; rfl
  | .nilf, y, h, hr => by simp only [CR] at hr; subst hr; rfl
  | .fn f, y, h, hr => by simp only [CR] at hr; subst hr; rfl
  | .clo f caps, y, h, hr => by
    simp only [CR] at hr
    obtain ⟨l, rfl, hr⟩ := hr
    simp only [inC] at h
    exact under_crs h hr
  | .ptr o i, y, h, hr => by simp only [CR] at hr; subst hr; exact h
  | .el a j, y, h, hr => by simp only [CR] at hr; obtain ⟨cs, off, d, rfl, _⟩ := hr; rfl
  | .rs o k, y, h, hr => by simp only [CR] at hr; obtain ⟨a, b, d, rfl, _⟩ := hr; exact h
  | .mp o, y, h, hr => by simp [inC] at h
  | .pa .., y, h, hr => by simp [inC] at h
  | .un, y, h, hr => by simp [inC] at h
theorem under_crs {ρ : Rho U} {β : Nat → Nat} {ι : Inf} {n : Nat} : ∀ {x : List SC} {y : List Dm.C}, inCs n x = true → CRs ρ β ι x y → C.unders n y = true
  | [], y, h, hr => by simp only [CRs] at hr; subst hr; rfl
  | x :: r, y, h, hr => by
    simp only [CRs] at hr
    obtain ⟨c, l, rfl, h1, h2⟩ := hr
    simp only [inCs] at h
    split at h
    · rename_i hx
      simp only [C.unders, under_cr hx h1]
      exact under_crs h h2
    · cases h
end
theorem under_vr {ρ : Rho U} {β : Nat → Nat} {ι : Inf} {n : Nat} {x : SV} {v : V} (h : inV n x = true) (hr : VR ρ β ι x v) : v.under n = true := by
  cases x with
  | c x =>
    by_cases hun : x = .un
    · subst hun; simp [inV, inC] at h
    · obtain ⟨y, rfl, h1⟩ := V_c hun hr
      exact under_cr h h1
  | a l => simp only [VR] at hr; obtain ⟨l', rfl, hr⟩ := hr; exact under_crs h hr
  | t l => simp [inV] at h
theorem under_or {ρ : Rho U} {β : Nat → Nat} {ι : Inf} {n o : Nat} {x : SOb} {ob : Ob} (h : inOb n x = true) (hr : OR ρ β ι o x ob) : ob.under n = true := by
  cases x with
  | cells l => obtain ⟨l', rfl, hr⟩ := hr; exact under_crs h hr
  | arr w k ty sz t x => obtain ⟨d, fs, _, _, rfl, _⟩ := hr; rfl
  | bld T u x => obtain ⟨v, y, rfl, _, hr⟩ := hr; exact under_cr h hr
  | any => simp [inOb] at h
def AtHead (tm : Tmpl) (m n : Nat) (LP : AF → St → Prop) (vals : List (Dyn U.B)) : Prop :=
  ∀ (ct : Cx U) (A' : AF), ct.ρ = vals → ct.S = tm.S → Ok ct ⟨tm.tys, [], []⟩ → FrR ct tm.A A' → inA m A' → LP A' ct.σ
def keepA (tm : SA) (A' : AF) : AF := tm.map fun p => (p.1, lk A' p.1)
theorem lk_keep (A' : AF) : ∀ (tm : SA) (i : Nat), lk (keepA tm A') i = lk A' i ∧ (∃ p ∈ tm, p.1 = i) ∨ lk (keepA tm A') i = .c .un
  | [], i => .inr rfl
  | (j, p) :: r, i => by
    simp only [keepA, List.map_cons, lk_cons]
    by_cases hj : j = i
    · subst hj
      exact .inl ⟨by rw [if_pos rfl], _, List.mem_cons_self .., rfl⟩
    · rw [if_neg hj]
      rcases lk_keep A' r i with ⟨h1, p', hp, h2⟩ | h1
      · exact .inl ⟨h1, p', List.mem_cons_of_mem _ hp, h2⟩
      · exact .inr h1
theorem keep_lk (A' : AF) : ∀ (r : SA) {i : Nat} {p : SV}, (i, p) ∈ r → lk (keepA r A') i = lk A' i
  | [], i, p, h => by cases h
  | (j, q) :: r, i, p, hq => by
    simp only [keepA, List.map_cons, lk_cons]
    by_cases hj : j = i
    · rw [if_pos hj, hj]
    · rw [if_neg hj]
      rcases List.mem_cons.1 hq with hq | hq
      · cases hq; exact absurd rfl hj
      · exact keep_lk A' r hq
theorem cov_keep (A' : AF) : ∀ (r : SA), CovA (keepA r A') A'
  | [] => trivial
  | (j, q) :: r => ⟨rfl, cov_keep A' r⟩
theorem lkS_mem : ∀ {tm : SA} {i : Nat}, lkS tm i = .c .un ∨ ∃ p, (i, p) ∈ tm ∧ lkS tm i = p
  | [], i => .inl rfl
  | (j, p) :: r, i => by
    simp only [lkS]
    by_cases hj : j = i
    · subst hj
      rw [Nat.beq_refl]
      exact .inr ⟨p, List.mem_cons_self .., rfl⟩
    · rw [nbeq_false hj]
      rcases lkS_mem (tm := r) (i := i) with h | ⟨p', h1, h2⟩
      · exact .inl h
      · exact .inr ⟨p', List.mem_cons_of_mem _ h1, h2⟩
theorem head_ok (ok : Ok c e) {tm : Tmpl} {A : SA} {A' : AF} (hA : inA m A') (hf : FrR c A A') (ht : tmplOk tm = true) {θ1 θ2 : Th} (h1 : mA U.lay e tm A c.S tm.A (List.replicate tm.tys.length none) = some θ1) (h2 : mS U.lay e tm c.S tm.S c.S θ1 = some θ2)
    {l : List Tm} (h3 : allSome θ2 = some l) {n : Nat} (hn : n ≤ tm.S.length) {LP : AF → St → Prop} (hLP : ∀ A1 σ1 A2 σ2, inA m A1 → inA m A2 → GhostN n (toFr m A1) σ1 (toFr m A2) σ2 → LP A2 σ2 → LP A1 σ1)
    (h : AtHead (U := U) tm m n LP (l.map fun y => y.den c.ρ)) : LP A' c.σ := by
  have hθ0 : ThOk c tm.tys (List.replicate tm.tys.length none) := ⟨by simp, fun i x hi => by rw [nth_eq, List.getElem?_replicate] at hi; split at hi <;> simp at hi⟩
  obtain ⟨a1, a2, a3⟩ := mA_ok ok hf hθ0 h1
  obtain ⟨b1, b2, b3⟩ := mS_ok (s := 0) ok a2 (fun i x hi => by rw [Nat.zero_add, nth_eq]; exact hi) h2
  have hl := allSome_ok h3
  have hρ : thR c.ρ θ2 = l.map fun y => y.den c.ρ := by rw [hl]; simp [thR]
  have hS := b3 θ2 (ThLe.refl _)
  simp only [Nat.zero_add] at hS
  simp only [tmplOk, Bool.and_eq_true, List.all_eq_true] at ht
  have hlen : tm.S.length ≤ c.S.length := by
    rcases Nat.eq_zero_or_pos tm.S.length with h0 | h0
    · omega
    · obtain ⟨x, hx, _⟩ := hS (tm.S.length - 1) _ (List.getElem?_eq_getElem (by omega))
      rw [nth_eq] at hx
      have := (List.getElem?_eq_some_iff.1 hx).1
      omega
  -- the context at the head
  let k0 : Nat → Nat := fun o => match nth c.S o with | some (.arr _ k _ _ _ _) => k | _ => 0
  let ct : Cx U := ⟨thR c.ρ θ2, fun o => c.β o + k0 o * 8589934592, tm.S, c.σ.take tm.S.length⟩
  have hfresh : ∀ o k', freshS c.S o k' = true → k0 o = k' := fun o k' hfr => by
    obtain ⟨w, ty, sz, t, x, ho⟩ := fresh_ok ok hfr
    simp only [k0, ho]
  have hβ : ∀ o k', freshS c.S o k' = true → ct.β o = c.β o + k' * 8589934592 := fun o k' hfr => by
    show c.β o + k0 o * 8589934592 = _
    rw [hfresh o k' hfr]
  have hm : MCx c tm θ2 ct.β ct.ι := ⟨fun o k' hfr har => ⟨hβ o k' hfr, fun len hlen' => ?_⟩⟩
  rotate_left
  · unfold isArr at har
    split at har
    · rename_i w k ty sz t a ho
      rw [nth_eq] at ho
      obtain ⟨x, hx, hx1, hx2⟩ := hS o _ ho
      obtain ⟨hk, w', k'', a', rfl, hden⟩ := hx2 _ _ _ _ _ _ rfl
      obtain ⟨ys, gs, q1, q2, q3, q4, q5, q6⟩ := arr_at ok hx
      rw [q6] at hlen'
      cases hlen'
      subst hk
      simp only [Cx.ι, inf, ct, ho, hden _ q1, lenOf]
    · cases har
  have hok : Ok ct ⟨tm.tys, [], []⟩ := by
    refine ⟨?_, fun p hp => (by cases hp), fun x hx => (by cases hx), ?_, fun o so ho => ?_⟩
    · show tm.tys = (thR c.ρ θ2).map Dyn.t
      apply List.ext_getElem?
      intro i
      by_cases hi : i < tm.tys.length
      · have hi2 : i < θ2.length := by rw [b2.1]; exact hi
        obtain ⟨x, this⟩ : ∃ x, nth θ2 i = some (some x) := by
          have hi3 : i < l.length := by rw [hl] at hi2; simpa using hi2
          exact ⟨l[i], by rw [nth_eq, hl, List.getElem?_map, List.getElem?_eq_getElem hi3]; rfl⟩
        obtain ⟨d, t, g1, g2, g3⟩ := b2.2 i _ this
        rw [nth_eq] at g2
        rw [g2, List.getElem?_map, thR_get this g1]
        simp [g3]
      · rw [List.getElem?_eq_none (by omega), List.getElem?_eq_none (by rw [List.length_map, thR, List.length_map, b2.1]; omega)]
    · show tm.S.length = (c.σ.take tm.S.length).length
      rw [List.length_take, ← ok.len]
      omega
    · obtain ⟨x, hx, hx1, hx2⟩ := hS o so ho
      obtain ⟨ob, g1, g2⟩ := ok.get hx
      have hlt := (List.getElem?_eq_some_iff.1 ho).1
      exact ⟨ob, by show (c.σ.take tm.S.length)[o]? = _; rw [take_get hlt]; exact g1, hx1 ct.β ct.ι hm (hβ o) ob g2⟩
  have hkeep : inA m (keepA tm.A A') := fun i hi => by
    rcases lk_keep A' tm.A i with ⟨g1, _⟩ | g1
    · rw [g1]; exact hA i hi
    · exact g1
  have hfr : FrR ct tm.A (keepA tm.A A') := fun i => by
    rcases lkS_mem (tm := tm.A) (i := i) with g | ⟨p, g1, g2⟩
    · rw [g]; exact VR.un
    · rw [g2]
      have := a3 θ2 ct.β ct.ι b1 hm (i, p) g1
      rw [keep_lk A' tm.A g1]
      exact this
  have hLPt := h ct (keepA tm.A A') hρ rfl hok hfr hkeep
  refine hLP A' c.σ (keepA tm.A A') _ hA hkeep ?_ hLPt
  have cov : CovA (keepA tm.A A') A' := cov_keep A' tm.A
  refine (GhostN.of (cov.ghost hA c.σ)).trans (ghost_trim hn (fun i => ?_) ?_)
  · rw [toFr_get hkeep]
    rcases lk_keep A' tm.A i with ⟨g1, q, g2, g3⟩ | g1
    · obtain ⟨j, p⟩ := q
      simp only at g3
      subst g3
      rw [g1]
      exact under_vr (ht.1 _ g2) (a3 θ2 ct.β ct.ι b1 hm _ g2)
    · rw [g1]; rfl
  · rw [List.all_eq_true]
    intro ob hob
    obtain ⟨o, ho⟩ := List.mem_iff_getElem?.1 hob
    obtain ⟨hlt, ho'⟩ := get_take ho
    have g0 : tm.S[o]? = some tm.S[o] := List.getElem?_eq_getElem hlt
    obtain ⟨ob', g1, g2⟩ := hok.st o _ g0
    have : ob' = ob := by
      have g1' : (c.σ.take tm.S.length)[o]? = some ob' := g1
      rw [ho] at g1'
      exact (Option.some.inj g1').symm
    subst this
    exact under_or (ht.2 _ (List.getElem_mem hlt)) g2
end Go.Dm.Sx
namespace Go.Dm.Sx
open Go.Dm
set_option linter.unusedVariables false
set_option linter.unusedSimpArgs false
set_option linter.unusedSectionVars false
variable {U : Uni} {c c' c'' : Cx U} {e : SE} {Sp : List (FSpec U)} {Post : List (Dyn U.B) → Prop} {Go : Nat → List (Dyn U.B) → Prop} {P : Program} {X : SEnv} {call : CallS} {m : Nat}
variable [Pures]
theorem own_ok {n : Nat} : ∀ (own : List (Nat × Nat × Nat × Ty)) {c : Cx U} (ok : Ok c e) {A : SA} {A' : AF} (hA : inA m A') (hf : FrR c A A') {A2 : SA} {S2 : SSt} (h : ownS own m U.lay A c.S = some (A2, S2)),
    ∃ c2 A2', GhostN n (toFr m A') c.σ (toFr m A2') c2.σ ∧ Ok c2 e ∧ c2.S = S2 ∧ c2.ρ = c.ρ ∧ FrR c2 A2 A2' ∧ inA m A2'
  | [], c, ok, A, A', hA, hf, A2, S2, h => by
    simp only [ownS, Option.some.injEq, Prod.mk.injEq] at h
    obtain ⟨rfl, rfl⟩ := h
    exact ⟨c, A', GhostN.refl _ _ _, ok, rfl, rfl, hf, hA⟩
  | (d, ty, sz, t) :: r, c, ok, A, A', hA, hf, A2, S2, h => by
    simp only [ownS] at h
    split at h
    · rename_i hd
      split at h
      · rename_i e1 e2 e3
        have e1 := beq_nat e1
        rw [wid_eq] at e1
        have e2 := ble_nat e2
        have e3 := blt_nat e3
        have hv := hf d
        rw [hd] at hv
        obtain ⟨y, hy, h0⟩ := V_c (by simp) hv
        simp only [CR] at h0
        subst h0
        obtain ⟨g1, g2, g3⟩ := add_arr ok (l := .nil t) (xs := ([] : List (T U.B t))) (fs := []) rfl rfl e1 (le_flag e2)
        have gh := ghost_nil (fr := toFr m A') (σ := c.σ) (d := d) (ep := ty) (sz := sz) (by rw [toFr_get hA]; exact hy)
        have hp : (toFr m A').set d (.c (.rs c.σ.length ty 0)) = toFr m (putA m A' (some d) (.c (.rs c.σ.length ty 0))) := (toFr_put (A := A') (some d) _).symm
        have hf2 : FrR (c.add ty (.arr true 0 ty sz t (.nil t)) (.arr true ty sz [])) ((d, .c (.rs c.S.length 0)) :: A) (putA m A' (some d) (.c (.rs c.σ.length ty 0))) := by
          have := (hf.later g1).put (m := m) (some d) g3
          unfold putS at this
          simp only [blt_true e3] at this
          exact this
        obtain ⟨c2, A2', q1, q2, q3, q4, q5, q6⟩ := own_ok r g2 (putA_in hA _ _) hf2 h
        rw [hp] at gh
        exact ⟨c2, A2', (GhostN.of gh).trans q1, q2, q3, q4, q5, q6⟩
      · cases h
    · exact own_ok r ok hA hf h
theorem owo_ok {n : Nat} : ∀ (own : List (Nat × Nat × Nat × Nat × Ty)) {c : Cx U} (ok : Ok c e) {A : SA} {A' : AF} (hA : inA m A') (hf : FrR c A A') {S2 : SSt} (h : ownO own U.lay c.S = some S2),
    ∃ c2, GhostN n (toFr m A') c.σ (toFr m A') c2.σ ∧ Ok c2 e ∧ c2.S = S2 ∧ c2.ρ = c.ρ ∧ FrR c2 A A'
  | [], c, ok, A, A', hA, hf, S2, h => by
    simp only [ownO, Option.some.injEq] at h
    subst h
    exact ⟨c, GhostN.refl _ _ _, ok, rfl, rfl, hf⟩
  | (o, j, ty, sz, t) :: r, c, ok, A, A', hA, hf, S2, h => by
    simp only [ownO] at h
    split at h
    · rename_i l ho
      split at h
      · rename_i hj
        split at h
        · rename_i e1 e2
          have e1 := beq_nat e1
          rw [wid_eq] at e1
          have e2 := okT_ok e2
          obtain ⟨ob, h1, l', rfl, h2⟩ := ok.get ho
          rw [nth_eq] at ho hj
          have hlt := (List.getElem?_eq_some_iff.1 ho).1
          obtain ⟨y, hy, h0⟩ := h2.get hj
          simp only [CR] at h0
          subst h0
          obtain ⟨g1, g2, g3⟩ := add_arr ok (l := .nil t) (xs := ([] : List (T U.B t))) (fs := []) rfl rfl e1 e2
          have ho' : nth (c.add ty (.arr true 0 ty sz t (.nil t)) (.arr true ty sz [])).S o = some (.cells l) := by
            rw [nth_eq]
            show (c.S ++ [_])[o]? = _
            rw [List.getElem?_append_left hlt]; exact ho
          obtain ⟨y0, hy0, h3⟩ := V_c (by simp) g3
          cases hy0
          have h4 : CRs _ _ _ (l.set j (.rs c.S.length 0)) (l'.set j (.rs c.σ.length ty 0)) := (CRs.later g1 h2).set j h3
          obtain ⟨k1, k2⟩ := set_cells (so' := .cells (l.set j (.rs c.S.length 0))) (ob' := .cells (l'.set j (.rs c.σ.length ty 0))) g2 ho' (by simp) fun ρ β ι hl => ⟨_, rfl, CRs.later hl h4⟩
          have gh := ghost_nilo (fr := toFr m A') (σ := c.σ) (o := o) (j := j) (ep := ty) (sz := sz) h1 hy
          rw [put_eq, put_eq] at h
          obtain ⟨c2, q1, q2, q3, q4, q5⟩ := owo_ok r k2 hA (hf.later (g1.trans k1)) h
          exact ⟨c2, (GhostN.of gh).trans q1, q2, q3, q4, q5⟩
        · cases h
      · exact owo_ok r ok hA hf h
    · exact owo_ok r ok hA hf h
theorem go1_ok (ok : Ok c e) {tm : Tmpl} {i : Nat} {A : SA} {A' : AF} (hA : inA m A') (hf : FrR c A A') {n : Nat} {LP : AF → St → Prop} (hLP : ∀ A1 σ1 A2 σ2, inA m A1 → inA m A2 → GhostN n (toFr m A1) σ1 (toFr m A2) σ2 → LP A2 σ2 → LP A1 σ1)
    (hn : n ≤ tm.S.length) (hGo : ∀ vals, Go i vals → AtHead tm m n LP vals) (h : TDen Sp Post Go (go1 U.lay m tm i e A c.S) c.ρ) : LP A' c.σ := by
  unfold go1 at h
  split at h
  · rename_i A2 S2 ht hown
    obtain ⟨c1, A2', q1, q2, rfl, q4, q5, q6⟩ := own_ok (n := n) tm.own ok hA hf hown
    split at h
    · exact h.elim
    rename_i S3 howo
    obtain ⟨c2, r1, r2, rfl, r4, r5⟩ := owo_ok (n := n) tm.owo q2 q6 q5 howo
    refine hLP _ _ _ _ hA q6 (q1.trans r1) ?_
    replace q2 := r2
    replace q4 := r4.trans q4
    replace q5 := r5
    split at h
    · exact h.elim
    · rename_i θ1 h1
      split at h
      · exact h.elim
      · rename_i θ2 h2
        split at h
        · rename_i l hl
          rw [← q4] at h
          exact head_ok q2 q6 q5 ht h1 h2 hl hn hLP (hGo _ h)
        · exact h.elim
  · exact h.elim
theorem goF_cases {lay : Nat → List Ty} {n j : Nat} {A : SA} {S : SSt} {ρ : Rho U} : ∀ (r : List Tmpl) (i : Nat), TDen Sp Post Go (goF lay m n j e A S r i) ρ → ∃ k tm, r[k]? = some tm ∧ tm.q = j ∧ n ≤ tm.S.length ∧ TDen Sp Post Go (go1 lay m tm (i + k) e A S) ρ
  | [], i, h => h.elim
  | tm :: r, i, h => by
    have next : TDen Sp Post Go (goF lay m n j e A S r (i + 1)) ρ → ∃ k tm', (tm :: r)[k]? = some tm' ∧ tm'.q = j ∧ n ≤ tm'.S.length ∧ TDen Sp Post Go (go1 lay m tm' (i + k) e A S) ρ := fun h => by
      obtain ⟨k, tm', h1, h2, h3, h4⟩ := goF_cases r (i + 1) h
      exact ⟨k + 1, tm', by simpa using h1, h2, h3, by rw [show i + (k + 1) = i + 1 + k by omega]; exact h4⟩
    unfold goF at h
    split at h
    · rename_i e1 e2
      split at h
      · exact next h
      · exact ⟨0, tm, rfl, beq_nat e1, ble_nat e2, h⟩
    · exact next h
theorem go_ok (ok : Ok c e) {tms : List Tmpl} {j : Nat} {A : SA} {A' : AF} (hA : inA m A') (hf : FrR c A A') {n n0 : Nat} {LP : AF → St → Prop} (hLP : ∀ A1 σ1 A2 σ2, inA m A1 → inA m A2 → GhostN n (toFr m A1) σ1 (toFr m A2) σ2 → LP A2 σ2 → LP A1 σ1)
    (hn : n ≤ n0) (hGo : ∀ i tm vals, nth tms i = some tm → tm.q = j → n0 ≤ tm.S.length → Go i vals → AtHead tm m n LP vals) (h : TDen Sp Post Go (goF U.lay m n0 j e A c.S tms 0) c.ρ) : LP A' c.σ := by
  obtain ⟨k, tm, h1, h2, h3, h4⟩ := goF_cases tms 0 h
  rw [Nat.zero_add] at h4
  exact go1_ok ok hA hf hLP (Nat.le_trans hn h3) (fun vals hG => hGo k tm vals (by rw [nth_eq]; exact h1) h2 h3 hG) h4
theorem ghost_hard {fr : Fr} {σ σ' : St} {i : Nat} {v : V} (h : hardV (fr.getD i (.c .un)) σ = some (v, σ')) : Ghost fr σ (fr.set i v) σ' := by
  intro g w tmps hr hf
  obtain ⟨g', h1, h2, h3⟩ := hardV_ok hr h (hf.2 i)
  refine ⟨g', h1, h2, by simpa using hf.1, fun j => ?_⟩
  by_cases hj : j = i
  · subst hj
    by_cases hl : j < fr.length
    · rw [show (fr.set j v).getD j (.c .un) = v from by simp [List.getD, hl]]
      exact h3
    · rw [show fr.set j v = fr from List.set_eq_of_length_le (by omega)]
      exact (hf.turn h2).2 j
  · rw [show (fr.set i v).getD j (.c .un) = fr.getD j (.c .un) from by simp [List.getD, List.getElem?_set_ne (Ne.symm hj)]]
    exact (hf.turn h2).2 j
theorem frzT_ok {n : Nat} : ∀ (l : List Nat) {c : Cx U} (ok : Ok c e) {A : SA} {A' : AF} (hA : inA m A') (hf : FrR c A A') {A2 : SA} {S2 : SSt} (h : frzT m l A c.S = (A2, S2)),
    ∃ c2 A2', GhostN n (toFr m A') c.σ (toFr m A2') c2.σ ∧ Le c c2 ∧ Ok c2 e ∧ c2.S = S2 ∧ c2.ρ = c.ρ ∧ FrR c2 A2 A2' ∧ inA m A2'
  | [], c, ok, A, A', hA, hf, A2, S2, h => by
    simp only [frzT, Prod.mk.injEq] at h
    obtain ⟨rfl, rfl⟩ := h
    exact ⟨c, A', GhostN.refl _ _ _, Le.refl c, ok, rfl, rfl, hf, hA⟩
  | i :: r, c, ok, A, A', hA, hf, A2, S2, h => by
    simp only [frzT] at h
    split at h
    · rename_i o kk hi
      split at h
      · rename_i x S' e1 e2
        have e2 := blt_nat e2
        have hv := hf i
        rw [hi] at hv
        obtain ⟨c1, v', g1, rfl, g3, g4, g5, g6, g7⟩ := frzV_ok ok hv e1
        have gh := ghost_hard (fr := toFr m A') (σ := c.σ) (i := i) (v := v') (by rw [toFr_get hA]; exact g6)
        have hp : (toFr m A').set i v' = toFr m (putA m A' (some i) v') := (toFr_put (A := A') (some i) _).symm
        have hf2 : FrR c1 ((i, x) :: A) (putA m A' (some i) v') := by
          have := (hf.later g1).put (m := m) (some i) g5
          unfold putS at this
          simp only [blt_true e2] at this
          exact this
        obtain ⟨c2, A2', q1, q2, q3, q4, q5, q6, q7⟩ := frzT_ok r g4 (putA_in hA _ _) hf2 h
        rw [hp] at gh
        exact ⟨c2, A2', (GhostN.of gh).trans q1, g1.trans q2, q3, q4, q5.trans g3, q6, q7⟩
      · exact frzT_ok r ok hA hf h
    · exact frzT_ok r ok hA hf h
def XEnd.exit' : XEnd → Exit
  | .norm => .normal
  | .exit i => .exit i
  | .ret => .ret
def nlC : Code → Nat
  | .seq a b => nlC a + nlC b
  | .cond _ a b => nlC a + nlC b
  | .block _ c => nlC c
  | .loop c => nlC c + 1
  | _ => 0
theorem nl_eq {tb : Tab} {H : Hints} : ∀ (c : Code), nl (ycomp tb (stlW tb) H c) = nlC c
  | .seq a b => by simp only [ycomp, nl, nlC, nl_eq a, nl_eq b]
  | .cond x a b => by simp only [ycomp, nl, nlC, nl_eq a, nl_eq b]
  | .block id c => by simp only [ycomp, nl, nlC, nl_eq c]
  | .loop c => by simp only [ycomp, nl, nlC, nl_eq c]
  | .region id ops draw => by
    simp only [ycomp, nlC]
    cases draw with
    | false => rfl
    | true =>
      simp only
      split
      · split <;> rfl
      · rfl
  | .skip => rfl
  | .exit id => rfl
  | .label l => rfl
  | .goto l => rfl
  | .ret => rfl
  | .refuse w => rfl
  | .rangeFunc .. => rfl
  | .scope c => rfl
def lpInfo (P : Program) (n m : Nat) : Code → Nat → PostA → Nat → Option (Code × PostA)
  | .seq a b, p, K, q => (match Nat.blt q (p + nlC a) with | true => lpInfo P n m a p (PostA.then (fun A σ => inA m A → DWp P n b (low m K) (toFr m A) σ) K) q | false => lpInfo P n m b (p + nlC a) K q)
  | .cond _ a b, p, K, q => (match Nat.blt q (p + nlC a) with | true => lpInfo P n m a p K q | false => lpInfo P n m b (p + nlC a) K q)
  | .block id c, p, K, q => lpInfo P n m c p (PostA.inBlock id K) q
  | .loop c, p, K, q => (match Nat.beq q p with | true => some (c, K) | false => lpInfo P n m c (p + 1) (PostA.then (fun A σ => LoopAt P n c (low m K) (toFr m A) σ) K) q)
  | _, _, _, _ => none
def LoopQ (P : Program) (n m : Nat) (c : Code) (p : Nat) (K : PostA) (q : Nat) (A : AF) (σ : St) : Prop :=
  match lpInfo P n m c p K q with
  | some (c', K') => LoopAt P n c' (low m K') (toFr m A) σ
  | none => False
theorem loopQ_ghost {n : Nat} {cd : Code} {p : Nat} {K : PostA} {q : Nat} (A1 : AF) (σ1 : St) (A2 : AF) (σ2 : St) (h : GhostN n (toFr m A1) σ1 (toFr m A2) σ2) (hl : LoopQ P n m cd p K q A2 σ2) : LoopQ P n m cd p K q A1 σ1 := by
  unfold LoopQ at hl ⊢
  split at hl
  · exact loop_ghostN h hl
  · exact hl.elim
theorem then_low {f : AF → St → Prop} {K : PostA} {next : Fr → St → Prop} (hf : ∀ A σ, inA m A → f A σ → next (toFr m A) σ) {e : Exit} {fr : Fr} {σ : St} (h : low m (PostA.then f K) e fr σ) : Dm.Post.then next (low m K) e fr σ := by
  obtain ⟨A, h1, rfl, h2⟩ := h
  cases e with
  | normal => exact hf A σ h1 h2
  | _ => exact ⟨A, h1, rfl, h2⟩
section
variable (hm : P.follows .mixedOrders = true) (tok : TabOk P X.tb) (hcall : CallSOk (U := U) P Sp Post Go call) (hpure : PureSOk (U := U) P Sp Post Go X) (hX : X.lay = U.lay) {lp : Nat → KS} {R : Cx U → Prop} (hR : ∀ c c', R c → Le c c' → R c')
  {n : Nat} {LP : Nat → AF → St → Prop} (hlp : ∀ q (c : Cx U) e A A', Ok c e → FrR c A A' → inA m A' → TDen Sp Post Go (lp q e A c.S) c.ρ → LP q A' c.σ) {H : Hints}
include hm tok hcall hpure hX hR hlp
theorem sxc_ok {cd : Code} : ∀ {p : Nat} {K : PostA} {k : KC} {c : Cx U} {e : SE} {A : SA} {A' : AF}, hintsOk X.tb (stlW X.tb) H cd = true → (∀ q, p ≤ q → q < p + nlC cd → ∀ A σ, LP q A σ → LoopQ P n m cd p K q A σ) →
    (∀ x (c' : Cx U) e' A A', R c' → Ok c' e' → FrR c' A A' → inA m A' → TDen Sp Post Go (k x e' A c'.S) c'.ρ → K x.exit' A' c'.σ) → R c → Ok c e → inA m A' → FrR c A A' →
    TDen Sp Post Go (sxc X call m lp (ycomp X.tb (stlW X.tb) H cd) p k e A c.S) c.ρ → DWp P n cd (low m K) (toFr m A') c.σ := by
  induction cd with
  | skip => intro p K k c e A A' hh hL hk r ok hA hf h g w a hr hfr hd; exact wp_skip (here_ok ⟨A', hA, rfl, hk .norm c e A A' r ok hf hA h⟩ hr hfr hd)
  | label l => intro p K k c e A A' hh hL hk r ok hA hf h g w a hr hfr hd; exact wp_label (here_ok ⟨A', hA, rfl, hk .norm c e A A' r ok hf hA h⟩ hr hfr hd)
  | exit id => intro p K k c e A A' hh hL hk r ok hA hf h g w a hr hfr hd; exact wp_exit (here_ok ⟨A', hA, rfl, hk (.exit id) c e A A' r ok hf hA h⟩ hr hfr hd)
  | ret => intro p K k c e A A' hh hL hk r ok hA hf h g w a hr hfr hd; exact wp_ret (here_ok ⟨A', hA, rfl, hk .ret c e A A' r ok hf hA h⟩ hr hfr hd)
  | region id ops draw =>
    intro p K k c e A A' hh hL hk r ok hA hf h g w a hr hfr hd
    cases draw with
    | false =>
      refine wp_region ?_
      rw [List.range_eq_range']
      obtain ⟨A2, S2, hfz⟩ : ∃ A2 S2, frzT m (cutL false (ops.toList.map (sitem X.tb ops))) A c.S = (A2, S2) := ⟨_, _, rfl⟩
      obtain ⟨c2, A2', z1, z2, z3, rfl, z5, z6, z7⟩ := frzT_ok (n := n) _ ok hA hf hfz
      replace h : TDen Sp Post Go (match frzT m (cutL false (ops.toList.map (sitem X.tb ops))) A c.S with | (A, S) => sxs X call m (ops.toList.map (sitem X.tb ops)) e A S (k .norm)) c.ρ := h
      rw [hfz] at h
      replace h : TDen Sp Post Go (sxs X call m (ops.toList.map (sitem X.tb ops)) e A2 c2.S (k .norm)) c.ρ := h
      rw [← z5] at h
      obtain ⟨g2, hr2, ht2, hfr2⟩ := z1 g w a.tmps hr hfr
      have hs : wseq (wx P) (fun _ => false) X.tb m (fun A σ => inA m A → K .normal A σ) (ops.toList.map (sitem X.tb ops)) A2' c2.σ :=
        sxs_ok hcall hX _ z3 z7 z6 (K := fun A σ => inA m A → K .normal A σ) (fun c' e' A1 A1' g1 g2 g3 g4 hA1 => hk .norm c' e' A1 A1' (hR _ _ r (z2.trans g1)) g2 g3 hA1 g4) h
      refine wseq_ok (K := fun A σ => inA m A → K .normal A σ) tok ops.size 0 (by omega) hr2 z7 hfr2 hd hs fun a' w' h' => ?_
      obtain ⟨fr', σ', g', ⟨A1, h0, rfl, h1⟩, h2, h3, h4, h5⟩ := h'
      exact ⟨_, σ', g', ⟨A1, h0, rfl, h1 h0⟩, h2, ht2.trans (h3.n n), h4, h5⟩
    | true =>
      simp only [ycomp] at h
      simp only [hintsOk] at hh
      split at h
      · rename_i s hs
        rw [hs] at hh
        simp only at hh
        split at h
        · rename_i y hy
          obtain ⟨A2, S2, hfz⟩ : ∃ A2 S2, frzT m (cutL true (itemsU y)) A c.S = (A2, S2) := ⟨_, _, rfl⟩
          obtain ⟨c2, A2', z1, z2, z3, rfl, z5, z6, z7⟩ := frzT_ok (n := n) _ ok hA hf hfz
          replace h : TDen Sp Post Go (match frzT m (cutL true (itemsU y)) A c.S with | (A, S) => sxt X call m y (k .norm) e A S) c.ρ := h
          rw [hfz] at h
          replace h : TDen Sp Post Go (sxt X call m y (k .norm) e A2 c2.S) c.ρ := h
          rw [← z5] at h
          obtain ⟨g2, hr2, ht2, hfr2⟩ := z1 g w a.tmps hr hfr
          obtain ⟨d1, d2⟩ := drew_rep hr2
          refine wp_region_any hm ?_
          replace ok := z3; replace hA := z7; replace hf := z6; replace hfr := hfr2
          replace r := hR _ _ r z2
          have ht := sxt_ok hcall hpure hX y ok hA hf (K := K .normal) (fun A1 A1' c' e' g1 g2 g3 g4 g5 => hk .norm c' e' A1 A1' (hR _ _ r g1) g2 g3 g4 g5) h
          have hp : pAnyW P X.tb ops (lowF m (K .normal)) ops.size (Array.replicate ops.size false) (toFr m A2') c2.σ :=
            wtree_ok (K := lowF m (K .normal)) s true (allRun ops) _ _ hA hh hy ht fun n' l' A' σ' hk hA' hK => by
              have hr := nilB_eq hk
              cases n' with
              | zero => exact ⟨hr, A', hA', rfl, hK⟩
              | succ n' => exact ⟨fun _ => ⟨A', hA', rfl, hK⟩, fun i hi => by rw [hr] at hi; cases hi⟩
          exact pAny_sound tok _ _ d1 (hfr.turn d2) hd (pAnyW_weak _ hp) fun a' w' h' => ((h'.n n).trans (d2.n n)).trans ht2
        · exact h.elim
      · exact h.elim
  | seq x y ihx ihy =>
    intro p K k c e A A' hh hL hk r ok hA hf h g w a hr hfr hd
    obtain ⟨hx0, hy0⟩ := hints_two (x := hintsOk X.tb (stlW X.tb) H x) (y := hintsOk X.tb (stlW X.tb) H y) hh
    simp only [ycomp, sxc, nl_eq] at h
    have h1 := ihx (K := PostA.then (fun A σ => inA m A → DWp P n y (low m K) (toFr m A) σ) K) hx0 (fun q hq1 hq2 A σ hlq => ?_) (fun z c' e' A1 A1' r' ok' hf' hA1 hz => ?_) r ok hA hf h
    · refine wp_seq (wp_mono (h1 g w a hr hfr hd) fun ex a' w' h' => ?_)
      obtain ⟨fr', σ', g', ⟨A1, h0, rfl, h2⟩, h3, h4, h5, h6⟩ := (show LiftsN n g w c.σ (low m _ ex) a' w' from h')
      cases ex with
      | normal => exact wp_mono (h2 h0 g' w' a' h3 h5 h6) fun e a'' w'' h6 => h6.trans h4
      | _ => exact ⟨_, σ', g', ⟨A1, h0, rfl, h2⟩, h3, h4, h5, h6⟩
    · have := hL q hq1 (by simp only [nlC]; omega) A σ hlq
      unfold LoopQ at this ⊢
      simpa only [lpInfo, blt_true hq2] using this
    · cases z with
      | norm =>
        intro hA1
        refine ihy (p := p + nlC x) hy0 (fun q hq1 hq2 A σ hlq => ?_) hk r' ok' hA1 hf' hz
        have := hL q (by omega) (by simp only [nlC]; omega) A σ hlq
        unfold LoopQ at this ⊢
        simpa only [lpInfo, blt_false (show ¬ q < p + nlC x from by omega)] using this
      | exit i => exact hk (.exit i) c' e' A1 A1' r' ok' hf' hA1 hz
      | ret => exact hk .ret c' e' A1 A1' r' ok' hf' hA1 hz
  | cond cn x y ihx ihy =>
    intro p K k c e A A' hh hL hk r ok hA hf h g w a hr hfr hd
    obtain ⟨hx0, hy0⟩ := hints_two (x := hintsOk X.tb (stlW X.tb) H x) (y := hintsOk X.tb (stlW X.tb) H y) hh
    simp only [ycomp, sxc, nl_eq] at h
    have hc := opd_rep hfr cn
    rw [toFr_opd hA] at hc
    split at h
    · rename_i b hb
      have hv := op_ok hf cn
      rw [hb] at hv
      obtain ⟨t, e1, h1⟩ := vr_bool hv
      rw [e1] at hc
      have hv : a.eval cn = .bool t := hc
      obtain ⟨e', ok', h'⟩ := br_ok ok h1 h
      cases t with
      | true =>
        refine wp_cond_true hv (ihx hx0 (fun q hq1 hq2 A σ hlq => ?_) hk r ok' hA hf h' g w a hr hfr hd)
        have := hL q hq1 (by simp only [nlC]; omega) A σ hlq
        unfold LoopQ at this ⊢
        simpa only [lpInfo, blt_true hq2] using this
      | false =>
        refine wp_cond_false hv (ihy (p := p + nlC x) hy0 (fun q hq1 hq2 A σ hlq => ?_) hk r ok' hA hf h' g w a hr hfr hd)
        have := hL q (by omega) (by simp only [nlC]; omega) A σ hlq
        unfold LoopQ at this ⊢
        simpa only [lpInfo, blt_false (show ¬ q < p + nlC x from by omega)] using this
    · exact h.elim
  | block id cb ih =>
    intro p K k c e A A' hh hL hk r ok hA hf h g w a hr hfr hd
    have h1 := ih (K := PostA.inBlock id K) (k := blockK id k) hh (fun q hq1 hq2 A σ hlq => hL q hq1 hq2 A σ hlq) (fun z c' e' A1 A1' r' ok' hf' hA1 hz => ?_) r ok hA hf h
    · refine wp_block (wp_mono (h1 g w a hr hfr hd) fun ex a' w' h' => ?_)
      cases ex with
      | exit j =>
        obtain ⟨fr', σ', g', ⟨A1, h0, rfl, h2⟩, h3⟩ := h'
        simp only [Exit.inBlock]
        have h2' : (match Nat.beq j id with | true => K .normal A1 σ' | false => K (.exit j) A1 σ') := h2
        by_cases hj : j = id
        · subst hj
          rw [if_pos rfl]
          rw [Nat.beq_refl] at h2'
          exact ⟨_, σ', g', ⟨A1, h0, rfl, h2'⟩, h3⟩
        · rw [if_neg hj]
          rw [nbeq_false hj] at h2'
          exact ⟨_, σ', g', ⟨A1, h0, rfl, h2'⟩, h3⟩
      | _ => exact h'
    · cases z with
      | norm => exact hk .norm c' e' A1 A1' r' ok' hf' hA1 hz
      | exit j =>
        show (match Nat.beq j id with | true => K .normal A1' c'.σ | false => K (.exit j) A1' c'.σ)
        simp only [blockK] at hz
        cases hj : Nat.beq j id with
        | true => rw [hj] at hz; exact hk .norm c' e' A1 A1' r' ok' hf' hA1 hz
        | false => rw [hj] at hz; exact hk (.exit j) c' e' A1 A1' r' ok' hf' hA1 hz
      | ret => exact hk .ret c' e' A1 A1' r' ok' hf' hA1 hz
  | loop cb ih =>
    intro p K k c e A A' hh hL hk r ok hA hf h g w a hr hfr hd b kk cs
    have hq := hL p (Nat.le_refl _) (by simp only [nlC]; omega) A' c.σ (hlp p c e A A' ok hf hA h)
    unfold LoopQ at hq
    simp only [lpInfo, Nat.beq_refl] at hq
    obtain ⟨ex, a', w', h1, h2⟩ := hq g w a hr hfr hd b kk cs
    exact ⟨ex, a', w', h1, .of_steps (.one step_loop) h2⟩
  | _ => intro p K k c e A A' hh hL hk r ok hA hf h; exact h.elim
theorem sxl_ok {q : Nat} (hall : ∀ c, R c) {cd : Code} : ∀ {p : Nat} {K : PostA} {k : KC} {c : Cx U} {e : SE} {A : SA} {A' : AF}, hintsOk X.tb (stlW X.tb) H cd = true → (∀ q', p ≤ q' → q' < p + nlC cd → ∀ A σ, LP q' A σ → LoopQ P n m cd p K q' A σ) → p ≤ q → q < p + nlC cd →
    (∀ x (c' : Cx U) e' A A', Ok c' e' → FrR c' A A' → inA m A' → TDen Sp Post Go (k x e' A c'.S) c'.ρ → K x.exit' A' c'.σ) → Ok c e → inA m A' → FrR c A A' →
    TDen Sp Post Go (sxl X call m lp q (ycomp X.tb (stlW X.tb) H cd) p k e A c.S) c.ρ → LoopQ P n m cd p K q A' c.σ := by
  induction cd with
  | seq x y ihx ihy =>
    intro p K k c e A A' hh hL hq1 hq2 hk ok hA hf h
    obtain ⟨hx0, hy0⟩ := hints_two (x := hintsOk X.tb (stlW X.tb) H x) (y := hintsOk X.tb (stlW X.tb) H y) hh
    simp only [ycomp, sxl, nl_eq] at h
    have hLy : ∀ q', p + nlC x ≤ q' → q' < p + nlC x + nlC y → ∀ A σ, LP q' A σ → LoopQ P n m y (p + nlC x) K q' A σ := fun q' h1 h2 A σ hlq => by
      have := hL q' (by omega) (by simp only [nlC]; omega) A σ hlq
      unfold LoopQ at this ⊢
      simpa only [lpInfo, blt_false (show ¬ q' < p + nlC x from by omega)] using this
    by_cases hlt : q < p + nlC x
    · rw [blt_true hlt] at h
      have := ihx (K := PostA.then (fun A σ => inA m A → DWp P n y (low m K) (toFr m A) σ) K) hx0 (fun q' h1 h2 A σ hlq => by
        have := hL q' h1 (by simp only [nlC]; omega) A σ hlq
        unfold LoopQ at this ⊢
        simpa only [lpInfo, blt_true h2] using this) hq1 hlt (fun z c' e' A1 A1' ok' hf' hA1 hz => ?_) ok hA hf h
      · unfold LoopQ at this ⊢
        simpa only [lpInfo, blt_true hlt] using this
      · cases z with
        | norm => exact fun hA1 => sxc_ok hm tok hcall hpure hX hR hlp hy0 hLy (fun x c' e' A A' _ => hk x c' e' A A') (hall c') ok' hA1 hf' hz
        | exit i => exact hk (.exit i) c' e' A1 A1' ok' hf' hA1 hz
        | ret => exact hk .ret c' e' A1 A1' ok' hf' hA1 hz
    · rw [blt_false hlt] at h
      have := ihy hy0 hLy (by omega) (by simp only [nlC] at hq2; omega) hk ok hA hf h
      unfold LoopQ at this ⊢
      simpa only [lpInfo, blt_false hlt] using this
  | cond cn x y ihx ihy =>
    intro p K k c e A A' hh hL hq1 hq2 hk ok hA hf h
    obtain ⟨hx0, hy0⟩ := hints_two (x := hintsOk X.tb (stlW X.tb) H x) (y := hintsOk X.tb (stlW X.tb) H y) hh
    simp only [ycomp, sxl, nl_eq] at h
    by_cases hlt : q < p + nlC x
    · rw [blt_true hlt] at h
      have := ihx hx0 (fun q' h1 h2 A σ hlq => by
        have := hL q' h1 (by simp only [nlC]; omega) A σ hlq
        unfold LoopQ at this ⊢
        simpa only [lpInfo, blt_true h2] using this) hq1 hlt hk ok hA hf h
      unfold LoopQ at this ⊢
      simpa only [lpInfo, blt_true hlt] using this
    · rw [blt_false hlt] at h
      have := ihy (p := p + nlC x) hy0 (fun q' h1 h2 A σ hlq => by
        have := hL q' (by omega) (by simp only [nlC]; omega) A σ hlq
        unfold LoopQ at this ⊢
        simpa only [lpInfo, blt_false (show ¬ q' < p + nlC x from by omega)] using this) (by omega) (by simp only [nlC] at hq2; omega) hk ok hA hf h
      unfold LoopQ at this ⊢
      simpa only [lpInfo, blt_false hlt] using this
  | block id cb ih =>
    intro p K k c e A A' hh hL hq1 hq2 hk ok hA hf h
    refine ih (K := PostA.inBlock id K) (k := blockK id k) hh (fun q' h1 h2 A σ hlq => hL q' h1 h2 A σ hlq) hq1 hq2 (fun z c' e' A1 A1' ok' hf' hA1 hz => ?_) ok hA hf h
    cases z with
    | norm => exact hk .norm c' e' A1 A1' ok' hf' hA1 hz
    | exit j =>
      show (match Nat.beq j id with | true => K .normal A1' c'.σ | false => K (.exit j) A1' c'.σ)
      simp only [blockK] at hz
      cases hj : Nat.beq j id with
      | true => rw [hj] at hz; exact hk .norm c' e' A1 A1' ok' hf' hA1 hz
      | false => rw [hj] at hz; exact hk (.exit j) c' e' A1 A1' ok' hf' hA1 hz
    | ret => exact hk .ret c' e' A1 A1' ok' hf' hA1 hz
  | loop cb ih =>
    intro p K k c e A A' hh hL hq1 hq2 hk ok hA hf h
    have inner : ∀ q', p + 1 ≤ q' → q' < p + 1 + nlC cb → ∀ A σ, LP q' A σ → LoopQ P n m cb (p + 1) (PostA.then (fun A σ => LoopAt P n cb (low m K) (toFr m A) σ) K) q' A σ := fun q' h1 h2 A σ hlq => by
      have := hL q' (by omega) (by simp only [nlC]; omega) A σ hlq
      unfold LoopQ at this ⊢
      simpa only [lpInfo, nbeq_false (show ¬ q' = p from by omega)] using this
    have kk : ∀ x (c' : Cx U) e' A A', Ok c' e' → FrR c' A A' → inA m A' → TDen Sp Post Go (thenK k (lp p) x e' A c'.S) c'.ρ → PostA.then (fun A σ => LoopAt P n cb (low m K) (toFr m A) σ) K x.exit' A' c'.σ := by
      intro z c' e' A1 A1' ok' hf' hA1 hz
      cases z with
      | norm =>
        have := hL p (Nat.le_refl _) (by simp only [nlC]; omega) A1' c'.σ (hlp p c' e' A1 A1' ok' hf' hA1 hz)
        unfold LoopQ at this
        simp only [lpInfo, Nat.beq_refl] at this
        exact this
      | exit i => exact hk (.exit i) c' e' A1 A1' ok' hf' hA1 hz
      | ret => exact hk .ret c' e' A1 A1' ok' hf' hA1 hz
    simp only [ycomp, sxl] at h
    by_cases heq : q = p
    · subst heq
      rw [Nat.beq_refl] at h
      have hw := sxc_ok (cd := cb) hm tok hcall hpure hX hR hlp (K := PostA.then (fun A σ => LoopAt P n cb (low m K) (toFr m A) σ) K) hh inner (fun x c' e' A A' _ => kk x c' e' A A') (hall c) ok hA hf h
      unfold LoopQ
      simp only [lpInfo, Nat.beq_refl]
      exact loop_round (hw.mono fun ex fr σ' hk' => then_low (fun A σ _ h => h) hk')
    · rw [nbeq_false heq] at h
      have := ih hh inner (by omega) (by simp only [nlC] at hq2; omega) kk ok hA hf h
      unfold LoopQ at this ⊢
      simpa only [lpInfo, nbeq_false heq] using this
  | _ => intro p K k c e A A' hh hL hq1 hq2; simp only [nlC] at hq2; omega
end
end Go.Dm.Sx
namespace Go.Dm
set_option linter.unusedVariables false
abbrev Spec := List V → St → Rs (V × St)
def spSame : Spec := fun l σ => match l with | [x] => some [(x, σ)] | _ => none
def idxFrom (c : Nat) : List UInt8 → Nat → Int
  | [], _ => -1
  | x :: r, i => match Nat.beq x.toNat c with | true => i | false => idxFrom c r (i + 1)
def spIndex : Spec := fun l σ =>
  match l with
  | [.c (.f (.str s)), .c (.f (.int .u8 (.ofNat c)))] => (match Nat.blt c 256 with | true => some [(vint' .i64 (idxFrom c s 0), σ)] | false => none)
  | _ => none
def cntOf (c : Nat) : List UInt8 → Nat → Nat
  | [], n => n
  | x :: r, n => match Nat.beq x.toNat c with | true => cntOf c r (n + 1) | false => cntOf c r n
def spCount : Spec := fun l σ =>
  match l with
  | [.c (.f (.str s)), .c (.f (.int .u8 (.ofNat c)))] => (match Nat.blt c 256 with | true => some [(vint' .i64 (cntOf c s 0), σ)] | false => none)
  | _ => none
theorem find_range {s : List UInt8} {c : UInt8} : ∀ (k n : Nat), k + n = s.length → ((match ((List.range' k n).find? fun i => (⟨s.toArray⟩ : ByteArray)[i]! == c) with | some i => (i : Int) | none => -1) = idxFrom c.toNat (s.drop k) k)
  | k, 0, h => by
    have : s.drop k = [] := List.drop_eq_nil_of_le (by omega)
    rw [this]
    rfl
  | k, n + 1, h => by
    have hk : k < s.length := by omega
    have hg : (⟨s.toArray⟩ : ByteArray)[k]! = s[k] := by
      rw [getElem!_pos _ _ (by simpa [ByteArray.size] using hk)]
      rfl
    rw [List.range'_succ, List.find?_cons, hg, List.drop_eq_getElem_cons hk]
    simp only [idxFrom]
    by_cases e : s[k] = c
    · subst e
      rw [Nat.beq_refl]
      simp
    · have h1 : (s[k] == c) = false := by simpa using e
      have h2 : Nat.beq s[k].toNat c.toNat = false := nbeq_false fun h => e (UInt8.toNat_inj.1 h)
      rw [h1, h2]
      exact find_range (k + 1) n (by omega)
theorem firstIdx_eq (s : List UInt8) (c : UInt8) : firstIdx ⟨s.toArray⟩ c = idxFrom c.toNat s 0 := by
  have := find_range (s := s) (c := c) 0 s.length (by omega)
  unfold firstIdx
  rw [List.range_eq_range']
  exact this
theorem count_eq (c : UInt8) : ∀ (s : List UInt8) (n : Nat), n + s.count c = cntOf c.toNat s n
  | [], n => rfl
  | x :: r, n => by
    simp only [List.count_cons, cntOf]
    by_cases e : x = c
    · subst e
      rw [Nat.beq_refl]
      have := count_eq x r (n + 1)
      simp only [beq_self_eq_true, if_true]
      omega
    · have h1 : (x == c) = false := by simpa using e
      have h2 : Nat.beq x.toNat c.toNat = false := nbeq_false fun h => e (UInt8.toNat_inj.1 h)
      rw [h1, h2]
      simpa using count_eq c r n
section
variable {P : Program}
structure Ext (P : Program) (f : FuncId) (e : Array Value → Sem Value) : Prop where
  run : ∀ (args : Array Value) (w : World), (callFunc f args).run P w = ((e args).run P w).andThen fun v w' => .ok (.value v) w'
theorem ext_of {f : FuncId} {fn : Func} {e : Array Value → Sem Value} (hf : P.funcs[f]? = some fn) (hname : (fn.name == "runtime.NumGoroutine") = false)
    (hb : fn.body.isNone = true) (hn : Extern.findNext fn = none) (he : Extern.find fn = some e) : Ext P f e := ⟨fun args w => run_callFunc_extern hf hname hb hn he args w⟩
theorem ext_at {f : FuncId} {e : Array Value → Sem Value} (he : Ext P f e) {l : List V} {σ : St} {r : V} (h : ∀ g w vs, Rep g w σ → VReps g w σ l vs → ∃ v, (e vs.toArray).run P w = .ok v w ∧ VRep g w σ r v) {k : V → St → Prop} (hk : k r σ) : CallAt P f l σ k := by
  intro g w vs hr hv
  obtain ⟨v, h1, h2⟩ := h g w vs hr hv
  exact .inl ⟨v, w, by rw [he.run, h1]; rfl, r, σ, g, hk, hr, Turn.refl _ _ _, h2⟩
theorem byte_back {c : Nat} (h : Nat.blt c 256 = true) : ((c : Int).toNat.toUInt8).toNat = c := by
  have := blt_nat h
  simp
  omega
theorem index_ok' {f : FuncId} (he : Ext P f Extern.BytealgIndexByte.indexByte) {l : List V} {σ : St} {o : List (V × St)} (h : spIndex l σ = some o) : CallAt P f l σ fun r σ' => (r, σ') ∈ o := by
  unfold spIndex at h
  split at h
  · rename_i s c
    split at h
    · rename_i hc
      cases h
      refine ext_at he (r := vint' .i64 (idxFrom c s 0)) (fun g w vs hr hv => ?_) (List.mem_singleton.2 rfl)
      obtain ⟨v, vr, rfl, h1, u, vr', rfl, h2, h3⟩ := hv
      simp only [VReps] at h3; subst h3
      have e1 : v = .string ⟨s.toArray⟩ := h1
      have e2 : u = .int .u8 (c : Nat) := h2
      subst e1 e2
      refine ⟨_, run_indexByte_string _ _ w, ?_⟩
      rw [firstIdx_eq, byte_back hc]
      rfl
    · cases h
  · cases h
theorem count_ok {f : FuncId} (he : Ext P f Extern.BytealgCount.count) {l : List V} {σ : St} {o : List (V × St)} (h : spCount l σ = some o) : CallAt P f l σ fun r σ' => (r, σ') ∈ o := by
  unfold spCount at h
  split at h
  · rename_i s c
    split at h
    · rename_i hc
      cases h
      refine ext_at he (r := vint' .i64 (cntOf c s 0)) (fun g w vs hr hv => ?_) (List.mem_singleton.2 rfl)
      obtain ⟨v, vr, rfl, h1, u, vr', rfl, h2, h3⟩ := hv
      simp only [VReps] at h3; subst h3
      have e1 : v = .string ⟨s.toArray⟩ := h1
      have e2 : u = .int .u8 (c : Nat) := h2
      subst e1 e2
      refine ⟨_, Lib.run_countString _ _ w, ?_⟩
      have := count_eq (c : Int).toNat.toUInt8 s 0
      rw [byte_back hc, Nat.zero_add] at this
      rw [← this]
      rfl
    · cases h
  · cases h
end
end Go.Dm
namespace Go.Dm.Sx
open Go.Dm
set_option linter.unusedVariables false
set_option linter.unusedSimpArgs false
set_option linter.unusedSectionVars false
variable {U : Uni} {c c' c'' : Cx U} {e : SE} {Sp : List (FSpec U)} {Post : List (Dyn U.B) → Prop} {Go : Nat → List (Dyn U.B) → Prop} {P : Program} {X : SEnv} {call : CallS} {m : Nat}
variable [Pures] [FullU U]
theorem argsA_ok : ∀ {l : List SV} {l' : List V} (s : Nat), c.vrs l l' → FrR c (argsA s l) (args0 s l')
  | [], l', s, h, i => by simp only [Cx.vrs, VRs] at h; subst h; exact VR.un
  | x :: r, l', s, h, i => by
    simp only [Cx.vrs, VRs] at h
    obtain ⟨v, vr, rfl, h1, h2⟩ := h
    simp only [argsA, args0, lkS, lk]
    cases Nat.beq s i with
    | true => exact h1
    | false => exact argsA_ok (s + 1) h2 i
theorem res_ok {k : SE → List SV → Tr} : ∀ (rs : List ResultVar) {c : Cx U} {e : SE} {A : SA} {A' : AF} {K : List V → Prop}, Ok c e → FrR c A A' →
    (∀ (c' : Cx U) e' l l', Le c c' → c'.S = c.S → c'.σ = c.σ → Ok c' e' → c'.vrs l l' → TDen Sp Post Go (k e' l) c'.ρ → K l') → TDen Sp Post Go (resS U.lay X.tb rs e A c.S k) c.ρ → wresVs X.tb rs A' c.σ K
  | [], c, e, A, A', K, ok, hf, hk, h => hk c e [] [] (Le.refl c) rfl rfl ok (by simp only [Cx.vrs, VRs]) h
  | .tmp t :: r, c, e, A, A', K, ok, hf, hk, h => by
    refine res_ok r ok hf (fun c' e' l l' h1 h2 h3 h4 h5 h6 => ?_) h
    exact hk c' e' _ _ h1 h2 h3 h4 (by simp only [Cx.vrs, VRs]; exact ⟨_, _, rfl, h1.vr (hf t), h5⟩) h6
  | .cell x t :: r, c, e, A, A', K, ok, hf, hk, h => by
    simp only [resS] at h
    split at h
    · exact h.elim
    · rename_i hn
      simp only [wresVs]
      have : vload prims (X.tb t).agg (X.tb t).size (addr (lk A' x)) c.σ fun v => wresVs X.tb r A' c.σ fun l => K (v :: l) :=
        addr_ok ok (hf x) (K := fun v => vload prims (X.tb t).agg (X.tb t).size v c.σ fun v => wresVs X.tb r A' c.σ fun l => K (v :: l)) (fun c1 e1 sv v h1 h2 h3 h4 h5 h6 => by
          rw [← h3]
          rw [← h2] at h6
          refine load_ok h4 h5 (fun c2 e2 sv2 v2 g1 g2 g3 g4 g5 g6 => ?_) h6
          rw [← g3]
          rw [← g2] at g6
          refine res_ok r g4 (hf.later (h1.trans g1)) (fun c' e' l l' q1 q2 q3 q4 q5 q6 => ?_) g6
          exact hk c' e' _ _ ((h1.trans g1).trans q1) (q2.trans (g2.trans h2)) (q3.trans (g3.trans h3)) q4 (by simp only [Cx.vrs, VRs]; exact ⟨_, _, rfl, q1.vr g5, q5⟩) q6) h
      exact not_isNo hn this
theorem wk_of {rs : List ResultVar} {k : V → St → Prop} {x : XEnd} (hx : x = .norm ∨ x = .ret) {A : AF} {σ : St} (h : wresVs X.tb rs A σ fun l => k (oneV l) σ) : wKret X.tb rs k x.exit' A σ := by
  have e : (fun l => k (oneV l) σ) = fun l => (match l with | [v] => k v σ | l => k (.t l) σ) := by
    funext l
    match l with
    | [] => rfl
    | [v] => rfl
    | v :: u :: r => rfl
  rw [e] at h
  rcases hx with rfl | rfl <;> exact h
theorem kRet_ok {rs : List ResultVar} {k : K1} {K : V → St → Prop} (c0 : Cx U) (hk : FollS Sp Post Go c0 k K) {x : XEnd} {c : Cx U} (hl : Le c0 c) {e : SE} {A : SA} {A' : AF} (ok : Ok c e) (hf : FrR c A A')
    (h : TDen Sp Post Go (kRet U.lay X.tb rs k x e A c.S) c.ρ) : wKret X.tb rs K x.exit' A' c.σ := by
  have main : TDen Sp Post Go (resS U.lay X.tb rs e A c.S fun e l => k e (oneOf l) c.S) c.ρ → wresVs X.tb rs A' c.σ fun l => K (oneV l) c.σ := fun h =>
    res_ok rs ok hf (fun c' e' l l' h1 h2 h3 h4 h5 h6 => by
      rw [← h3]
      rw [← h2] at h6
      exact hk c' e' _ _ (hl.trans h1) h4 (oneOf_ok h5) h6) h
  cases x with
  | norm => exact wk_of (.inl rfl) (main h)
  | ret => exact wk_of (.inr rfl) (main h)
  | exit i => exact h.elim
structure EnvOk (P : Program) (U : Uni) (X : SEnv) (Sp : List (FSpec U)) : Prop where
  lay : X.lay = U.lay
  sigs : X.sigs = Sp.map FSpec.sig
  good : ∀ s ∈ Sp, FGood P s
  bodies : ∀ f F, X.bodies f = some F → ∃ en : Ent P X.tb (stlW X.tb), en.f = f ∧ en.F = F
  same : ∀ f, X.same f = true → Ext P f Extern.AbiNoEscape.same
theorem callN_ok (hm : P.follows .mixedOrders = true) (tok : TabOk P X.tb) (hE : EnvOk P U X Sp) : ∀ n, CallSOk (U := U) P Sp Post Go (callN X n)
  | 0 => fun c e f args vs k K ok hv hk h => h.elim
  | n + 1 => fun c e f args vs k K ok hv hk h => by
    have ih := callN_ok hm tok hE n
    simp only [callN] at h
    split at h
    · rename_i hs
      split at h
      · rename_i x
        simp only [Cx.vrs, VRs] at hv
        obtain ⟨v, vr, rfl, h1, rfl⟩ := hv
        refine ext_at (hE.same f hs) (r := v) (fun g w us hr hu => ?_) (hk c e x v (Le.refl c) ok h1 h)
        obtain ⟨u, ur, rfl, q1, q2⟩ := hu
        simp only [VReps] at q2
        subst q2
        exact ⟨u, rfl, q1⟩
      · exact h.elim
    · split at h
      · rename_i i sg hf
        obtain ⟨_, h2, h3⟩ := find_ok hf
        rw [Nat.sub_zero, hE.sigs, List.getElem?_map] at h2
        cases hs : Sp[i]? with
        | none => simp [hs] at h2
        | some s =>
          simp only [hs, Option.map_some, Option.some.injEq] at h2
          subst h2
          rw [hE.lay] at h
          have hgood := hE.good s (List.mem_of_getElem? hs)
          split at h
          · rename_i b obs hst
            unfold FGood at hgood
            rw [hst] at hgood
            have := callSt_ok ok hst hgood hs hv hk h
            rwa [h3] at this
          rename_i hst
          have := call_ok ok (hgood.still hst) hs hv hk h
          rwa [h3] at this
      · split at h
        · exact h.elim
        · rename_i F hF
          split at h
          · rename_i hl
            have hl := ble_nat hl
            obtain ⟨⟨f', H, F', eok, chk⟩, rfl, rfl⟩ := hE.bodies f F hF
            obtain ⟨fn, cd, h1, h2, h3, rfl⟩ := yfunOf_spec eok
            simp only at h hl ⊢
            have hH : hintsOk X.tb (stlW X.tb) H cd = true := by
              unfold yhintOk at chk
              rw [h1] at chk
              simp only [h2] at chk
              exact chk
            have hlen : vs.length = args.length := VRs.len hv
            have hw := sxc_ok (lp := fun _ _ _ _ => .fail) (n := c.σ.length) (m := fn.ntmps) (LP := fun _ _ _ => False) (R := fun c1 => Le c c1) hm tok ih (pure_ok hE.lay hE.sigs hE.good) hE.lay (fun c1 c2 a b => a.trans b) (fun q c1 e1 A A' a b d hh => hh.elim) (K := wKret X.tb fn.results.toList K) hH (fun q h1 h2 A σ hh => hh.elim)
              (fun x c1 e1 A A' r1 ok1 hf1 hA1 hz => by rw [hE.lay] at hz; exact kRet_ok c hk r1 ok1 hf1 hz) (Le.refl c) ok (inA_args0 (by omega)) (argsA_ok 0 hv) h
            rw [toFr_args0 (by omega)] at hw
            exact call_of hm tok h1 h2 h3 (hw.mono fun ex fr σ' ⟨A1, a1, a2, a3⟩ => low_ret ⟨A1, a1, a2, wKret_eq a3⟩)
          · exact h.elim
def inSV (lay : Nat → List Ty) (e : SE) : List In → Nat → List SV
  | [], _ => []
  | .ty t :: r, i => resV lay e i t :: inSV lay e r (i + 1)
  | .fnc f :: r, i => .c (.fn f) :: inSV lay e r i
  | .st _ _ :: r, i => inSV lay e r (i + 1)
  | .ptr o off :: r, i => .c (.ptr o off) :: inSV lay e r i
  | .cloP f l :: r, i => .c (.clo f (l.map fun p => .ptr p.1 p.2)) :: inSV lay e r i
  | .clo f ts :: r, i => .c (.clo f ((List.range' i ts.length).map fun j => match nth e.tys j with | some t => .d t (.at j) | none => .un)) :: inSV lay e r (i + ts.length)
def outK (lay : Nat → List Ty) (S : SSt) : List Ty → List SV → SE → (SE → List Tm → Tr) → Tr
  | [], [], e, k => k e []
  | t :: ts, v :: vs, e, k =>
    (match t with
    | .base b => (match v with | .a l => dataK lay e (.base b) l fun e y => outK lay S ts vs e fun e l => k e (y :: l) | _ => .fail)
    | t => (match v with | .c x => tmK e t x fun e y => outK lay S ts vs e fun e l => k e (y :: l) | _ => .fail))
  | _, _, _, _ => .fail
def kOut (lay : Nat → List Ty) (tb : Tab) (rs : List ResultVar) (outs : List Ty) (x : XEnd) (e : SE) (A : SA) (S : SSt) : Tr :=
  let fin : Tr := resS lay tb rs e A S fun e l => (match frzVs l S with | .some (l', S') => outK lay S' outs l' e fun _ tms => .ret tms | .none => .fail)
  match x with
  | .norm => fin
  | .ret => fin
  | .exit _ => .fail
structure Walk where
  F : YFun
  ins : List In
  outs : List Ty
  tms : List Tmpl
def walk0 (X : SEnv) (n : Nat) (w : Walk) : Tr :=
  sxc X (callN X n) w.F.m (goS X.lay w.F.m w.tms) w.F.code 0 (kOut X.lay X.tb w.F.rs w.outs) ⟨insTys w.ins, [], []⟩ (argsA 0 (inSV X.lay ⟨insTys w.ins, [], []⟩ w.ins 0)) []
def walkL (X : SEnv) (n : Nat) (w : Walk) (q : Nat) : Tr :=
  match nth w.tms q with
  | .none => .fail
  | .some tm => (match Nat.blt tm.q (nl w.F.code) with | true => sxl X (callN X n) w.F.m (goS X.lay w.F.m w.tms) tm.q w.F.code 0 (kOut X.lay X.tb w.F.rs w.outs) ⟨tm.tys, [], []⟩ tm.A tm.S | false => .fail)
theorem in_ok (ok : Ok c e) : ∀ {ins : List In} {i : Nat} {ds : List (Dyn U.B)} {vs : List V}, ArgsR U ins ds vs → (∀ j d, ds[j]? = some d → c.ρ[i + j]? = some d) → c.vrs (inSV U.lay e ins i) vs
  | [], i, ds, vs, h, hi => by
    obtain ⟨rfl, rfl⟩ := h
    simp only [inSV, Cx.vrs, VRs]
  | .ty t :: r, i, ds, vs, h, hi => by
    obtain ⟨d, ds', v, vs', rfl, rfl, rfl, h1, h2⟩ := h
    have g1 := in_ok (i := i + 1) ok h2 fun j d' hj => by
      have := hi (j + 1) d' (by simpa using hj)
      rwa [show i + (j + 1) = i + 1 + j from by omega] at this
    simp only [inSV, Cx.vrs, VRs]; exact ⟨v, vs', rfl, resV_ok ok (by simpa using hi 0 d rfl) h1, g1⟩
  | .fnc f :: r, i, ds, vs, h, hi => by
    obtain ⟨vs', rfl, h2⟩ := h
    have g1 := in_ok ok h2 hi
    simp only [inSV, Cx.vrs, VRs]; exact ⟨_, vs', rfl, VR.c (by simp only [CR]), g1⟩
  | .st b obs :: r, i, ds, vs, h, hi => by
    obtain ⟨d, ds', rfl, _, h2⟩ := h
    have g1 := in_ok (i := i + 1) ok h2 fun j d' hj => by
      have := hi (j + 1) d' (by simpa using hj)
      rwa [show i + (j + 1) = i + 1 + j from by omega] at this
    simpa only [inSV] using g1
  | .ptr o off :: r, i, ds, vs, h, hi => by
    obtain ⟨vs', rfl, h2⟩ := h
    have g1 := in_ok ok h2 hi
    simp only [inSV, Cx.vrs, VRs]; exact ⟨_, vs', rfl, VR.c (by simp only [CR]), g1⟩
  | .cloP f l :: r, i, ds, vs, h, hi => by
    obtain ⟨vs', rfl, h2⟩ := h
    have g1 := in_ok ok h2 hi
    simp only [inSV, Cx.vrs, VRs]
    refine ⟨_, vs', rfl, VR.c ?_, g1⟩
    simp only [CR]
    refine ⟨_, rfl, ?_⟩
    clear h2 g1
    induction l with
    | nil => simp only [List.map_nil, CRs]
    | cons p r ih => simp only [List.map_cons, CRs, CR]; exact ⟨_, _, rfl, rfl, ih⟩
  | .clo f ts :: r, i, ds, vs, h, hi => by
    obtain ⟨d1, ds', fs, vs', rfl, rfl, h1, h2, h3⟩ := h
    have hl1 : d1.length = ts.length := by rw [← h1]; simp
    have g1 := in_ok (i := i + ts.length) ok h3 fun j d' hj => by
      have := hi (ts.length + j) d' (by rw [List.getElem?_append_right (by omega), hl1, Nat.add_sub_cancel_left]; exact hj)
      rwa [← Nat.add_assoc] at this
    simp only [inSV, Cx.vrs, VRs]
    refine ⟨_, vs', rfl, VR.c ?_, g1⟩
    simp only [CR]
    refine ⟨_, rfl, ?_⟩
    have key : ∀ (k s : Nat) {d2 : List (Dyn U.B)} {gs : List F}, (∀ j d, d2[j]? = some d → c.ρ[s + j]? = some d) → d2.length = k → FDs U gs d2 → CRs c.ρ c.β c.ι ((List.range' s k).map fun j => match nth e.tys j with | some t => .d t (.at j) | none => .un) (List.map C.f gs) := by
      intro k
      induction k with
      | zero =>
        intro s d2 gs _ hk hg
        have : d2 = [] := List.eq_nil_of_length_eq_zero hk
        subst this
        have : gs = [] := List.eq_nil_of_length_eq_zero (by rw [hg.len]; rfl)
        subst this
        simp only [List.range'_zero, List.map_nil, CRs]
      | succ k ih =>
        intro s d2 gs hd hk hg
        match d2, gs, hk, hg, hd with
        | d :: d2, g :: gs, hk, hg, hd =>
          obtain ⟨_, _, e1, q1, q2⟩ := hg
          cases e1
          simp only [List.range'_succ, List.map_cons, CRs]
          have h0 : c.ρ[s]? = some d := by simpa using hd 0 d rfl
          have ht : nth e.tys s = some d.t := by rw [nth_eq, ok.tys, List.getElem?_map, h0]; rfl
          refine ⟨_, _, rfl, ?_, ih (s + 1) (fun j d' hj => ?_) (by simpa using hk) q2⟩
          · rw [ht]
            simp only [CR]
            exact ⟨g, d, rfl, h0, rfl, q1⟩
          · have := hd (j + 1) d' (by simpa using hj)
            rwa [show s + (j + 1) = s + 1 + j from by omega] at this
        | d :: d2, [], hk, hg, hd => have := hg.len; simp at this
    exact key ts.length i (fun j d hj => hi j d (by rw [List.getElem?_append_left (List.getElem?_eq_some_iff.1 hj).1]; exact hj)) hl1 h2
def plainIns : List In → Bool
  | [] => true
  | .st _ _ :: _ => false
  | .ptr _ _ :: _ => false
  | .cloP _ _ :: _ => false
  | _ :: r => plainIns r
theorem plain_st : ∀ {ins : List In}, plainIns ins = true → stOf ins = none
  | [], _ => rfl
  | i :: r, h => by cases i <;> first | rfl | (simp only [plainIns] at h; cases h)
theorem in_free : ∀ {ins : List In} {ds : List (Dyn U.B)} {vs : List V}, plainIns ins = true → ArgsR U ins ds vs → V.frees vs = true
  | [], ds, vs, _, h => by obtain ⟨rfl, rfl⟩ := h; rfl
  | .ty t :: r, ds, vs, hp, h => by
    obtain ⟨d, ds', v, vs', rfl, rfl, rfl, h1, h2⟩ := h
    have hv : v.free = true := by
      unfold DV at h1
      split at h1
      · obtain ⟨fs, rfl, _⟩ := h1; exact frees_map fs
      · obtain ⟨f, rfl, _⟩ := h1; rfl
    simp only [V.frees, hv, in_free (ins := r) hp h2]
  | .fnc f :: r, ds, vs, hp, h => by
    obtain ⟨vs', rfl, h2⟩ := h
    simp only [V.frees, V.free, C.free, in_free (ins := r) hp h2]
  | .clo f ts :: r, ds, vs, hp, h => by
    obtain ⟨d1, ds', fs, vs', rfl, rfl, h1, h2, h3⟩ := h
    simp only [V.frees, V.free, C.free, frees_map, in_free (ins := r) hp h3]
  | .st _ _ :: _, ds, vs, hp, h => by cases hp
  | .ptr _ _ :: _, ds, vs, hp, h => by cases hp
  | .cloP _ _ :: _, ds, vs, hp, h => by cases hp
theorem DVs.free : ∀ {ds : List (Dyn U.B)} {vs : List V}, DVs U ds vs → V.frees vs = true
  | [], vs, h => by simp only [DVs] at h; subst h; rfl
  | d :: ds, vs, h => by
    obtain ⟨v, vr, rfl, h1, h2⟩ := h
    have hv : v.free = true := by
      unfold DV at h1
      split at h1
      · obtain ⟨fs, rfl, _⟩ := h1; exact frees_map fs
      · obtain ⟨f, rfl, _⟩ := h1; rfl
    simp only [V.frees, hv, DVs.free h2]
theorem out_ok : ∀ {outs : List Ty} {c : Cx U} {e : SE} (ok : Ok c e) {l : List SV} {vs : List V} (hv : c.vrs l vs) {k : SE → List Tm → Tr} (h : TDen Sp Post Go (outK U.lay c.S outs l e k) c.ρ),
    ∃ c' e' tms ds, Le c c' ∧ Ok c' e' ∧ tms.map (Tm.den? c'.ρ) = List.map Option.some ds ∧ DVs U ds vs ∧ TDen Sp Post Go (k e' tms) c'.ρ
  | [], c, e, ok, l, vs, hv, k, h => by
    cases l with
    | nil =>
      simp only [Cx.vrs, VRs] at hv
      subst hv
      exact ⟨c, e, [], [], Le.refl c, ok, rfl, rfl, h⟩
    | cons x l => exact h.elim
  | t :: ts, c, e, ok, l, vs, hv, k, h => by
    cases l with
    | nil => exact h.elim
    | cons x l =>
      simp only [Cx.vrs, VRs] at hv
      obtain ⟨v, vr, rfl, h1, h2⟩ := hv
      simp only [outK] at h
      split at h
      · rename_i b
        split at h
        · rename_i cs
          simp only [VR] at h1
          obtain ⟨ys, rfl, h1⟩ := h1
          obtain ⟨c1, e1, y, d, fs, p1, p2, p3, p4, rfl, p6, p7, p8, p9⟩ := data_ok ok h1 h
          rw [← p2] at p9
          obtain ⟨c2, e2, tms, ds, q1, q2, q3, q4, q5⟩ := out_ok p4 (p1.vrs h2) p9
          refine ⟨c2, e2, y :: tms, d :: ds, p1.trans q1, q2, ?_, ⟨_, vr, rfl, ?_, q4⟩, q5⟩
          · simp only [List.map_cons, q3, q1.den p6]
          · unfold DV; rw [p7]; exact ⟨fs, rfl, p8⟩
        · exact h.elim
      · rename_i hnb
        split at h
        · rename_i y
          by_cases hun : y = .un
          · subst hun; exact h.elim
          obtain ⟨y0, rfl, h1'⟩ := V_c hun h1
          obtain ⟨c1, e1, a, d, f, p1, p2, p3, p4, rfl, p6, p7, p8, p9⟩ := tm_ok ok h1' h
          rw [← p2] at p9
          obtain ⟨c2, e2, tms, ds, q1, q2, q3, q4, q5⟩ := out_ok p4 (p1.vrs h2) p9
          refine ⟨c2, e2, a :: tms, d :: ds, p1.trans q1, q2, ?_, ⟨_, vr, rfl, ?_, q4⟩, q5⟩
          · simp only [List.map_cons, q3, q1.den p6]
          · unfold DV; rw [p7]; cases t <;> first | exact ⟨f, rfl, p8⟩ | exact (hnb _ rfl).elim
        · exact h.elim
theorem hard_one {vs vs' : List V} {σ σ' : St} (h : hardVs vs σ = some (vs', σ')) : hardV (oneV vs) σ = some (oneV vs', σ') := by
  have hlen : ∀ (l : List V) (σ : St) {l' : List V} {σ' : St}, hardVs l σ = some (l', σ') → l'.length = l.length := by
    intro l
    induction l with
    | nil => intro σ l' σ' h; simp only [hardVs, Option.some.injEq, Prod.mk.injEq] at h; rw [← h.1]
    | cons x r ih =>
      intro σ l' σ' h
      simp only [hardVs] at h
      split at h
      · cases h
      · split at h
        · rename_i hr
          cases h
          simp [ih _ hr]
        · cases h
  have hl := hlen _ _ h
  match vs, vs', hl, h with
  | [], [], _, h => simp only [hardVs, Option.some.injEq, Prod.mk.injEq] at h; simp only [oneV, hardV, hardVs, h.2]
  | [x], [y], _, h =>
    simp only [hardVs] at h
    simp only [oneV]
    split at h
    · cases h
    · rename_i y' σ1 hx
      simp only [Option.some.injEq, Prod.mk.injEq, List.cons.injEq, and_true] at h
      rw [hx, h.1, h.2]
  | x :: y :: r, x' :: y' :: r', _, h => simp only [oneV, hardV, h]
theorem kOut_ok {rs : List ResultVar} {outs : List Ty} {ds0 : List (Dyn U.B)} (hP : ∀ l, Post l → l = ds0) {x : XEnd} {c : Cx U} {e : SE} {A : SA} {A' : AF} (ok : Ok c e) (hf : FrR c A A') (h : TDen Sp Post Go (kOut U.lay X.tb rs outs x e A c.S) c.ρ) :
    wKret X.tb rs (fun r τ => ∃ u τ', hardV r τ = some (u, τ') ∧ u.free = true ∧ ResR U ds0 u) x.exit' A' c.σ := by
  have main : TDen Sp Post Go (resS U.lay X.tb rs e A c.S fun e l => (match frzVs l c.S with | .some (l', S') => outK U.lay S' outs l' e fun _ tms => .ret tms | .none => .fail)) c.ρ →
      wresVs X.tb rs A' c.σ fun l => (fun r τ => ∃ u τ', hardV r τ = some (u, τ') ∧ u.free = true ∧ ResR U ds0 u) (oneV l) c.σ := fun h =>
    res_ok rs ok hf (fun c' e' l l' h1 h2 h3 h4 h5 h6 => by
      rw [← h2] at h6
      split at h6
      · rename_i l2 S2 hz
        obtain ⟨c2, vs2, q1, rfl, q3, q4, q5, q6, q7⟩ := frzVs_ok l h4 h5 hz
        rw [← q3] at h6
        obtain ⟨c3, e3, tms, ds, p1, p2, p3, p4, p5⟩ := out_ok q4 q5 h6
        have := hP _ p5
        rw [den_map p3] at this
        subst this
        rw [h3] at q6
        refine ⟨oneV vs2, _, hard_one q6, ?_, vs2, p4, rfl⟩
        have hfr := p4.free
        unfold oneV
        split
        · rename_i v
          simp only [V.frees] at hfr
          split at hfr
          · assumption
          · cases hfr
        · exact hfr
      · exact h6.elim) h
  cases x with
  | norm => exact wk_of (.inl rfl) (main h)
  | ret => exact wk_of (.inr rfl) (main h)
  | exit i => exact h.elim
def Walked (Sp : List (FSpec U)) (X : SEnv) (n : Nat) (w : Walk) (s : FSpec U) : Prop :=
  ∀ (x : HL U (insTys s.sig.ins)), s.pre x → ∀ R : List (Dyn U.B), R = s.fn x → ∀ Go : Nat → List (Dyn U.B) → Prop,
    (∀ (q : Nat) (α : Type) (ρ : α → List (Dyn U.B)) (I : α → Prop) (μ : α → Nat), (∀ y, I y → (∀ z, μ z < μ y → I z → Go q (ρ z)) → TDen Sp (fun l => l = R) Go (walkL X n w q) (ρ y)) → ∀ y, I y → Go q (ρ y)) →
    TDen Sp (fun l => l = R) Go (walk0 X n w) (HL.dyn _ x)
theorem walk_ok (hm : P.follows .mixedOrders = true) (tok : TabOk P X.tb) (hE : EnvOk P U X Sp) {n : Nat} (en : Ent P X.tb (stlW X.tb)) {w : Walk} (hF : w.F = en.F) {s : FSpec U} (hs : s.sig = ⟨en.f, w.ins, w.outs⟩) (hl : Nat.ble w.ins.length w.F.m = true) (h0 : plainIns w.ins = true)
    (h : Walked Sp X n w s) : FGood P s := by
  obtain ⟨sig, pre, fn, ty⟩ := s
  cases hs
  unfold FGood
  rw [show stOf (Sig.mk en.f w.ins w.outs).ins = none from plain_st h0]
  intro x vs ha hpre
  obtain ⟨f, H, F, eok, chk⟩ := en
  obtain ⟨F', ins, outs, tms⟩ := w
  cases hF
  obtain ⟨fn', cd, h1, h2, h3, rfl⟩ := yfunOf_spec eok
  have hH : hintsOk X.tb (stlW X.tb) H cd = true := by
    unfold yhintOk at chk
    rw [h1] at chk
    simp only [h2] at chk
    exact chk
  let ds := HL.dyn (insTys ins) x
  let c0 : Cx U := ⟨ds, fun _ => 0, [], []⟩
  have ok0 : Ok c0 ⟨insTys ins, [], []⟩ := ⟨(dyn_t _ x).symm, fun p hp => (by cases hp), fun p hp => (by cases hp), rfl, fun o so ho => by simp [c0] at ho⟩
  have a1 := in_ok (i := 0) ok0 ha fun j d hj => by rw [Nat.zero_add]; exact hj
  have a2 := in_free h0 ha
  let k0 : V → St → Prop := fun r τ => ∃ u τ', hardV r τ = some (u, τ') ∧ u.free = true ∧ ResR U (fn x) u
  let K0 := wKret X.tb fn'.results.toList k0
  let LP : Nat → AF → St → Prop := fun q A σ => LoopQ P 0 fn'.ntmps cd 0 K0 q A σ
  let Go : Nat → List (Dyn U.B) → Prop := fun q vals => ∀ tm, nth tms q = some tm → AtHead tm fn'.ntmps 0 (LP tm.q) vals
  have hcall := callN_ok (Post := fun l => l = fn x) (Go := Go) hm tok hE n
  have hlp : ∀ q (c : Cx U) e A A', Ok c e → FrR c A A' → inA fn'.ntmps A' → TDen Sp (fun l => l = fn x) Go (goS X.lay fn'.ntmps tms q e A c.S) c.ρ → LP q A' c.σ := fun q c e A A' ok hf hA hD => by
    rw [hE.lay] at hD
    exact go_ok (n := 0) (LP := LP q) ok hA hf (fun A1 σ1 A2 σ2 _ _ hg hh => loopQ_ghost A1 σ1 A2 σ2 hg hh) (Nat.le_refl 0) (fun i tm vals htm hq _ hG => by subst hq; exact hG tm htm) hD
  have hk : ∀ y (c' : Cx U) e' A A', Ok c' e' → FrR c' A A' → inA fn'.ntmps A' → TDen Sp (fun l => l = fn x) Go (kOut X.lay X.tb fn'.results.toList outs y e' A c'.S) c'.ρ → K0 y.exit' A' c'.σ := fun y c' e' A A' ok' hf' hA' hz => by
    rw [hE.lay] at hz
    exact kOut_ok (fun l hl => hl) ok' hf' hz
  have hw := h x hpre _ rfl Go fun q α ρ I μ H' => by
    have key : ∀ M y, μ y = M → I y → Go q (ρ y) := by
      intro M
      induction M using Nat.strongRecOn with
      | _ M ih =>
        intro y hy hI tm htm ct A' hρ hS okt hft hAt
        have hD := H' y hI fun z hz hIz => ih (μ z) (hy ▸ hz) z rfl hIz
        unfold walkL at hD
        simp only [htm] at hD
        split at hD
        · rename_i hq
          have hq := blt_nat hq
          rw [← hρ, ← hS] at hD
          rw [nl_eq] at hq
          exact sxl_ok hm tok hcall (pure_ok hE.lay hE.sigs hE.good) hE.lay (R := fun _ => True) (fun _ _ _ _ => trivial) hlp (LP := LP) (fun _ => trivial) hH (fun q' _ _ A σ hh => hh) (Nat.zero_le _) (by omega) hk okt hAt hft hD
        · exact hD.elim
    exact fun y hI => key _ y rfl hI
  have hlen : vs.length = (inSV X.lay ⟨insTys ins, [], []⟩ ins 0).length := by rw [hE.lay]; exact VRs.len a1
  have hins : ∀ (ins : List In) (i : Nat) (e : SE), (inSV X.lay e ins i).length ≤ ins.length := by
    intro ins
    induction ins with
    | nil => intro i e; exact Nat.le_refl _
    | cons a r ih =>
      intro i e
      cases a <;> simp only [inSV, List.length_cons] <;> first | exact Nat.succ_le_succ (ih _ _) | exact Nat.le_succ_of_le (ih _ _)
  have hins := hins ins 0 ⟨insTys ins, [], []⟩
  have hl := ble_nat hl
  simp only at hl
  have hw' : DWp P 0 cd (low fn'.ntmps K0) (toFr fn'.ntmps (args0 0 vs)) [] := by
    refine sxc_ok (c := c0) hm tok hcall (pure_ok hE.lay hE.sigs hE.good) hE.lay (R := fun _ => True) (fun _ _ _ _ => trivial) hlp (LP := LP) hH (fun q' _ _ A σ hh => hh) (fun y c' e' A A' _ => hk y c' e' A A') trivial ok0 (inA_args0 (by omega)) (argsA_ok 0 a1) ?_
    have := hw
    unfold walk0 at this
    simp only at this
    rw [hE.lay] at this ⊢
    exact this
  rw [toFr_args0 (by omega)] at hw'
  have hc : CallAt P f vs [] k0 := call_of hm tok h1 h2 h3 (hw'.mono fun ex fr σ' ⟨A1, b1, b2, b3⟩ => low_ret ⟨A1, b1, b2, wKret_eq b3⟩)
  intro σ
  exact call_nil (σ := σ) a2 hc fun r τ hh => hh
end Go.Dm.Sx
namespace Go.Dm.Sx
open Go.Dm
set_option linter.unusedVariables false
set_option linter.unusedSimpArgs false
set_option linter.unusedSectionVars false
def stC (lay : Nat → List Ty) (e : SE) : IC → SC
  | .d j => cellOf lay e 0 j
  | .row o _ => .rs o 0
  | .ptr o off => .ptr o off
  | .mp o => .mp o
def stO (lay : Nat → List Ty) (e : SE) : IO → SOb
  | .cells l => .cells (l.map (stC lay e))
  | .row w ty sz t j => .arr w 0 ty sz t (.fld 0 j)
variable [Pures]
variable {U : Uni} [FullU U] {c c' c'' : Cx U} {e : SE} {Sp : List (FSpec U)} {Post : List (Dyn U.B) → Prop} {Go : Nat → List (Dyn U.B) → Prop} {P : Program} {X : SEnv} {call : CallS} {m : Nat}
end Go.Dm.Sx
namespace Go.Dm.Sx
open Go.Dm
set_option linter.unusedVariables false
set_option linter.unusedSimpArgs false
variable {U : Uni}
@[simp] theorem dyn_ty (t : Ty) (r : List In) (x : T U.B t) (xs : HL U (insTys r)) : HL.dyn (insTys (.ty t :: r)) ((x, xs) : HL U (insTys (.ty t :: r))) = ⟨t, x⟩ :: HL.dyn (insTys r) xs := rfl
@[simp] theorem dyn_fn (f : Nat) (r : List In) (xs : HL U (insTys (.fnc f :: r))) : HL.dyn (insTys (.fnc f :: r)) xs = HL.dyn (insTys r) xs := rfl
@[simp] theorem dyn_clo0 (f : Nat) (r : List In) (xs : HL U (insTys (.clo f [] :: r))) : HL.dyn (insTys (.clo f [] :: r)) xs = HL.dyn (insTys r) xs := rfl
@[simp] theorem dyn_clo1 (f : Nat) (t : Ty) (r : List In) (x : T U.B t) (xs : HL U (insTys r)) : HL.dyn (insTys (.clo f [t] :: r)) ((x, xs) : HL U (insTys (.clo f [t] :: r))) = ⟨t, x⟩ :: HL.dyn (insTys r) xs := rfl
@[simp] theorem dyn_nil (xs : HL U (insTys [])) : HL.dyn (insTys []) xs = [] := rfl
@[simp] theorem dyn_cons (t : Ty) (r : List Ty) (x : T U.B t) (xs : HL U r) : HL.dyn (t :: r) ((x, xs) : HL U (t :: r)) = ⟨t, x⟩ :: HL.dyn r xs := rfl
@[simp] theorem dyn_none (xs : HL U []) : HL.dyn [] xs = [] := rfl
@[simp] theorem of_ty (t : Ty) (r : List In) (x : T U.B t) (l : List (Dyn U.B)) : HL.of (insTys (.ty t :: r)) (⟨t, x⟩ :: l) = ((x, HL.of (insTys r) l) : HL U (insTys (.ty t :: r))) := by
  show (Dyn.as t ⟨t, x⟩, _) = _
  rw [as_self]; rfl
@[simp] theorem of_fn (f : Nat) (r : List In) (l : List (Dyn U.B)) : HL.of (insTys (.fnc f :: r)) l = (HL.of (insTys r) l : HL U (insTys (.fnc f :: r))) := rfl
@[simp] theorem of_clo0 (f : Nat) (r : List In) (l : List (Dyn U.B)) : HL.of (insTys (.clo f [] :: r)) l = (HL.of (insTys r) l : HL U (insTys (.clo f [] :: r))) := rfl
@[simp] theorem of_clo1 (f : Nat) (t : Ty) (r : List In) (x : T U.B t) (l : List (Dyn U.B)) : HL.of (insTys (.clo f [t] :: r)) (⟨t, x⟩ :: l) = ((x, HL.of (insTys r) l) : HL U (insTys (.clo f [t] :: r))) := by
  show (Dyn.as t ⟨t, x⟩, _) = _
  rw [as_self]; rfl
@[simp] theorem of_st (b : Nat) (obs : List IO) (r : List In) (x : T U.B (.base b)) (l : List (Dyn U.B)) : HL.of (insTys (.st b obs :: r)) (⟨.base b, x⟩ :: l) = ((x, HL.of (insTys r) l) : HL U (insTys (.st b obs :: r))) := of_ty (.base b) r x l
@[simp] theorem of_ptr (o off : Nat) (r : List In) (l : List (Dyn U.B)) : HL.of (insTys (.ptr o off :: r)) l = (HL.of (insTys r) l : HL U (insTys (.ptr o off :: r))) := rfl
@[simp] theorem of_cloP (f : Nat) (caps : List (Nat × Nat)) (r : List In) (l : List (Dyn U.B)) : HL.of (insTys (.cloP f caps :: r)) l = (HL.of (insTys r) l : HL U (insTys (.cloP f caps :: r))) := rfl
@[simp] theorem of_nil (l : List (Dyn U.B)) : HL.of (insTys []) l = (() : HL U (insTys [])) := rfl
@[simp] theorem d_int (k : IntKind) (n : Int) : Dyn.int (⟨.int k, n⟩ : Dyn U.B) = n := rfl
@[simp] theorem d_bool (n : Bool) : Dyn.bool (⟨.bool, n⟩ : Dyn U.B) = n := rfl
@[simp] theorem d_str (n : List UInt8) : Dyn.str (⟨.str, n⟩ : Dyn U.B) = n := rfl
@[simp] theorem d_flo (n : Nat) : Dyn.flo (⟨.flo, n⟩ : Dyn U.B) = n := rfl
@[simp] theorem d_cpl (n : Nat × Nat) : Dyn.cpl (⟨.cpl, n⟩ : Dyn U.B) = n := rfl
attribute [simp] as_self
@[simp] theorem fld_base (n : Nat) (x : U.B n) (j : Nat) : fldD (⟨.base n, x⟩ : Dyn U.B) j = U.acc n x j := rfl
@[simp] theorem fld_ptr (n : Nat) (x : U.B n) (j : Nat) : fldD (⟨.ptr (.base n), x⟩ : Dyn U.B) j = U.acc n x j := rfl
@[simp] theorem fld_plist (t : Ty) (x : List (T U.B t)) (j : Nat) : fldD (⟨.ptr (.list t), x⟩ : Dyn U.B) j = ⟨.list t, x⟩ := rfl
@[simp] theorem fld_pint (k : IntKind) (x : Int) (j : Nat) : fldD (⟨.ptr (.int k), x⟩ : Dyn U.B) j = ⟨.int k, x⟩ := rfl
theorem bcmp_eql (a b : Int) : bcmp .eql a b = decide (a = b) := by by_cases h : a = b <;> simp [bcmp, h]
theorem bcmp_neq (a b : Int) : bcmp .neq a b = !decide (a = b) := by by_cases h : a = b <;> simp [bcmp, bne, h]
theorem bcmp_lss (a b : Int) : bcmp .lss a b = decide (a < b) := rfl
theorem bcmp_leq (a b : Int) : bcmp .leq a b = decide (a ≤ b) := rfl
theorem bcmp_gtr (a b : Int) : bcmp .gtr a b = decide (b < a) := rfl
theorem bcmp_geq (a b : Int) : bcmp .geq a b = decide (b ≤ a) := rfl
attribute [simp] bcmp_eql bcmp_neq bcmp_lss bcmp_leq bcmp_gtr bcmp_geq
@[simp] theorem bscmp_eql (a b : List UInt8) : bscmp .eql a b = decide (a = b) := by by_cases h : a = b <;> simp [bscmp, h]
@[simp] theorem bscmp_neq (a b : List UInt8) : bscmp .neq a b = !decide (a = b) := by by_cases h : a = b <;> simp [bscmp, bne, h]
@[simp] theorem optI_none (ρ : Rho U) (n : Int) : optI ρ n none = n := rfl
@[simp] theorem optI_some (ρ : Rho U) (n : Int) (x : Tm) : optI ρ n (some x) = (x.den ρ).int := rfl
@[simp] theorem ex_add (a b : Int) : exI .add a b = a + b := rfl
@[simp] theorem ex_sub (a b : Int) : exI .sub a b = a - b := rfl
@[simp] theorem ex_mul (a b : Int) : exI .mul a b = a * b := rfl
@[simp] theorem b_rem (k : IntKind) (a b : Int) : barith .rem k a b = a.tmod b := rfl
@[simp] theorem mnx_t (a b : Int) : mnxI true a b = max a b := rfl
@[simp] theorem mnx_f (a b : Int) : mnxI false a b = min a b := rfl
end Go.Dm.Sx
namespace Go.Dm.Sx
open Go.Dm
set_option linter.unusedVariables false
set_option linter.unusedSimpArgs false
set_option linter.unusedSectionVars false
variable [Pures]
def insN (x : Nat) (l : List Nat) : List Nat := match l with | [] => [x] | y :: r => (match Nat.beq x y with | true => y :: r | false => (match Nat.blt x y with | true => x :: y :: r | false => y :: insN x r))
def uniN (a b : List Nat) : List Nat := match a with | [] => b | x :: r => uniN r (insN x b)
def delN (x : Nat) (l : List Nat) : List Nat := match l with | [] => [] | y :: r => (match Nat.beq x y with | true => delN x r | false => y :: delN x r)
def memN (x : Nat) (l : List Nat) : Bool := match l with | [] => false | y :: r => (match Nat.beq x y with | true => true | false => memN x r)
def useO (x : Operand) (l : List Nat) : List Nat := match x with | .tmp t => insN t l | _ => l
def useL (xs : List Operand) (l : List Nat) : List Nat := match xs with | [] => l | x :: r => useO x (useL r l)
def useOp (o : Option Operand) (l : List Nat) : List Nat := match o with | .some x => useO x l | .none => l
def uses (s : SOp) (l : List Nat) : List Nat :=
  match s with
  | .mv x => useO x l
  | .pick c a b => useL [c, a, b] l
  | .bin _ _ x y => useL [x, y] l
  | .un _ x => useO x l
  | .alloc _ => l
  | .box x => useO x l
  | .load _ _ x => useO x l
  | .store _ a x => useL [a, x] l
  | .call x args => useO x (useL args l)
  | .fa _ x => useO x l
  | .fld _ _ _ x => useO x l
  | .ixr _ x i => useL [x, i] l
  | .ixa _ _ x i => useL [x, i] l
  | .chr x i => useL [x, i] l
  | .len _ x => useO x l
  | .app _ _ _ _ x y => useL [x, y] l
  | .slc _ _ x lo hi => useO x (useOp lo (useOp hi l))
  | .ext x _ => useO x l
  | .nilc x => useO x l
  | .bi _ _ args => useL args l
  | .bld _ parts => useL (parts.map fun p => p.2.2) l
  | .bsl _ _ _ _ parts => useL (parts.map fun p => p.2) l
  | .raw o => useL o.operands.toList l
def liveI (i : SItem) (l : List Nat) : List Nat :=
  let l1 := match i.g, i.dst with | .none, .some d => delN d l | _, _ => l
  let l2 := uses i.o l1
  match i.g with | .some (.some d, _) => insN d l2 | _ => l2
def liveIs : List SItem → List Nat → List Nat
  | [], l => l
  | i :: r, l => liveI i (liveIs r l)
def liveT : YT → List Nat → List Nat
  | .done, l => l
  | .go i _ p, l => liveI i (liveT p l)
  | .goc i p, l => liveI i (liveT p l)
  | .alt i p q, l => uniN (liveI i (liveT p l)) (liveT q l)
  | .stop, _ => []
  | .sub s p, l => liveT s (liveT p l)
def lvAt (e : List (Nat × List Nat)) (i : Nat) : List Nat := match e with | [] => [] | (j, l) :: r => (match Nat.beq j i with | true => l | false => lvAt r i)
def liveC (ex : List (Nat × List Nat)) (r : List Nat) : YCode → List Nat → List Nat
  | .skip, l => l
  | .ops is, l => liveIs is l
  | .tree t, l => liveT t l
  | .any _ _, l => l
  | .seq a b, l => liveC ex r a (liveC ex r b l)
  | .cond c a b, l => useO c (uniN (liveC ex r a l) (liveC ex r b l))
  | .block id c, l => liveC ((id, l) :: ex) r c l
  | .loop c, l => liveC ex r c (liveC ex r c (liveC ex r c []))
  | .exit id, _ => lvAt ex id
  | .ret, _ => r
  | .bad, _ => []
def liveQ (q : Nat) (ex : List (Nat × List Nat)) (r : List Nat) : YCode → Nat → List Nat → Option (List Nat × YCode)
  | .seq a b, p, l => (match Nat.blt q (p + nl a) with | true => liveQ q ex r a p (liveC ex r b l) | false => liveQ q ex r b (p + nl a) l)
  | .cond _ a b, p, l => (match Nat.blt q (p + nl a) with | true => liveQ q ex r a p l | false => liveQ q ex r b (p + nl a) l)
  | .block id c, p, l => liveQ q ((id, l) :: ex) r c p l
  | .loop c, p, l =>
    let h := liveC ex r (.loop c) l
    (match Nat.beq q p with | true => .some (h, c) | false => liveQ q ex r c (p + 1) h)
  | _, _, _ => .none
def itemsT : YT → List SItem
  | .done => []
  | .go i _ p => i :: itemsT p
  | .goc i p => i :: itemsT p
  | .alt i p q => i :: (itemsT p ++ itemsT q)
  | .stop => []
  | .sub s p => itemsT s ++ itemsT p
def items : YCode → List SItem
  | .ops is => is
  | .tree t => itemsT t
  | .seq a b => items a ++ items b
  | .cond _ a b => items a ++ items b
  | .block _ c => items c
  | .loop c => items c
  | _ => []
def dsts : List SItem → List Nat
  | [] => []
  | i :: r => (match i.dst with | .some d => insN d (dsts r) | .none => dsts r)
def appAt (src : List (Nat × Nat)) (d : Nat) : List SItem → Option (Nat × Nat)
  | [] => .none
  | i :: r =>
    match i.o, i.dst with
    | .mv (.tmp s), .some t => appAt ((t, s) :: src) d r
    | .app _ ty sz _ (.tmp x) _, _ => (match Nat.beq x d || (match src.find? fun p => Nat.beq p.1 x with | .some p => Nat.beq p.2 d | .none => false) with | true => .some (ty, sz) | false => appAt src d r)
    | .call _ (.tmp x :: _), _ => appAt src d r
    | _, _ => appAt src d r
def adr? (A : SA) (ad : List (Nat × Nat × Nat)) (d : Nat) : Option (Nat × Nat) :=
  match ad with
  | (t, o, j) :: r => (match Nat.beq t d with | true => .some (o, j) | false => adr? A r d)
  | [] => (match lkS A d with | .c (.ptr o j) => .some (o, j) | _ => .none)
def get3 (l : List (Nat × Nat × Nat)) (d : Nat) : Option (Nat × Nat) := match l with | [] => .none | (t, o, j) :: r => (match Nat.beq t d with | true => .some (o, j) | false => get3 r d)
def memO (o j : Nat) : List (Nat × Nat × Nat × Nat × Ty) → Bool
  | [] => false
  | (a, b, _) :: r => (match Nat.beq a o, Nat.beq b j with | true, true => true | _, _ => memO o j r)
def objCall (sigs : List Sig) (tyO : Nat → Option Ty) (A : SA) (S : SSt) (ad : List (Nat × Nat × Nat)) (f : Nat) (args : List Operand) : List (Nat × Nat × Nat × Nat × Ty) :=
  match sigs.find? fun s => Nat.beq s.f f with
  | .none => []
  | .some sg =>
    match stOf sg.ins with
    | .none => []
    | .some (_, obs) =>
      let svs : List SV := args.map fun x => (match x with | .tmp t => (match adr? A ad t with | .some (o, j) => .c (.ptr o j) | .none => .c .un) | _ => .c .un)
      nilAll obs S (osFind S obs 0 (osArgs sg.ins svs (List.replicate obs.length .none))) obs 0
def objOf (sigs : List Sig) (tyO : Nat → Option Ty) (A : SA) (S : SSt) : List SItem → List (Nat × Nat × Nat) → List (Nat × Nat × Nat) → List (Nat × Nat × Nat × Nat × Ty) → List (Nat × Nat × Nat × Nat × Ty)
  | [], _, _, acc => acc
  | i :: r, ad, ld, acc =>
    match i.o, i.dst with
    | .fa off (.tmp x), .some t => (match adr? A ad x with | .some (o, j) => objOf sigs tyO A S r ((t, o, j + off) :: ad) ld acc | .none => objOf sigs tyO A S r ad ld acc)
    | .mv (.tmp x), .some t => (match adr? A ad x with
      | .some (o, j) => objOf sigs tyO A S r ((t, o, j) :: ad) ld acc
      | .none => match get3 ld x with | .some (o, j) => objOf sigs tyO A S r ad ((t, o, j) :: ld) acc | .none => objOf sigs tyO A S r ad ld acc)
    | .load _ _ (.tmp x), .some t => (match adr? A ad x with | .some (o, j) => objOf sigs tyO A S r ad ((t, o, j) :: ld) acc | .none => objOf sigs tyO A S r ad ld acc)
    | .app _ ty sz _ (.tmp x) _, _ => (match get3 ld x with
      | .some (o, j) => (match nth S o, memO o j acc, tyO ty with
        | .some (.cells l), false, .some t => (match nth l j with | .some .nil => objOf sigs tyO A S r ad ld ((o, j, ty, sz, t) :: acc) | _ => objOf sigs tyO A S r ad ld acc)
        | _, _, _ => objOf sigs tyO A S r ad ld acc)
      | .none => objOf sigs tyO A S r ad ld acc)
    | .call (.func f) args, _ => objOf sigs tyO A S r ad ld (((objCall sigs tyO A S ad f args).filter fun q => !memO q.1 q.2.1 acc) ++ acc)
    | _, _ => objOf sigs tyO A S r ad ld acc
structure GS where
  tys : List Ty
  map : List (Tm × Nat)
  deriving Inhabited
def GS.fresh (g : GS) (t : Ty) : GS × Tm := ({ g with tys := g.tys ++ [t] }, .at g.tys.length)
def genT (keep : Bool) (g : GS) (t : Ty) (x : Tm) : GS × Tm :=
  let lit := match x with | .at _ => false | .fld _ _ => false | _ => true
  match keep, lit with
  | true, true => (g, x)
  | true, false =>
    (match g.map.find? fun p => Tm.eqb p.1 x with
    | .some p => (g, .at p.2)
    | .none => let n := g.tys.length; ({ tys := g.tys ++ [t], map := (x, n) :: g.map }, .at n))
  | false, _ => g.fresh t
mutual
def genC (keep : Bool) (tys : List Ty) (g : GS) : SC → GS × SC
  | .d t x => let (g, y) := genT keep g t x; (g, .d t y)
  | .clo f caps => let (g, l) := genCs true tys g caps; (g, .clo f l)
  | .el x j => let (g, y) := genT true g (match x with | .at i => (match nth tys i with | .some t => t | .none => .bool) | _ => .bool) x; (g, .el y j)
  | .rs o _ => (g, .rs o 0)
  | x => (g, x)
def genCs (keep : Bool) (tys : List Ty) (g : GS) : List SC → GS × List SC
  | [] => (g, [])
  | x :: r => let (g, y) := genC keep tys g x; let (g, l) := genCs keep tys g r; (g, y :: l)
end
def genV (keep : Bool) (tys : List Ty) (g : GS) : SV → GS × SV
  | .c x => let (g, y) := genC keep tys g x; (g, .c y)
  | .a l => let (g, y) := genCs keep tys g l; (g, .a y)
  | .t l => (g, .t l)
def genA (tys : List Ty) (asg : List Nat) (A : SA) : List Nat → GS → GS × SA
  | [], g => (g, [])
  | d :: r, g =>
    match lkS A d with
    | .c .un => genA tys asg A r g
    | .t _ => genA tys asg A r g
    | v => let (g, v) := genV (!memN d asg) tys g v; let (g, l) := genA tys asg A r g; (g, (d, v) :: l)
def genS (tys : List Ty) : SSt → GS → GS × SSt
  | [], g => (g, [])
  | o :: r, g =>
    match o with
    | .cells l => let (g, l) := genCs false tys g l; let (g, r) := genS tys r g; (g, .cells l :: r)
    | .arr w _ ty sz t _ => let (g, y) := g.fresh (.list t); let (g, r) := genS tys r g; (g, .arr w 0 ty sz t y :: r)
    | .bld T u x => let (g, x) := genC false tys g x; let (g, r) := genS tys r g; (g, .bld T .none x :: r)
    | .any => let (g, r) := genS tys r g; (g, .any :: r)
mutual
def topC : SC → Nat
  | .ptr o _ => o + 1
  | .rs o _ => o + 1
  | .pa o _ _ _ _ => o + 1
  | .clo _ caps => topCs caps
  | _ => 0
def topCs : List SC → Nat
  | [] => 0
  | x :: r => max (topC x) (topCs r)
end
def topV : SV → Nat
  | .c x => topC x
  | .a l => topCs l
  | .t _ => 0
def topOb : SOb → Nat
  | .cells l => topCs l
  | .bld _ _ x => topC x
  | _ => 0
def topA : SA → Nat
  | [] => 0
  | p :: r => max (topV p.2) (topA r)
def topS (n : Nat) (S : SSt) : Nat := (S.take n).foldl (fun m o => max m (topOb o)) n
def ownOf (tyO : Nat → Option Ty) (A : SA) (is : List SItem) : List Nat → List (Nat × Nat × Nat × Ty)
  | [] => []
  | d :: r =>
    match lkS A d with
    | .c .nil | .c (.rs ..) => (match appAt [] d is with | .some (ty, sz) => (match tyO ty with | .some t => (d, ty, sz, t) :: ownOf tyO A is r | .none => ownOf tyO A is r) | .none => ownOf tyO A is r)
    | _ => ownOf tyO A is r
def rsUse : List ResultVar → List Nat
  | [] => []
  | .tmp t :: r => insN t (rsUse r)
  | .cell x _ :: r => insN x (rsUse r)
def tmplOf0 (sigs : List Sig) (nb : Nat) (tyO : Nat → Option Ty) (lay : Nat → List Ty) (F : YFun) (q : Nat) (tys : List Ty) (A : SA) (S : SSt) : Tmpl :=
  match liveQ q [] (rsUse F.rs) F.code 0 (rsUse F.rs) with
  | .none => ⟨[], [], [], [], [], 0⟩
  | .some (live, body) =>
    let is := items body
    let asg := dsts is
    let own := ownOf tyO A is live
    match ownS own F.m lay A S with
    | .none => ⟨[], [], [], [], [], 0⟩
    | .some (A, S1) =>
      let owo := objOf sigs tyO A S1 is [] [] []
      match ownO owo lay S1 with
      | .none => ⟨[], [], [], [], [], 0⟩
      | .some S =>
      let (g, A2) := genA tys asg A live ⟨[], []⟩
      let n := topS (topS (topS (max nb (topA A2)) S) S) S
      let (g, S2) := genS tys (S.take n) g
      ⟨g.tys, A2, S2, own, owo, 0⟩
def tmplOf (sigs : List Sig) (nb : Nat) (tyO : Nat → Option Ty) (lay : Nat → List Ty) (F : YFun) (q : Nat) (tys : List Ty) (A : SA) (S : SSt) : Tmpl :=
  match tmplOf0 sigs nb tyO lay F q tys A S with
  | ⟨a, b, c, d, f, _⟩ => ⟨a, b, c, d, f, q⟩
def firstAt (q : Nat) : Tr → Option (Unit → List Ty × List (Nat × SV) × List SOb)
  | .here j f => (match Nat.beq j q with | true => .some f | false => .none)
  | .br _ a b => (match firstAt q a with | .some x => .some x | .none => firstAt q b)
  | .both a b => (match firstAt q a with | .some x => .some x | .none => firstAt q b)
  | .lnil _ _ a b => (match firstAt q a with | .some x => .some x | .none => firstAt q b)
  | .ar _ _ _ r | .bin _ _ _ _ r | .cmp _ _ _ r | .scmp _ _ _ r | .beq _ _ _ r | .bnot _ r | .sapp _ _ r | .ssub _ _ _ r | .slen _ r | .sget _ _ r | .wrap _ _ r | .llen _ _ r | .lget _ _ _ r | .lidx _ _ _ r
  | .lapp _ _ _ _ r | .lnew _ _ _ r | .lsub _ _ _ _ r | .lset _ _ _ _ r | .lmk _ _ r | .lrep _ _ _ _ r | .mk _ _ r | .cp _ _ r | .toPtr _ _ r | .deref _ _ r | .some _ _ r | .unopt _ _ r | .isnil _ _ r | .sbytes _ r | .sof _ r
  | .mnx _ _ _ _ r | .ne0 _ r | .nneg _ r | .inn _ _ r | .isn _ _ r | .eqn _ _ r | .fcmp _ _ _ r | .fsum _ _ _ r | .fofi _ r | .foi _ r | .cx _ _ r | .re _ r | .im _ r | .and _ _ r | .call _ _ r => firstAt q r
  | _ => .none
def hereK (q : Nat) (e : SE) (A : SA) (S : SSt) : Tr := .here q fun _ => (e.tys, A, S)
def S0of (lay : Nat → List Ty) (ins : List In) : SSt := match stOf ins with | .none => [] | .some (_, obs) => obs.map (stO lay ⟨insTys ins, [], []⟩)
def findT (X : SEnv) (n : Nat) (w : Walk) (q : Nat) : List Tmpl → Nat → Option (Unit → List Ty × List (Nat × SV) × List SOb)
  | [], _ => firstAt q (sxc X (callN X n) w.F.m hereK w.F.code 0 (fun _ _ _ _ => .fail) ⟨insTys w.ins, [], []⟩ (argsA 0 (inSV X.lay ⟨insTys w.ins, [], []⟩ w.ins 0)) (S0of X.lay w.ins))
  | tm :: r, j =>
    match findT X n w q r (j + 1) with
    | .some f => .some f
    | .none => firstAt q (sxl X (callN X n) w.F.m hereK j w.F.code 0 (fun _ _ _ _ => .fail) ⟨tm.tys, [], []⟩ tm.A tm.S)
def tmplsGo (X : SEnv) (n : Nat) (w : Walk) : Nat → List Tmpl → List Tmpl
  | 0, acc => acc
  | k + 1, acc =>
    match findT X n w acc.length acc 0 with
    | .none => tmplsGo X n w k (acc ++ [⟨[], [], [], [], [], acc.length⟩])
    | .some f => let (tys, A, S) := f (); tmplsGo X n w k (acc ++ [tmplOf X.sigs (S0of X.lay w.ins).length X.tyO X.lay w.F acc.length tys A S])
def anyAt : Tr → Option (Nat × (Unit → List Ty × List (Nat × SV) × List SOb))
  | .here j f => .some (j, f)
  | .br _ a b => (match anyAt a with | .some x => .some x | .none => anyAt b)
  | .both a b => (match anyAt a with | .some x => .some x | .none => anyAt b)
  | .lnil _ _ a b => (match anyAt a with | .some x => .some x | .none => anyAt b)
  | .ar _ _ _ r | .bin _ _ _ _ r | .cmp _ _ _ r | .scmp _ _ _ r | .beq _ _ _ r | .bnot _ r | .sapp _ _ r | .ssub _ _ _ r | .slen _ r | .sget _ _ r | .wrap _ _ r | .llen _ _ r | .lget _ _ _ r | .lidx _ _ _ r
  | .lapp _ _ _ _ r | .lnew _ _ _ r | .lsub _ _ _ _ r | .lset _ _ _ _ r | .lmk _ _ r | .lrep _ _ _ _ r | .mk _ _ r | .cp _ _ r | .toPtr _ _ r | .deref _ _ r | .some _ _ r | .unopt _ _ r | .isnil _ _ r | .sbytes _ r | .sof _ r
  | .mnx _ _ _ _ r | .ne0 _ r | .nneg _ r | .inn _ _ r | .isn _ _ r | .eqn _ _ r | .fcmp _ _ _ r | .fsum _ _ _ r | .fofi _ r | .foi _ r | .cx _ _ r | .re _ r | .im _ r | .and _ _ r | .call _ _ r => anyAt r
  | _ => .none
def hereM (lay : Nat → List Ty) (m nb : Nat) (acc : List Tmpl) (j : Nat) (e : SE) (A : SA) (S : SSt) : Tr :=
  match goF lay m nb j e A S acc 0 with
  | .fail => .here j fun _ => (e.tys, A, S)
  | _ => .triv
def findM (X : SEnv) (n nb : Nat) (w : Walk) (acc : List Tmpl) : List Tmpl → Option (Nat × (Unit → List Ty × List (Nat × SV) × List SOb))
  | [] => anyAt (sxc X (callN X n) w.F.m (hereM X.lay w.F.m nb acc) w.F.code 0 (fun _ _ _ _ => .fail) ⟨insTys w.ins, [], []⟩ (argsA 0 (inSV X.lay ⟨insTys w.ins, [], []⟩ w.ins 0)) (S0of X.lay w.ins))
  | tm :: r =>
    match findM X n nb w acc r with
    | .some f => .some f
    | .none => anyAt (sxl X (callN X n) w.F.m (hereM X.lay w.F.m nb acc) tm.q w.F.code 0 (fun _ _ _ _ => .fail) ⟨tm.tys, [], []⟩ tm.A tm.S)
def tmplsMore (X : SEnv) (n : Nat) (w : Walk) : Nat → List Tmpl → List Tmpl
  | 0, acc => acc
  | k + 1, acc =>
    match findM X n (S0of X.lay w.ins).length w acc acc with
    | .none => acc
    | .some (q, f) => let (tys, A, S) := f (); tmplsMore X n w k (acc ++ [tmplOf X.sigs (S0of X.lay w.ins).length X.tyO X.lay w.F q tys A S])
def walkOf (X : SEnv) (n : Nat) (F : YFun) (ins : List In) (outs : List Ty) (more : Nat := 0) : Walk :=
  ⟨F, ins, outs, tmplsMore X n ⟨F, ins, outs, []⟩ more (tmplsGo X n ⟨F, ins, outs, []⟩ (nl F.code) [])⟩
structure Wk (X : SEnv) (F : YFun) (ins : List In) (outs : List Ty) (more : Nat := 0) where
  w : Walk
  eq : walkOf X 9 F ins outs more = w
  t0 : Tr
  e0 : walk0 X 9 w = t0
  ts : List Tr
  es : (List.range w.tms.length).map (walkL X 9 w) = ts
variable {U : Uni} [FullU U]
def Asked (Sp : List (FSpec U)) (t0 : Tr) (ts : List Tr) (s : FSpec U) : Prop :=
  ∀ (x : HL U (insTys s.sig.ins)), s.pre x → ∀ R : List (Dyn U.B), R = s.fn x → ∀ Go : Nat → List (Dyn U.B) → Prop,
    (∀ (q : Nat) (t : Tr), nth ts q = some t → ∀ (α : Type) (ρ : α → List (Dyn U.B)) (I : α → Prop) (μ : α → Nat), (∀ y, I y → (∀ z, μ z < μ y → I z → Go q (ρ z)) → TDen Sp (fun l => l = R) Go t (ρ y)) → ∀ y, I y → Go q (ρ y)) →
    TDen Sp (fun l => l = R) Go t0 (HL.dyn _ x)
theorem Wk.ok {P : Program} {X : SEnv} {Sp : List (FSpec U)} (hm : P.follows .mixedOrders = true) (tok : TabOk P X.tb) (hE : EnvOk P U X Sp) (en : Ent P X.tb (stlW X.tb)) {s : FSpec U} {more : Nat} (k : Wk X en.F s.sig.ins s.sig.outs more) (hf : s.sig.f = en.f) (hl : Nat.ble s.sig.ins.length en.F.m = true)
    (h : Asked Sp k.t0 k.ts s) (h0 : plainIns s.sig.ins = true := by rfl) : FGood P s := by
  obtain ⟨w, eq, t0, e0, ts, es⟩ := k
  subst eq
  refine walk_ok hm tok hE (n := 9) en (w := walkOf X 9 en.F s.sig.ins s.sig.outs more) rfl (by rw [← hf]; rfl) hl h0 ?_
  intro x hp R hR Go hGo
  rw [e0]
  refine h x hp R hR Go fun q t ht => ?_
  have : walkL X 9 (walkOf X 9 en.F s.sig.ins s.sig.outs more) q = t := by
    simp only at ht
    rw [← es, nth_eq, List.getElem?_map] at ht
    cases hq : (List.range (walkOf X 9 en.F s.sig.ins s.sig.outs more).tms.length)[q]? with
    | none => simp [hq] at ht
    | some q' =>
      have := (List.getElem?_eq_some_iff.1 hq)
      obtain ⟨h1, h2⟩ := this
      simp at h2
      subst h2
      simpa [hq] using ht
  rw [← this]
  exact hGo q
def bodiesOf {P : Program} {tb : Tab} (l : List (Ent P tb (stlW tb))) (f : Nat) : Option YFun :=
  match l with
  | [] => .none
  | e :: r => (match Nat.beq e.f f with | true => .some e.F | false => bodiesOf r f)
theorem bodiesOf_ok {P : Program} {tb : Tab} : ∀ {l : List (Ent P tb (stlW tb))} {f : Nat} {F : YFun}, bodiesOf l f = some F → ∃ en : Ent P tb (stlW tb), en.f = f ∧ en.F = F
  | [], f, F, h => by simp [bodiesOf] at h
  | e :: r, f, F, h => by
    simp only [bodiesOf] at h
    split at h
    · rename_i hb
      cases h
      exact ⟨e, beq_nat hb, rfl⟩
    · exact bodiesOf_ok h
inductive FAll (P : Program) : List (FSpec U) → Prop
  | nil : FAll P []
  | cons {s : FSpec U} {r : List (FSpec U)} : FGood P s → FAll P r → FAll P (s :: r)
theorem FAll.mem {P : Program} {l : List (FSpec U)} (h : FAll P l) : ∀ s ∈ l, FGood P s := by
  induction h with
  | nil => intro s hs; cases hs
  | cons h1 h2 ih =>
    intro s hs
    rcases List.mem_cons.1 hs with rfl | hs
    · exact h1
    · exact ih s hs
abbrev XE (U : Uni) {P : Program} {tb : Tab} (tyO : Nat → Option Ty) (Sp : List (FSpec U)) (inl : List (Ent P tb (stlW tb))) (sm : List Nat) : SEnv := ⟨tb, U.lay, tyO, Sp.map FSpec.sig, bodiesOf inl, fun f => memN f sm⟩
theorem memN_ok {x : Nat} : ∀ {l : List Nat}, memN x l = true → x ∈ l
  | [], h => by simp [memN] at h
  | y :: r, h => by
    simp only [memN] at h
    split at h
    · rename_i hb; rw [beq_nat hb]; exact List.mem_cons_self ..
    · exact List.mem_cons_of_mem _ (memN_ok h)
theorem envOk {P : Program} {tb : Tab} {tyO : Nat → Option Ty} {Sp : List (FSpec U)} (h : FAll P Sp) (inl : List (Ent P tb (stlW tb))) {sm : List Nat} (hs : ∀ f ∈ sm, Ext P f Extern.AbiNoEscape.same) : EnvOk P U (XE U tyO Sp inl sm) Sp :=
  ⟨rfl, rfl, h.mem, fun f F hF => bodiesOf_ok hF, fun f hf => hs f (memN_ok hf)⟩
theorem no_same {P : Program} : ∀ f ∈ ([] : List Nat), Ext P f Extern.AbiNoEscape.same := fun f h => by cases h
def sIndexByte (f : Nat) : FSpec U := ⟨⟨f, [.ty .str, .ty (.int .u8)], [.int .i64]⟩, fun (s, c, _) => 0 ≤ c ∧ c < 256, fun (s, c, _) => [⟨.int .i64, idxFrom c.toNat s 0⟩], fun _ => rfl⟩
theorem indexByte_ok {P : Program} {f : Nat} (he : Ext P f Extern.BytealgIndexByte.indexByte) : FGood P (sIndexByte (U := U) f) := by
  rintro ⟨(s : List UInt8), (c : Int), _⟩ vs ha ⟨h1, h2⟩ σ
  obtain ⟨d, ds, v, vs', e1, rfl, e2, hv, d2, ds2, v2, vs2, e3, rfl, e4, hv2, e5, rfl⟩ := ha
  cases e1; cases e3
  obtain ⟨x, rfl, hx⟩ := hv
  obtain ⟨y, rfl, hy⟩ := hv2
  have q1 := FD.str hx
  have q2 := FD.int hy
  subst q1 q2
  have hs : spIndex [.c (.f (.str s)), .c (.f (.int .u8 c))] σ = some [(vint' .i64 (idxFrom c.toNat s 0), σ)] := by
    obtain ⟨n, rfl⟩ : ∃ n : Nat, c = n := ⟨c.toNat, by have : (0 : Int) ≤ c := h1; omega⟩
    have : n < 256 := by have : ((n : Int)) < 256 := h2; omega
    show (match Nat.blt n 256 with | true => _ | false => _) = _
    rw [blt_true this]
    rfl
  refine (index_ok' he hs).mono fun r σ' hm => ?_
  rw [List.mem_singleton] at hm
  cases hm
  exact ⟨⟨[vint' .i64 (idxFrom c.toNat s 0)], ⟨_, [], rfl, ⟨_, rfl, rfl⟩, rfl⟩, rfl⟩, rfl⟩
end Go.Dm.Sx
namespace Go.Dm.Sx
open Go.Dm
set_option linter.unusedVariables false
set_option linter.unusedSimpArgs false
structure Edit where
  at_ : Int
  cut : Int
  put : List (List UInt8)
  deriving Inhabited
structure KEdit where
  at_ : Int
  cut : Int
  put : List (List (Int))
  deriving Inhabited
@[reducible] def UB : Nat → Type
  | 0 => Edit
  | 1 => KEdit
  | _ => Unit
def Udft : (n : Nat) → UB n
  | 0 => (default : Edit)
  | 1 => (default : KEdit)
  | _ + 2 => ()
def Ulay : Nat → List Ty
  | 0 => [.int .i64, .int .i64, .list (.str)]
  | 1 => [.int .i64, .int .i64, .list (.list (.int .i64))]
  | _ => []
def noU : Dyn UB := ⟨.bool, false⟩
def Uacc : (n : Nat) → UB n → Nat → Dyn UB
  | 0, x, 0 => ⟨.int .i64, ((x : Edit).at_)⟩
  | 0, x, 1 => ⟨.int .i64, ((x : Edit).cut)⟩
  | 0, x, 2 => ⟨.list (.str), ((x : Edit).put)⟩
  | 1, x, 0 => ⟨.int .i64, ((x : KEdit).at_)⟩
  | 1, x, 1 => ⟨.int .i64, ((x : KEdit).cut)⟩
  | 1, x, 2 => ⟨.list (.list (.int .i64)), ((x : KEdit).put)⟩
  | _, _, _ => noU
def gt (l : List (Dyn UB)) (i : Nat) : Dyn UB := l.getD i noU
def gi : Dyn UB → Int
  | ⟨.int _, n⟩ => n
  | _ => 0
def gb : Dyn UB → Bool
  | ⟨.bool, n⟩ => n
  | _ => false
def gs : Dyn UB → List UInt8
  | ⟨.str, n⟩ => n
  | _ => []
def gf : Dyn UB → Nat
  | ⟨.flo, n⟩ => n
  | _ => 0
def gc : Dyn UB → Nat × Nat
  | ⟨.cpl, n⟩ => n
  | _ => (0, 0)
def gd : (t : Ty) → T UB t
  | .int _ => (0 : Int)
  | .bool => false
  | .str => ([] : List UInt8)
  | .flo => (0 : Nat)
  | .cpl => ((0, 0) : Nat × Nat)
  | .list _ => []
  | .ptr t => gd t
  | .opt _ => none
  | .base n => Udft n
def ga (t : Ty) (d : Dyn UB) : T UB t := if h : d.t = t then h ▸ d.v else gd t
theorem ga_self (t : Ty) (x : T UB t) : ga t ⟨t, x⟩ = x := by simp [ga]
theorem gt_of {l : List (Dyn UB)} {i : Nat} {d : Dyn UB} (h : l[i]? = some d) : gt l i = d := by simp [gt, h]
def Ubd : (n : Nat) → List (Dyn UB) → UB n
  | 0, l => (Edit.mk (gi (gt l 0)) (gi (gt l 1)) (ga (.list (.str)) (gt l 2)))
  | 1, l => (KEdit.mk (gi (gt l 0)) (gi (gt l 1)) (ga (.list (.list (.int .i64))) (gt l 2)))
  | _ + 2, _ => ()
theorem Uty {l : List (Dyn UB)} {k : Nat} (h : l.map Dyn.t = Ulay k) {j : Nat} {d : Dyn UB} (hd : l[j]? = some d) {t : Ty} (ht : (Ulay k)[j]? = some t) : ∃ v : T UB t, d = ⟨t, v⟩ := by
  rw [← h, List.getElem?_map, hd] at ht
  obtain ⟨t', v⟩ := d
  simp only [Option.map_some, Option.some.injEq] at ht
  subst ht
  exact ⟨v, rfl⟩
theorem Uat_0 (x : Edit) : ∀ j t, (Ulay 0)[j]? = some t → (Uacc 0 x j).t = t
  | 0, t, h => by simp only [Ulay, List.getElem?_cons_zero, List.getElem?_cons_succ, Option.some.injEq] at h; exact h
  | 1, t, h => by simp only [Ulay, List.getElem?_cons_zero, List.getElem?_cons_succ, Option.some.injEq] at h; exact h
  | 2, t, h => by simp only [Ulay, List.getElem?_cons_zero, List.getElem?_cons_succ, Option.some.injEq] at h; exact h
  | j + 3, t, h => by simp [Ulay] at h
theorem Uba_0 (l : List (Dyn UB)) (h : l.map Dyn.t = Ulay 0) : ∀ j d, l[j]? = some d → Uacc 0 (Ubd 0 l) j = d
  | 0, d, hd => by
    obtain ⟨v, rfl⟩ := Uty h hd (t := .int .i64) rfl
    show (⟨.int .i64, (gi (gt l 0))⟩ : Dyn UB) = _
    rw [gt_of hd]
    rfl
  | 1, d, hd => by
    obtain ⟨v, rfl⟩ := Uty h hd (t := .int .i64) rfl
    show (⟨.int .i64, (gi (gt l 1))⟩ : Dyn UB) = _
    rw [gt_of hd]
    rfl
  | 2, d, hd => by
    obtain ⟨v, rfl⟩ := Uty h hd (t := .list (.str)) rfl
    show (⟨.list (.str), (ga (.list (.str)) (gt l 2))⟩ : Dyn UB) = _
    rw [gt_of hd, ga_self]
  | j + 3, d, hd => by
    have h1 := (List.getElem?_eq_some_iff.1 hd).1
    have h2 := congrArg List.length h
    simp [Ulay] at h2
    omega
theorem Uat_1 (x : KEdit) : ∀ j t, (Ulay 1)[j]? = some t → (Uacc 1 x j).t = t
  | 0, t, h => by simp only [Ulay, List.getElem?_cons_zero, List.getElem?_cons_succ, Option.some.injEq] at h; exact h
  | 1, t, h => by simp only [Ulay, List.getElem?_cons_zero, List.getElem?_cons_succ, Option.some.injEq] at h; exact h
  | 2, t, h => by simp only [Ulay, List.getElem?_cons_zero, List.getElem?_cons_succ, Option.some.injEq] at h; exact h
  | j + 3, t, h => by simp [Ulay] at h
theorem Uba_1 (l : List (Dyn UB)) (h : l.map Dyn.t = Ulay 1) : ∀ j d, l[j]? = some d → Uacc 1 (Ubd 1 l) j = d
  | 0, d, hd => by
    obtain ⟨v, rfl⟩ := Uty h hd (t := .int .i64) rfl
    show (⟨.int .i64, (gi (gt l 0))⟩ : Dyn UB) = _
    rw [gt_of hd]
    rfl
  | 1, d, hd => by
    obtain ⟨v, rfl⟩ := Uty h hd (t := .int .i64) rfl
    show (⟨.int .i64, (gi (gt l 1))⟩ : Dyn UB) = _
    rw [gt_of hd]
    rfl
  | 2, d, hd => by
    obtain ⟨v, rfl⟩ := Uty h hd (t := .list (.list (.int .i64))) rfl
    show (⟨.list (.list (.int .i64)), (ga (.list (.list (.int .i64))) (gt l 2))⟩ : Dyn UB) = _
    rw [gt_of hd, ga_self]
  | j + 3, d, hd => by
    have h1 := (List.getElem?_eq_some_iff.1 hd).1
    have h2 := congrArg List.length h
    simp [Ulay] at h2
    omega
theorem Uat : ∀ n (x : UB n) j t, (Ulay n)[j]? = some t → (Uacc n x j).t = t
  | 0, x => Uat_0 x
  | 1, x => Uat_1 x
  | _ + 2, x => fun j t h => by simp [Ulay] at h
theorem Uba : ∀ n l, l.map Dyn.t = Ulay n → ∀ j d, l[j]? = some d → Uacc n (Ubd n l) j = d
  | 0, l => Uba_0 l
  | 1, l => Uba_1 l
  | _ + 2, l => fun h j d hd => by
    have h1 := (List.getElem?_eq_some_iff.1 hd).1
    have h2 := congrArg List.length h
    simp [Ulay] at h2
    subst h2
    simp at h1
def Un : Uni := ⟨UB, Udft, Ulay, Uacc, Ubd, Uat, Uba⟩
@[simp] theorem ac_0_0 (x : Edit) : Un.acc 0 x 0 = ⟨.int .i64, x.at_⟩ := rfl
@[simp] theorem ad_0_0 (x : Un.B 0) : Un.acc 0 x 0 = ⟨.int .i64, let x : Edit := x; x.at_⟩ := rfl
@[simp] theorem fl_0_0 (x : Edit) : fldD (@Dyn.mk Un.B (.base 0) x) 0 = ⟨.int .i64, x.at_⟩ := rfl
@[simp] theorem fp_0_0 (x : Edit) : fldD (@Dyn.mk Un.B (.ptr (.base 0)) x) 0 = ⟨.int .i64, x.at_⟩ := rfl
@[simp] theorem ac_0_1 (x : Edit) : Un.acc 0 x 1 = ⟨.int .i64, x.cut⟩ := rfl
@[simp] theorem ad_0_1 (x : Un.B 0) : Un.acc 0 x 1 = ⟨.int .i64, let x : Edit := x; x.cut⟩ := rfl
@[simp] theorem fl_0_1 (x : Edit) : fldD (@Dyn.mk Un.B (.base 0) x) 1 = ⟨.int .i64, x.cut⟩ := rfl
@[simp] theorem fp_0_1 (x : Edit) : fldD (@Dyn.mk Un.B (.ptr (.base 0)) x) 1 = ⟨.int .i64, x.cut⟩ := rfl
@[simp] theorem ac_0_2 (x : Edit) : Un.acc 0 x 2 = ⟨.list (.str), x.put⟩ := rfl
@[simp] theorem ad_0_2 (x : Un.B 0) : Un.acc 0 x 2 = ⟨.list (.str), let x : Edit := x; x.put⟩ := rfl
@[simp] theorem fl_0_2 (x : Edit) : fldD (@Dyn.mk Un.B (.base 0) x) 2 = ⟨.list (.str), x.put⟩ := rfl
@[simp] theorem fp_0_2 (x : Edit) : fldD (@Dyn.mk Un.B (.ptr (.base 0)) x) 2 = ⟨.list (.str), x.put⟩ := rfl
theorem bdU_0 (a0 : Int) (a1 : Int) (a2 : List (List UInt8)) : Un.bd 0 [(⟨.int .i64, a0⟩ : Dyn UB), (⟨.int .i64, a1⟩ : Dyn UB), (⟨.list (.str), a2⟩ : Dyn UB)] = (Edit.mk a0 a1 a2) := by simp only [Un, Ubd, gt, List.getD_cons_zero, List.getD_cons_succ, ga_self, gi, gb, gs, gf, gc]
@[simp] theorem bd_0 (a0 : Int) (a1 : Int) (a2 : List (List UInt8)) : Un.bd 0 [@Dyn.mk Un.B (.int .i64) a0, @Dyn.mk Un.B (.int .i64) a1, @Dyn.mk Un.B (.list (.str)) a2] = (Edit.mk a0 a1 a2) := bdU_0 a0 a1 a2
@[simp] theorem ac_1_0 (x : KEdit) : Un.acc 1 x 0 = ⟨.int .i64, x.at_⟩ := rfl
@[simp] theorem ad_1_0 (x : Un.B 1) : Un.acc 1 x 0 = ⟨.int .i64, let x : KEdit := x; x.at_⟩ := rfl
@[simp] theorem fl_1_0 (x : KEdit) : fldD (@Dyn.mk Un.B (.base 1) x) 0 = ⟨.int .i64, x.at_⟩ := rfl
@[simp] theorem fp_1_0 (x : KEdit) : fldD (@Dyn.mk Un.B (.ptr (.base 1)) x) 0 = ⟨.int .i64, x.at_⟩ := rfl
@[simp] theorem ac_1_1 (x : KEdit) : Un.acc 1 x 1 = ⟨.int .i64, x.cut⟩ := rfl
@[simp] theorem ad_1_1 (x : Un.B 1) : Un.acc 1 x 1 = ⟨.int .i64, let x : KEdit := x; x.cut⟩ := rfl
@[simp] theorem fl_1_1 (x : KEdit) : fldD (@Dyn.mk Un.B (.base 1) x) 1 = ⟨.int .i64, x.cut⟩ := rfl
@[simp] theorem fp_1_1 (x : KEdit) : fldD (@Dyn.mk Un.B (.ptr (.base 1)) x) 1 = ⟨.int .i64, x.cut⟩ := rfl
@[simp] theorem ac_1_2 (x : KEdit) : Un.acc 1 x 2 = ⟨.list (.list (.int .i64)), x.put⟩ := rfl
@[simp] theorem ad_1_2 (x : Un.B 1) : Un.acc 1 x 2 = ⟨.list (.list (.int .i64)), let x : KEdit := x; x.put⟩ := rfl
@[simp] theorem fl_1_2 (x : KEdit) : fldD (@Dyn.mk Un.B (.base 1) x) 2 = ⟨.list (.list (.int .i64)), x.put⟩ := rfl
@[simp] theorem fp_1_2 (x : KEdit) : fldD (@Dyn.mk Un.B (.ptr (.base 1)) x) 2 = ⟨.list (.list (.int .i64)), x.put⟩ := rfl
theorem bdU_1 (a0 : Int) (a1 : Int) (a2 : List (List (Int))) : Un.bd 1 [(⟨.int .i64, a0⟩ : Dyn UB), (⟨.int .i64, a1⟩ : Dyn UB), (⟨.list (.list (.int .i64)), a2⟩ : Dyn UB)] = (KEdit.mk a0 a1 a2) := by simp only [Un, Ubd, gt, List.getD_cons_zero, List.getD_cons_succ, ga_self, gi, gb, gs, gf, gc]
@[simp] theorem bd_1 (a0 : Int) (a1 : Int) (a2 : List (List (Int))) : Un.bd 1 [@Dyn.mk Un.B (.int .i64) a0, @Dyn.mk Un.B (.int .i64) a1, @Dyn.mk Un.B (.list (.list (.int .i64))) a2] = (KEdit.mk a0 a1 a2) := bdU_1 a0 a1 a2
@[simp] theorem of_b0 (r : List In) (x : Edit) (l : List (Dyn Un.B)) : HL.of (insTys (.ty (.base 0) :: r)) (@Dyn.mk Un.B (.base 0) x :: l) = ((x, HL.of (insTys r) l) : HL Un (insTys (.ty (.base 0) :: r))) := of_ty (U := Un) (.base 0) r x l
@[simp] theorem as_b0 (x : Edit) : Dyn.as (.base 0) (@Dyn.mk Un.B (.base 0) x) = x := as_self (U := Un) (.base 0) x
@[simp] theorem of_l0 (r : List In) (x : List Edit) (l : List (Dyn Un.B)) : HL.of (insTys (.ty (.list (.base 0)) :: r)) (@Dyn.mk Un.B (.list (.base 0)) x :: l) = ((x, HL.of (insTys r) l) : HL Un (insTys (.ty (.list (.base 0)) :: r))) := of_ty (U := Un) (.list (.base 0)) r x l
@[simp] theorem as_l0 (x : List Edit) : Dyn.as (.list (.base 0)) (@Dyn.mk Un.B (.list (.base 0)) x) = x := as_self (U := Un) (.list (.base 0)) x
@[simp] theorem of_o0 (r : List In) (x : Option Edit) (l : List (Dyn Un.B)) : HL.of (insTys (.ty (.opt (.base 0)) :: r)) (@Dyn.mk Un.B (.opt (.base 0)) x :: l) = ((x, HL.of (insTys r) l) : HL Un (insTys (.ty (.opt (.base 0)) :: r))) := of_ty (U := Un) (.opt (.base 0)) r x l
@[simp] theorem as_o0 (x : Option Edit) : Dyn.as (.opt (.base 0)) (@Dyn.mk Un.B (.opt (.base 0)) x) = x := as_self (U := Un) (.opt (.base 0)) x
@[simp] theorem of_p0 (r : List In) (x : Edit) (l : List (Dyn Un.B)) : HL.of (insTys (.ty (.ptr (.base 0)) :: r)) (@Dyn.mk Un.B (.ptr (.base 0)) x :: l) = ((x, HL.of (insTys r) l) : HL Un (insTys (.ty (.ptr (.base 0)) :: r))) := of_ty (U := Un) (.ptr (.base 0)) r x l
@[simp] theorem as_p0 (x : Edit) : Dyn.as (.ptr (.base 0)) (@Dyn.mk Un.B (.ptr (.base 0)) x) = x := as_self (U := Un) (.ptr (.base 0)) x
@[simp] theorem of_b1 (r : List In) (x : KEdit) (l : List (Dyn Un.B)) : HL.of (insTys (.ty (.base 1) :: r)) (@Dyn.mk Un.B (.base 1) x :: l) = ((x, HL.of (insTys r) l) : HL Un (insTys (.ty (.base 1) :: r))) := of_ty (U := Un) (.base 1) r x l
@[simp] theorem as_b1 (x : KEdit) : Dyn.as (.base 1) (@Dyn.mk Un.B (.base 1) x) = x := as_self (U := Un) (.base 1) x
@[simp] theorem of_l1 (r : List In) (x : List KEdit) (l : List (Dyn Un.B)) : HL.of (insTys (.ty (.list (.base 1)) :: r)) (@Dyn.mk Un.B (.list (.base 1)) x :: l) = ((x, HL.of (insTys r) l) : HL Un (insTys (.ty (.list (.base 1)) :: r))) := of_ty (U := Un) (.list (.base 1)) r x l
@[simp] theorem as_l1 (x : List KEdit) : Dyn.as (.list (.base 1)) (@Dyn.mk Un.B (.list (.base 1)) x) = x := as_self (U := Un) (.list (.base 1)) x
@[simp] theorem of_o1 (r : List In) (x : Option KEdit) (l : List (Dyn Un.B)) : HL.of (insTys (.ty (.opt (.base 1)) :: r)) (@Dyn.mk Un.B (.opt (.base 1)) x :: l) = ((x, HL.of (insTys r) l) : HL Un (insTys (.ty (.opt (.base 1)) :: r))) := of_ty (U := Un) (.opt (.base 1)) r x l
@[simp] theorem as_o1 (x : Option KEdit) : Dyn.as (.opt (.base 1)) (@Dyn.mk Un.B (.opt (.base 1)) x) = x := as_self (U := Un) (.opt (.base 1)) x
@[simp] theorem of_p1 (r : List In) (x : KEdit) (l : List (Dyn Un.B)) : HL.of (insTys (.ty (.ptr (.base 1)) :: r)) (@Dyn.mk Un.B (.ptr (.base 1)) x :: l) = ((x, HL.of (insTys r) l) : HL Un (insTys (.ty (.ptr (.base 1)) :: r))) := of_ty (U := Un) (.ptr (.base 1)) r x l
@[simp] theorem as_p1 (x : KEdit) : Dyn.as (.ptr (.base 1)) (@Dyn.mk Un.B (.ptr (.base 1)) x) = x := as_self (U := Un) (.ptr (.base 1)) x
@[simp] theorem of_s0 (obs : List IO) (r : List In) (x : Edit) (l : List (Dyn Un.B)) : HL.of (insTys (.st 0 obs :: r)) (@Dyn.mk Un.B (.base 0) x :: l) = ((x, HL.of (insTys r) l) : HL Un (insTys (.st 0 obs :: r))) := of_ty (U := Un) (.base 0) r x l
@[simp] theorem of_s1 (obs : List IO) (r : List In) (x : KEdit) (l : List (Dyn Un.B)) : HL.of (insTys (.st 1 obs :: r)) (@Dyn.mk Un.B (.base 1) x :: l) = ((x, HL.of (insTys r) l) : HL Un (insTys (.st 1 obs :: r))) := of_ty (U := Un) (.base 1) r x l
theorem hasLt_0 : ∀ m, m < 0 → ∀ x : Un.B m, Has Un ⟨.base m, x⟩ := fun m h => by omega
theorem has_0 (x : Un.B 0) : Has Un ⟨.base 0, x⟩ := has_base (U := Un) (n := 0) (hasLt_0) x fun j t h => by
  have : ((Ulay 0).all fun t => noBase t && tyBelow 0 t) = true := by decide
  have := List.all_eq_true.1 this t (List.mem_of_getElem? h)
  rw [Bool.and_eq_true] at this
  exact ⟨this.1, .inl this.2⟩
theorem hasLt_1 : ∀ m, m < 1 → ∀ x : Un.B m, Has Un ⟨.base m, x⟩
  | 0, _, x => has_0 x
  | m + 1, h, _ => by omega
theorem has_1 (x : Un.B 1) : Has Un ⟨.base 1, x⟩ := has_base (U := Un) (n := 1) (hasLt_1) x fun j t h => by
  have : ((Ulay 1).all fun t => noBase t && tyBelow 1 t) = true := by decide
  have := List.all_eq_true.1 this t (List.mem_of_getElem? h)
  rw [Bool.and_eq_true] at this
  exact ⟨this.1, .inl this.2⟩
theorem hasAll : ∀ m, ∀ x : Un.B m, Has Un ⟨.base m, x⟩
  | 0, x => has_0 x
  | 1, x => has_1 x
  | m + 2, _ => ⟨[], rfl⟩
instance : FullU Un := ⟨fun d => by
  obtain ⟨t, x⟩ := d
  have key : ∀ (t : Ty), ∃ n, tyBelow n t = true := fun t => by
    induction t with
    | list t ih => exact ih
    | ptr t ih => exact ih
    | opt t ih => exact ih
    | base m => exact ⟨m + 1, by show Nat.blt m (m + 1) = true; unfold Nat.blt; rw [Nat.ble_eq]; omega⟩
    | _ => exact ⟨0, rfl⟩
  obtain ⟨n, h⟩ := key t
  exact has_ty (fun m _ x => hasAll m x) t h x⟩
end Go.Dm.Sx
namespace Go.Proofs.YtpoegfkajdbplaaDoor
open Go.Dm Go.Dm.Sx
set_option linter.unusedVariables false
def tyL : List (Option Ty) := [none, none, some (.int .i64), some (.int .i64), some (.bool), some (.int .u8), some (.int .u8), none, none, some (.str), some (.str), some (.str), some (.int .u64), none, none, none, none, none, none, none, none, some (.int .i32), some (.list (.list (.int .i64))), none, some (.base 1), some (.list (.str)), none, none, some (.base 0), none, some (.int .i64), none, none, none, none, some (.list (.int .u8)), none, none, none, none, none, none, none, some (.list (.base 1)), some (.list (.base 0)), none, none, none, none, some (.list (.int .i64)), none, none, none, none, none, none, none, none, none, none, none, none, none, some (.list (.list (.str))), none, none, none, none, none, some (.opt (.int .u8)), none, none, none, none, none, none, none, none, none, none, some (.int .u64), some (.int .u32), none, none, none, none, none, none, none, none, none, none, none, none, some (.int .u8), some (.int .u8), none, some (.int .i32), some (.int .i32), none, none]
def tyO (t : Nat) : Option Ty := match nth tyL t with | some x => x | none => none
end Go.Proofs.YtpoegfkajdbplaaDoor
namespace Go.Proofs.YtpoegfkajdbplaaDoor
open Go.Dm Go.Dm.Sx
set_option linter.unusedVariables false
set_option linter.unusedSimpArgs false
abbrev DI (n : Int) : Dyn Un.B := ⟨.int .i64, n⟩
abbrev DK (k : IntKind) (n : Int) : Dyn Un.B := ⟨.int k, n⟩
abbrev DB (n : Bool) : Dyn Un.B := ⟨.bool, n⟩
abbrev DS (n : List UInt8) : Dyn Un.B := ⟨.str, n⟩
abbrev DL (t : Ty) (l : List (T Un.B t)) : Dyn Un.B := ⟨.list t, l⟩
abbrev Str := List UInt8
noncomputable abbrev X (Sp : List (FSpec Un)) (inl : List (Ent Tryd.prog tb (stlW tb)) := []) (sm : List Nat := []) : SEnv := XE Un tyO Sp inl sm
abbrev tI : In := .ty (.int .i64)
abbrev tU : In := .ty (.int .u8)
abbrev tS : In := .ty .str
abbrev tLS : In := .ty (.list .str)
abbrev tLI : In := .ty (.list (.int .i64))
abbrev oI : Ty := .int .i64
def within (n lo hi : Int) : Int := lo + n % (hi - lo + 1)
noncomputable def k_Within : Wk (X []) w_glossbook_Within.F [tI, tI, tI] [oI] := ⟨_, by cbv, _, by cbv, _, by cbv⟩
def s_Within : FSpec Un := ⟨⟨f_glossbook_Within, [tI, tI, tI], [oI]⟩, fun ((n : Int), (lo : Int), (hi : Int), _) => -1152921504606846976 ≤ lo ∧ lo ≤ hi ∧ hi ≤ 1152921504606846976, fun (n, lo, hi, _) => [DI (within n lo hi)], fun _ => rfl⟩
theorem tmod_emod {a m : Int} (hm : 0 < m) : (a.tmod m < 0 → a.tmod m + m = a % m) ∧ (0 ≤ a.tmod m → a.tmod m = a % m) ∧ -m < a.tmod m ∧ a.tmod m < m := by
  have h1 := Int.tmod_eq_emod (a := a) (b := m)
  have h2 := Int.emod_nonneg a (show m ≠ 0 by omega)
  have h3 := Int.emod_lt_of_pos a hm
  have h4 : (m.natAbs : Int) = m := by omega
  split at h1 <;> refine ⟨fun h => ?_, fun h => ?_, ?_, ?_⟩ <;> omega
theorem within_ok : FGood Tryd.prog s_Within := by
  refine Wk.ok mixed tok (envOk .nil [] no_same) w_glossbook_Within k_Within rfl rfl ?_
  rintro ⟨(n : Int), (lo : Int), (hi : Int), _⟩ hpre R hR Go hGo
  replace hR : R = [DI (within n lo hi)] := hR
  replace hpre : -1152921504606846976 ≤ lo ∧ lo ≤ hi ∧ hi ≤ 1152921504606846976 := hpre
  show TDen _ _ _ _ [DI n, DI lo, DI hi]
  simp [k_Within, TDen, Tm.den, nthD, in64, hR, within]
  obtain ⟨h1, h2, h3⟩ := hpre
  have hm : 0 < hi - lo + 1 := by omega
  obtain ⟨t1, t2, t3, t4⟩ := tmod_emod (a := n) hm
  refine ⟨by omega, by omega, by omega, fun h => ⟨?_, ?_, ?_, ?_, ?_⟩, fun h => ⟨?_, ?_⟩⟩ <;> omega
theorem within_in {n lo hi : Int} (h : lo ≤ hi) : lo ≤ within n lo hi ∧ within n lo hi ≤ hi := by
  have h2 := Int.emod_nonneg n (show hi - lo + 1 ≠ 0 by omega)
  have h3 := Int.emod_lt_of_pos n (show 0 < hi - lo + 1 by omega)
  unfold within
  omega
noncomputable def k_SameS : Wk (X []) w_glossbook_Same_string.F [tLS, tLS] [.bool] := ⟨_, by cbv, _, by cbv, _, by cbv⟩
def s_SameS : FSpec Un := ⟨⟨f_glossbook_Same_string, [tLS, tLS], [.bool]⟩, fun (a, b, _) => List.length a ≤ 1000000, fun (a, b, _) => [DB (decide (a = b))], fun _ => rfl⟩
theorem sameS_ok : FGood Tryd.prog s_SameS := by
  refine Wk.ok mixed tok (envOk .nil [] no_same) w_glossbook_Same_string k_SameS rfl rfl ?_
  rintro ⟨(a : List Str), (b : List Str), _⟩ hpre R hR Go hGo
  replace hR : R = [DB (decide (a = b))] := hR
  replace hpre : a.length ≤ 1000000 := hpre
  show TDen _ _ _ _ [DL .str a, DL .str b]
  simp [k_SameS, TDen, Tm.den, nthD]
  refine ⟨fun h => ?_, fun h => ?_⟩
  · rw [hR, decide_eq_false]; intro e; rw [e] at h; exact h rfl
  · refine hGo 0 _ rfl Nat (fun i => [DL .str a, DL .str b, DI i]) (fun i => i ≤ a.length ∧ ∀ j, j < i → a[j]? = b[j]?) (fun i => a.length - i) (fun i hI ih => ?_) 0 ⟨Nat.zero_le _, fun j hj => by omega⟩
    simp [TDen, Tm.den, nthD]
    obtain ⟨hi, hs⟩ := hI
    have hab : a.length = b.length := by omega
    refine ⟨fun h1 => ⟨h1, fun x hx => ⟨by omega, fun y hy => ⟨fun hne => ?_, fun he => ⟨by simp only [in64]; omega, ?_⟩⟩⟩⟩, fun h1 => ?_⟩
    · rw [hR, decide_eq_false]; rintro rfl; rw [hx] at hy; exact hne (Option.some.inj hy)
    · refine ih (i + 1) (by omega) ⟨by omega, fun j hj => ?_⟩
      rcases Nat.lt_succ_iff_lt_or_eq.1 hj with hj | rfl
      · exact hs j hj
      · rw [hx, hy, he]
    · rw [hR, decide_eq_true]
      apply List.ext_getElem?
      intro j
      by_cases hj : j < i
      · exact hs j hj
      · rw [List.getElem?_eq_none (by omega), List.getElem?_eq_none (by omega)]
end Go.Proofs.YtpoegfkajdbplaaDoor
namespace Go.Proofs.YtpoegfkajdbplaaDoor
open Go.Dm Go.Dm.Sx
set_option linter.unusedVariables false
set_option linter.unusedSimpArgs false
def keepB (n : Int) : UInt8 := ([97, 98, 97, 99, 98, 46, 97, 32] : List UInt8).getD (within n 0 7).toNat 0
def keepText (l : List Int) (most : Int) : Str := (l.take most.toNat).map keepB
theorem keepText_succ {l : List Int} {i : Nat} {x : Int} (h : l[i]? = some x) : keepText l (i + 1 : Nat) = keepText l i ++ [keepB x] := by
  unfold keepText
  rw [Int.toNat_natCast, Int.toNat_natCast, List.take_add_one, h]; simp
theorem keepText_all {l : List Int} {i : Nat} {most : Int} (h : l.length ≤ i) (hm : (i : Int) ≤ most) : keepText l i = keepText l most := by
  unfold keepText
  rw [List.take_of_length_le (by omega), List.take_of_length_le (by omega)]
theorem keepText_len {l : List Int} {i : Int} (h : 0 ≤ i) : (keepText l i).length ≤ i := by
  unfold keepText; rw [List.length_map, List.length_take]; omega
noncomputable def k_Text : Wk (X [s_Within]) w_glosskeep_Text.F [tLI, tI] [.str] := ⟨_, by cbv, _, by cbv, _, by cbv⟩
def s_Text : FSpec Un := ⟨⟨f_glosskeep_Text, [tLI, tI], [.str]⟩, fun (l, (most : Int), _) => 0 ≤ most ∧ most ≤ 1000000, fun (l, most, _) => [DS (keepText l most)], fun _ => rfl⟩
theorem keepB_of {x y : Int} (h : ([97, 98, 97, 99, 98, 46, 97, 32] : List Int)[(within x 0 7).toNat]? = some y) : [y] = List.map (fun (b : UInt8) => (b.toNat : Int)) [keepB x] := by
  unfold keepB
  have hw := within_in (n := x) (lo := 0) (hi := 7) (by decide)
  generalize within x 0 7 = w at *
  obtain ⟨w, rfl⟩ : ∃ k : Nat, w = k := ⟨w.toNat, by omega⟩
  rw [Int.toNat_natCast] at *
  have : w = 0 ∨ w = 1 ∨ w = 2 ∨ w = 3 ∨ w = 4 ∨ w = 5 ∨ w = 6 ∨ w = 7 := by omega
  rcases this with rfl | rfl | rfl | rfl | rfl | rfl | rfl | rfl <;> (simp at h; subst h; rfl)
theorem text_ok : FGood Tryd.prog s_Text := by
  refine Wk.ok mixed tok (envOk (.cons within_ok .nil) [] no_same) w_glosskeep_Text k_Text rfl rfl ?_
  rintro ⟨(l : List Int), (most : Int), _⟩ hpre R hR Go hGo
  replace hR : R = [DS (keepText l most)] := hR
  replace hpre : 0 ≤ most ∧ most ≤ 1000000 := hpre
  show TDen _ _ _ _ [DL oI l, DI most]
  simp [k_Text, TDen, Tm.den, nthD]
  refine hGo 0 _ rfl Nat (fun i => [DL oI l, DI most, DS (keepText l i), DI i]) (fun i => (i : Int) ≤ most ∧ i ≤ l.length) (fun i => l.length - i) (fun i hI ih => ?_) 0 ⟨by omega, by omega⟩
  simp [TDen, Tm.den, nthD, s_Within, in64]
  obtain ⟨h1, h2⟩ := hI
  have hl := keepText_len (l := l) (i := i) (by omega)
  refine ⟨fun hi => ⟨fun hm => ⟨hi, fun x hx => ⟨?_, fun y hy => ⟨[keepB x], keepB_of hy, by simp; omega, by omega, ?_⟩⟩⟩, fun hm => ?_⟩, fun hi => ?_⟩
  · have := within_in (n := x) (lo := 0) (hi := 7) (by decide); omega
  · have := ih (i + 1) (by omega) ⟨by omega, by omega⟩
    rw [← keepText_succ hx]; exact this
  · rw [hR, show most = i by omega]
  · rw [hR, keepText_all hi h1]
def keepLines (l : List (List Int)) : List Str := (l.take 12).map (keepText · 6)
theorem keepLines_succ {l : List (List Int)} {i : Nat} {x : List Int} (h : l[i]? = some x) (hi : i < 12) : keepLines (l.take (i + 1)) = keepLines (l.take i) ++ [keepText x 6] := by
  unfold keepLines
  rw [List.take_take, List.take_take, show min 12 (i + 1) = i + 1 by omega, show min 12 i = i by omega, List.take_add_one, h]; simp
noncomputable def k_Lines : Wk (X [s_Text]) w_glosskeep_Lines.F [.ty (.list (.list oI))] [.list .str] := ⟨_, by cbv, _, by cbv, _, by cbv⟩
def s_Lines : FSpec Un := ⟨⟨f_glosskeep_Lines, [.ty (.list (.list oI))], [.list .str]⟩, fun (l, _) => True, fun (l, _) => [DL .str (keepLines l)], fun _ => rfl⟩
theorem lines_ok : FGood Tryd.prog s_Lines := by
  refine Wk.ok mixed tok (envOk (.cons text_ok .nil) [] no_same) w_glosskeep_Lines k_Lines rfl rfl ?_
  rintro ⟨(l : List (List Int)), _⟩ hpre R hR Go hGo
  replace hR : R = [DL .str (keepLines l)] := hR
  clear hpre
  show TDen _ _ _ _ [DL (.list oI) l]
  simp [k_Lines, TDen, Tm.den, nthD]
  refine hGo 0 _ rfl Nat (fun i => [DL (.list oI) l, DI i, DL .str (keepLines (l.take i))]) (fun i => i ≤ 12 ∧ i ≤ l.length) (fun i => l.length - i) (fun i hI ih => ?_) 0 ⟨by omega, by omega⟩
  simp [TDen, Tm.den, nthD, s_Text, in64]
  obtain ⟨h1, h2⟩ := hI
  have hl : (keepLines (l.take i)).length ≤ 12 := by unfold keepLines; simp; omega
  refine ⟨fun hi => ⟨fun hm => ⟨hi, fun x hx => ⟨by omega, by omega, by omega, ?_⟩⟩, fun hm => ?_⟩, fun hi => ?_⟩
  · have := ih (i + 1) (by omega) ⟨by omega, by omega⟩
    rw [keepLines_succ hx (by omega)] at this; exact this
  · rw [hR]; unfold keepLines; rw [List.take_take, show min 12 i = 12 by omega]
  · rw [hR, List.take_of_length_le hi]
noncomputable def k_KEdit : Wk (X [s_Text, s_Within]) w_glosskeep_Edit_Edit.F [.ty (.base 1), tI] [.base 0] := ⟨_, by cbv, _, by cbv, _, by cbv⟩
def keepEdit (k : KEdit) (n : Int) : Edit :=
  let a := within k.at_ 0 n
  ⟨a, within k.cut 0 (min (n - a) 3), if n < 40 then (k.put.take 3).map (keepText · 6) else []⟩
def s_KEdit : FSpec Un := ⟨⟨f_glosskeep_Edit_Edit, [.ty (.base 1), tI], [.base 0]⟩, fun (k, (n : Int), _) => 0 ≤ n ∧ n ≤ 1000000, fun (k, n, _) => [⟨.base 0, keepEdit k n⟩], fun _ => rfl⟩
theorem kedit_ok : FGood Tryd.prog s_KEdit := by
  refine Wk.ok mixed tok (envOk (.cons text_ok (.cons within_ok .nil)) [] no_same) w_glosskeep_Edit_Edit k_KEdit rfl rfl ?_
  rintro ⟨(k : KEdit), (n : Int), _⟩ hpre R hR Go hGo
  replace hR : R = [⟨.base 0, keepEdit k n⟩] := hR
  replace hpre : 0 ≤ n ∧ n ≤ 1000000 := hpre
  show TDen _ _ _ _ [⟨.base 1, k⟩, DI n]
  simp [k_KEdit, TDen, Tm.den, nthD, s_Within, in64]
  have ha := within_in (n := k.at_) (lo := 0) (hi := n) hpre.1
  have hc := within_in (n := k.cut) (lo := 0) (hi := min (n - within k.at_ 0 n) 3) (by omega)
  generalize ha' : within k.at_ 0 n = a at *
  have hmn : min (n - a) 3 ≤ n - a ∧ min (n - a) 3 ≤ 3 ∧ 0 ≤ min (n - a) 3 := by omega
  generalize hc' : within k.cut 0 (min (n - a) 3) = b at *
  refine ⟨?_, ?_, ?_, ?_⟩
  iterate 3 omega
  refine hGo 0 _ rfl Nat (fun i => [DI n, DI i, DI k.at_, DI k.cut, DL (.list oI) k.put, DI 0, DI 0, DI a, DI b, DL .str ((k.put.take i).map (keepText · 6))]) (fun i => i ≤ 3 ∧ i ≤ k.put.length ∧ (n < 40 ∨ i = 0)) (fun i => k.put.length - i) (fun i hI ih => ?_) 0 ⟨by omega, by omega, by omega⟩
  simp [TDen, Tm.den, nthD, s_Text, in64]
  obtain ⟨h1, h2, h3⟩ := hI
  have hfin : (i = 3 ∨ i = k.put.length ∨ 40 ≤ n) → [(⟨.base 0, Edit.mk a b (List.take i (List.map (fun x => keepText x 6) k.put))⟩ : Dyn Un.B)] = R := fun h => by
    rw [hR]
    unfold keepEdit
    simp only [ha', hc', List.map_take]
    by_cases hn : n < 40
    · rw [if_pos hn]
      rcases h with rfl | rfl | h
      · rfl
      · rw [List.take_of_length_le (by simp), List.take_of_length_le (by simp; omega)]
      · omega
    · rw [if_neg hn]
      rcases h3 with h3 | rfl
      · omega
      · rfl
  refine ⟨fun hi => ⟨fun hm => ⟨fun hn => ⟨hi, fun x hx => ⟨by omega, by omega, by omega, ?_⟩⟩, fun hn x e => by subst e; exact hfin (by omega)⟩, fun hm x e => by subst e; exact hfin (by omega)⟩, fun hi x e => by subst e; exact hfin (by omega)⟩
  have := ih (i + 1) (by omega) ⟨by omega, by omega, by omega⟩
  rw [List.take_add_one, hx] at this
  simpa using this
end Go.Proofs.YtpoegfkajdbplaaDoor
namespace Go.Proofs.YtpoegfkajdbplaaDoor
open Go.Dm Go.Dm.Sx
set_option linter.unusedVariables false
set_option linter.unusedSimpArgs false
theorem extIdx : Ext Tryd.prog f_internal_bytealg_IndexByteString Extern.BytealgIndexByte.indexByte := ext_of Tryd.func49 (by kernel_rfl) (by kernel_rfl) (by kernel_rfl) (by kernel_rfl)
def s_IndexByteString : FSpec Un := sIndexByte f_internal_bytealg_IndexByteString
theorem indexByteString_ok : FGood Tryd.prog s_IndexByteString := indexByte_ok extIdx
noncomputable def k_IndexByte : Wk (X [s_IndexByteString]) w_internal_stringslite_IndexByte.F [tS, tU] [oI] := ⟨_, by cbv, _, by cbv, _, by cbv⟩
def s_IndexByte : FSpec Un := ⟨⟨f_internal_stringslite_IndexByte, [tS, tU], [oI]⟩, fun (s, (c : Int), _) => 0 ≤ c ∧ c < 256, fun (s, c, _) => [DI (idxFrom (Int.toNat c) s 0)], fun _ => rfl⟩
theorem indexByte_ok' : FGood Tryd.prog s_IndexByte := by
  refine Wk.ok mixed tok (envOk (.cons indexByteString_ok .nil) [] no_same) w_internal_stringslite_IndexByte k_IndexByte rfl rfl ?_
  rintro ⟨(s : Str), (c : Int), _⟩ hpre R hR Go hGo
  replace hR : R = [DI (idxFrom c.toNat s 0)] := hR
  replace hpre : 0 ≤ c ∧ c < 256 := hpre
  show TDen _ _ _ _ [DS s, DK .u8 c]
  simp [k_IndexByte, TDen, Tm.den, nthD, s_IndexByteString, sIndexByte]
  exact ⟨hpre, hR.symm⟩
noncomputable def k_SIndex : Wk (X [s_IndexByte]) w_internal_stringslite_Index.F [tS, tS] [oI] := ⟨_, by cbv, _, by cbv, _, by cbv⟩
def idx1 (s sub : Str) : Int := idxFrom (sub.headD 0).toNat s 0
def s_SIndex : FSpec Un := ⟨⟨f_internal_stringslite_Index, [tS, tS], [oI]⟩, fun (s, (sub : Str), _) => sub.length = 1, fun (s, sub, _) => [DI (idx1 s sub)], fun _ => rfl⟩
theorem sIndex_ok : FGood Tryd.prog s_SIndex := by
  refine Wk.ok mixed tok (envOk (.cons indexByte_ok' .nil) [] no_same) w_internal_stringslite_Index k_SIndex rfl rfl ?_
  rintro ⟨(s : Str), (sub : Str), _⟩ hpre R hR Go hGo
  replace hR : R = [DI (idx1 s sub)] := hR
  replace hpre : sub.length = 1 := hpre
  obtain ⟨c, rfl⟩ := List.length_eq_one_iff.1 hpre
  show TDen _ _ _ _ [DS s, DS [c]]
  simp [k_SIndex, TDen, Tm.den, nthD, s_IndexByte]
  refine ⟨fun h => ?_, fun h => ⟨by have := c.toNat_lt; omega, hR.symm⟩⟩
  subst h
  rw [hR]
  simp [idx1, idxFrom]
noncomputable def k_Index : Wk (X [s_SIndex]) w_strings_Index.F [tS, tS] [oI] := ⟨_, by cbv, _, by cbv, _, by cbv⟩
def s_Index : FSpec Un := ⟨⟨f_strings_Index, [tS, tS], [oI]⟩, fun (s, (sub : Str), _) => sub.length = 1, fun (s, sub, _) => [DI (idx1 s sub)], fun _ => rfl⟩
theorem index_ok : FGood Tryd.prog s_Index := by
  refine Wk.ok mixed tok (envOk (.cons sIndex_ok .nil) [] no_same) w_strings_Index k_Index rfl rfl ?_
  rintro ⟨(s : Str), (sub : Str), _⟩ hpre R hR Go hGo
  replace hR : R = [DI (idx1 s sub)] := hR
  replace hpre : sub.length = 1 := hpre
  show TDen _ _ _ _ [DS s, DS sub]
  simp [k_Index, TDen, Tm.den, nthD, s_SIndex]
  exact ⟨hpre, hR.symm⟩
noncomputable def k_Contains : Wk (X [s_Index]) w_strings_Contains.F [tS, tS] [.bool] := ⟨_, by cbv, _, by cbv, _, by cbv⟩
def s_Contains : FSpec Un := ⟨⟨f_strings_Contains, [tS, tS], [.bool]⟩, fun (s, (sub : Str), _) => sub.length = 1, fun (s, sub, _) => [DB (decide (0 ≤ idx1 s sub))], fun _ => rfl⟩
theorem contains_ok : FGood Tryd.prog s_Contains := by
  refine Wk.ok mixed tok (envOk (.cons index_ok .nil) [] no_same) w_strings_Contains k_Contains rfl rfl ?_
  rintro ⟨(s : Str), (sub : Str), _⟩ hpre R hR Go hGo
  replace hR : R = [DB (decide (0 ≤ idx1 s sub))] := hR
  replace hpre : sub.length = 1 := hpre
  show TDen _ _ _ _ [DS s, DS sub]
  simp [k_Contains, TDen, Tm.den, nthD, s_Index]
  exact ⟨hpre, hR.symm⟩
theorem idxFrom_nonneg {c : Nat} : ∀ {s : Str} {i : Nat}, 0 ≤ idxFrom c s i ↔ ∃ x ∈ s, x.toNat = c
  | [], i => by simp [idxFrom]
  | x :: r, i => by
    simp only [idxFrom]
    split
    · rename_i h
      have h := beq_nat h
      simp [h]
    · rename_i h
      have h : x.toNat ≠ c := fun e => by subst e; rw [Nat.beq_refl] at h; cases h
      rw [idxFrom_nonneg]
      simp [h]
def badLine (l : Str) : Bool := decide (20 < l.length) || decide ((10 : UInt8) ∈ l)
theorem idx1_mem {s : Str} : (0 ≤ idx1 s [10]) ↔ (10 : UInt8) ∈ s := by
  unfold idx1
  rw [idxFrom_nonneg]
  constructor
  · rintro ⟨x, hx, h⟩
    have : x = 10 := UInt8.toNat_inj.1 h
    exact this ▸ hx
  · exact fun h => ⟨10, h, rfl⟩
noncomputable def k_Bad : Wk (X [s_Contains]) w_run_Lines_1.F [tS] [.bool] := ⟨_, by cbv, _, by cbv, _, by cbv⟩
def s_Bad : FSpec Un := ⟨⟨f_run_Lines_1, [tS], [.bool]⟩, fun _ => True, fun (s, _) => [DB (badLine s)], fun _ => rfl⟩
theorem bad_ok : FGood Tryd.prog s_Bad := by
  refine Wk.ok mixed tok (envOk (.cons contains_ok .nil) [] no_same) w_run_Lines_1 k_Bad rfl rfl ?_
  rintro ⟨(s : Str), _⟩ hpre R hR Go hGo
  replace hR : R = [DB (badLine s)] := hR
  show TDen _ _ _ _ [DS s]
  simp [k_Bad, TDen, Tm.den, nthD, s_Contains]
  refine ⟨fun h => ?_, fun h => ?_⟩
  · rw [hR]; simp only [badLine, decide_eq_true (show 20 < s.length by omega), Bool.true_or]
  · rw [hR]; simp only [badLine, decide_eq_false (show ¬ 20 < s.length by omega), Bool.false_or]; rw [decide_eq_decide.2 idx1_mem]
def badIdx (l : List Str) : Int := match l.findIdx? badLine with | some i => i | none => -1
theorem badIdx_some {l : List Str} {i : Nat} (hi : i < l.length) (hb : badLine l[i] = true) (h : ∀ j (h : j < l.length), j < i → badLine l[j] = false) : badIdx l = i := by
  unfold badIdx
  rw [List.findIdx?_eq_some_iff_getElem.2 ⟨hi, hb, fun j hj => by rw [h j (by omega) hj]; simp⟩]
theorem badIdx_none {l : List Str} (h : ∀ j (h : j < l.length), badLine l[j] = false) : badIdx l = -1 := by
  unfold badIdx
  rw [List.findIdx?_eq_none_iff.2 fun x hx => by
    obtain ⟨j, hj, rfl⟩ := List.getElem_of_mem hx
    exact h j hj]
theorem badIdx_any {l : List Str} : decide (0 ≤ badIdx l) = l.any badLine := by
  unfold badIdx
  cases h : l.findIdx? badLine with
  | none =>
    have := List.findIdx?_eq_none_iff.1 h
    have h2 : l.any badLine = false := by rw [List.any_eq_false]; intro x hx; rw [this x hx]; simp
    rw [h2]; rfl
  | some i =>
    obtain ⟨hi, hb, _⟩ := List.findIdx?_eq_some_iff_getElem.1 h
    have h2 : l.any badLine = true := by rw [List.any_eq_true]; exact ⟨_, List.getElem_mem hi, hb⟩
    rw [h2]; simp
noncomputable def k_IndexFunc : Wk (X [s_Bad]) w_slices_IndexFunc_string_string.F [tLS, .fnc f_run_Lines_1] [oI] := ⟨_, by cbv, _, by cbv, _, by cbv⟩
def s_IndexFunc : FSpec Un := ⟨⟨f_slices_IndexFunc_string_string, [tLS, .fnc f_run_Lines_1], [oI]⟩, fun ((l : List Str), _) => l.length ≤ 1000000, fun (l, _) => [DI (badIdx l)], fun _ => rfl⟩
theorem indexFunc_ok : FGood Tryd.prog s_IndexFunc := by
  refine Wk.ok mixed tok (envOk (.cons bad_ok .nil) [] no_same) w_slices_IndexFunc_string_string k_IndexFunc rfl rfl ?_
  rintro ⟨(l : List Str), _⟩ hpre R hR Go hGo
  replace hR : R = [DI (badIdx l)] := hR
  replace hpre : l.length ≤ 1000000 := hpre
  show TDen _ _ _ _ [DL .str l]
  simp [k_IndexFunc, TDen, Tm.den, nthD]
  refine hGo 0 _ rfl Nat (fun i => [DL .str l, DI l.length, DI i]) (fun i => i ≤ l.length ∧ ∀ j (h : j < l.length), j < i → badLine l[j] = false) (fun i => l.length - i) (fun i hI ih => ?_) 0 ⟨by omega, fun j h hj => by omega⟩
  simp [TDen, Tm.den, nthD, s_Bad, in64]
  obtain ⟨h1, h2⟩ := hI
  refine ⟨fun hi => ⟨hi, fun x hx => ?_⟩, fun hi => ?_⟩
  · have hxi : l[i] = x := (List.getElem?_eq_some_iff.1 hx).2
    refine ⟨fun hb => ?_, fun hb => ?_⟩
    · rw [hR, badIdx_some hi (hxi ▸ hb) h2]
    · refine ⟨by omega, ih (i + 1) (by omega) ⟨by omega, fun j h hj => ?_⟩⟩
      rcases Nat.lt_succ_iff_lt_or_eq.1 hj with hj | rfl
      · exact h2 j h hj
      · rw [hxi]; exact hb
  · rw [hR, badIdx_none fun j h => h2 j h (by omega)]
def okLines (l : List Str) : Bool := decide (l.length ≤ 60) && l.all fun x => !badLine x
noncomputable def k_ContainsFunc : Wk (X [s_IndexFunc]) w_slices_ContainsFunc_string_string.F [tLS, .fnc f_run_Lines_1] [.bool] := ⟨_, by cbv, _, by cbv, _, by cbv⟩
def s_ContainsFunc : FSpec Un := ⟨⟨f_slices_ContainsFunc_string_string, [tLS, .fnc f_run_Lines_1], [.bool]⟩, fun ((l : List Str), _) => l.length ≤ 1000000, fun ((l : List Str), _) => [DB (l.any badLine)], fun _ => rfl⟩
theorem containsFunc_ok : FGood Tryd.prog s_ContainsFunc := by
  refine Wk.ok mixed tok (envOk (.cons indexFunc_ok .nil) [] no_same) w_slices_ContainsFunc_string_string k_ContainsFunc rfl rfl ?_
  rintro ⟨(l : List Str), _⟩ hpre R hR Go hGo
  replace hR : R = [DB (l.any badLine)] := hR
  show TDen _ _ _ _ [DL .str l]
  simp [k_ContainsFunc, TDen, Tm.den, nthD, s_IndexFunc]
  exact ⟨hpre, by rw [hR, badIdx_any]⟩
noncomputable def k_RunLines : Wk (X [s_ContainsFunc]) w_run_Lines.F [tLS] [.bool] := ⟨_, by cbv, _, by cbv, _, by cbv⟩
def s_RunLines : FSpec Un := ⟨⟨f_run_Lines, [tLS], [.bool]⟩, fun ((l : List Str), _) => True, fun ((l : List Str), _) => [DB (okLines l)], fun _ => rfl⟩
theorem runLines_ok : FGood Tryd.prog s_RunLines := by
  refine Wk.ok mixed tok (envOk (.cons containsFunc_ok .nil) [] no_same) w_run_Lines k_RunLines rfl rfl ?_
  rintro ⟨(l : List Str), _⟩ hpre R hR Go hGo
  replace hR : R = [DB (okLines l)] := hR
  show TDen _ _ _ _ [DL .str l]
  simp [k_RunLines, TDen, Tm.den, nthD, s_ContainsFunc]
  unfold okLines at hR
  have he : l.any badLine = !l.all fun x => !badLine x := by rw [List.not_all_eq_any_not]; simp
  refine ⟨fun h => ?_, fun h => ?_⟩
  · exact ⟨by omega, by rw [hR, he, decide_eq_true (by omega)]; simp⟩
  · rw [hR, decide_eq_false (by omega)]; rfl
end Go.Proofs.YtpoegfkajdbplaaDoor
namespace Go.Proofs.YtpoegfkajdbplaaDoor
open Go.Dm Go.Dm.Sx
set_option linter.unusedVariables false
set_option linter.unusedSimpArgs false
theorem flat_le (l : List (List Str)) (i : Nat) : (l.take i).flatten.length ≤ l.flatten.length := by
  conv => rhs; rw [← List.take_append_drop i l, List.flatten_append, List.length_append]
  omega
theorem flat_succ {l : List (List Str)} {i : Nat} {x : List Str} (h : l[i]? = some x) : (l.take (i + 1)).flatten = (l.take i).flatten ++ x := by
  rw [List.take_add_one, h]; simp
noncomputable def k_Concat : Wk (X [] [w_slices_Grow_string_string]) w_slices_Concat_string_string.F [.ty (.list (.list .str))] [.list .str] := ⟨_, by cbv, _, by cbv, _, by cbv⟩
def s_Concat : FSpec Un := ⟨⟨f_slices_Concat_string_string, [.ty (.list (.list .str))], [.list .str]⟩, fun ((l : List (List Str)), _) => l.flatten.length ≤ 1000000 ∧ l.length ≤ 1000000, fun ((l : List (List Str)), _) => [DL .str l.flatten], fun _ => rfl⟩
theorem concat_ok : FGood Tryd.prog s_Concat := by
  refine Wk.ok mixed tok (envOk .nil [w_slices_Grow_string_string] no_same) w_slices_Concat_string_string k_Concat rfl rfl ?_
  rintro ⟨(l : List (List Str)), _⟩ hpre R hR Go hGo
  replace hR : R = [DL .str l.flatten] := hR
  replace hpre : l.flatten.length ≤ 1000000 ∧ l.length ≤ 1000000 := hpre
  obtain ⟨hpre, hpl⟩ := hpre
  show TDen _ _ _ _ [DL (.list .str) l]
  simp [k_Concat, TDen, Tm.den, nthD]
  refine hGo 0 _ rfl Nat (fun i => [DL (.list .str) l, DI (l.take i).flatten.length, DI l.length, DI i]) (fun i => i ≤ l.length) (fun i => l.length - i) (fun i hI ih => ?_) 0 (by omega)
  have h1 : ∀ i, (l.take i).flatten.length ≤ 1000000 := fun i => Nat.le_trans (flat_le l i) hpre
  have hgo : Go 1 [DL (.list .str) l, DI l.length, DI 0, DL .str []] := by
    refine hGo 1 _ rfl Nat (fun i => [DL (.list .str) l, DI l.length, DI i, DL .str (l.take i).flatten]) (fun i => i ≤ l.length) (fun i => l.length - i) (fun i hI ih => ?_) 0 (by omega)
    have h2 := h1 i
    have h3 := h1 (i + 1)
    generalize hf : (l.take i).flatten = f at *
    simp [TDen, Tm.den, nthD, in64]
    refine ⟨fun hi => ⟨hi, fun x hx => ?_⟩, fun hi => ?_⟩
    · rw [flat_succ hx, hf, List.length_append] at h3
      have := ih (i + 1) (by omega) (by omega)
      rw [flat_succ hx, hf] at this
      exact ⟨by omega, by omega, by omega, this⟩
    · rw [hR, ← hf, List.take_of_length_le hi]
  have h2 := h1 i
  have h3 := h1 (i + 1)
  generalize hn : (l.take i).flatten.length = n at *
  simp [TDen, Tm.den, nthD, in64]
  refine ⟨fun hi => ⟨hi, fun x hx => ?_⟩, fun hi => ?_⟩
  · rw [flat_succ hx, List.length_append, hn] at h3
    have := ih (i + 1) (by omega) (by omega)
    rw [flat_succ hx, List.length_append, hn] at this
    exact ⟨by omega, by omega, fun _ => ⟨by omega, by simpa using this⟩⟩
  · exact ⟨by omega, fun h => ⟨by omega, ⟨by omega, by omega⟩, hgo⟩, fun h => hgo⟩
theorem okLines_len {l : List Str} (h : okLines l = true) : l.length ≤ 60 := by
  unfold okLines at h
  simp at h
  exact h.1
def rightEdit (e : Edit) (ls : List Str) : Bool := decide (0 ≤ e.at_ ∧ e.at_ ≤ ls.length ∧ 0 ≤ e.cut ∧ e.cut ≤ ls.length - e.at_) && okLines e.put && decide ((ls.length : Int) - e.cut + e.put.length ≤ 60)
set_option maxRecDepth 100000 in
noncomputable def k_Right : Wk (X [s_RunLines]) w_edit_Right.F [.ty (.base 0), tLS] [.bool] := ⟨_, by cbv, _, by cbv, _, by cbv⟩
def s_Right : FSpec Un := ⟨⟨f_edit_Right, [.ty (.base 0), tLS], [.bool]⟩, fun (_, (ls : List Str), _) => ls.length ≤ 1000000, fun ((e : Edit), (ls : List Str), _) => [DB (rightEdit e ls)], fun _ => rfl⟩
theorem right_ok : FGood Tryd.prog s_Right := by
  refine Wk.ok mixed tok (envOk (.cons runLines_ok .nil) [] no_same) w_edit_Right k_Right rfl rfl ?_
  rintro ⟨(e : Edit), (ls : List Str), _⟩ hpre R hR Go hGo
  replace hR : R = [DB (rightEdit e ls)] := hR
  replace hpre : ls.length ≤ 1000000 := hpre
  show TDen _ _ _ _ [⟨.base 0, e⟩, DL .str ls]
  simp [k_Right, TDen, Tm.den, nthD, s_RunLines, in64]
  have hfalse : ¬ (0 ≤ e.at_ ∧ e.at_ ≤ ls.length ∧ 0 ≤ e.cut ∧ e.cut ≤ ls.length - e.at_) → rightEdit e ls = false := fun h => by unfold rightEdit; rw [decide_eq_false h]; rfl
  have htrue : (0 ≤ e.at_ ∧ e.at_ ≤ ls.length ∧ 0 ≤ e.cut ∧ e.cut ≤ ls.length - e.at_) → rightEdit e ls = (okLines e.put && decide ((ls.length : Int) - e.cut + e.put.length ≤ 60)) := fun h => by unfold rightEdit; rw [decide_eq_true h]; rfl
  refine ⟨fun h1 => ?_, fun h1 => ⟨fun h2 => ?_, fun h2 => ⟨fun h3 => ?_, fun h3 => ⟨by omega, fun h4 => ?_, fun h4 => ⟨fun h5 => ?_, fun h5 => ?_⟩⟩⟩⟩⟩
  · rw [hR, hfalse (by omega)]
  · rw [hR, hfalse (by omega)]
  · rw [hR, hfalse (by omega)]
  · rw [hR, hfalse (by omega)]
  · have h6 := okLines_len h5
    refine ⟨by omega, by omega, ?_⟩
    rw [hR, htrue (by omega), h5]; rfl
  · rw [hR, htrue (by omega), h5]; rfl
theorem right_true {e : Edit} {ls : List Str} (h : rightEdit e ls = true) : 0 ≤ e.at_ ∧ e.at_ ≤ ls.length ∧ 0 ≤ e.cut ∧ e.cut ≤ ls.length - e.at_ ∧ okLines e.put = true ∧ (ls.length : Int) - e.cut + e.put.length ≤ 60 := by
  unfold rightEdit at h
  simp only [Bool.and_eq_true, decide_eq_true_eq] at h
  obtain ⟨⟨⟨h1, h2, h3, h4⟩, h5⟩, h6⟩ := h
  exact ⟨h1, h2, h3, h4, h5, h6⟩
def editDo (e : Edit) (ls : List Str) : List Str := ls.take e.at_.toNat ++ e.put ++ ls.drop (e.at_ + e.cut).toNat
def doL (e : Edit) (ls : List Str) : List Str := if rightEdit e ls = true then editDo e ls else []
def doE (e : Edit) (ls : List Str) : Int := if rightEdit e ls = true then 0 else 5
noncomputable def k_Do : Wk (X [s_Right, s_Concat]) w_edit_Do.F [.ty (.base 0), tLS] [.list .str, oI] := ⟨_, by cbv, _, by cbv, _, by cbv⟩
def s_Do : FSpec Un := ⟨⟨f_edit_Do, [.ty (.base 0), tLS], [.list .str, oI]⟩, fun (_, (ls : List Str), _) => ls.length ≤ 1000000, fun ((e : Edit), (ls : List Str), _) => [DL .str (doL e ls), DI (doE e ls)], fun _ => rfl⟩
theorem do_ok : FGood Tryd.prog s_Do := by
  refine Wk.ok mixed tok (envOk (.cons right_ok (.cons concat_ok .nil)) [] no_same) w_edit_Do k_Do rfl rfl ?_
  rintro ⟨(e : Edit), (ls : List Str), _⟩ hpre R hR Go hGo
  replace hR : R = [DL .str (doL e ls), DI (doE e ls)] := hR
  replace hpre : ls.length ≤ 1000000 := hpre
  show TDen _ _ _ _ [⟨.base 0, e⟩, DL .str ls]
  simp [k_Do, TDen, Tm.den, nthD, s_Right, s_Concat, in64]
  refine ⟨hpre, fun h => ?_, fun h => ?_⟩
  · rw [hR]; simp only [doL, doE, h]; rfl
  · obtain ⟨h1, h2, h3, h4, h5, h6⟩ := right_true h
    have h7 := okLines_len h5
    have hr : [DL .str (ls.take e.at_.toNat ++ (e.put ++ (ls.drop (e.at_ + e.cut).toNat).take (ls.length - (e.at_ + e.cut).toNat))), DI 0] = R := by
      rw [hR]; simp only [doL, doE, h, if_true, editDo]
      rw [List.take_of_length_le (l := ls.drop (e.at_ + e.cut).toNat) (by rw [List.length_drop]; omega), List.append_assoc]
    have hl : min e.at_.toNat ls.length + (e.put.length + (ls.length - (e.at_ + e.cut).toNat)) ≤ 1000000 := by omega
    exact ⟨⟨by omega, by omega⟩, by omega, by omega, hl, hr⟩
noncomputable def k_Clone : Wk (X []) w_slices_Clone_string_string.F [tLS] [.list .str] := ⟨_, by cbv, _, by cbv, _, by cbv⟩
def s_Clone : FSpec Un := ⟨⟨f_slices_Clone_string_string, [tLS], [.list .str]⟩, fun ((ls : List Str), _) => ls.length ≤ 1000000, fun ((ls : List Str), _) => [DL .str ls], fun _ => rfl⟩
theorem clone_ok : FGood Tryd.prog s_Clone := by
  refine Wk.ok mixed tok (envOk .nil [] no_same) w_slices_Clone_string_string k_Clone rfl rfl ?_
  rintro ⟨(ls : List Str), _⟩ hpre R hR Go hGo
  replace hR : R = [DL .str ls] := hR
  replace hpre : ls.length ≤ 1000000 := hpre
  show TDen _ _ _ _ [DL .str ls]
  simp [k_Clone, TDen, Tm.den, nthD, in64]
  exact ⟨fun h => ⟨by rw [hR, h], by omega, by omega, hR.symm⟩, fun h => ⟨by omega, by omega, hR.symm⟩⟩
end Go.Proofs.YtpoegfkajdbplaaDoor
namespace Go.Proofs.YtpoegfkajdbplaaDoor
open Go.Dm Go.Dm.Sx
set_option linter.unusedVariables false
set_option linter.unusedSimpArgs false
def allR : List Str → List Edit → List Str × Int
  | ls, [] => (ls, 0)
  | ls, e :: es => if rightEdit e ls = true then allR (editDo e ls) es else ([], 5)
theorem allR_cons (ls : List Str) (e : Edit) (es : List Edit) : allR ls (e :: es) = if rightEdit e ls = true then allR (editDo e ls) es else ([], 5) := rfl
theorem drop_get {α : Type} {l : List α} {i : Nat} {x : α} (h : l[i]? = some x) : l.drop i = x :: l.drop (i + 1) := by
  obtain ⟨h1, h2⟩ := List.getElem?_eq_some_iff.1 h
  rw [List.drop_eq_getElem_cons h1, h2]
theorem editDo_len {e : Edit} {ls : List Str} (h : rightEdit e ls = true) : (editDo e ls).length ≤ 60 := by
  obtain ⟨h1, h2, h3, h4, h5, h6⟩ := right_true h
  unfold editDo
  simp only [List.length_append, List.length_take, List.length_drop]
  omega
noncomputable def k_All : Wk (X [s_Clone, s_Do]) w_edit_All.F [tLS, .ty (.list (.base 0))] [.list .str, oI] := ⟨_, by cbv, _, by cbv, _, by cbv⟩
def s_All : FSpec Un := ⟨⟨f_edit_All, [tLS, .ty (.list (.base 0))], [.list .str, oI]⟩, fun ((ls : List Str), (es : List Edit), _) => ls.length ≤ 60 ∧ es.length ≤ 1000000, fun ((ls : List Str), (es : List Edit), _) => [DL .str (allR ls es).1, DI (allR ls es).2], fun _ => rfl⟩
theorem editAll_ok : FGood Tryd.prog s_All := by
  refine Wk.ok mixed tok (envOk (.cons clone_ok (.cons do_ok .nil)) [] no_same) w_edit_All k_All rfl rfl ?_
  rintro ⟨(ls : List Str), (es : List Edit), _⟩ hpre R hR Go hGo
  replace hR : R = [DL .str (allR ls es).1, DI (allR ls es).2] := hR
  replace hpre : ls.length ≤ 60 ∧ es.length ≤ 1000000 := hpre
  show TDen _ _ _ _ [DL .str ls, DL (.base 0) es]
  simp [k_All, TDen, Tm.den, nthD, s_Clone, in64]
  refine ⟨by omega, ?_⟩
  refine hGo 0 _ rfl (List Str × Nat) (fun y => [DL .str y.1, DL (.base 0) es, DI es.length, DI y.2]) (fun y => allR y.1 (es.drop y.2) = allR ls es ∧ y.1.length ≤ 60 ∧ y.2 ≤ es.length) (fun y => es.length - y.2) (fun y hI ih => ?_) (ls, 0) ⟨rfl, hpre.1, Nat.zero_le _⟩
  obtain ⟨m, i⟩ := y
  obtain ⟨h1, h2, h3⟩ := hI
  simp only at h1 h2 h3 ih ⊢
  simp [TDen, Tm.den, nthD, s_Do, in64]
  refine ⟨fun hi => ⟨hi, fun (x : Edit) hx => ⟨by omega, fun hE => ?_, fun hE => ?_⟩⟩, fun hi => ?_⟩
  all_goals try replace hx : (es : List Edit)[i]? = some x := hx
  all_goals try have hdg : es.drop i = x :: es.drop (i + 1) := drop_get hx
  · rw [hR, ← h1, hdg, allR_cons]
    by_cases hr : rightEdit x m = true
    · exact absurd (by unfold doE; rw [if_pos hr]) hE
    · rw [if_neg hr]; unfold doE; rw [if_neg hr]
  · have hr : rightEdit x m = true := by
      by_cases hr : rightEdit x m = true
      · exact hr
      · unfold doE at hE; rw [if_neg hr] at hE; cases hE
    refine ⟨by omega, ih (doL x m, i + 1) (by simp only; omega) ⟨?_, ?_, by simp only; omega⟩⟩
    · rw [← h1, hdg, allR_cons, if_pos hr]; simp only [doL, if_pos hr]
    · simp only [doL, if_pos hr]; exact editDo_len hr
  · rw [hR, ← h1, List.drop_of_length_le hi]; rfl
end Go.Proofs.YtpoegfkajdbplaaDoor
namespace Go.Proofs.YtpoegfkajdbplaaDoor
open Go.Dm Go.Dm.Sx
set_option linter.unusedVariables false
set_option linter.unusedSimpArgs false
noncomputable def k_Back : Wk (X [s_Right, s_Clone]) w_edit_Back.F [.ty (.base 0), tLS] [.base 0] := ⟨_, by cbv, _, by cbv, _, by cbv⟩
def backE (e : Edit) (ls : List Str) : Edit := if rightEdit e ls = true then ⟨e.at_, e.put.length, (ls.drop e.at_.toNat).take e.cut.toNat⟩ else ⟨0, 0, []⟩
def s_Back : FSpec Un := ⟨⟨f_edit_Back, [.ty (.base 0), tLS], [.base 0]⟩, fun (_, (ls : List Str), _) => ls.length ≤ 1000000, fun ((e : Edit), (ls : List Str), _) => [⟨.base 0, backE e ls⟩], fun _ => rfl⟩
theorem back_ok : FGood Tryd.prog s_Back := by
  refine Wk.ok mixed tok (envOk (.cons right_ok (.cons clone_ok .nil)) [] no_same) w_edit_Back k_Back rfl rfl ?_
  rintro ⟨(e : Edit), (ls : List Str), _⟩ hpre R hR Go hGo
  replace hR : R = [⟨.base 0, backE e ls⟩] := hR
  replace hpre : ls.length ≤ 1000000 := hpre
  show TDen _ _ _ _ [⟨.base 0, e⟩, DL .str ls]
  simp [k_Back, TDen, Tm.den, nthD, s_Right, s_Clone, in64]
  refine ⟨hpre, fun h x hx => ?_, fun h => ?_⟩
  · subst hx; rw [hR]; unfold backE; rw [if_neg (by rw [h]; simp)]
  · obtain ⟨h1, h2, h3, h4, h5, h6⟩ := right_true h
    refine ⟨by omega, by omega, by omega, fun x hx => ?_⟩
    subst hx; rw [hR]; unfold backE; rw [if_pos h, show (e.at_ + e.cut).toNat - e.at_.toNat = e.cut.toNat by omega]
end Go.Proofs.YtpoegfkajdbplaaDoor
namespace Go.Proofs.YtpoegfkajdbplaaDoor
open Go.Dm Go.Dm.Sx
set_option linter.unusedVariables false
set_option linter.unusedSimpArgs false
theorem keepLines_len (l : List (List Int)) : (keepLines l).length ≤ 12 := by unfold keepLines; simp; omega
theorem keepB_ne (n : Int) : keepB n ≠ 10 := by
  unfold keepB
  have hw := within_in (n := n) (lo := 0) (hi := 7) (by decide)
  generalize within n 0 7 = w at *
  have : w = 0 ∨ w = 1 ∨ w = 2 ∨ w = 3 ∨ w = 4 ∨ w = 5 ∨ w = 6 ∨ w = 7 := by omega
  rcases this with rfl | rfl | rfl | rfl | rfl | rfl | rfl | rfl <;> decide
theorem keepText_good (l : List Int) : badLine (keepText l 6) = false := by
  unfold badLine
  have h1 := keepText_len (l := l) (i := 6) (by decide)
  rw [decide_eq_false (by omega), decide_eq_false]; rfl
  unfold keepText
  rw [List.mem_map]
  rintro ⟨x, _, h⟩
  exact keepB_ne x h
theorem okLines_map {l : List (List Int)} (h : l.length ≤ 60) : okLines (l.map (keepText · 6)) = true := by
  unfold okLines
  rw [decide_eq_true (by simpa using h), Bool.true_and, List.all_eq_true]
  intro x hx
  obtain ⟨y, _, rfl⟩ := List.mem_map.1 hx
  rw [keepText_good]; rfl
theorem keepEdit_good (k : KEdit) {n : Nat} (hn : n ≤ 1000) : ∃ a c : Nat, ∃ put, keepEdit k n = ⟨a, c, put⟩ ∧ a ≤ n ∧ c ≤ n - a ∧ c ≤ 3 ∧ put.length ≤ 3 ∧ okLines put = true := by
  rw [show keepEdit k n = ⟨within k.at_ 0 n, within k.cut 0 (min (n - within k.at_ 0 n) 3), if (n : Int) < 40 then (k.put.take 3).map (keepText · 6) else []⟩ from rfl]
  have ha := within_in (n := k.at_) (lo := 0) (hi := n) (by omega)
  have hc := within_in (n := k.cut) (lo := 0) (hi := min (n - within k.at_ 0 n) 3) (by omega)
  generalize within k.at_ 0 n = a at *
  generalize within k.cut 0 (min (n - a) 3) = c at *
  obtain ⟨a, rfl⟩ : ∃ m : Nat, a = m := ⟨a.toNat, by omega⟩
  obtain ⟨c, rfl⟩ : ∃ m : Nat, c = m := ⟨c.toNat, by omega⟩
  refine ⟨a, c, _, rfl, by omega, by omega, by omega, ?_, ?_⟩
  · split
    · simp; omega
    · simp
  · split
    · exact okLines_map (by simp; omega)
    · rfl
theorem right_of {a c : Nat} {put ls : List Str} (h1 : a + c ≤ ls.length) (h2 : okLines put = true) (h3 : ls.length - c + put.length ≤ 60) : rightEdit ⟨a, c, put⟩ ls = true := by
  unfold rightEdit
  simp only [h2, Bool.and_true, Bool.and_eq_true, decide_eq_true_eq]
  omega
end Go.Proofs.YtpoegfkajdbplaaDoor
namespace Go.Proofs.YtpoegfkajdbplaaDoor
open Go.Dm Go.Dm.Sx
set_option linter.unusedVariables false
set_option linter.unusedSimpArgs false
set_option pp.deepTerms true
set_option pp.maxSteps 100000
def s_CountString : FSpec Un := ⟨⟨f_internal_bytealg_CountString, [tS, tU], [oI]⟩, fun (s, (c : Int), _) => 0 ≤ c ∧ c < 256, fun (s, c, _) => [DI (cntOf (Int.toNat c) s 0)], fun _ => rfl⟩
theorem extCnt : Ext Tryd.prog f_internal_bytealg_CountString Extern.BytealgCount.count := ext_of Tryd.func43 (by kernel_rfl) (by kernel_rfl) (by kernel_rfl) (by kernel_rfl)
theorem countString_ok : FGood Tryd.prog s_CountString := by
  rintro ⟨(s : List UInt8), (c : Int), _⟩ vs ha ⟨h1, h2⟩ σ
  obtain ⟨d, ds, v, vs', e1, rfl, e2, hv, d2, ds2, v2, vs2, e3, rfl, e4, hv2, e5, rfl⟩ := ha
  cases e1; cases e3
  obtain ⟨x, rfl, hx⟩ := hv
  obtain ⟨y, rfl, hy⟩ := hv2
  have q1 := FD.str hx
  have q2 := FD.int hy
  subst q1 q2
  have hs : spCount [.c (.f (.str s)), .c (.f (.int .u8 c))] σ = some [(vint' .i64 (cntOf c.toNat s 0), σ)] := by
    obtain ⟨n, rfl⟩ : ∃ n : Nat, c = n := ⟨c.toNat, by have : (0 : Int) ≤ c := h1; omega⟩
    have : n < 256 := by have : ((n : Int)) < 256 := h2; omega
    show (match Nat.blt n 256 with | true => _ | false => _) = _
    rw [blt_true this]
    rfl
  refine (count_ok extCnt hs).mono fun r σ' hm => ?_
  rw [List.mem_singleton] at hm
  cases hm
  exact ⟨⟨[vint' .i64 (cntOf c.toNat s 0)], ⟨_, [], rfl, ⟨_, rfl, rfl⟩, rfl⟩, rfl⟩, rfl⟩
noncomputable def k_Count : Wk (X [s_CountString]) w_strings_Count.F [tS, tS] [oI] := ⟨_, by cbv, _, by cbv, _, by cbv⟩
def s_Count : FSpec Un := ⟨⟨f_strings_Count, [tS, tS], [oI]⟩, fun ((s : Str), (t : Str), _) => t.length = 1, fun ((s : Str), (t : Str), _) => [DI (cntOf (t.getD 0 0).toNat s 0)], fun _ => rfl⟩
theorem count_ok' : FGood Tryd.prog s_Count := by
  refine Wk.ok mixed tok (envOk (.cons countString_ok .nil) [] no_same) w_strings_Count k_Count rfl rfl ?_
  rintro ⟨(s : Str), (t : Str), _⟩ hpre R hR Go hGo
  replace hR : R = [DI (cntOf (t.getD 0 0).toNat s 0)] := hR
  replace hpre : t.length = 1 := hpre
  show TDen _ _ _ _ [DS s, DS t]
  simp [k_Count, TDen, Tm.den, nthD, s_CountString, hpre, hR]
  obtain ⟨c, rfl⟩ := List.length_eq_one_iff.1 hpre
  have := c.toNat_lt
  simp
  omega
def hasSuf (s t : Str) : Bool := decide (t.length ≤ s.length) && decide (s.drop (s.length - t.length) = t)
noncomputable def k_LSuf : Wk (X []) w_internal_stringslite_HasSuffix.F [tS, tS] [.bool] := ⟨_, by cbv, _, by cbv, _, by cbv⟩
def s_LSuf : FSpec Un := ⟨⟨f_internal_stringslite_HasSuffix, [tS, tS], [.bool]⟩, fun ((s : Str), _) => s.length ≤ 1000000, fun ((s : Str), (t : Str), _) => [DB (hasSuf s t)], fun _ => rfl⟩
theorem lsuf_ok : FGood Tryd.prog s_LSuf := by
  refine Wk.ok mixed tok (envOk .nil [] no_same) w_internal_stringslite_HasSuffix k_LSuf rfl rfl ?_
  rintro ⟨(s : Str), (t : Str), _⟩ hpre R hR Go hGo
  replace hR : R = [DB (hasSuf s t)] := hR
  replace hpre : s.length ≤ 1000000 := hpre
  show TDen _ _ _ _ [DS s, DS t]
  simp [k_LSuf, TDen, Tm.den, nthD, in64, hR]
  refine ⟨fun h => ⟨by omega, by omega, ?_⟩, fun h => ?_⟩
  · unfold hasSuf
    have e : List.take (List.length s - (List.length s - List.length t)) (List.drop (List.length s - List.length t) s) = List.drop (List.length s - List.length t) s := List.take_of_length_le (by simp)
    simp only [e, decide_eq_true h, Bool.true_and]
  · unfold hasSuf
    rw [decide_eq_false (by omega), Bool.false_and]
noncomputable def k_LTrim : Wk (X [s_LSuf]) w_internal_stringslite_TrimSuffix.F [tS, tS] [.str] := ⟨_, by cbv, _, by cbv, _, by cbv⟩
def trimS (s t : Str) : Str := if hasSuf s t = true then s.take (s.length - t.length) else s
def s_LTrim : FSpec Un := ⟨⟨f_internal_stringslite_TrimSuffix, [tS, tS], [.str]⟩, fun ((s : Str), _) => s.length ≤ 1000000, fun ((s : Str), (t : Str), _) => [DS (trimS s t)], fun _ => rfl⟩
theorem ltrim_ok : FGood Tryd.prog s_LTrim := by
  refine Wk.ok mixed tok (envOk (.cons lsuf_ok .nil) [] no_same) w_internal_stringslite_TrimSuffix k_LTrim rfl rfl ?_
  rintro ⟨(s : Str), (t : Str), _⟩ hpre R hR Go hGo
  replace hR : R = [DS (trimS s t)] := hR
  replace hpre : s.length ≤ 1000000 := hpre
  show TDen _ _ _ _ [DS s, DS t]
  simp [k_LTrim, TDen, Tm.den, nthD, s_LSuf, hpre, in64]
  refine ⟨fun h => ⟨?_, ?_, ?_⟩, fun h => ?_⟩
  · have : t.length ≤ s.length := by unfold hasSuf at h; simp at h; exact h.1
    omega
  · have : t.length ≤ s.length := by unfold hasSuf at h; simp at h; exact h.1
    omega
  · rw [hR, trimS, if_pos h]
  · rw [hR, trimS, if_neg (by rw [h]; decide)]
noncomputable def k_Trim : Wk (X [s_LTrim]) w_strings_TrimSuffix.F [tS, tS] [.str] := ⟨_, by cbv, _, by cbv, _, by cbv⟩
def s_Trim : FSpec Un := ⟨⟨f_strings_TrimSuffix, [tS, tS], [.str]⟩, fun ((s : Str), _) => s.length ≤ 1000000, fun ((s : Str), (t : Str), _) => [DS (trimS s t)], fun _ => rfl⟩
theorem trim_ok : FGood Tryd.prog s_Trim := by
  refine Wk.ok mixed tok (envOk (.cons ltrim_ok .nil) [] no_same) w_strings_TrimSuffix k_Trim rfl rfl ?_
  rintro ⟨(s : Str), (t : Str), _⟩ hpre R hR Go hGo
  replace hR : R = [DS (trimS s t)] := hR
  replace hpre : s.length ≤ 1000000 := hpre
  show TDen _ _ _ _ [DS s, DS t]
  simp [k_Trim, TDen, Tm.den, nthD, s_LTrim, hpre, hR]
end Go.Proofs.YtpoegfkajdbplaaDoor
namespace Go.Proofs.YtpoegfkajdbplaaDoor
open Go.Dm Go.Dm.Sx
set_option linter.unusedVariables false
set_option linter.unusedSimpArgs false
set_option pp.deepTerms true
set_option pp.maxSteps 100000
theorem extNo : Ext Tryd.prog f_internal_abi_NoEscape Extern.AbiNoEscape.same := ext_of Tryd.func39 (by kernel_rfl) (by kernel_rfl) (by kernel_rfl) (by kernel_rfl)
theorem same_no : ∀ f ∈ [f_internal_abi_NoEscape], Ext Tryd.prog f Extern.AbiNoEscape.same := fun f h => by rw [List.mem_singleton] at h; subst h; exact extNo
abbrev inB : List (Ent Tryd.prog tb (stlW tb)) := [w_strings_Builder_WriteString, w_strings_Builder_copyCheck, w_strings_Builder_String]
def joinL (l : List Str) : Str := (l.map (· ++ [10])).flatten
theorem joinL_app (a b : List Str) : joinL (a ++ b) = joinL a ++ joinL b := by simp [joinL]
def bytesI (s : Str) : List Int := s.map fun b => (b.toNat : Int)
theorem bytesI_app (a b : Str) : bytesI (a ++ b) = bytesI a ++ bytesI b := by simp [bytesI]
set_option maxRecDepth 100000 in
set_option cbv.maxSteps 10000000 in
noncomputable def k_Join : Wk (X [] inB [f_internal_abi_NoEscape]) w_edit_Join.F [tLS] [.str] := ⟨_, by cbv, _, by cbv, _, by cbv⟩
def s_Join : FSpec Un := ⟨⟨f_edit_Join, [tLS], [.str]⟩, fun ((l : List Str), _) => l.length ≤ 1000000 ∧ (joinL l).length ≤ 1000000, fun ((l : List Str), _) => [DS (joinL l)], fun _ => rfl⟩
theorem join_ok : FGood Tryd.prog s_Join := by
  refine Wk.ok mixed tok (envOk .nil inB same_no) w_edit_Join k_Join rfl rfl ?_
  rintro ⟨(l : List Str), _⟩ hpre R hR Go hGo
  replace hR : R = [DS (joinL l)] := hR
  replace hpre : l.length ≤ 1000000 ∧ (joinL l).length ≤ 1000000 := hpre
  have h0 := hGo 0 _ rfl
  clear hGo
  show TDen _ _ _ _ [DL .str l]
  simp [k_Join, TDen, Tm.den, nthD]
  refine h0 Nat (fun i => [DL .str l, DI l.length, DI i, DL (.int .u8) (bytesI (joinL (l.take i)))]) (fun i => i ≤ l.length) (fun i => l.length - i) (fun i hI ih => ?_) 0 (Nat.zero_le _)
  clear h0
  have hb : ∀ s : Str, (s.map fun b => (b.toNat : Int)) = bytesI s := fun s => rfl
  have hlen : ∀ s : Str, (bytesI s).length = s.length := fun s => by simp [bytesI]
  have hle : ∀ j, (joinL (l.take j)).length ≤ (joinL l).length := fun j => by
    conv => rhs; rw [← List.take_append_drop j l, joinL_app]
    simp
  have hq := hle i
  have hnil : bytesI (joinL (l.take i)) = [] → l.length ≤ i → [DS []] = R := fun h h2 => by
    rw [List.take_of_length_le h2] at h
    have : joinL l = [] := List.eq_nil_of_length_eq_zero (by have := hlen (joinL l); rw [h] at this; exact this.symm)
    rw [hR, this]
  have hsome : l.length ≤ i → ∃ x : Str, bytesI (joinL (l.take i)) = x.map (fun b => (b.toNat : Int)) ∧ [DS x] = R := fun h2 => ⟨joinL (l.take i), rfl, by rw [hR, List.take_of_length_le h2]⟩
  have hz : bytesI (joinL (l.take i)) = [] → (joinL (l.take i)).length = 0 := fun h => by have := hlen (joinL (l.take i)); rw [h] at this; exact this.symm
  simp [TDen, Tm.den, nthD, in64]
  refine ⟨fun h => ⟨h, fun (x : Str) hx => ?_⟩, fun h => ⟨fun h2 => ⟨by rw [h2]; simp, hnil h2 h⟩, fun h2 => hsome h⟩⟩
  have e1 : joinL (l.take (i + 1)) = joinL (l.take i) ++ (x ++ [10]) := by
    rw [List.take_add_one, hx, joinL_app]; simp [joinL]
  have h3 := hle (i + 1)
  have key := ih (i + 1) (by omega) (by omega)
  rw [e1] at h3 key
  simp at h3
  rw [hlen]
  refine ⟨by omega, by omega, by omega, by omega, ?_⟩
  rw [bytesI_app, bytesI_app] at key
  exact key
def splitL : Str → List Str
  | [] => [[]]
  | b :: r => if b = 10 then [] :: splitL r else (match splitL r with | h :: t => (b :: h) :: t | [] => [[b]])
theorem cnt_from (c : Nat) : ∀ (a : Str) (n : Nat), cntOf c a n = n + cntOf c a 0
  | [], n => rfl
  | x :: r, n => by
    simp only [cntOf]
    split
    · rw [cnt_from c r (n + 1), cnt_from c r (0 + 1)]; omega
    · exact cnt_from c r n
theorem cnt_lt (c : Nat) : ∀ (a : Str), cntOf c a 0 ≤ a.length
  | [] => Nat.le_refl _
  | x :: r => by
    have := cnt_lt c r
    simp only [cntOf, List.length_cons]
    split
    · rw [cnt_from]; omega
    · omega
theorem idx_split : ∀ (r : Str) (k : Nat), (idxFrom 10 r k = -1 ∧ cntOf 10 r 0 = 0 ∧ splitL r = [r]) ∨
    ∃ m : Nat, idxFrom 10 r k = ((k + m : Nat) : Int) ∧ m < r.length ∧ splitL r = r.take m :: splitL (r.drop (m + 1)) ∧ cntOf 10 r 0 = cntOf 10 (r.drop (m + 1)) 0 + 1
  | [], k => .inl ⟨rfl, rfl, rfl⟩
  | b :: r, k => by
    by_cases hb : b = 10
    · subst hb
      exact .inr ⟨0, rfl, by simp, by simp [splitL], by simp only [List.drop_succ_cons, List.drop_zero]; show cntOf 10 r 1 = _; rw [cnt_from]; omega⟩
    · have hn : Nat.beq b.toNat 10 = false := nbeq_false fun e => hb (UInt8.toNat_inj.1 e)
      have e1 : idxFrom 10 (b :: r) k = idxFrom 10 r (k + 1) := by simp only [idxFrom, hn]
      have e2 : cntOf 10 (b :: r) 0 = cntOf 10 r 0 := by simp only [cntOf, hn]
      have e3 : splitL (b :: r) = (match splitL r with | h :: t => (b :: h) :: t | [] => [[b]]) := by rw [splitL, if_neg hb]
      rw [e1, e2, e3]
      rcases idx_split r (k + 1) with ⟨h1, h2, h3⟩ | ⟨m, h1, h2, h3, h4⟩
      · exact .inl ⟨h1, h2, by rw [h3]⟩
      · exact .inr ⟨m + 1, by rw [h1]; congr 1; omega, by simp; omega, by rw [h3]; simp, by simpa using h4⟩
set_option maxRecDepth 100000 in
set_option cbv.maxSteps 10000000 in
noncomputable def k_Gen : Wk (X [s_Count, s_Index]) w_strings_genSplit.F [tS, tS, tI, tI] [.list .str] := ⟨_, by cbv, _, by cbv, _, by cbv⟩
def s_Gen : FSpec Un := ⟨⟨f_strings_genSplit, [tS, tS, tI, tI], [.list .str]⟩, fun ((s : Str), (t : Str), (k : Int), (n : Int), _) => s.length ≤ 1000000 ∧ t = [10] ∧ k = 0 ∧ n = -1, fun ((s : Str), _) => [DL .str (splitL s)], fun _ => rfl⟩
theorem gen_ok : FGood Tryd.prog s_Gen := by
  refine Wk.ok mixed tok (envOk (.cons count_ok' (.cons index_ok .nil)) [] no_same) w_strings_genSplit k_Gen rfl rfl ?_
  rintro ⟨(s : Str), (t : Str), (k : Int), (n : Int), _⟩ hpre R hR Go hGo
  replace hR : R = [DL .str (splitL s)] := hR
  obtain ⟨h1, rfl, rfl, rfl⟩ : s.length ≤ 1000000 ∧ t = [10] ∧ k = 0 ∧ n = -1 := hpre
  have h0 := hGo 0 _ rfl
  clear hGo
  show TDen _ _ _ _ [DS s, DS [10], DI 0, DI (-1)]
  simp [k_Gen, TDen, Tm.den, nthD, s_Count, s_Index, in64]
  have hc := cnt_lt 10 s
  have hmin : min (cntOf 10 s 0 : Int) (s.length : Int) = (cntOf 10 s 0 : Int) := by omega
  rw [hmin]
  refine ⟨by omega, by omega, by omega, by omega, ?_⟩
  refine h0 (List Str × Str) (fun y => [DS y.2, DS [10], DI 0, DI (cntOf 10 s 0), DI y.1.length, DL .str (y.1 ++ List.replicate (cntOf 10 s 0 + 1 - y.1.length) [])]) (fun y => splitL s = y.1 ++ splitL y.2 ∧ cntOf 10 s 0 = y.1.length + cntOf 10 y.2 0 ∧ y.2.length ≤ s.length) (fun y => y.2.length) (fun ⟨D, r⟩ hI ih => ?_) ([], s) ⟨rfl, by simp, Nat.le_refl _⟩
  clear h0
  dsimp only at hI ih ⊢
  obtain ⟨i1, i2, i3⟩ := hI
  have rep : ∀ x : Str, D.length ≤ cntOf 10 s 0 → (List.replicate (cntOf 10 s 0 + 1 - D.length) ([] : Str)).set 0 x = x :: List.replicate (cntOf 10 s 0 - D.length) [] := fun x h => by
    rw [show cntOf 10 s 0 + 1 - D.length = (cntOf 10 s 0 - D.length) + 1 by omega, List.replicate_succ, List.set_cons_zero]
  have fin : D.length ≤ cntOf 10 s 0 → splitL r = [r] → [(⟨.list .str, (D ++ (List.replicate (cntOf 10 s 0 + 1 - D.length) ([] : Str)).set 0 r).take (D.length + 1)⟩ : Dyn Un.B)] = R := fun h0 h => by
    rw [rep r h0, List.take_append, List.take_of_length_le (by omega), show D.length + 1 - D.length = 1 by omega, hR, i1, h]
    rfl
  have hi1 : idx1 r [10] = idxFrom 10 r 0 := rfl
  simp [TDen, Tm.den, nthD, s_Count, s_Index, in64]
  rw [hi1]
  rcases idx_split r 0 with ⟨g1, g2, g3⟩ | ⟨m, g1, g2, g3, g4⟩
  · exact ⟨fun h => ⟨fun _ => ⟨by omega, by omega, by omega, fin (by omega) g3⟩, fun h2 => absurd h2 (by omega)⟩, fun h => ⟨by omega, by omega, by omega, fin (by omega) g3⟩⟩
  · rw [Nat.zero_add] at g1
    rw [g1]
    refine ⟨fun h => ⟨fun h2 => absurd h2 (by omega), fun h2 => ⟨by omega, by omega, by omega, by omega, by omega, by omega, ?_⟩⟩, fun h => absurd h (by omega)⟩
    have key := ih (D ++ [r.take m], r.drop (m + 1)) (by simp; omega) ⟨by rw [i1, g3]; simp, by simp; omega, by simp; omega⟩
    have e1 : ((m : Int) + 1).toNat = m + 1 := by omega
    have e2 : ((m : Int)).toNat = m := by omega
    rw [e1, e2, rep _ (by omega), List.take_of_length_le (l := r.drop (m + 1)) (by simp)]
    dsimp only at key
    have e3 : (D ++ [r.take m]) ++ List.replicate (cntOf 10 s 0 + 1 - (D ++ [r.take m]).length) [] = D ++ r.take m :: List.replicate (cntOf 10 s 0 - D.length) [] := by
      simp
    rw [e3] at key
    simpa using key
noncomputable def k_Split0 : Wk (X [s_Gen]) w_strings_Split.F [tS, tS] [.list .str] := ⟨_, by cbv, _, by cbv, _, by cbv⟩
def s_Split0 : FSpec Un := ⟨⟨f_strings_Split, [tS, tS], [.list .str]⟩, fun ((s : Str), (t : Str), _) => s.length ≤ 1000000 ∧ t = [10], fun ((s : Str), _) => [DL .str (splitL s)], fun _ => rfl⟩
theorem split0_ok : FGood Tryd.prog s_Split0 := by
  refine Wk.ok mixed tok (envOk (.cons gen_ok .nil) [] no_same) w_strings_Split k_Split0 rfl rfl ?_
  rintro ⟨(s : Str), (t : Str), _⟩ hpre R hR Go hGo
  replace hR : R = [DL .str (splitL s)] := hR
  obtain ⟨h1, rfl⟩ : s.length ≤ 1000000 ∧ t = [10] := hpre
  show TDen _ _ _ _ [DS s, DS [10]]
  simp [k_Split0, TDen, Tm.den, nthD, s_Gen, h1, hR]
def splitT (s : Str) : List Str := if s = [] then [] else splitL (trimS s [10])
noncomputable def k_Split : Wk (X [s_Trim, s_Split0]) w_edit_Split.F [tS] [.list .str] := ⟨_, by cbv, _, by cbv, _, by cbv⟩
def s_Split : FSpec Un := ⟨⟨f_edit_Split, [tS], [.list .str]⟩, fun ((s : Str), _) => s.length ≤ 1000000, fun ((s : Str), _) => [DL .str (splitT s)], fun _ => rfl⟩
theorem split_ok : FGood Tryd.prog s_Split := by
  refine Wk.ok mixed tok (envOk (.cons trim_ok (.cons split0_ok .nil)) [] no_same) w_edit_Split k_Split rfl rfl ?_
  rintro ⟨(s : Str), _⟩ hpre R hR Go hGo
  replace hR : R = [DL .str (splitT s)] := hR
  replace hpre : s.length ≤ 1000000 := hpre
  have ht : (trimS s [10]).length ≤ s.length := by unfold trimS; split <;> simp
  show TDen _ _ _ _ [DS s]
  simp [k_Split, TDen, Tm.den, nthD, s_Trim, s_Split0, hpre, hR]
  exact ⟨fun h => by simp [splitT, h], fun h => ⟨by omega, by simp [splitT, h]⟩⟩
end Go.Proofs.YtpoegfkajdbplaaDoor
namespace Go.Proofs.YtpoegfkajdbplaaDoor
open Go.Dm Go.Dm.Sx
set_option linter.unusedVariables false
set_option linter.unusedSimpArgs false
theorem splitL_app : ∀ (l r : Str), (10 : UInt8) ∉ l → splitL (l ++ 10 :: r) = l :: splitL r
  | [], r, _ => by simp [splitL]
  | b :: l, r, h => by
    have hb : b ≠ 10 := fun e => h (by rw [e]; exact List.mem_cons_self ..)
    have ih := splitL_app l r fun hm => h (List.mem_cons_of_mem _ hm)
    rw [List.cons_append, splitL, if_neg hb, ih]
theorem splitL_ne : ∀ (s : Str), splitL s ≠ []
  | [] => by simp [splitL]
  | b :: r => by
    rw [splitL]
    split
    · simp
    · split <;> simp
theorem splitL_end : ∀ (p : Str), splitL (p ++ [10]) = splitL p ++ [[]]
  | [] => by simp [splitL]
  | b :: p => by
    by_cases hb : b = 10
    · subst hb
      rw [List.cons_append, splitL, if_pos rfl, splitL_end p, splitL, if_pos rfl]; rfl
    · rw [List.cons_append, splitL, if_neg hb, splitL_end p, splitL, if_neg hb]
      cases hs : splitL p with
      | nil => exact absurd hs (splitL_ne p)
      | cons h t => rfl
theorem splitL_join : ∀ (l : List Str), (∀ s ∈ l, (10 : UInt8) ∉ s) → splitL (joinL l) = l ++ [[]]
  | [], _ => rfl
  | x :: l, h => by
    have e : joinL (x :: l) = x ++ 10 :: joinL l := by simp [joinL]
    rw [e, splitL_app _ _ (h x (List.mem_cons_self ..)), splitL_join l fun s hs => h s (List.mem_cons_of_mem _ hs)]; rfl
theorem join_splitL : ∀ (s : Str), joinL (splitL s) = s ++ [10]
  | [] => by simp [splitL, joinL]
  | b :: r => by
    have ih := join_splitL r
    rw [splitL]
    split
    · rename_i hb; subst hb
      rw [show joinL ([] :: splitL r) = 10 :: joinL (splitL r) by simp [joinL], ih]; rfl
    · cases hs : splitL r with
      | nil => exact absurd hs (splitL_ne r)
      | cons h t =>
        rw [hs] at ih
        simp only
        rw [show joinL ((b :: h) :: t) = b :: joinL (h :: t) by simp [joinL], ih]; rfl
theorem suf_iff {s : Str} : hasSuf s [10] = true ↔ ∃ p, s = p ++ [10] := by
  unfold hasSuf
  simp only [Bool.and_eq_true, decide_eq_true_eq, List.length_singleton]
  refine ⟨fun ⟨h1, h2⟩ => ⟨s.take (s.length - 1), by conv => lhs; rw [← List.take_append_drop (s.length - 1) s, h2]⟩, ?_⟩
  rintro ⟨p, rfl⟩
  simp
theorem trim_end (p : Str) : trimS (p ++ [10]) [10] = p := by
  unfold trimS
  rw [if_pos (suf_iff.2 ⟨p, rfl⟩)]; simp
theorem split_join {l : List Str} (h : ∀ s ∈ l, (10 : UInt8) ∉ s) : splitT (joinL l) = l := by
  cases l with
  | nil => rfl
  | cons x r =>
    have hj : joinL (x :: r) ≠ [] := by simp [joinL]
    have hp : ∃ p, joinL (x :: r) = p ++ [10] := by
      have := List.dropLast_concat_getLast (l := x :: r) (by simp)
      refine ⟨joinL (x :: r).dropLast ++ (x :: r).getLast (by simp), ?_⟩
      conv => lhs; rw [← this, joinL_app]
      simp [joinL]
    obtain ⟨p, hp⟩ := hp
    have h2 := splitL_join _ h
    unfold splitT
    rw [if_neg hj, hp, trim_end]
    rw [hp, splitL_end] at h2
    exact List.append_cancel_right h2
theorem join_split (s : Str) : joinL (splitT s) = s ∨ joinL (splitT s) = s ++ [10] := by
  unfold splitT
  split
  · rename_i h; subst h; exact .inl rfl
  · by_cases hs : hasSuf s [10] = true
    · obtain ⟨p, rfl⟩ := suf_iff.1 hs
      rw [trim_end]; exact .inl (join_splitL p)
    · right
      unfold trimS
      rw [if_neg hs]; exact join_splitL s
theorem splitL_len (s : Str) : (splitL s).length = cntOf 10 s 0 + 1 := by
  induction s with
  | nil => rfl
  | cons b r ih =>
    rw [splitL]
    by_cases hb : b = 10
    · subst hb
      rw [if_pos rfl, List.length_cons, ih]
      have := cnt_from 10 r 1
      show _ = cntOf 10 r 1 + 1
      omega
    · have hn : Nat.beq b.toNat 10 = false := nbeq_false fun e => hb (UInt8.toNat_inj.1 e)
      rw [if_neg hb, show cntOf 10 (b :: r) 0 = cntOf 10 r 0 by simp only [cntOf, hn], ← ih]
      cases hs : splitL r with
      | nil => exact absurd hs (splitL_ne r)
      | cons h t => rfl
theorem cnt_app (c : Nat) : ∀ (a b : Str) (n : Nat), cntOf c (a ++ b) n = cntOf c b (cntOf c a n)
  | [], b, n => rfl
  | x :: r, b, n => by simp only [List.cons_append, cntOf]; split <;> exact cnt_app c r b _
theorem splitT_len (s : Str) : ((splitT s).length : Int) = cntOf 10 s 0 + (if s = [] then 0 else if hasSuf s [10] = true then 0 else 1) := by
  unfold splitT
  split
  · rename_i h; subst h; rfl
  · split
    · rename_i hs
      obtain ⟨p, rfl⟩ := suf_iff.1 hs
      rw [trim_end, splitL_len, cnt_app]
      show _ = ((cntOf 10 [10] (cntOf 10 p 0) : Nat) : Int) + 0
      simp [cntOf]
    · rename_i hs
      unfold trimS
      rw [if_neg hs, splitL_len]; simp
theorem last_suf {s : Str} (h : s ≠ []) : hasSuf s [10] = true ↔ s.getD (s.length - 1) 0 = 10 := by
  have h3 := List.dropLast_concat_getLast h
  generalize s.dropLast = p at h3
  generalize s.getLast h = x at h3
  subst h3
  rw [suf_iff]
  simp [List.getD]
theorem keep_no (t : List (List Int)) : ∀ s ∈ keepLines t, (10 : UInt8) ∉ s := by
  intro s hs
  unfold keepLines at hs
  obtain ⟨x, _, rfl⟩ := List.mem_map.1 hs
  intro h
  unfold keepText at h
  obtain ⟨y, _, hy⟩ := List.mem_map.1 h
  exact keepB_ne y hy
theorem join_len : ∀ (l : List Str), (∀ s ∈ l, s.length ≤ 6) → (joinL l).length ≤ 7 * l.length
  | [], _ => by simp [joinL]
  | x :: l, h => by
    have h1 := h x (List.mem_cons_self ..)
    have h2 := join_len l fun s hs => h s (List.mem_cons_of_mem _ hs)
    have e : joinL (x :: l) = x ++ 10 :: joinL l := by simp [joinL]
    rw [e]; simp; omega
theorem keep_short (t : List (List Int)) : ∀ s ∈ keepLines t, s.length ≤ 6 := by
  intro s hs
  unfold keepLines at hs
  obtain ⟨x, _, rfl⟩ := List.mem_map.1 hs
  have h1 := keepText_len (l := x) (i := 6) (by decide)
  omega
theorem keep_right (k : KEdit) {now : List Str} (h : now.length ≤ 57) : rightEdit (keepEdit k now.length) now = true ∧ (editDo (keepEdit k now.length) now).length ≤ now.length + 3 := by
  obtain ⟨a, c, put, e, h1, h2, h3, h4, h5⟩ := keepEdit_good k (n := now.length) (by omega)
  rw [e]
  have hr := right_of (a := a) (c := c) (put := put) (ls := now) (by omega) h5 (by omega)
  refine ⟨hr, ?_⟩
  unfold editDo
  simp
  omega
theorem allR_app : ∀ (es : List Edit) (ls : List Str) (x : Edit), (allR ls es).2 = 0 → allR ls (es ++ [x]) = if rightEdit x (allR ls es).1 = true then (editDo x (allR ls es).1, 0) else ([], 5)
  | [], ls, x, _ => rfl
  | e :: es, ls, x, h => by
    rw [List.cons_append, allR_cons, allR_cons] at *
    split at h
    · rename_i hr
      rw [if_pos hr, if_pos hr]
      exact allR_app es _ x h
    · cases h
theorem far_wrong (now : List Str) : rightEdit ⟨(now.length : Int) + 1, 0, []⟩ now = false := by
  unfold rightEdit
  rw [decide_eq_false (by simp; omega)]; rfl
end Go.Proofs.YtpoegfkajdbplaaDoor
namespace Go.Proofs.YtpoegfkajdbplaaDoor
open Go.Dm Go.Dm.Sx
set_option linter.unusedVariables false
set_option linter.unusedSimpArgs false
set_option pp.deepTerms true
set_option pp.maxSteps 100000
def s_Runs : FSpec Un := ⟨⟨f_glosslaw16_EditRuns, [], [.bool]⟩, fun _ => True, fun _ => [DB true], fun _ => rfl⟩
set_option maxRecDepth 100000 in
set_option cbv.maxSteps 10000000 in
noncomputable def k_ERuns : Wk (X [s_Do, s_SameS, s_Back, s_Join, s_Split]) w_glosslaw16_EditRuns.F [] [.bool] := ⟨_, by cbv, _, by cbv, _, by cbv⟩
theorem eruns_ok : FGood Tryd.prog s_Runs := by
  refine Wk.ok mixed tok (envOk (.cons do_ok (.cons sameS_ok (.cons back_ok (.cons join_ok (.cons split_ok .nil))))) [] no_same) w_glosslaw16_EditRuns k_ERuns rfl rfl ?_
  rintro _ hpre R hR Go hGo
  replace hR : R = [DB true] := hR
  show TDen _ _ _ _ []
  simp [k_ERuns, TDen, Tm.den, nthD, s_Do, s_SameS, s_Back, s_Join, s_Split, in64, hR]
  rintro (x : Edit) rfl (y : Edit) rfl
  decide
set_option maxRecDepth 100000 in
set_option cbv.maxSteps 10000000 in
noncomputable def k_Many : Wk (X [s_Lines, s_KEdit, s_Do, s_All, s_SameS, s_Split, s_Join, s_Runs]) w_glosslaw16_EditMany.F [.ty (.list (.list oI)), .ty (.list (.base 1)), tS, tI] [.bool] := ⟨_, by cbv, _, by cbv, _, by cbv⟩
def s_Many : FSpec Un := ⟨⟨f_glosslaw16_EditMany, [.ty (.list (.list oI)), .ty (.list (.base 1)), tS, tI], [.bool]⟩, fun _ => True, fun _ => [DB true], fun _ => rfl⟩
set_option maxRecDepth 100000 in
theorem many_ok : FGood Tryd.prog s_Many := by
  refine Wk.ok mixed tok (envOk (.cons lines_ok (.cons kedit_ok (.cons do_ok (.cons editAll_ok (.cons sameS_ok (.cons split_ok (.cons join_ok (.cons eruns_ok .nil)))))))) [] no_same) w_glosslaw16_EditMany k_Many rfl rfl ?_
  rintro ⟨(texts : List (List Int)), (ks : List KEdit), (s : Str), (cut : Int), _⟩ hpre R hR Go hGo
  replace hR : R = [DB true] := hR
  have h0 := hGo 0 _ rfl
  have h1 := hGo 1 _ rfl
  clear hGo
  show TDen _ _ _ _ [DL (.list oI) texts, DL (.base 1) ks, DS s, DI cut]
  simp [k_Many, TDen, Tm.den, nthD, s_Lines, s_KEdit, s_Do, s_All, s_SameS, s_Split, s_Join, s_Runs, in64]
  have hkl := keepLines_len texts
  have hno := keep_no texts
  have hsh := join_len _ (keep_short texts)
  generalize keepLines texts = ls at *
  have tail : ∀ (now : List Str) (t : Str), now.length ≤ 1000 → t.length ≤ 30 → Go 1 [DS t, DL .str ls, DL .str now, DL .str now, DI 0, DL .str [], DI 5, DI 0, DI t.length, DI 0] := by
    clear h0
    intro now t hn ht
    refine h1 Nat (fun i => [DS t, DL .str ls, DL .str now, DL .str now, DI 0, DL .str [], DI 5, DI (cntOf 10 (t.take i) 0), DI t.length, DI i]) (fun i => i ≤ t.length) (fun i => t.length - i) (fun i hI ih => ?_) 0 (Nat.zero_le _)
    clear h1
    have hle := cnt_lt 10 t
    have hlt : (joinL ls).length ≤ 1000000 := by omega
    have hsp := splitT_len t
    have hjs := join_split t
    have hjl : (splitT t).length ≤ 1000000 := by
      have h3 : (splitT t).length ≤ t.length + 1 := by
        split at hsp
        · omega
        · split at hsp <;> omega
      omega
    have hj2 : (joinL (splitT t)).length ≤ 1000000 := by (have hq : t.length ≤ 1000 := by omega); rcases hjs with h | h <;> rw [h] <;> (try simp) <;> omega
    have hback := split_join hno
    simp [TDen, Tm.den, nthD, s_SameS, s_Split, s_Join, s_Runs, in64, hlt, hjl, hj2, hback]
    have leaf : ∀ n : Int, ((splitT t).length : Int) = n → t.length ≤ 1000000 ∧ now.length ≤ 1000000 ∧ ls.length ≤ 1000000 ∧
        (((splitT t).length : Int) = n →
          (joinL (splitT t) = t → (splitT [] = [] → [DB true] = R) ∧ (¬splitT [] = [] → [{ t := Ty.bool, v := false }] = R)) ∧
          (¬joinL (splitT t) = t → t.length ≤ 9223372036854775806 ∧
            (joinL (splitT t) = t ++ [10] → (splitT [] = [] → [DB true] = R) ∧ (¬splitT [] = [] → [{ t := Ty.bool, v := false }] = R)) ∧ (¬joinL (splitT t) = t ++ [10] → [{ t := Ty.bool, v := false }] = R))) ∧
        (¬((splitT t).length : Int) = n → [{ t := Ty.bool, v := false }] = R) := fun n hn' =>
      ⟨by omega, by omega, by omega, fun _ => ⟨fun _ => ⟨fun _ => hR.symm, fun h => absurd rfl h⟩, fun h3 => ⟨by omega, fun _ => ⟨fun _ => hR.symm, fun h => absurd rfl h⟩, fun h4 => absurd (hjs.resolve_left h3) h4⟩⟩, fun h => absurd hn' h⟩
    have hlast : t ≠ [] → (hasSuf t [10] = true ↔ (((t[t.length - 1]?.getD 0).toNat : Nat) : Int) = 10) := fun h => by
      rw [last_suf h, List.getD_eq_getElem?_getD]
      exact ⟨fun e => by rw [e]; rfl, fun e => UInt8.toNat_inj.1 (by have : ((10 : UInt8)).toNat = 10 := rfl; omega)⟩
    have hstep : ∀ (hi : i < t.length), cntOf 10 (t.take (i + 1)) 0 = cntOf 10 (t.take i) 0 + (if (((t[i]?.getD 0).toNat : Nat) : Int) = 10 then 1 else 0) := fun hi => by
      rw [List.take_add_one, List.getElem?_eq_getElem hi, cnt_app]
      simp only [Option.toList_some, Option.getD_some]
      by_cases hb : ((t[i].toNat : Nat) : Int) = 10
      · rw [if_pos hb]
        have : Nat.beq t[i].toNat 10 = true := by rw [show t[i].toNat = 10 by omega]; rfl
        simp only [cntOf, this]
      · rw [if_neg hb]
        have : Nat.beq t[i].toNat 10 = false := nbeq_false fun e => hb (by omega)
        simp only [cntOf, this]; omega
    have hci := cnt_lt 10 (t.take i)
    have hci : cntOf 10 (t.take i) 0 ≤ 30 := by simp at hci; omega
    refine ⟨fun a1 => ⟨a1, fun a2 => ?_, fun a2 => ?_⟩, fun a1 => ?_⟩
    · have key := ih (i + 1) (by omega) (by omega)
      rw [hstep a1, if_pos a2] at key
      exact ⟨by omega, by omega, key⟩
    · have key := ih (i + 1) (by omega) (by omega)
      rw [hstep a1, if_neg a2] at key
      exact ⟨by omega, key⟩
    · rw [List.take_of_length_le a1] at hci ⊢
      refine ⟨fun a2 => ?_, fun a2 => ?_⟩
      · have hne : t ≠ [] := by rintro rfl; simp at a2
        rw [if_neg hne] at hsp
        refine ⟨by omega, by omega, fun a3 => ⟨by omega, leaf _ ?_⟩, fun a3 => leaf _ ?_⟩
        · rw [hsp, if_neg fun h => a3 ((hlast hne).1 h)]
        · rw [hsp, if_pos ((hlast hne).2 a3)]; simp
      · refine leaf _ ?_
        rw [hsp, if_pos a2]; simp
  clear h1
  refine h0 (List Edit × List Str) (fun y => [DL (.base 1) ks, DS s, DL .str ls, DL .str y.2, DI y.1.length, DL (.base 0) y.1]) (fun y => allR ls y.1 = (y.2, 0) ∧ y.2.length ≤ 12 + 3 * y.1.length ∧ y.1.length ≤ 6 ∧ y.1.length ≤ ks.length) (fun y => 6 - y.1.length) (fun ⟨es, now⟩ hI ih => ?_) ([], ls) ⟨rfl, by simp; omega, by simp, by simp⟩
  clear h0
  dsimp only at hI ih ⊢
  obtain ⟨i1, i2, i3, i4⟩ := hI
  have hbad : allR ls (es ++ [⟨(now.length : Int) + 1, 0, []⟩]) = ([], 5) := by
    rw [allR_app es ls _ (by rw [i1]), i1, if_neg (by rw [far_wrong]; decide)]
  have ht : (s.take 30).length ≤ 30 := by simp; omega
  have hgo := tail now (s.take 30) (by omega) ht
  have e1 : List.take (min (s.length : Int) 30).toNat s = s.take 30 := by rw [List.take_eq_take_iff]; omega
  have e2 : ((min (min (s.length : Int) 30).toNat s.length : Nat) : Int) = ((s.take 30).length : Int) := by rw [List.length_take]; omega
  have fin : ∀ x : Edit, x = ({ at_ := (now.length : Int) + 1, cut := 0, put := [] } : Edit) → (es.length + 1) * 40 ≤ 140737488355328 ∧ es.length ≤ 9223372036854775806 ∧ (ls.length ≤ 60 ∧ List.length ((es : List Edit) ++ [(x : Edit)]) ≤ 1000000) ∧ (0 ≤ min (s.length : Int) 30 ∧ min (s.length : Int) 30 ≤ s.length) ∧
      Go 1 [{ t := Ty.str, v := List.take (min (s.length : Int) 30).toNat s }, DL Ty.str ls, DL Ty.str now, DL Ty.str now, DI 0, DL Ty.str (allR ls ((es : List Edit) ++ [(x : Edit)])).fst, DI (allR ls ((es : List Edit) ++ [(x : Edit)])).snd, { t := Ty.int IntKind.i64, v := 0 },
        { t := Ty.int IntKind.i64, v := ((min (min (s.length : Int) 30).toNat s.length : Nat) : Int) }, { t := Ty.int IntKind.i64, v := 0 }] := by
    intro x hx
    subst hx
    rw [hbad, e1, e2]
    exact ⟨by omega, by omega, ⟨by omega, by simp; omega⟩, by omega, hgo⟩
  simp [TDen, Tm.den, nthD, s_Lines, s_KEdit, s_Do, s_All, s_SameS, s_Split, s_Join, s_Runs, in64, i1, mnxI]
  refine ⟨fun a1 => ⟨fun a2 => ⟨a1, fun (x : KEdit) hx => ?_⟩, fun _ => ⟨⟨by omega, by omega⟩, (by omega : es.length * 40 ≤ 140737488355328), (by omega : es.length ≤ 9223372036854775807), by omega, fin⟩⟩, fun _ => ⟨⟨by omega, by omega⟩, (by omega : es.length * 40 ≤ 140737488355328), (by omega : es.length ≤ 9223372036854775807), by omega, fin⟩⟩
  obtain ⟨k1, k2⟩ := keep_right x (now := now) (by omega)
  have d1 : doE (keepEdit x now.length) now = 0 := by unfold doE; rw [if_pos k1]
  have d2 : doL (keepEdit x now.length) now = editDo (keepEdit x now.length) now := by unfold doL; rw [if_pos k1]
  rw [d1, d2]
  have a1' : (es : List Edit).length < (ks : List KEdit).length := a1
  have hl : ((es : List Edit) ++ [keepEdit x now.length]).length = es.length + 1 := by simp
  have key := ih ((es : List Edit) ++ [keepEdit x now.length], editDo (keepEdit x now.length) now) (by dsimp only; rw [hl]; omega) ⟨by rw [allR_app es ls _ (by rw [i1]), i1, if_pos k1], by dsimp only; rw [hl]; omega, by dsimp only; rw [hl]; omega, by dsimp only; rw [hl]; omega⟩
  dsimp only at key
  rw [hl] at key
  exact ⟨by omega, by omega, fun h => absurd rfl h, fun _ => ⟨by show ((es : List Edit) ++ [keepEdit x now.length]).length * 40 ≤ _; rw [hl]; omega, by show ((es : List Edit) ++ [keepEdit x now.length]).length ≤ _; rw [hl]; omega, by omega, key⟩⟩
end Go.Proofs.YtpoegfkajdbplaaDoor
namespace Go.Dm
open Go.RowKit
set_option linter.unusedVariables false
set_option linter.unusedSimpArgs false
def FReps (g : G) (w : World) : List F → List Value → Prop
  | [], vs => vs = []
  | x :: r, vs => ∃ v vr, vs = v :: vr ∧ FRep g w x v ∧ FReps g w r vr
def rowFields (P : Program) : List Field → Nat → Nat → Bool
  | [], i, n => Nat.beq i n
  | f :: r, i, n => Nat.beq f.offset i && rowFields P r (i + P.cellsOf f.type) n
def tyOk (P : Program) : Nat → TypeId → Bool
  | 0, _ => false
  | n + 1, t =>
    match P.underlying t with
    | some .bool => true
    | some (.int _) => true
    | some .string => true
    | some (.slice e) => Nat.blt 0 (P.cellsOf e) && tyOk P n e
    | some (.struct fs) => rowFields P fs.toList 0 (P.cellsOf t) && fs.toList.all fun f => tyOk P n f.type
    | some (.array m e) => Nat.beq (m * P.cellsOf e) (P.cellsOf t) && tyOk P n e
    | _ => false
def TyF (P : Program) : Nat → TypeId → List F → Prop
  | 0, _, _ => False
  | n + 1, t, fs =>
    match P.underlying t with
    | some .bool => ∃ b, fs = [.bool b]
    | some (.int k) => ∃ v, fs = [.int k v] ∧ (Lit.int k v).wf = true
    | some .string => ∃ s, fs = [.str s] ∧ s.length ≤ maxLen
    | some (.slice e) => fs = [.nils] ∨ ∃ m cs, fs = [.sl m cs] ∧ m ≤ maxLen ∧ cs.length = m * P.cellsOf e ∧ ∀ i, i < m → TyF P n e ((cs.drop (i * P.cellsOf e)).take (P.cellsOf e))
    | some (.struct fields) => fs.length = P.cellsOf t ∧ ∀ f ∈ fields.toList, TyF P n f.type ((fs.drop f.offset).take (P.cellsOf f.type))
    | some (.array m e) => fs.length = P.cellsOf t ∧ ∀ i, i < m → TyF P n e ((fs.drop (i * P.cellsOf e)).take (P.cellsOf e))
    | _ => False
section
variable {g : G} {w : World} {P : Program}
theorem FReps.len : ∀ {fs : List F} {vs : List Value}, FReps g w fs vs → fs.length = vs.length
  | [], vs, h => by simp only [FReps] at h; subst h; rfl
  | x :: r, vs, h => by obtain ⟨v, vr, rfl, _, h2⟩ := h; simp [h2.len]
theorem FReps.app : ∀ {fs gs : List F} {vs us : List Value}, FReps g w fs vs → FReps g w gs us → FReps g w (fs ++ gs) (vs ++ us)
  | [], gs, vs, us, h, k => by simp only [FReps] at h; subst h; exact k
  | x :: r, gs, vs, us, h, k => by obtain ⟨v, vr, rfl, h1, h2⟩ := h; exact ⟨v, vr ++ us, rfl, h1, h2.app k⟩
theorem FReps.c {σ : St} : ∀ {fs : List F} {vs : List Value}, FReps g w fs vs → CReps g w σ (fs.map .f) vs
  | [], vs, h => h
  | x :: r, vs, h => by obtain ⟨v, vr, rfl, h1, h2⟩ := h; exact ⟨v, vr, rfl, h1, h2.c⟩
theorem pieces {Q : List F → Prop} (sz : Nat) : ∀ (n i : Nat) (vs : List Value), vs.length = n * sz →
    (∀ j, j < n → ∃ fs, FReps g w fs ((vs.drop (j * sz)).take sz) ∧ fs.length = sz ∧ Q fs) → ∃ fs, FReps g w fs vs ∧ fs.length = n * sz ∧ ∀ j, j < n → Q ((fs.drop (j * sz)).take sz)
  | 0, i, vs, hl, h => by
    have : vs = [] := List.eq_nil_of_length_eq_zero (by simpa using hl)
    subst this
    exact ⟨[], rfl, by simp, fun j hj => by omega⟩
  | n + 1, i, vs, hl, h => by
    obtain ⟨f0, h0, l0, q0⟩ := h 0 (by omega)
    simp only [Nat.zero_mul, List.drop_zero] at h0
    obtain ⟨fr, h1, l1, q1⟩ := pieces (Q := Q) sz n (i + 1) (vs.drop sz) (by rw [List.length_drop, hl, Nat.add_mul]; omega) fun j hj => by
      obtain ⟨fs, a, b, c⟩ := h (j + 1) (by omega)
      refine ⟨fs, ?_, b, c⟩
      rw [List.drop_drop]
      rw [show sz + j * sz = (j + 1) * sz from by rw [Nat.add_mul]; omega]
      exact a
    refine ⟨f0 ++ fr, ?_, by rw [List.length_append, l0, l1, Nat.add_mul]; omega, fun j hj => ?_⟩
    · have := h0.app h1
      rwa [List.take_append_drop] at this
    · cases j with
      | zero =>
        simp only [Nat.zero_mul, List.drop_zero]
        rw [List.take_append_of_le_length (by omega), List.take_of_length_le (by omega)]
        exact q0
      | succ j =>
        have e : (j + 1) * sz = f0.length + j * sz := by rw [l0, Nat.add_mul]; omega
        rw [e, List.drop_length_add_append]
        exact q1 j (by omega)
theorem fields_go {Q : Field → List F → Prop} {vs : List Value} : ∀ (l : List Field) (i : Nat), rowFields P l i vs.length = true →
    (∀ f ∈ l, ∃ fs, FReps g w fs ((vs.drop f.offset).take (P.cellsOf f.type)) ∧ fs.length = P.cellsOf f.type ∧ Q f fs) →
    ∃ fs, FReps g w fs (vs.drop i) ∧ ∀ f ∈ l, i ≤ f.offset ∧ Q f ((fs.drop (f.offset - i)).take (P.cellsOf f.type))
  | [], i, hr, h => by
    have hi := Nat.eq_of_beq_eq_true hr
    refine ⟨[], ?_, fun f hf => by cases hf⟩
    rw [List.drop_of_length_le (by omega)]
    rfl
  | f :: r, i, hr, h => by
    simp only [rowFields, Bool.and_eq_true] at hr
    have ho := Nat.eq_of_beq_eq_true hr.1
    obtain ⟨f0, h0, l0, q0⟩ := h f (by simp)
    obtain ⟨fr, h1, q1⟩ := fields_go r (i + P.cellsOf f.type) hr.2 fun f' hf' => h f' (List.mem_cons_of_mem _ hf')
    rw [ho] at h0
    refine ⟨f0 ++ fr, ?_, fun f' hf' => ?_⟩
    · have := h0.app h1
      rw [← List.drop_drop, List.take_append_drop] at this
      exact this
    · rcases List.mem_cons.1 hf' with rfl | hf'
      · refine ⟨by omega, ?_⟩
        rw [ho, Nat.sub_self, List.drop_zero, List.take_append_of_le_length (by omega), List.take_of_length_le (by omega)]
        exact q0
      · obtain ⟨hle, hq⟩ := q1 f' hf'
        refine ⟨by omega, ?_⟩
        rw [show f'.offset - i = f0.length + (f'.offset - (i + P.cellsOf f.type)) from by omega, List.drop_length_add_append]
        exact hq
theorem rowFields_le : ∀ (l : List Field) (i : Nat) {n : Nat}, rowFields P l i n = true → i ≤ n
  | [], i, n, h => Nat.le_of_eq (Nat.eq_of_beq_eq_true h)
  | f :: r, i, n, h => by
    simp only [rowFields, Bool.and_eq_true] at h
    have := rowFields_le r _ h.2
    omega
theorem rowFields_in : ∀ (l : List Field) (i : Nat) {n : Nat}, rowFields P l i n = true → ∀ f ∈ l, f.offset + P.cellsOf f.type ≤ n
  | [], i, n, h, f, hf => by cases hf
  | f0 :: r, i, n, h, f, hf => by
    simp only [rowFields, Bool.and_eq_true] at h
    have h0 := Nat.eq_of_beq_eq_true h.1
    rcases List.mem_cons.1 hf with rfl | hf
    · have := rowFields_le r _ h.2
      omega
    · exact rowFields_in r _ h.2 f hf
theorem cells_get {w : World} {base n : Nat} {a : Addr} {cs : List Value} (h : w.cells? base a n = some cs) : cs.length = n ∧ ∀ i, i < n → w.cell? (a.add i) = cs[i]? := by
  unfold World.cells? at h
  split at h
  · refine ⟨by simpa using mapM_some_length h, fun i hi => ?_⟩
    exact mapM_some_get h i i (by simp [hi])
  · cases h
theorem cell_in {w : World} {a : Addr} {v : Value} (h : w.cell? a = some v) : a.block < w.heap.size ∧ a.spot = none := by
  unfold World.cell? at h
  split at h
  · rename_i c T fz hb
    split at h
    · cases h
    · rename_i hs
      exact ⟨(Array.getElem?_eq_some_iff.1 hb).1, by cases hh : a.spot with | none => rfl | some x => simp [hh] at hs⟩
  · cases h
theorem frow_of {b : Nat} : ∀ {fs : List F} {vs : List Value} (o : Nat), FReps (ghost0 w) w fs vs → (∀ i, i < vs.length → w.cell? ⟨b, o + i, none⟩ = vs[i]?) → FRow (ghost0 w) w b o fs
  | [], vs, o, h, hc => trivial
  | x :: r, vs, o, h, hc => by
    obtain ⟨v, vr, rfl, h1, h2⟩ := h
    have h0 := hc 0 (by simp)
    simp at h0
    refine ⟨(cell_in h0).1, ⟨v, h0, h1⟩, frow_of (o + 1) h2 fun i hi => ?_⟩
    have := hc (i + 1) (by simp; omega)
    rw [show o + (i + 1) = o + 1 + i from by omega] at this
    simpa using this
theorem gather {w : World} {a : Addr} (sz : Nat) : ∀ (len : Nat), (∀ i, i < len → ∃ cs, w.cells? 0 (a.add (i * sz)) sz = some cs) → ∃ vs : List Value, vs.length = len * sz ∧ ∀ i, i < len → w.cells? 0 (a.add (i * sz)) sz = some ((vs.drop (i * sz)).take sz)
  | 0, _ => ⟨[], by simp, fun i hi => by omega⟩
  | k + 1, each => by
    obtain ⟨vs, h1, h2⟩ := gather sz k fun i hi => each i (by omega)
    obtain ⟨cs', h3⟩ := each k (by omega)
    refine ⟨vs ++ cs', by rw [List.length_append, h1, (cells_get h3).1, Nat.add_mul]; omega, fun i hi => ?_⟩
    by_cases hik : i < k
    · rw [h2 i hik]
      have hb : (i + 1) * sz ≤ k * sz := Nat.mul_le_mul_right _ hik
      rw [Nat.add_mul] at hb
      rw [List.drop_append_of_le_length (by omega), List.take_append_of_le_length (by rw [List.length_drop]; omega)]
    · have : i = k := by omega
      subst this
      rw [h3, ← h1, List.drop_left, List.take_of_length_le (by rw [(cells_get h3).1]; exact Nat.le_refl _)]
theorem trod_plain {H : Type} {enc : TypeId × Value → H} {spare : Nat → Bool} (hspare : ∀ b, spare b = true) {held : Bool} : ∀ (n : Nat) {t : TypeId} {fuel : Nat} {cs : List Value} {x : DataW H × List MemPlace}, tyOk P n t = true → cs.length = P.cellsOf t →
    DataW.trod enc P w 0 spare held fuel t cs = some x → ∃ fs, FReps (ghost0 w) w fs cs ∧ fs.length = P.cellsOf t ∧ TyF P n t fs
  | 0, t, fuel, cs, x, h, _, _ => by simp [tyOk] at h
  | n + 1, t, fuel, cs, x, h, hlen, ht => by
    simp only [tyOk] at h
    split at h
    · rename_i hu
      obtain ⟨b, rfl, _⟩ := DataW.trod_bool hu ht
      exact ⟨[.bool b], ⟨_, [], rfl, rfl, rfl⟩, hlen, by simp only [TyF, hu]; exact ⟨b, rfl⟩⟩
    · rename_i k hu
      obtain ⟨v, rfl, _, hw⟩ := DataW.trod_int hu ht
      exact ⟨[.int k v], ⟨_, [], rfl, rfl, rfl⟩, hlen, by simp only [TyF, hu]; exact ⟨v, rfl, hw⟩⟩
    · rename_i hu
      obtain ⟨s, rfl, _, hs⟩ := DataW.trod_string hu ht
      refine ⟨[.str s.data.toList], ⟨_, [], rfl, ?_, rfl⟩, hlen, by simp only [TyF, hu]; exact ⟨_, rfl, by simpa using hs⟩⟩
      simp [FRep]
    · rename_i e hu
      simp only [Bool.and_eq_true] at h
      rcases DataW.trod_slice hu ht with ⟨rfl, _⟩ | ⟨a, len, cap, elems, rest, m, _, rfl, _, _, hl, hm, hle, hel, hsp, _⟩
      · exact ⟨[.nils], ⟨_, [], rfl, rfl, rfl⟩, hlen, by simp only [TyF, hu]; exact .inl trivial⟩
      · have he : P.cellsOf e = P.cellsOf e := rfl
        -- the elements' cells
        have each : ∀ i, i < len → ∃ cs', w.cells? 0 (a.add (i * P.cellsOf e)) (P.cellsOf e) = some cs' ∧ ∃ fs, FReps (ghost0 w) w fs cs' ∧ fs.length = P.cellsOf e ∧ TyF P n e fs := by
          intro i hi
          have h1 := hel i hi
          rw [List.getElem?_eq_getElem (by omega), Option.bind_eq_some_iff] at h1
          obtain ⟨cs', h2, h3⟩ := h1
          exact ⟨cs', h2, trod_plain hspare n h.2 (cells_get h2).1 h3⟩
        have all := gather (w := w) (a := a) (P.cellsOf e) len fun i hi => let ⟨cs', h, _⟩ := each i hi; ⟨cs', h⟩
        obtain ⟨vs, h1, h2⟩ := all
        obtain ⟨fs, q1, q2, q3⟩ := pieces (g := ghost0 w) (w := w) (Q := TyF P n e) (P.cellsOf e) len 0 vs h1 fun j hj => by
          obtain ⟨cs', h3, fs, h4, h5, h6⟩ := each j hj
          rw [h2 j hj] at h3
          cases h3
          exact ⟨fs, h4, h5, h6⟩
        refine ⟨[.sl len fs], ⟨_, [], rfl, ?_, rfl⟩, hlen, by simp only [TyF, hu]; exact .inr ⟨len, fs, rfl, by omega, q2, q3⟩⟩
        refine ⟨some a, cap, rfl, hl, hm, ?_⟩
        by_cases hz : 0 < vs.length
        · right
          have hsz : 0 < P.cellsOf e := by
            rcases Nat.eq_zero_or_pos (P.cellsOf e) with hh | hh
            · rw [h1, hh] at hz; omega
            · exact hh
          have hlen0 : 0 < len := by
            rcases Nat.eq_zero_or_pos len with hh | hh
            · rw [h1, hh] at hz; omega
            · exact hh
          obtain ⟨b, o, s⟩ := a
          have hs : s = none := by
            have e1 := (cells_get (h2 0 hlen0)).2 0 hsz
            have hl0 : (List.take (P.cellsOf e) (List.drop (0 * P.cellsOf e) vs))[0]? = some vs[0] := by
              rw [List.getElem?_take, if_pos hsz]; simp [hz]
            rw [hl0] at e1
            have := (cell_in e1).2
            simpa [Addr.add] using this
          subst hs
          have hcell : ∀ k, k < vs.length → w.cell? (Addr.add ⟨b, o, none⟩ k) = vs[k]? := by
            intro k hk
            have hd : k / P.cellsOf e < len := (Nat.div_lt_iff_lt_mul hsz).2 (by rw [← h1]; exact hk)
            have hmod := Nat.mod_lt k hsz
            have e1 := (cells_get (h2 _ hd)).2 (k % P.cellsOf e) hmod
            have e2 : k / P.cellsOf e * P.cellsOf e + k % P.cellsOf e = k := by rw [Nat.mul_comm]; exact Nat.div_add_mod k _
            rw [List.getElem?_take, if_pos hmod, List.getElem?_drop, e2, add_addr, add_addr, Nat.add_assoc, e2] at e1
            rw [← e1, add_addr]
          refine ⟨b, o, rfl, frow_of o q1 fun i hi => ?_⟩
          have := hcell i hi
          rwa [add_addr] at this
        · have hv : vs = [] := List.eq_nil_of_length_eq_zero (by omega)
          have hf : fs = [] := List.eq_nil_of_length_eq_zero (by rw [q2, ← h1, hv]; rfl)
          subst hf
          have hsz : 0 < P.cellsOf e := blt_nat h.1
          have hl0 : len = 0 := by
            rw [hv] at h1
            rcases Nat.eq_zero_or_pos len with hh | hh
            · exact hh
            · have := Nat.mul_pos hh hsz
              simp at h1
              omega
          subst hl0
          by_cases hc : cap = 0
          · exact .inl ⟨.inr hc, rfl, rfl⟩
          · right
            obtain ⟨hr, hj⟩ := hsp (hspare _)
            have h0 := hj 0 (by omega)
            rw [List.getElem?_eq_getElem (by omega), Option.bind_eq_some_iff] at h0
            obtain ⟨cs', e1, _⟩ := h0
            have e2 := (cells_get e1).2 0 hsz
            rw [List.getElem?_eq_getElem (by rw [(cells_get e1).1]; exact hsz)] at e2
            have := (cell_in e2).2
            simp [Addr.add] at this
            obtain ⟨b, o, s⟩ := a
            simp only at this
            subst this
            exact ⟨b, o, rfl, trivial⟩
    · rename_i fields hu
      simp only [Bool.and_eq_true, List.all_eq_true] at h
      obtain ⟨xs, m, rfl, _, hl, hx, hf⟩ := DataW.trod_struct hu ht
      have hr := h.1
      rw [← hl] at hr
      obtain ⟨fs, q1, q2⟩ := fields_go (g := ghost0 w) (w := w) (Q := fun f fs => TyF P n f.type fs) fields.toList 0 hr fun f hf' => by
        obtain ⟨i, hi⟩ := List.mem_iff_getElem?.1 hf'
        have h3 := hf i f (by simpa using hi)
        have hi' : i < xs.length := by rw [hx]; simpa using (List.getElem?_eq_some_iff.1 hi).1
        rw [List.getElem?_eq_getElem hi'] at h3
        have hlen' : ((cs.drop f.offset).take (P.cellsOf f.type)).length = P.cellsOf f.type := by
          have := rowFields_in fields.toList 0 hr f hf'
          rw [List.length_take, List.length_drop]
          omega
        exact trod_plain hspare n (h.2 f hf') hlen' h3
      rw [List.drop_zero] at q1
      refine ⟨fs, q1, by rw [q1.len, hl], ?_⟩
      simp only [TyF, hu]
      refine ⟨by rw [q1.len, hl], fun f hf' => ?_⟩
      have := (q2 f hf').2
      simpa using this
    · rename_i m e hu
      simp only [Bool.and_eq_true] at h
      have hme := Nat.eq_of_beq_eq_true h.1
      obtain ⟨xs, k, _, hx, hl, hlx, hf⟩ := DataW.trod_array hu ht
      obtain ⟨fs, q1, q2, q3⟩ := pieces (g := ghost0 w) (w := w) (Q := TyF P n e) (P.cellsOf e) m 0 cs (by rw [hlen, hme]) fun j hj => by
        have h3 := hf j hj
        rw [List.getElem?_eq_getElem (by omega)] at h3
        have hb : (j + 1) * P.cellsOf e ≤ m * P.cellsOf e := Nat.mul_le_mul_right _ hj
        rw [Nat.add_mul] at hb
        exact trod_plain hspare n h.2 (by rw [List.length_take, List.length_drop, hlen]; omega) h3
      refine ⟨fs, q1, by rw [q1.len, hlen], ?_⟩
      simp only [TyF, hu]
      exact ⟨by rw [q1.len, hlen], q3⟩
    · cases h
end
end Go.Dm
namespace Go.Dm
open Go.RowKit Go.ChangeShapes
set_option linter.unusedVariables false
set_option linter.unusedSimpArgs false
def aggT (P : Program) (t : TypeId) : Bool := match P.underlying t with | some (.struct _) | some (.array _ _) => true | _ => false
def argOk (P : Program) (n : Nat) (t : TypeId) : Bool := tyOk P n t && (aggT P t || Nat.beq (P.cellsOf t) 1)
def ArgF (P : Program) (n : Nat) (t : TypeId) (x : V) : Prop :=
  match aggT P t with
  | true => ∃ fs, x = .a (fs.map .f) ∧ TyF P n t fs
  | false => ∃ f, x = .c (.f f) ∧ TyF P n t [f]
def ArgsF (P : Program) (n : Nat) : List TypeId → List V → Prop
  | [], xs => xs = []
  | t :: ts, xs => ∃ x xr, xs = x :: xr ∧ ArgF P n t x ∧ ArgsF P n ts xr
section
variable {P : Program} {W : World} {H : Type} {enc : TypeId × Value → H}
theorem agg_cells {t : TypeId} (h : aggT P t = true) {base : Nat} {v : Value} (hv : Value.okWide P W .any base t v) : ∃ cs, v = .agg cs ∧ cs.size = P.cellsOf t := by
  unfold aggT at h
  unfold Value.okWide at hv
  split at h
  · rename_i fs hu
    rw [hu] at hv
    obtain ⟨cs, h1, h2, _⟩ := hv
    exact ⟨cs, h1, h2⟩
  · rename_i m e hu
    rw [hu] at hv
    obtain ⟨cs, h1, h2, _⟩ := hv
    exact ⟨cs, h1, h2⟩
  · cases h
theorem one_cells {n : Nat} {t : TypeId} (h : aggT P t = false) (ht : tyOk P n t = true) {base : Nat} {v : Value} (hv : Value.okWide P W .any base t v) : v.cells.toList = [v] := by
  unfold aggT at h
  unfold Value.okWide at hv
  cases n with
  | zero => simp [tyOk] at ht
  | succ n =>
  simp only [tyOk] at ht
  split at ht
  all_goals first
    | (rename_i hu; rw [hu] at h hv; simp only [Cell.okWide, hu] at hv; cases v <;> first | rfl | (simp [Cell.ok, hu] at hv; done))
    | (rename_i k hu; rw [hu] at h hv; simp only [Cell.okWide, hu] at hv; cases v <;> first | rfl | (simp [Cell.ok, hu] at hv; done))
    | (rename_i k hu; rw [hu] at h; cases h; done)
    | (rename_i k k' hu; rw [hu] at h; cases h; done)
    | cases ht
theorem arg_in {n : Nat} {t : TypeId} (ht : argOk P n t = true) {base : Nat} {v : Value} (hv : Value.okWide P W .any base t v) {d : DataW H} {ps : List MemPlace} (h : DataW.Trod enc P W 0 (fun _ => true) true t v d ps) :
    ∃ x, VRep (ghost0 W) W [] x v ∧ ArgF P n t x := by
  obtain ⟨fuel, hf⟩ := h
  simp only [argOk, Bool.and_eq_true, Bool.or_eq_true] at ht
  obtain ⟨ht, hc⟩ := ht
  unfold ArgF
  cases ha : aggT P t with
  | true =>
    obtain ⟨cs, rfl, hs⟩ := agg_cells ha hv
    obtain ⟨fs, h1, h2, h3⟩ := trod_plain (fun _ => rfl) n ht (by simpa [Value.cells] using hs) hf
    exact ⟨.a (fs.map .f), ⟨cs.toList, by simp, h1.c⟩, fs, rfl, h3⟩
  | false =>
    have h0 := one_cells ha ht hv
    rw [ha] at hc
    have h1 : P.cellsOf t = 1 := by
      rcases hc with hc | hc
      · cases hc
      · exact Nat.eq_of_beq_eq_true hc
    rw [h0] at hf
    obtain ⟨fs, k1, k2, k3⟩ := trod_plain (fun _ => rfl) n ht (by simp [h1]) hf
    rw [h1] at k2
    match fs, k1, k2, k3 with
    | [f], k1, _, k3 =>
      obtain ⟨u, ur, e1, e2, _⟩ := k1
      cases e1
      exact ⟨.c (.f f), e2, f, rfl, k3⟩
theorem args_in {n : Nat} {base : Nat} : ∀ {ts : List TypeId} {vs : List Value} {ds : List (DataW H)} {ps : List MemPlace}, ts.all (argOk P n) = true → (∀ (j : Nat) t v, ts[j]? = some t → vs[j]? = some v → Value.okWide P W .any base t v) →
    DataW.TrodAll enc P W 0 (fun _ => true) true ts vs ds ps → ∃ xs, VReps (ghost0 W) W [] xs vs ∧ ArgsF P n ts xs
  | [], vs, ds, ps, _, _, h => by
    obtain ⟨rfl, _, _⟩ := trodAll_nil h
    exact ⟨[], rfl, rfl⟩
  | t :: ts, vs, ds, ps, ht, hv, h => by
    obtain ⟨v, vr, d, dr, p, q, rfl, rfl, rfl, h1, h2⟩ := trodAll_cons h
    simp only [List.all_cons, Bool.and_eq_true] at ht
    obtain ⟨x, a1, a2⟩ := arg_in ht.1 (hv 0 t v rfl rfl) h1
    obtain ⟨xr, b1, b2⟩ := args_in ht.2 (fun j t' v' h3 h4 => hv (j + 1) t' v' h3 h4) h2
    exact ⟨x :: xr, ⟨v, vr, rfl, a1, b1⟩, x, xr, rfl, a2, b2⟩
theorem args_out (hl : laidOutB P = true) {W' : World} (hb : Below W.heap.size W W') : ∀ {ts : List TypeId} {vs : List Value} {ds : List (DataW H)} {ps : List MemPlace}, ts.all (fun t => P.readableRec t && Nat.blt t P.types.size) = true →
    DataW.TrodAll enc P W 0 (fun _ => true) true ts vs ds ps → (∀ x ∈ ps, x.block < W.heap.size) → DataW.TrodAll enc P W' 0 (fun b => decide (b < W.heap.size)) true ts vs ds ps
  | [], vs, ds, ps, _, h, _ => by
    obtain ⟨rfl, rfl, rfl⟩ := trodAll_nil h
    exact trodAll_mk0
  | t :: ts, vs, ds, ps, ht, h, hlt => by
    obtain ⟨v, vr, d, dr, p, q, rfl, rfl, rfl, h1, h2⟩ := trodAll_cons h
    simp only [List.all_cons, Bool.and_eq_true] at ht
    exact ⟨p, q, Below.trod hl ht.1.1 (blt_nat ht.1.2) h1 hb (fun x hx => hlt x (List.mem_append_left _ hx)), args_out hl hb ht.2 h2 fun x hx => hlt x (List.mem_append_right _ hx), rfl⟩
end
end Go.Dm
namespace Go.Dm.Sx
open Go.Dm
set_option linter.unusedVariables false
set_option linter.unusedSimpArgs false
variable {U : Uni} {P : Program}
def ctys (lay : Nat → List Ty) : Ty → List Ty
  | .base n => lay n
  | t => [t]
def Cw (U : Uni) (fs : List F) (l : List Ty) : Prop := fs.length = l.length ∧ ∀ (j : Nat) (f : F) (t : Ty), fs[j]? = some f → l[j]? = some t → ∃ d : Dyn U.B, FD U f d ∧ d.t = t
theorem Cw.list : ∀ {fs : List F} {l : List Ty}, Cw U fs l → ∃ ds : List (Dyn U.B), FDs U fs ds ∧ ds.map Dyn.t = l
  | [], [], h => ⟨[], rfl, rfl⟩
  | [], t :: l, h => by have := h.1; simp at this
  | f :: r, [], h => by have := h.1; simp at this
  | f :: r, t :: l, h => by
    obtain ⟨d, h1, h2⟩ := h.2 0 f t rfl rfl
    obtain ⟨ds, h3, h4⟩ := Cw.list (fs := r) (l := l) ⟨by have := h.1; simpa using this, fun j f' t' hf ht => h.2 (j + 1) f' t' (by simpa using hf) (by simpa using ht)⟩
    exact ⟨d :: ds, ⟨d, ds, rfl, h1, h3⟩, by simp [h2, h4]⟩
theorem Cw.data {fs : List F} {u : Ty} (h : Cw U fs (ctys U.lay u)) : ∃ x : T U.B u, FDs U fs (cells U ⟨u, x⟩) := by
  obtain ⟨ds, h1, h2⟩ := h.list
  by_cases hb : ∃ n, u = .base n
  · obtain ⟨n, rfl⟩ := hb
    refine ⟨U.bd n ds, ?_⟩
    have : cells U (⟨.base n, U.bd n ds⟩ : Dyn U.B) = ds := by
      have hl : ds.length = (U.lay n).length := by rw [← List.length_map (f := Dyn.t), h2]; rfl
      apply List.ext_getElem?
      intro j
      by_cases hj : j < (U.lay n).length
      · have hd : ds[j]? = some ds[j] := List.getElem?_eq_getElem (by omega)
        rw [hd]
        simp only [cells, List.getElem?_map, List.getElem?_range hj, Option.map_some]
        rw [U.bd_acc n ds h2 j _ hd]
      · rw [List.getElem?_eq_none (by simp [cells]; omega), List.getElem?_eq_none (by omega)]
    rw [this]
    exact h1
  · have hc : ctys U.lay u = [u] := by cases u <;> first | rfl | exact absurd ⟨_, rfl⟩ hb
    rw [hc] at h2
    match ds, h2 with
    | [⟨t, v⟩], h2 =>
      simp only [List.map_cons, List.map_nil, List.cons.injEq, and_true] at h2
      subst h2
      refine ⟨v, ?_⟩
      have : cells U (⟨t, v⟩ : Dyn U.B) = [⟨t, v⟩] := by cases t <;> first | rfl | exact absurd ⟨_, rfl⟩ hb
      rw [this]
      exact h1
theorem FDs.appd : ∀ {fs gs : List F} {l m : List (Dyn U.B)}, FDs U fs l → FDs U gs m → FDs U (fs ++ gs) (l ++ m)
  | [], gs, l, m, h, k => by simp only [FDs] at h; subst h; exact k
  | f :: r, gs, l, m, h, k => by
    simp only [FDs] at h
    obtain ⟨d, l', rfl, h1, h2⟩ := h
    exact ⟨d, l' ++ m, rfl, h1, FDs.appd h2 k⟩
theorem rows_data {u : Ty} {sz : Nat} : ∀ (m : Nat) {cs : List F}, cs.length = m * sz → (∀ i, i < m → ∃ x : T U.B u, FDs U ((cs.drop (i * sz)).take sz) (cells U ⟨u, x⟩)) → ∃ xs : List (T U.B u), xs.length = m ∧ FDs U cs (flat U xs)
  | 0, cs, hl, h => ⟨[], rfl, by
    have : cs = [] := List.eq_nil_of_length_eq_zero (by simpa using hl)
    subst this; rfl⟩
  | m + 1, cs, hl, h => by
    rw [Nat.succ_mul] at hl
    obtain ⟨x, hx⟩ := h 0 (by omega)
    rw [Nat.zero_mul, List.drop_zero] at hx
    obtain ⟨xs, h1, h2⟩ := rows_data (u := u) (sz := sz) m (cs := cs.drop sz) (by rw [List.length_drop]; omega) fun i hi => by
      have := h (i + 1) (by omega)
      rw [Nat.succ_mul] at this
      rw [List.drop_drop, Nat.add_comm sz]
      exact this
    refine ⟨x :: xs, by simp [h1], ?_⟩
    rw [flat_cons]
    have := hx.appd h2
    rwa [List.take_append_drop] at this
def tyM (P : Program) (lay : Nat → List Ty) : Nat → TypeId → List Ty → Bool
  | 0, _, _ => false
  | n + 1, t, l =>
    match P.underlying t with
    | some .bool => (match l with | [.bool] => true | _ => false)
    | some (.int k) => (match l with | [.int k'] => decide (k = k') | _ => false)
    | some .string => (match l with | [.str] => true | _ => false)
    | some (.slice e) => (match l with | [.list u] => tyM P lay n e (ctys lay u) && Nat.beq (P.cellsOf e) (ctys lay u).length | _ => false)
    | some (.struct fields) => Nat.beq l.length (P.cellsOf t) && (fields.toList.all (fun f => tyM P lay n f.type ((l.drop f.offset).take (P.cellsOf f.type))) &&
        (List.range (P.cellsOf t)).all fun j => fields.toList.any fun f => Nat.ble f.offset j && Nat.blt j (f.offset + P.cellsOf f.type))
    | _ => false
theorem tyM_ok : ∀ (n : Nat) {t : TypeId} {l : List Ty} {fs : List F}, tyM P U.lay n t l = true → TyF P n t fs → Cw U fs l
  | 0, t, l, fs, h, _ => by cases h
  | n + 1, t, l, fs, h, hf => by
    simp only [tyM] at h
    simp only [TyF] at hf
    have one : ∀ {f : F} {d : Dyn U.B}, FD U f d → Cw U [f] [d.t] := fun {f d} hd => ⟨rfl, fun j f' t' h1 h2 => by
      cases j with
      | zero => simp at h1 h2; subst h1 h2; exact ⟨d, hd, rfl⟩
      | succ j => simp at h1⟩
    split at h
    · rename_i hu
      rw [hu] at hf
      split at h
      · obtain ⟨b, rfl⟩ := hf; exact one (d := ⟨.bool, b⟩) rfl
      · cases h
    · rename_i k hu
      rw [hu] at hf
      split at h
      · obtain ⟨v, rfl, _⟩ := hf
        have := of_decide_eq_true h
        subst this
        exact one (d := ⟨.int k, v⟩) rfl
      · cases h
    · rename_i hu
      rw [hu] at hf
      split at h
      · obtain ⟨s, rfl, _⟩ := hf; exact one (d := ⟨.str, s⟩) rfl
      · cases h
    · rename_i e hu
      rw [hu] at hf
      split at h
      · rename_i u
        simp only [Bool.and_eq_true] at h
        obtain ⟨h1, h2⟩ := h
        have h2 := Nat.eq_of_beq_eq_true h2
        rcases hf with rfl | ⟨m, cs, rfl, _, h3, h4⟩
        · exact one (d := ⟨.list u, []⟩) ⟨u, rfl⟩
        · obtain ⟨xs, h5, h6⟩ := rows_data (U := U) (u := u) m h3 fun i hi => (tyM_ok n h1 (h4 i hi)).data
          exact one (d := ⟨.list u, xs⟩) ⟨u, xs, rfl, h5.symm, h6⟩
      · cases h
    · rename_i fields hu
      rw [hu] at hf
      simp only [Bool.and_eq_true, List.all_eq_true, List.any_eq_true, List.mem_range] at h
      obtain ⟨h1, h2, h3⟩ := h
      have h1 := Nat.eq_of_beq_eq_true h1
      obtain ⟨h4, h5⟩ := hf
      refine ⟨by omega, fun j f t' hj ht => ?_⟩
      have hlt := (List.getElem?_eq_some_iff.1 hj).1
      obtain ⟨fd, hfd, h6, h7⟩ := h3 j (by omega)
      have h6 := Nat.le_of_ble_eq_true h6
      have h7 : j < fd.offset + P.cellsOf fd.type := Nat.le_of_ble_eq_true h7
      refine (tyM_ok n (h2 fd hfd) (h5 fd hfd)).2 (j - fd.offset) f t' ?_ ?_
      · rw [List.getElem?_take_of_lt (by omega), List.getElem?_drop, show fd.offset + (j - fd.offset) = j by omega]; exact hj
      · rw [List.getElem?_take_of_lt (by omega), List.getElem?_drop, show fd.offset + (j - fd.offset) = j by omega]; exact ht
    · cases h
def baseT : Ty → Bool
  | .base _ => true
  | _ => false
def argsM (P : Program) (lay : Nat → List Ty) (n : Nat) : List TypeId → List In → Bool
  | [], [] => true
  | t :: ts, .ty u :: r => tyM P lay n t (ctys lay u) && ((aggT P t == baseT u) && argsM P lay n ts r)
  | _, _ => false
theorem argsM_ok {n : Nat} : ∀ {ts : List TypeId} {ins : List In} {xs : List V}, argsM P U.lay n ts ins = true → ArgsF P n ts xs → ∃ x : HL U (insTys ins), ArgsR U ins (HL.dyn _ x) xs
  | [], [], xs, h, hx => ⟨(), rfl, hx⟩
  | [], _ :: _, xs, h, hx => by cases h
  | _ :: _, [], xs, h, hx => by cases h
  | _ :: _, .fnc _ :: _, xs, h, hx => by cases h
  | _ :: _, .clo _ _ :: _, xs, h, hx => by cases h
  | t :: ts, .ty u :: r, xs, h, hx => by
    simp only [argsM, Bool.and_eq_true] at h
    obtain ⟨h1, h2, h3⟩ := h
    obtain ⟨x, xr, rfl, ha, hr⟩ := hx
    obtain ⟨y, hy⟩ := argsM_ok h3 hr
    have hag := eq_of_beq h2
    unfold ArgF at ha
    split at ha
    · rename_i hb
      obtain ⟨fs, rfl, hf⟩ := ha
      obtain ⟨v, hv⟩ := (tyM_ok (U := U) n h1 hf).data
      rw [hb] at hag
      cases u with
      | base k => exact ⟨(v, y), _, _, _, _, rfl, rfl, rfl, ⟨fs, rfl, hv⟩, hy⟩
      | _ => cases hag
    · rename_i hb
      obtain ⟨f, rfl, hf⟩ := ha
      obtain ⟨v, hv⟩ := (tyM_ok (U := U) n h1 hf).data
      rw [hb] at hag
      have hc : cells U (⟨u, v⟩ : Dyn U.B) = [⟨u, v⟩] := by cases u <;> first | rfl | cases hag
      rw [hc] at hv
      simp only [FDs] at hv
      obtain ⟨d, l', h4, h5, _⟩ := hv
      cases h4
      refine ⟨(v, y), _, _, _, _, rfl, rfl, rfl, ?_, hy⟩
      cases u with
      | base k => cases hag
      | _ => exact ⟨f, rfl, h5⟩
end Go.Dm.Sx
