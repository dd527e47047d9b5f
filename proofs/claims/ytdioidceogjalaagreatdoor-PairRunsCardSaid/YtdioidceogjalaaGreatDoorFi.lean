/- The plain machine, run by the kernel: open regions, code, a function's body. -/
import Derived.Test.YtdioidceogjalaaGreatDoorFh
namespace Go.Dm
set_option linter.unusedVariables false
set_option linter.unusedSimpArgs false

section
variable {P : Program} {tb : Tab}

theorem depGo_len (i : Nat) : ∀ (l : List Oper) (j : Nat) (acc : List Bool), (depGo i l j acc).length = acc.length + l.length
  | [], j, acc => by simp [depGo]
  | o :: r, j, acc => by rw [depGo, depGo_len i r]; simp; omega

def Dof (ops : Array Oper) (i j : Nat) : Bool := depB (depGo i ops.toList 0 []) j

theorem Dof_lt {ops : Array Oper} {i j : Nat} (h : Dof ops i j = true) : ∃ o, ops[j]? = some o := by
  unfold Dof depB at h
  rw [nth_eq] at h
  split at h
  · rename_i b hb
    have hlt := (List.getElem?_eq_some_iff.1 hb).1
    rw [depGo_len] at hlt
    simp at hlt
    exact ⟨ops[j], Array.getElem?_eq_getElem hlt⟩
  · cases h

theorem calm_spec {stl : Op → Bool} {ops : Array Oper} {listed : Array Bool} {i : Nat} (h : calmAt stl ops listed i = true) {j : Nat} {oj : Oper} (hj : ops[j]? = some oj) :
    (Dof ops i j = true → listed.getD j true = false ∧ ∃ e ∈ oj.after, Region.binds .any e = true ∧ (e.on = i ∨ Dof ops i e.on = true)) ∧
    (Dof ops i j = false → j ≠ i → listed.getD j true = false → stl oj.op = true) := by
  have hlt := (Array.getElem?_eq_some_iff.1 hj).1
  simp only [calmAt, List.all_eq_true, List.mem_range] at h
  have h1 := h j hlt
  rw [hj] at h1
  simp only at h1
  constructor
  · intro hd
    have hd' : depB (depGo i ops.toList 0 []) j = true := hd
    rw [hd'] at h1
    simp only [Bool.and_eq_true, Bool.not_eq_true'] at h1
    refine ⟨h1.1, ?_⟩
    obtain ⟨e, he, hb⟩ := Array.any_eq_true'.1 h1.2
    simp only [Bool.and_eq_true, Bool.or_eq_true] at hb
    exact ⟨e, he, hb.1, hb.2.imp (fun hh => Nat.eq_of_beq_eq_true hh) id⟩
  · intro hd hne hun
    have hd' : depB (depGo i ops.toList 0 []) j = false := hd
    rw [hd'] at h1
    simp only [Bool.or_eq_true] at h1
    rcases h1 with (h1 | h1) | h1
    · exact absurd (Nat.eq_of_beq_eq_true h1) hne
    · rw [hun] at h1; cases h1
    · exact h1

theorem pickX_spec {t : FT} : ∀ {L : List (Ch × (Unit → Plan))} {tl : Bool} {c : Ch} {p : Unit → Plan}, pickX tb t L = some (tl, c, p) → (c, p) ∈ L ∧ c.free = true ∧ (tl = true → tlessT tb c.op t = true) ∧ (tl = false → c.still = true ∧ c.calm = true)
  | [], tl, c, p, h => by simp [pickX] at h
  | (c0, p0) :: r, tl, c, p, h => by
    simp only [pickX] at h
    split at h
    · obtain ⟨a, b⟩ := pickX_spec h; exact ⟨List.mem_cons_of_mem _ a, b⟩
    · rename_i hf
      split at h
      · rename_i ht
        cases h
        exact ⟨by simp, hf, fun _ => ht, fun e => by cases e⟩
      · split at h
        · rename_i hs
          cases h
          simp only [Bool.and_eq_true] at hs
          exact ⟨by simp, hf, fun e => (by cases e), fun _ => hs⟩
        · obtain ⟨a, b⟩ := pickX_spec h; exact ⟨List.mem_cons_of_mem _ a, b⟩

theorem branchX_spec {α : Type} {f : Ch → (Unit → Plan) → Rs α} : ∀ {L : List (Ch × (Unit → Plan))} {o : List α}, branchX f L = some o → ∀ c p, (c, p) ∈ L → ∃ lx, f c p = some lx ∧ ∀ y ∈ lx, y ∈ o
  | [], o, h, c, p, hm => by simp at hm
  | (c0, p0) :: r, o, h, c, p, hm => by
    simp only [branchX] at h
    split at h
    · cases h
    · rename_i l hl
      split at h
      · cases h
      · rename_i l' hl'
        cases h
        rcases List.mem_cons.1 hm with e | hm
        · cases e
          exact ⟨l, hl, fun y hy => List.mem_append_left _ hy⟩
        · obtain ⟨lx, a, b⟩ := branchX_spec hl' c p hm
          exact ⟨lx, a, fun y hy => List.mem_append_right _ (b y hy)⟩

theorem frT_opd {m : Nat} {t : FT} (ht : OkT m t) : opd (frT m t) = t.at := by
  rw [← tA_at ht]
  exact funext fun x => toFr_opd (tA_in t) x

theorem tlessT_eq {m : Nat} {t : FT} (ht : OkT m t) {o : Op} (h : tlessT tb o t = true) : tless noF tb o (frT m t) = true := by
  cases o with
  | call c =>
    obtain ⟨cal, args, at'⟩ := c
    cases cal with
    | value x => simp [tlessT] at h
    | _ => simp only [tlessT, tless, frT_opd ht] at h ⊢; exact h
  | _ => simp only [tlessT, tless, frT_opd ht] at h ⊢; exact h

/-- An operation that is timeless comes to this, whatever the store is. -/
theorem xitem_tless {call : Caller} (hc : CallOk P call) {ops : Array Oper} {o : Oper} {m : Nat} {t : FT} (ht : OkT m t) (hl : tlessT tb o.op t = true) {v : V} {τ : St} (h : xitem call tb (sitem tb ops o) t [] = some [(v, τ)]) : PY P noF tb ops o v (frT m t) := by
  have hA := tA_in (m := m) t
  have hlk : ∀ i, lk (tA t m) i = t.get i := fun i => congrFun (tA_at ht) (.tmp i)
  unfold xitem at h
  split at h
  · cases h
  · rename_i hg
    intro σ K hK
    refine sg hA (xguard_ok hlk hg (fun _ => ?_) (fun e => by cases e))
    have h1 := comp_ok hA (xop_ok (P := P) hc hA (tA_at ht) h (kk := fun u _ => u = v) fun p hp => by rw [List.mem_singleton.1 hp])
    obtain ⟨r, h2, h3⟩ := tless_ok (tlessT_eq ht hl) h1
    subst h2
    exact ⟨_, h3 σ (fun v σ' => K ((frT m t).put o.dst v) σ') hK, fun _ _ h => h⟩
  · rename_i hg
    cases h
    intro σ K hK
    exact sg hA (xguard_ok hlk hg (fun e => by cases e) (fun _ => hK))

def stI (stl : Op → Bool) (ops : Array Oper) (i : Nat) : Bool := match ops[i]? with | some o => stl o.op | none => false

theorem stI_eq {stl : Op → Bool} {ops : Array Oper} {i : Nat} {o : Oper} (h : ops[i]? = some o) : stI stl ops i = stl o.op := by simp [stI, h]

theorem choice_eq {stl : Op → Bool} {ops : Array Oper} {listed : Array Bool} {i : Nat} {o : Oper} (h : ops[i]? = some o) :
    choice stl (ops.toList.map (sitem tb ops)) ops listed i = ⟨sitem tb ops o, o.op, freeAt ops listed i, calmAt stl ops listed i, stl o.op⟩ := by
  have e : nth (ops.toList.map (sitem tb ops)) i = some (sitem tb ops o) := by rw [nth_eq]; simp [h]
  simp [choice, h, e]

theorem xany_ok {ps : FuncId → Bool} {call : Caller} (hc : CallOk P call) (hst : CallStill ps call) {ops : Array Oper} {m : Nat} : ∀ (n : Nat) (listed : Array Bool) {t : FT} {σ : St} {out : List (FT × St)}, OkT m t →
    xany call tb m n (plan (stlOf tb ps) (ops.toList.map (sitem tb ops)) ops n listed) t σ = some out → pAnyF P tb ops (stI (stlOf tb ps) ops) (InO m out) n listed (frT m t) σ
  | 0, listed, t, σ, out, ht, h => by
    simp only [plan] at h
    split at h
    · rename_i hr
      simp only [xany, Option.some.injEq] at h
      subst h
      exact ⟨hr, t, ht, rfl, List.mem_singleton.2 rfl⟩
    · simp [xany] at h
  | n + 1, listed, t, σ, out, ht, h => by
    simp only [plan] at h
    generalize hL : (Region.ready .any ops listed).map (fun i => (choice (stlOf tb ps) (ops.toList.map (sitem tb ops)) ops listed i, fun (_ : Unit) => plan (stlOf tb ps) (ops.toList.map (sitem tb ops)) ops n (listed.setIfInBounds i true))) = L at h
    have hmem : ∀ c p, (c, p) ∈ L → ∃ i o, i ∈ Region.ready .any ops listed ∧ ops[i]? = some o ∧ c = ⟨sitem tb ops o, o.op, freeAt ops listed i, calmAt (stlOf tb ps) ops listed i, stlOf tb ps o.op⟩ ∧ p = fun (_ : Unit) => plan (stlOf tb ps) (ops.toList.map (sitem tb ops)) ops n (listed.setIfInBounds i true) := by
      intro c p hm
      rw [← hL] at hm
      obtain ⟨i, hi, e⟩ := List.mem_map.1 hm
      obtain ⟨_, o, ho, _⟩ := mem_ready.1 hi
      rw [choice_eq ho] at e
      cases e
      exact ⟨i, o, hi, ho, rfl, rfl⟩
    cases L with
    | nil =>
      simp only [xany, Option.some.injEq] at h
      subst h
      have hr : Region.ready .any ops listed = [] := List.map_eq_nil_iff.1 hL
      exact ⟨fun _ => ⟨t, ht, rfl, List.mem_singleton.2 rfl⟩, fun i hi => by rw [hr] at hi; cases hi⟩
    | cons c0 L0 =>
      simp only [xany] at h
      split at h
      · rename_i tl c p hp
        obtain ⟨hm, hfr, htl, hcalm⟩ := pickX_spec hp
        obtain ⟨i, o, hi, ho, rfl, rfl⟩ := hmem c p hm
        simp only at h hfr htl hcalm
        split at h
        · rename_i v τ hx
          have ih := xany_ok hc hst n (listed.setIfInBounds i true) (ht.set o.dst v) h
          rw [frT_set ht] at ih
          cases tl with
          | true => exact pAnyF_first ho n listed _ σ (fun j oj hj hne hun hno => Region.free_spec ho hfr j oj hj hne hun hno) hi (xitem_tless hc ht (htl rfl) hx) ih
          | false =>
            obtain ⟨hs, hcm⟩ := hcalm rfl
            have hτ : τ = σ := xitem_still hst hs hx (v, τ) (List.mem_singleton.2 rfl)
            subst hτ
            refine pAnyF_calm ho (Dof ops i) (fun j hd => Dof_lt hd) (fun j oj hj hd => ((calm_spec hcm hj).1 hd).2) n listed _ τ (fun j oj hj hne hun hno => Region.free_spec ho hfr j oj hj hne hun hno)
              (fun j oj hj hd => ((calm_spec hcm hj).1 hd).1) (fun j oj hj hd hne hun => by rw [stI_eq hj]; exact (calm_spec hcm hj).2 hd hne hun) hi ?_ ih
            intro K hK
            refine pOne_mono (xitem_ok hc ht hx) fun fr' σ' ⟨u, e, hu⟩ => ?_
            have := List.mem_singleton.1 hu
            cases this
            rw [e, frT_set ht]
            exact hK
        · cases h
      · rename_i hp
        split at h
        · cases h
        · rename_i o' hb
          cases h
          refine ⟨fun hr => (by rw [hr] at hL; simp at hL), fun i hi o ho => ?_⟩
          have hm : (choice (stlOf tb ps) (ops.toList.map (sitem tb ops)) ops listed i, fun (_ : Unit) => plan (stlOf tb ps) (ops.toList.map (sitem tb ops)) ops n (listed.setIfInBounds i true)) ∈ c0 :: L0 := by
            rw [← hL]; exact List.mem_map.2 ⟨i, hi, rfl⟩
          obtain ⟨lx, h1, h2⟩ := branchX_spec hb _ _ hm
          rw [choice_eq ho] at h1
          simp only at h1
          split at h1
          · cases h1
          · rename_i o1 hx
            refine pOne_mono (xitem_ok hc ht hx) fun fr' σ' ⟨v, e, hv⟩ => ?_
            subst e
            refine ⟨fun hs => ?_, ?_⟩
            · rw [stI_eq ho] at hs
              exact xitem_still hst hs hx _ hv
            · obtain ⟨lz, h3, h4⟩ := bindL_mem h1 _ hv
              exact pAnyF_mono (fun _ _ hh => hh.mono fun x hx => nub_mem fsEqb_ok (h2 x (h4 x hx))) n (xany_ok hc hst n _ (ht.set _ _) h3)

/-! ### Code -/
def xeOf : Exit → XE → Prop
  | .normal, .norm => True
  | .exit i, .exit j => i = j
  | .ret, .ret => True
  | _, _ => False

def InX (m : Nat) (o : List (XE × FT × St)) : Post := fun e fr σ => ∃ x t, xeOf e x ∧ OkT m t ∧ fr = frT m t ∧ (x, t, σ) ∈ o

theorem InX.mono {m : Nat} {o o' : List (XE × FT × St)} (h : ∀ x ∈ o, x ∈ o') {e : Exit} {fr : Fr} {σ : St} (k : InX m o e fr σ) : InX m o' e fr σ :=
  let ⟨x, t, a, b, c, d⟩ := k; ⟨x, t, a, b, c, h _ d⟩

theorem inNorm {m : Nat} {o : List (XE × FT × St)} {t : FT} {σ : St} (ht : OkT m t) (h : (XE.norm, t, σ) ∈ o) : InX m o .normal (frT m t) σ := ⟨.norm, t, trivial, ht, rfl, h⟩
theorem inExit {m : Nat} {o : List (XE × FT × St)} {t : FT} {σ : St} {i : Nat} (ht : OkT m t) (h : (XE.exit i, t, σ) ∈ o) : InX m o (.exit i) (frT m t) σ := ⟨.exit i, t, rfl, ht, rfl, h⟩
theorem inRet {m : Nat} {o : List (XE × FT × St)} {t : FT} {σ : St} (ht : OkT m t) (h : (XE.ret, t, σ) ∈ o) : InX m o .ret (frT m t) σ := ⟨.ret, t, trivial, ht, rfl, h⟩

theorem normed {o : Rs (FT × St)} {out : List (XE × FT × St)} (h : (match o with | some [(t', σ')] => some [(XE.norm, t', σ')] | some o => some (o.map fun p => (XE.norm, p.1, p.2)) | none => none) = some out) :
    ∃ l, o = some l ∧ ∀ p ∈ l, (XE.norm, p.1, p.2) ∈ out := by
  split at h
  · rename_i t' σ'
    cases h
    exact ⟨_, rfl, fun p hp => by rw [List.mem_singleton.1 hp]; simp⟩
  · rename_i l _
    cases h
    exact ⟨_, rfl, fun p hp => List.mem_map.2 ⟨p, hp, rfl⟩⟩
  · cases h

theorem xloop_ok {m n : Nat} {c : Code} {body : FT → St → Rs (XE × FT × St)} (hb : ∀ {t σ out}, OkT m t → body t σ = some out → DWp P n c (InX m out) (frT m t) σ) :
    ∀ (it : Nat) {t : FT} {σ : St} {out : List (XE × FT × St)}, OkT m t → xloop body it t σ = some out → LoopAt P n c (InX m out) (frT m t) σ
  | 0, t, σ, out, ht, h => by simp [xloop] at h
  | it + 1, t, σ, out, ht, h => by
    simp only [xloop] at h
    obtain ⟨l, h1, h2⟩ := bind_mem h
    refine loop_round ((hb ht h1).mono fun e fr σ' ⟨x, t', hx, ht', hfr, hm⟩ => ?_)
    subst hfr
    obtain ⟨lx, h3, h4⟩ := h2 _ hm
    cases e with
    | normal =>
      cases x <;> simp only [xeOf] at hx
      show LoopAt P n c (InX m out) (frT m t') σ'
      have h5 := xloop_ok hb it ht' h3
      intro g w a hr hf hd b k cs
      obtain ⟨e, a', w', h6, h7⟩ := h5 g w a hr hf hd b k cs
      exact ⟨e, a', w', h6.mono fun fr σ hh => hh.mono h4, h7⟩
    | exit i =>
      cases x <;> simp only [xeOf] at hx
      subst hx
      simp only [Option.some.injEq] at h3
      subst h3
      exact inExit ht' (h4 _ (List.mem_singleton.2 rfl))
    | ret =>
      cases x <;> simp only [xeOf] at hx
      simp only [Option.some.injEq] at h3
      subst h3
      exact inRet ht' (h4 _ (List.mem_singleton.2 rfl))
    | _ => cases x <;> exact hx.elim

theorem xcode_ok (hm : P.follows .mixedOrders = true) (tok : TabOk P tb) {ps : FuncId → Bool} {call : Caller} (hc : CallOk P call) (hst : CallStill ps call) {m n it : Nat} {c : Code} : ∀ {t : FT} {σ : St} {out : List (XE × FT × St)}, OkT m t →
    xcode call tb (stlOf tb ps) m it (scode tb c) t σ = some out → DWp P n c (InX m out) (frT m t) σ := by
  induction c with
  | skip =>
    intro t σ out ht h g w a hr hf hd
    simp only [scode, xcode, Option.some.injEq] at h
    subst h
    exact wp_skip (here_ok (inNorm ht (List.mem_singleton.2 rfl)) hr hf hd)
  | label l =>
    intro t σ out ht h g w a hr hf hd
    simp only [scode, xcode, Option.some.injEq] at h
    subst h
    exact wp_label (here_ok (inNorm ht (List.mem_singleton.2 rfl)) hr hf hd)
  | exit id =>
    intro t σ out ht h g w a hr hf hd
    simp only [scode, xcode, Option.some.injEq] at h
    subst h
    exact wp_exit (here_ok (inExit ht (List.mem_singleton.2 rfl)) hr hf hd)
  | ret =>
    intro t σ out ht h g w a hr hf hd
    simp only [scode, xcode, Option.some.injEq] at h
    subst h
    exact wp_ret (here_ok (inRet ht (List.mem_singleton.2 rfl)) hr hf hd)
  | region id ops draw =>
    intro t σ out ht h g w a hr hf hd
    cases draw with
    | false =>
      simp only [scode, xcode] at h
      obtain ⟨l, h1, h2⟩ := normed h
      refine wp_region ?_
      rw [List.range_eq_range']
      exact pSeq_sound tok ops.size 0 (by omega) hr hf hd (by rw [List.drop_zero]; exact xseq_ok hc _ ht h1) fun a' w' h' => show LiftsN n g w σ (InX m out .normal) a' w' from LiftsN.mono (K := InO m l) (h'.n n) fun fr σ' ⟨t', q1, q2, q3⟩ => by subst q2; exact inNorm q1 (h2 _ q3)
    | true =>
      simp only [scode, xcode] at h
      obtain ⟨l, h1, h2⟩ := normed h
      obtain ⟨d1, d2⟩ := drew_rep hr
      refine wp_region_any hm ?_
      exact pAny_sound tok _ _ d1 (hf.turn d2) hd (pAnyF_weak _ (xany_ok hc hst _ _ ht h1)) fun a' w' h' => ((h'.n n).trans (d2.n n)).mono fun fr σ' ⟨t', q1, q2, q3⟩ => by subst q2; exact inNorm q1 (h2 _ q3)
  | seq x y ihx ihy =>
    intro t σ out ht h g w a hr hf hd
    simp only [scode, xcode] at h
    obtain ⟨l, h1, h2⟩ := bind_mem h
    refine wp_seq (wp_mono (ihx ht h1 g w a hr hf hd) fun e a' w' h' => ?_)
    obtain ⟨fr', σ', g', ⟨xe, t', hx, ht', rfl, hmm⟩, h4, h5, h6, h7⟩ := h'
    obtain ⟨lx, h8, h9⟩ := h2 _ hmm
    cases e with
    | normal =>
      cases xe <;> simp only [xeOf] at hx
      exact wp_mono (ihy ht' h8 g' w' a' h4 h6 h7) fun e a'' w'' h10 => (h10.mono fun fr σ hh => hh.mono h9).trans h5
    | exit i =>
      cases xe <;> simp only [xeOf] at hx
      subst hx
      simp only [Option.some.injEq] at h8
      subst h8
      exact ⟨_, σ', g', inExit ht' (h9 _ (List.mem_singleton.2 rfl)), h4, h5, h6, h7⟩
    | ret =>
      cases xe <;> simp only [xeOf] at hx
      simp only [Option.some.injEq] at h8
      subst h8
      exact ⟨_, σ', g', inRet ht' (h9 _ (List.mem_singleton.2 rfl)), h4, h5, h6, h7⟩
    | _ => cases xe <;> exact hx.elim
  | cond c x y ihx ihy =>
    intro t σ out ht h g w a hr hf hd
    simp only [scode, xcode] at h
    have hcv := opd_rep hf c
    rw [frT_opd ht] at hcv
    split at h
    · rename_i b e
      rw [e] at hcv
      have hv : a.eval c = .bool b := hcv
      cases b with
      | true => exact wp_cond_true hv (ihx ht h g w a hr hf hd)
      | false => exact wp_cond_false hv (ihy ht h g w a hr hf hd)
    · cases h
  | block id c ih =>
    intro t σ out ht h g w a hr hf hd
    simp only [scode, xcode] at h
    obtain ⟨l, h1, h2⟩ := bind_mem h
    refine wp_block (wp_mono (ih ht h1 g w a hr hf hd) fun e a' w' h' => ?_)
    obtain ⟨fr', σ', g', ⟨xe, t', hx, ht', rfl, hmm⟩, h4⟩ := h'
    obtain ⟨lx, h8, h9⟩ := h2 _ hmm
    cases e with
    | normal =>
      cases xe <;> simp only [xeOf] at hx
      simp only [Option.some.injEq] at h8
      subst h8
      exact ⟨_, σ', g', inNorm ht' (h9 _ (List.mem_singleton.2 rfl)), h4⟩
    | exit j =>
      cases xe <;> simp only [xeOf] at hx
      subst hx
      simp only [Exit.inBlock]
      simp only at h8
      split at h8
      · rename_i hj
        have := Nat.eq_of_beq_eq_true hj
        subst this
        rw [if_pos rfl]
        cases h8
        exact ⟨_, σ', g', inNorm ht' (h9 _ (List.mem_singleton.2 rfl)), h4⟩
      · rename_i hj
        rw [if_neg (fun e => by subst e; rw [Nat.beq_refl] at hj; cases hj)]
        cases h8
        exact ⟨_, σ', g', inExit ht' (h9 _ (List.mem_singleton.2 rfl)), h4⟩
    | ret =>
      cases xe <;> simp only [xeOf] at hx
      simp only [Option.some.injEq] at h8
      subst h8
      exact ⟨_, σ', g', inRet ht' (h9 _ (List.mem_singleton.2 rfl)), h4⟩
    | _ => cases xe <;> exact hx.elim
  | loop c ih =>
    intro t σ out ht h g w a hr hf hd b k cs
    simp only [scode, xcode] at h
    obtain ⟨e, a', w', h1, h2⟩ := xloop_ok (n := n) (fun ht' h' => ih ht' h') it ht h g w a hr hf hd b k cs
    exact ⟨e, a', w', h1, .of_steps (.one step_loop) h2⟩
  | _ => intro t σ out ht h; simp [scode, xcode] at h
end
end Go.Dm
