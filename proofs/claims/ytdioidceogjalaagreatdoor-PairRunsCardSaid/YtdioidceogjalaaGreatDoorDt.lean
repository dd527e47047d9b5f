/- The plain machine: a region whose order is open, whichever order is picked. -/
import Derived.Test.YtdioidceogjalaaGreatDoorDs
namespace Go.Dm
set_option linter.unusedVariables false
set_option linter.unusedSimpArgs false

section
variable {P : Program} {pf : FuncId → Bool} {tb : Tab} {ops : Array Oper}

def pdo (P : Program) (pf : FuncId → Bool) (tb : Tab) (o : Op) (fr : Fr) (σ : St) (k : V → St → Prop) : Prop :=
  ∃ k0, vdo (mx P) pf tb o fr σ k0 ∧ ∀ v σ', k0 v σ' → k v σ'

theorem pdo_mono {o : Op} {fr : Fr} {σ : St} {k k' : V → St → Prop} (h : pdo P pf tb o fr σ k) (hk : ∀ v σ', k v σ' → k' v σ') : pdo P pf tb o fr σ k' :=
  let ⟨k0, a, b⟩ := h; ⟨k0, a, fun v σ' c => hk _ _ (b _ _ c)⟩

def pOne (P : Program) (pf : FuncId → Bool) (tb : Tab) (ops : Array Oper) (o : Oper) (K : Fr → St → Prop) (fr : Fr) (σ : St) : Prop :=
  vguard ops fr o (pdo P pf tb o.op fr σ fun v σ' => K (fr.put o.dst v) σ') (K (fr.put o.dst (.t [])) σ)

theorem vguard_cases {fr : Fr} {o : Oper} {x y : Prop} (h : vguard ops fr o x y) : (x ∧ ∀ x' y' : Prop, x' → vguard ops fr o x' y') ∨ (y ∧ ∀ x' y' : Prop, y' → vguard ops fr o x' y') := by
  unfold vguard at h ⊢
  split at h
  · exact .inl ⟨h, fun x' y' h' => h'⟩
  · rename_i j want _
    split at h
    · exact .inr ⟨h, fun x' y' h' => h'⟩
    · split at h
      · rename_i b _
        cases b <;> cases want <;> first | exact .inl ⟨h, fun x' y' h' => h'⟩ | exact .inr ⟨h, fun x' y' h' => h'⟩
      · exact .inr ⟨h, fun x' y' h' => h'⟩
      · exact h.elim

theorem pOne_of_vone {o : Oper} {K : Fr → St → Prop} {fr : Fr} {σ : St} (h : vone (mx P) pf tb ops o K fr σ) : pOne P pf tb ops o K fr σ := by
  rcases vguard_cases h with ⟨h1, h2⟩ | ⟨h1, h2⟩
  · exact h2 _ _ ⟨_, h1, fun _ _ h => h⟩
  · exact h2 _ _ h1

theorem pOne_mono {o : Oper} {K K' : Fr → St → Prop} {fr : Fr} {σ : St} (h : pOne P pf tb ops o K fr σ) (hk : ∀ fr' σ', K fr' σ' → K' fr' σ') : pOne P pf tb ops o K' fr σ := by
  rcases vguard_cases h with ⟨h1, h2⟩ | ⟨h1, h2⟩
  · exact h2 _ _ (pdo_mono h1 fun _ _ h => hk _ _ h)
  · exact h2 _ _ (hk _ _ h1)

def pAny (P : Program) (pf : FuncId → Bool) (tb : Tab) (ops : Array Oper) (K : Fr → St → Prop) : Nat → Array Bool → Fr → St → Prop
  | 0, listed, fr, σ => Region.ready .any ops listed = [] ∧ K fr σ
  | fuel + 1, listed, fr, σ => (Region.ready .any ops listed = [] → K fr σ) ∧
    ∀ i ∈ Region.ready .any ops listed, ∀ o, ops[i]? = some o → pOne P pf tb ops o (pAny P pf tb ops K fuel (listed.setIfInBounds i true)) fr σ

theorem Does.mono {o : Oper} {a : Act} {g : G} {w : World} {σ : St} {k k' : V → St → Prop} (h : Does P o a g w σ k) (hk : ∀ v σ', k v σ' → k' v σ') : Does P o a g w σ k' := by
  rcases h with ⟨r, σ', g', w', v, nx, h1, h2, h3, h4⟩ | ⟨f, vs, h1, l, σ1, g1, k1, k2, h2, h3⟩
  · exact .inl ⟨r, σ', g', w', v, nx, h1, h2, hk _ _ h3, h4⟩
  · exact .inr ⟨f, vs, h1, l, σ1, g1, k1, k2, h2, h3.mono hk⟩

theorem one_ok' (tok : TabOk P tb) {g : G} {w : World} {σ : St} (hr : Rep g w σ) {o : Oper} {a : Act} {fr : Fr} (hf : FrRep g w σ fr a.tmps) (hd : a.defers = []) {K : Fr → St → Prop} {Q : Exit → Act → World → Prop} {next : Act → World → Prop}
    (h : pOne P pf tb ops o K fr σ) (hn : ∀ a' w', Lifts g w σ K a' w' → next a' w') :
    if Region.wanted o (yielded ops a.tmps) then o.wp P a w next Q ∨ (o.asks P a w ∧ LetsOut Q) else next (a.put o.dst undef) w := by
  unfold pOne at h
  rcases guard_ok hf h with ⟨h1, k0, h2, h3⟩ | ⟨h1, h2⟩
  · rw [if_pos h1]
    exact .inl (Oper.wp_mono hn (((vdo_ok tok hr hf h2).mono h3).wp hr hf hd))
  · rw [if_neg (by simp [h1])]
    exact hn _ _ ⟨_, σ, g, h2, hr, Turn.refl _ _ _, by rw [put_tmps]; exact hf.put (v := .t []) ⟨[], rfl, rfl⟩ o.dst, by rw [put_defers]; exact hd⟩

theorem pAny_sound (tok : TabOk P tb) {K : Fr → St → Prop} {Q : Exit → Act → World → Prop} : ∀ (fuel : Nat) (listed : Array Bool) {g : G} {w : World} {σ : St} (hr : Rep g w σ) {a : Act} {fr : Fr} (hf : FrRep g w σ fr a.tmps) (hd : a.defers = [])
    (h : pAny P pf tb ops K fuel listed fr σ) (hQ : ∀ a' w', Lifts g w σ K a' w' → Q .normal a' w'), wpAny P .any ops Q fuel listed a w
  | 0, listed, g, w, σ, hr, a, fr, hf, hd, h, hQ => ⟨h.1, hQ _ _ ⟨fr, σ, g, h.2, hr, Turn.refl _ _ _, hf, hd⟩⟩
  | fuel + 1, listed, g, w, σ, hr, a, fr, hf, hd, h, hQ => by
    refine ⟨fun h0 => hQ _ _ ⟨fr, σ, g, h.1 h0, hr, Turn.refl _ _ _, hf, hd⟩, fun i hi => ?_⟩
    obtain ⟨_, o, ho, _⟩ := mem_ready.1 hi
    unfold wpOp
    rw [ho]
    exact one_ok' tok hr hf hd (h.2 i hi o ho) fun a' w' ⟨fr', σ', g', h1, h2, h3, h4, h5⟩ =>
      pAny_sound tok fuel _ h2 h4 h5 h1 fun a'' w'' h6 => hQ _ _ (h6.trans h3)

/-! ### Taking one first -/
theorem opd_put {fr : Fr} {dst : Option Tmp} {v : V} {x : Operand} (h : ∀ d, dst = some d → x ≠ .tmp d) : opd (fr.put dst v) x = opd fr x := by
  cases dst with
  | none => rfl
  | some d =>
    cases x with
    | tmp t =>
      have hne : d ≠ t := fun e => h d rfl (e ▸ rfl)
      simp [opd, Fr.put, List.getD_eq_getElem?_getD, List.getElem?_set, hne]
    | _ => rfl

theorem put_comm (fr : Fr) {x y : Option Tmp} (v u : V) (h : ∀ d, x = some d → y ≠ some d) : (fr.put x v).put y u = (fr.put y u).put x v := by
  cases x with
  | none => rfl
  | some d =>
    cases y with
    | none => rfl
    | some e =>
      have hne : d ≠ e := fun he => h d rfl (he ▸ rfl)
      exact List.set_comm v u hne

theorem pdo_put {o : Oper} {fr : Fr} {dst : Option Tmp} {v : V} (h : ∀ d, dst = some d → d ∉ o.looksAt ops) {σ : St} {k : V → St → Prop} : pdo P pf tb o.op (fr.put dst v) σ k ↔ pdo P pf tb o.op fr σ k := by
  have : ∀ k0, vdo (mx P) pf tb o.op (fr.put dst v) σ k0 = vdo (mx P) pf tb o.op fr σ k0 := fun k0 => vdo_congr fun x hx => opd_put fun d hd hxd => h d hd (by
    subst hxd
    exact List.mem_append_left _ (List.mem_filterMap.2 ⟨.tmp d, by simpa using hx, rfl⟩))
  unfold pdo
  simp only [this]

theorem vguard_put {o : Oper} {fr : Fr} {dst : Option Tmp} {v : V} (h : ∀ d, dst = some d → d ∉ o.looksAt ops) {x y : Prop} : vguard ops (fr.put dst v) o x y = vguard ops fr o x y := by
  cases dst with
  | none => rfl
  | some d =>
    unfold vguard
    cases hg : o.guard with
    | none => rfl
    | some gw =>
      obtain ⟨j, want⟩ := gw
      simp only
      cases ht : (ops[j]?).bind (·.dst) with
      | none => rfl
      | some t =>
        have hne : d ≠ t := fun e => h d rfl (by subst e; simp [Oper.looksAt, hg, ht])
        simp only [Fr.put, List.getElem?_set, hne, if_false]

def PY (P : Program) (pf : FuncId → Bool) (tb : Tab) (ops : Array Oper) (o : Oper) (r : V) (fr : Fr) : Prop := ∀ σ (K : Fr → St → Prop), K (fr.put o.dst r) σ → pOne P pf tb ops o K fr σ

theorem PY.put {oi oj : Oper} {r u : V} {fr : Fr} (hap : oi.apart ops oj = true) (h : PY P pf tb ops oi r fr) : PY P pf tb ops oi r (fr.put oj.dst u) := by
  obtain ⟨h1, h2, h3⟩ := Oper.apart_spec hap
  intro σ K hK
  have hc : ∀ v, (fr.put oj.dst u).put oi.dst v = (fr.put oi.dst v).put oj.dst u := fun v => (put_comm fr v u h2).symm
  have := h σ (fun f τ => K (f.put oj.dst u) τ) (by rw [← hc]; exact hK)
  unfold pOne at this ⊢
  rw [vguard_put h3]
  simp only [hc]
  rcases vguard_cases this with ⟨q1, q2⟩ | ⟨q1, q2⟩
  · exact q2 _ _ ((pdo_put h3).2 q1)
  · exact q2 _ _ q1

theorem pOne_put {oi oj : Oper} {r : V} {fr : Fr} (hap : oi.apart ops oj = true) {K : Fr → St → Prop} {σ : St} (hy : PY P pf tb ops oi r fr) (h : pOne P pf tb ops oj K (fr.put oi.dst r) σ) :
    pOne P pf tb ops oj (fun fr' σ' => PY P pf tb ops oi r fr' ∧ K (fr'.put oi.dst r) σ') fr σ := by
  obtain ⟨h1, h2, h3⟩ := Oper.apart_spec hap
  have hc : ∀ v, (fr.put oi.dst r).put oj.dst v = (fr.put oj.dst v).put oi.dst r := fun v => put_comm fr r v h2
  unfold pOne at h ⊢
  rw [vguard_put h1] at h
  simp only [hc] at h
  rcases vguard_cases h with ⟨q1, q2⟩ | ⟨q1, q2⟩
  · exact q2 _ _ (pdo_mono ((pdo_put h1).1 q1) fun v σ' h => ⟨hy.put hap, h⟩)
  · exact q2 _ _ ⟨hy.put hap, q1⟩

theorem pAny_first {K : Fr → St → Prop} {i : Nat} {oi : Oper} {r : V} (hi : ops[i]? = some oi) :
    ∀ (fuel : Nat) (listed : Array Bool) (fr : Fr) (σ : St),
      (∀ j oj, ops[j]? = some oj → j ≠ i → listed.getD j true = false → (∀ e ∈ oj.after, Region.binds .any e = true → e.on ≠ i) → oi.apart ops oj = true) →
      i ∈ Region.ready .any ops listed → PY P pf tb ops oi r fr →
      pAny P pf tb ops K fuel (listed.setIfInBounds i true) (fr.put oi.dst r) σ → pAny P pf tb ops K (fuel + 1) listed fr σ := by
  intro fuel
  induction fuel with
  | zero =>
    intro listed fr σ _ hr hy H
    refine ⟨fun h => (by rw [h] at hr; cases hr), fun j hj o ho => ?_⟩
    by_cases hji : j = i
    · subst hji
      rw [hi] at ho; cases ho
      exact hy σ _ H
    · have := ready_mono hj hji
      rw [H.1] at this
      cases this
  | succ fuel ih =>
    intro listed fr σ hfree hr hy H
    refine ⟨fun h => (by rw [h] at hr; cases hr), fun j hj oj hoj => ?_⟩
    by_cases hji : j = i
    · subst hji
      rw [hi] at hoj; cases hoj
      exact hy σ _ H
    · have h1 := H.2 j (ready_mono hj hji) oj hoj
      obtain ⟨hjun, oj', hoj', hall⟩ := mem_ready.1 hj
      rw [hoj] at hoj'; cases hoj'
      have hnot : ∀ e ∈ oj.after, Region.binds .any e = true → e.on ≠ i := fun e he hb heq => by
        have h1 := hall e he hb
        have h0 := (mem_ready.1 hr).1
        rw [heq] at h1
        rcases Nat.lt_or_ge i listed.size with h' | h'
        · simp [h'] at h0 h1; rw [h0] at h1; cases h1
        · simp [Array.getElem?_eq_none h'] at h1
      have h2 := pOne_put (hfree j oj hoj hji hjun hnot) hy h1
      have hfree' : ∀ k ok, ops[k]? = some ok → k ≠ i → (listed.setIfInBounds j true).getD k true = false →
          (∀ e ∈ ok.after, Region.binds .any e = true → e.on ≠ i) → oi.apart ops ok = true := fun k ok hk hki hun hno => by
        refine hfree k ok hk hki ?_ hno
        by_cases hjk : j = k
        · subst hjk; exact hjun
        · rw [getD_set_ne true hjk] at hun; exact hun
      refine pOne_mono h2 fun fr' σ' h3 => ih (listed.setIfInBounds j true) fr' σ' hfree' (ready_mono hr (Ne.symm hji)) h3.1 ?_
      rw [Array.setIfInBounds_comm _ _ hji]
      exact h3.2

theorem pickFirst_spec {listed : Array Bool} {fr : Fr} : ∀ {rs : List Nat} {i : Nat}, pickFirst pf tb ops listed fr rs = some i → i ∈ rs ∧ ∃ o, ops[i]? = some o ∧ tless pf tb o.op fr = true ∧ freeAt ops listed i = true
  | [], i, h => by simp [pickFirst] at h
  | j :: r, i, h => by
    simp only [pickFirst] at h
    split at h
    · rename_i o ho
      have key : (if tless pf tb o.op fr && freeAt ops listed j then some j else pickFirst pf tb ops listed fr r) = some i := by
        split at h <;> exact h
      split at key
      · rename_i hc
        cases key
        simp only [Bool.and_eq_true] at hc
        exact ⟨by simp, o, ho, hc.1, hc.2⟩
      · obtain ⟨h1, h2⟩ := pickFirst_spec key
        exact ⟨List.mem_cons_of_mem _ h1, h2⟩
    · cases h

theorem vall_spec {f : Nat → Prop} : ∀ {l : List Nat}, vall f l → ∀ i ∈ l, f i
  | [], _, i, hi => by simp at hi
  | [j], h, i, hi => by simp at hi; subst hi; exact h
  | j :: k :: r, h, i, hi => by
    obtain ⟨h1, h2⟩ : f j ∧ vall f (k :: r) := h
    rcases List.mem_cons.1 hi with rfl | hi
    · exact h1
    · exact vall_spec h2 i hi

theorem pAny_of_vany {K : Fr → St → Prop} : ∀ (fuel : Nat) (listed : Array Bool) (fr : Fr) (σ : St), vany (mx P) pf tb ops K fuel listed fr σ → pAny P pf tb ops K fuel listed fr σ := by
  intro fuel
  induction fuel with
  | zero =>
    intro listed fr σ h
    unfold vany at h
    split at h
    · rename_i hr; exact ⟨hr, h⟩
    · exact h.elim
  | succ fuel ih =>
    intro listed fr σ h
    unfold vany at h
    split at h
    · rename_i hr
      exact ⟨fun _ => h, fun i hi => by rw [hr] at hi; cases hi⟩
    · rename_i hne
      split at h
      · exact h.elim
      rename_i fuel' e
      cases e
      split at h
      · rename_i i hp
        obtain ⟨hmem, o, ho, ht, hfr⟩ := pickFirst_spec hp
        rw [ho] at h
        have key : ∃ r, PY P pf tb ops o r fr ∧ vany (mx P) pf tb ops K fuel (listed.setIfInBounds i true) (fr.put o.dst r) σ := by
          rcases vguard_cases h with ⟨h1, h2⟩ | ⟨h1, h2⟩
          · obtain ⟨r, h3, h4⟩ := tless_ok ht h1
            exact ⟨r, fun τ K' hK => h2 _ _ ⟨_, h4 τ (fun v σ' => K' (fr.put o.dst v) σ') hK, fun _ _ h => h⟩, h3⟩
          · exact ⟨.t [], fun τ K' hK => h2 _ _ hK, h1⟩
        obtain ⟨r, hy, h5⟩ := key
        exact pAny_first ho fuel listed fr σ (fun j oj hj hne hun hno => Region.free_spec ho hfr j oj hj hne hun hno) hmem hy (ih _ _ _ h5)
      · refine ⟨fun h0 => (hne h0).elim, fun i hi o ho => ?_⟩
        have := vall_spec h i hi
        rw [ho] at this
        exact pOne_mono (pOne_of_vone this) fun fr' σ' h' => ih _ _ _ h'
end
end Go.Dm
