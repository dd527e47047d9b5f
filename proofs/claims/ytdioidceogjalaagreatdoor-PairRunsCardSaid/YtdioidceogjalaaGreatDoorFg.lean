/- The plain machine, run by the kernel: regions whose order is open. -/
import Derived.Test.YtdioidceogjalaaGreatDoorFf
namespace Go.Dm
set_option linter.unusedVariables false
set_option linter.unusedSimpArgs false

section
variable {P : Program} {tb : Tab} {ops : Array Oper} {S : Nat → Bool}

def pAnyF (P : Program) (tb : Tab) (ops : Array Oper) (S : Nat → Bool) (K : Fr → St → Prop) : Nat → Array Bool → Fr → St → Prop
  | 0, listed, fr, σ => Region.ready .any ops listed = [] ∧ K fr σ
  | fuel + 1, listed, fr, σ => (Region.ready .any ops listed = [] → K fr σ) ∧
    ∀ i ∈ Region.ready .any ops listed, ∀ o, ops[i]? = some o → pOne P noF tb ops o (fun fr' σ' => (S i = true → σ' = σ) ∧ pAnyF P tb ops S K fuel (listed.setIfInBounds i true) fr' σ') fr σ

theorem pAnyF_weak {K : Fr → St → Prop} : ∀ (fuel : Nat) {listed : Array Bool} {fr : Fr} {σ : St}, pAnyF P tb ops S K fuel listed fr σ → pAny P noF tb ops K fuel listed fr σ
  | 0, listed, fr, σ, h => h
  | fuel + 1, listed, fr, σ, h => ⟨h.1, fun i hi o ho => pOne_mono (h.2 i hi o ho) fun fr' σ' h' => pAnyF_weak fuel h'.2⟩

theorem pAnyF_mono {K K' : Fr → St → Prop} (hk : ∀ fr σ, K fr σ → K' fr σ) : ∀ (fuel : Nat) {listed : Array Bool} {fr : Fr} {σ : St}, pAnyF P tb ops S K fuel listed fr σ → pAnyF P tb ops S K' fuel listed fr σ
  | 0, listed, fr, σ, h => ⟨h.1, hk _ _ h.2⟩
  | fuel + 1, listed, fr, σ, h => ⟨fun e => hk _ _ (h.1 e), fun i hi o ho => pOne_mono (h.2 i hi o ho) fun fr' σ' h' => ⟨h'.1, pAnyF_mono hk fuel h'.2⟩⟩

/-- At this very store it comes to this. -/
def PYs (P : Program) (tb : Tab) (ops : Array Oper) (o : Oper) (r : V) (fr : Fr) (σ : St) : Prop := ∀ (K : Fr → St → Prop), K (fr.put o.dst r) σ → pOne P noF tb ops o K fr σ

theorem PYs.put {oi oj : Oper} {r u : V} {fr : Fr} {σ : St} (hap : oi.apart ops oj = true) (h : PYs P tb ops oi r fr σ) : PYs P tb ops oi r (fr.put oj.dst u) σ := by
  obtain ⟨h1, h2, h3⟩ := Oper.apart_spec hap
  intro K hK
  have hc : ∀ v, (fr.put oj.dst u).put oi.dst v = (fr.put oi.dst v).put oj.dst u := fun v => (put_comm fr v u h2).symm
  have := h (fun f τ => K (f.put oj.dst u) τ) (by rw [← hc]; exact hK)
  unfold pOne at this ⊢
  rw [vguard_put h3]
  simp only [hc]
  rcases vguard_cases this with ⟨q1, q2⟩ | ⟨q1, q2⟩
  · exact q2 _ _ ((pdo_put h3).2 q1)
  · exact q2 _ _ q1

theorem pOne_puts {oi oj : Oper} {r : V} {fr : Fr} (hap : oi.apart ops oj = true) {K : Fr → St → Prop} {σ : St} (hy : PYs P tb ops oi r fr σ) (h : pOne P noF tb ops oj (fun fr' σ' => σ' = σ ∧ K fr' σ') (fr.put oi.dst r) σ) :
    pOne P noF tb ops oj (fun fr' σ' => σ' = σ ∧ PYs P tb ops oi r fr' σ' ∧ K (fr'.put oi.dst r) σ') fr σ := by
  obtain ⟨h1, h2, h3⟩ := Oper.apart_spec hap
  have hc : ∀ v, (fr.put oi.dst r).put oj.dst v = (fr.put oj.dst v).put oi.dst r := fun v => put_comm fr r v h2
  unfold pOne at h ⊢
  rw [vguard_put h1] at h
  simp only [hc] at h
  rcases vguard_cases h with ⟨q1, q2⟩ | ⟨q1, q2⟩
  · exact q2 _ _ (pdo_mono ((pdo_put h1).1 q1) fun v σ' hh => ⟨hh.1, hh.1 ▸ hy.put hap, hh.2⟩)
  · exact q2 _ _ ⟨rfl, hy.put hap, q1.2⟩

theorem not_listed {i : Nat} {listed : Array Bool} (hr : i ∈ Region.ready .any ops listed) {j : Nat} {oj : Oper} (hoj : ops[j]? = some oj) (hj : j ∈ Region.ready .any ops listed) : ∀ e ∈ oj.after, Region.binds .any e = true → e.on ≠ i := by
  intro e he hb heq
  obtain ⟨_, oj', hoj', hall⟩ := mem_ready.1 hj
  rw [hoj] at hoj'; cases hoj'
  have h1 := hall e he hb
  have h0 := (mem_ready.1 hr).1
  rw [heq] at h1
  rcases Nat.lt_or_ge i listed.size with h' | h'
  · simp [h'] at h0 h1; rw [h0] at h1; cases h1
  · simp [Array.getElem?_eq_none h'] at h1

theorem free_step {i j : Nat} {oi : Oper} {listed : Array Bool}
    (hfree : ∀ j oj, ops[j]? = some oj → j ≠ i → listed.getD j true = false → (∀ e ∈ oj.after, Region.binds .any e = true → e.on ≠ i) → oi.apart ops oj = true) (hjun : listed.getD j true = false) :
    ∀ k ok, ops[k]? = some ok → k ≠ i → (listed.setIfInBounds j true).getD k true = false → (∀ e ∈ ok.after, Region.binds .any e = true → e.on ≠ i) → oi.apart ops ok = true := fun k ok hk hki hun hno => by
  refine hfree k ok hk hki ?_ hno
  by_cases hjk : j = k
  · subst hjk; exact hjun
  · rw [getD_set_ne true hjk] at hun; exact hun

/-- Taken first: whatever the store is. -/
theorem pAnyF_first {K : Fr → St → Prop} {i : Nat} {oi : Oper} {r : V} (hi : ops[i]? = some oi) :
    ∀ (fuel : Nat) (listed : Array Bool) (fr : Fr) (σ : St),
      (∀ j oj, ops[j]? = some oj → j ≠ i → listed.getD j true = false → (∀ e ∈ oj.after, Region.binds .any e = true → e.on ≠ i) → oi.apart ops oj = true) →
      i ∈ Region.ready .any ops listed → PY P noF tb ops oi r fr →
      pAnyF P tb ops S K fuel (listed.setIfInBounds i true) (fr.put oi.dst r) σ → pAnyF P tb ops S K (fuel + 1) listed fr σ := by
  intro fuel
  induction fuel with
  | zero =>
    intro listed fr σ _ hr hy H
    refine ⟨fun h => (by rw [h] at hr; cases hr), fun j hj o ho => ?_⟩
    by_cases hji : j = i
    · subst hji
      rw [hi] at ho; cases ho
      exact hy σ _ ⟨fun _ => rfl, H⟩
    · have := ready_mono hj hji
      rw [H.1] at this
      cases this
  | succ fuel ih =>
    intro listed fr σ hfree hr hy H
    refine ⟨fun h => (by rw [h] at hr; cases hr), fun j hj oj hoj => ?_⟩
    by_cases hji : j = i
    · subst hji
      rw [hi] at hoj; cases hoj
      exact hy σ _ ⟨fun _ => rfl, H⟩
    · have h1 := H.2 j (ready_mono hj hji) oj hoj
      have hjun := (mem_ready.1 hj).1
      have h2 := pOne_put (hfree j oj hoj hji hjun (not_listed hr hoj hj)) hy h1
      refine pOne_mono h2 fun fr' σ' h3 => ⟨h3.2.1, ih (listed.setIfInBounds j true) fr' σ' (free_step hfree hjun) (ready_mono hr (Ne.symm hji)) h3.1 ?_⟩
      rw [Array.setIfInBounds_comm _ _ hji]
      exact h3.2.2

/-- Taken first: all that may come ahead of it leaves the store. -/
theorem pAnyF_calm {K : Fr → St → Prop} {i : Nat} {oi : Oper} {r : V} (hi : ops[i]? = some oi) (D : Nat → Bool)
    (hDr : ∀ j, D j = true → ∃ o, ops[j]? = some o) (hD : ∀ j oj, ops[j]? = some oj → D j = true → ∃ e ∈ oj.after, Region.binds .any e = true ∧ (e.on = i ∨ D e.on = true)) :
    ∀ (fuel : Nat) (listed : Array Bool) (fr : Fr) (σ : St),
      (∀ j oj, ops[j]? = some oj → j ≠ i → listed.getD j true = false → (∀ e ∈ oj.after, Region.binds .any e = true → e.on ≠ i) → oi.apart ops oj = true) →
      (∀ j oj, ops[j]? = some oj → D j = true → listed.getD j true = false) →
      (∀ j oj, ops[j]? = some oj → D j = false → j ≠ i → listed.getD j true = false → S j = true) →
      i ∈ Region.ready .any ops listed → PYs P tb ops oi r fr σ →
      pAnyF P tb ops S K fuel (listed.setIfInBounds i true) (fr.put oi.dst r) σ → pAnyF P tb ops S K (fuel + 1) listed fr σ := by
  intro fuel
  induction fuel with
  | zero =>
    intro listed fr σ _ _ _ hr hy H
    refine ⟨fun h => (by rw [h] at hr; cases hr), fun j hj o ho => ?_⟩
    by_cases hji : j = i
    · subst hji
      rw [hi] at ho; cases ho
      exact hy _ ⟨fun _ => rfl, H⟩
    · have := ready_mono hj hji
      rw [H.1] at this
      cases this
  | succ fuel ih =>
    intro listed fr σ hfree hDl hst hr hy H
    refine ⟨fun h => (by rw [h] at hr; cases hr), fun j hj oj hoj => ?_⟩
    by_cases hji : j = i
    · subst hji
      rw [hi] at hoj; cases hoj
      exact hy _ ⟨fun _ => rfl, H⟩
    · have h1 := H.2 j (ready_mono hj hji) oj hoj
      obtain ⟨hjun, oj', hoj', hall⟩ := mem_ready.1 hj
      rw [hoj] at hoj'; cases hoj'
      have hDj : D j = false := by
        cases hd : D j with
        | false => rfl
        | true =>
          obtain ⟨e, he, hb, hor⟩ := hD j oj hoj hd
          rcases hor with h | h
          · exact absurd h (not_listed hr hoj hj e he hb)
          · have l1 := hall e he hb
            obtain ⟨oe, ho⟩ := hDr e.on h
            have l2 := hDl e.on oe ho h
            rcases Nat.lt_or_ge e.on listed.size with h' | h'
            · simp [h'] at l1 l2; rw [l2] at l1; cases l1
            · simp [Array.getElem?_eq_none h'] at l1
      have hS := hst j oj hoj hDj hji hjun
      have h2 := pOne_puts (hfree j oj hoj hji hjun (not_listed hr hoj hj)) hy (pOne_mono h1 fun fr' σ' h => ⟨h.1 hS, h⟩)
      refine pOne_mono h2 fun fr' σ' h3 => ⟨fun _ => h3.1, ?_⟩
      obtain ⟨e, h4, h5⟩ := h3
      subst e
      refine ih (listed.setIfInBounds j true) fr' σ' (free_step hfree hjun) ?_ ?_ (ready_mono hr (Ne.symm hji)) h4 ?_
      · intro k ok hk hdk
        by_cases hjk : j = k
        · subst hjk; rw [hDj] at hdk; cases hdk
        · rw [getD_set_ne true hjk]; exact hDl k ok hk hdk
      · intro k ok hk hdk hki hun
        refine hst k ok hk hdk hki ?_
        by_cases hjk : j = k
        · subst hjk; exact hjun
        · rw [getD_set_ne true hjk] at hun; exact hun
      · rw [Array.setIfInBounds_comm _ _ hji]
        exact h5.2
end
end Go.Dm
