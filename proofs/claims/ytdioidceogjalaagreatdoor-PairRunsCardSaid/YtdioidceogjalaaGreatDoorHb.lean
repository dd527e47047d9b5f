/- The plain machine, run by the kernel: code compiled ahead is the code. -/
import Derived.Test.YtdioidceogjalaaGreatDoorHa
namespace Go.Dm
open Go.RowKit
set_option linter.unusedVariables false
set_option linter.unusedSimpArgs false

section
variable {P : Program} {tb : Tab}

theorem nilB_eq {l : List Nat} (h : nilB l = true) : l = [] := by cases l with | nil => rfl | cons => cases h

theorem natsB_eq : ∀ {a b : List Nat}, natsB a b = true → a = b
  | [], [], _ => rfl
  | x :: l, y :: r, h => by
    simp only [natsB] at h
    split at h
    · rename_i hb; rw [beq_nat hb, natsB_eq h]
    · cases h
  | [], _ :: _, h => by cases h
  | _ :: _, [], h => by cases h

theorem oneK_spec {α β : Type} {o : Rs α} {k : α → Rs β} {out : List β} (h : oneK o k (fun _ => none) = some out) : ∃ x, o = some [x] ∧ k x = some out := by
  cases o with
  | none => cases h
  | some l =>
    cases l with
    | nil => cases h
    | cons x l => cases l with | nil => exact ⟨x, rfl, h⟩ | cons y l => cases h

theorem yjoin_spec {a b : Rs (FT × St)} {out : List (FT × St)} (h : yjoin a b = some out) : ∃ l l', a = some l ∧ b = some l' ∧ (∀ x ∈ l, x ∈ out) ∧ ∀ x ∈ l', x ∈ out := by
  cases a with
  | none => cases h
  | some l =>
    cases b with
    | none => cases h
    | some l' =>
      refine ⟨l, l', rfl, rfl, ?_⟩
      cases l' with
      | nil => cases h; exact ⟨fun x hx => hx, fun x hx => by cases hx⟩
      | cons y s =>
        have e : out = nub fsEqb (l ++ (y :: s)) := (Option.some.inj h).symm
        subst e
        exact ⟨fun x hx => nub_mem fsEqb_ok (List.mem_append_left _ hx), fun x hx => nub_mem fsEqb_ok (List.mem_append_right _ hx)⟩

theorem ynub_spec {a : Rs (FT × St)} {out : List (FT × St)} (h : ynub a = some out) : ∃ l, a = some l ∧ ∀ x ∈ l, x ∈ out := by
  cases a with
  | none => cases h
  | some l =>
    refine ⟨l, rfl, fun x hx => ?_⟩
    cases l with
    | nil => cases hx
    | cons p l =>
      cases l with
      | nil => have e : out = [p] := (Option.some.inj h).symm; subst e; exact hx
      | cons q l => have e : out = nub fsEqb (p :: q :: l) := (Option.some.inj h).symm; subst e; exact nub_mem fsEqb_ok hx

/-! ### What reads alone comes to the same where objects were added -/
theorem get_add {σ new : St} {o : Nat} {ob : Ob} (h : nth σ o = some ob) : nth (σ ++ new) o = some ob := by
  rw [nth_eq] at h ⊢
  rw [List.getElem?_append_left (List.getElem?_eq_some_iff.1 h).1]
  exact h

theorem xload_add {agg : Bool} {n : Nat} {x r : V} {σ : St} (new : St) (h : xload agg n x σ = some r) : xload agg n x (σ ++ new) = some r := by
  unfold xload at h ⊢
  split at h
  · rename_i o off
    cases ho : nth σ o with
    | none => rw [ho] at h; cases h
    | some ob => rw [ho] at h; rw [get_add ho]; exact h
  · exact h
  · rename_i o e off
    cases ho : nth σ o with
    | none => rw [ho] at h; cases h
    | some ob => rw [ho] at h; rw [get_add ho]; exact h
  · cases h

theorem xfield_add {x r : V} {fo : Nat} {σ : St} (new : St) (h : xfield x fo σ = some r) : xfield x fo (σ ++ new) = some r := by
  unfold xfield at h ⊢
  split at h
  · exact h
  · exact h
  · rename_i o e off
    cases ho : nth σ o with
    | none => rw [ho] at h; cases h
    | some ob => rw [ho] at h; rw [get_add ho]; exact h
  · cases h

theorem xixrow_add {sz : Nat} {x i r : V} {σ : St} (new : St) (h : xixrow sz x i σ = some r) : xixrow sz x i (σ ++ new) = some r := by
  unfold xixrow at h ⊢
  split at h
  · exact h
  · rename_i o ep n kd j
    cases ho : nth σ o with
    | none => rw [ho] at h; cases h
    | some ob => rw [ho] at h; rw [get_add ho]; exact h
  · cases h

theorem xixarr_add {n sz : Nat} {x i r : V} {σ : St} (new : St) (h : xixarr n sz x i σ = some r) : xixarr n sz x i (σ ++ new) = some r := by
  unfold xixarr at h ⊢
  split at h
  · exact h
  · exact h
  · rename_i o ep off kd j
    cases ho : nth σ o with
    | none => rw [ho] at h; cases h
    | some ob => rw [ho] at h; rw [get_add ho]; exact h
  · cases h

theorem xlen_add {d : TD} {x r : V} {σ : St} (new : St) (h : xlen d x σ = some r) : xlen d x (σ ++ new) = some r := by
  unfold xlen at h ⊢
  split at h
  · exact h
  · exact h
  · exact h
  · rename_i o e n
    cases ho : nth σ o with
    | none => rw [ho] at h; cases h
    | some ob => rw [ho] at h; rw [get_add ho]; exact h
  · cases h

theorem xnil_add {x r : V} {σ : St} (new : St) (h : xnil x σ = some r) : xnil x (σ ++ new) = some r := by
  unfold xnil at h ⊢
  split at h
  · exact h
  · exact h
  · exact h
  · rename_i o e off
    cases ho : nth σ o with
    | none => rw [ho] at h; cases h
    | some ob => rw [ho] at h; rw [get_add ho]; exact h
  · cases h

theorem still_add {f : St → Option V} (hf : ∀ {σ : St} {r : V} (new : St), f σ = some r → f (σ ++ new) = some r) {σ : St} {v : V} {τ : St} (new : St) (h : still (f σ) σ = some [(v, τ)]) : still (f (σ ++ new)) (σ ++ new) = some [(v, σ ++ new)] := by
  unfold still at h
  split at h
  · rename_i u hu
    cases h
    unfold still
    rw [hf new hu]
  · cases h

theorem xop_add {call : Caller} {s : SOp} (hs : readS s = true) {ρ : Operand → V} {σ : St} {v : V} {τ : St} (new : St) (h : xop call tb s ρ σ = some [(v, τ)]) : xop call tb s ρ (σ ++ new) = some [(v, σ ++ new)] := by
  cases s <;> simp only [readS] at hs <;> first
    | cases hs
    | skip
  case mv x => cases h; rfl
  case pick c a b =>
    simp only [xop] at h ⊢
    split at h
    · split at h <;> (cases h; rfl)
    · cases h
  case bin d op x y => exact still_add (f := fun _ => xbin d op (ρ x) (ρ y)) (fun _ h => h) new h
  case un op x => exact still_add (f := fun _ => xun op (ρ x)) (fun _ h => h) new h
  case load agg n x => exact still_add (f := xload agg n (addr (ρ x))) (fun new h => xload_add new h) new h
  case fa off x => exact still_add (f := xfield (addr (ρ x)) off) (fun new h => xfield_add new h) new h
  case fld agg off n x =>
    simp only [xop] at h ⊢
    split at h
    · rename_i l hl
      exact still_add (f := fun _ => xpart agg l off n) (fun _ h => h) new h
    · cases h
  case ixr sz x i => exact still_add (f := xixrow sz (addr (ρ x)) (ρ i)) (fun new h => xixrow_add new h) new h
  case ixa n sz x i => exact still_add (f := xixarr n sz (addr (ρ x)) (ρ i)) (fun new h => xixarr_add new h) new h
  case chr x i => exact still_add (f := fun _ => xchr (ρ x) (ρ i)) (fun _ h => h) new h
  case len d x => exact still_add (f := xlen d (ρ x)) (fun new h => xlen_add new h) new h
  case ext x i =>
    simp only [xop] at h ⊢
    split at h
    · rename_i l hl
      exact still_add (f := fun _ => nth l i) (fun _ h => h) new h
    · cases h
  case nilc x => exact still_add (f := xnil (ρ x)) (fun new h => xnil_add new h) new h

theorem xitem_add {call : Caller} {ops : Array Oper} {o : Oper} (hs : readS (comp tb o.op) = true) {t : FT} {σ : St} {v : V} {τ : St} (new : St) (h : xitem call tb (sitem tb ops o) t σ = some [(v, τ)]) :
    xitem call tb (sitem tb ops o) t (σ ++ new) = some [(v, σ ++ new)] := by
  unfold xitem at h ⊢
  split at h
  · cases h
  · exact xop_add hs new h
  · cases h; rfl

theorem xop_adds {call : Caller} {s : SOp} (hs : addS s = true) {ρ : Operand → V} {σ : St} {out : List (V × St)} (h : xop call tb s ρ σ = some out) : ∀ p ∈ out, ∃ new, p.2 = σ ++ new := by
  cases s <;> simp only [addS] at hs <;> first
    | cases hs
    | skip
  case alloc z => cases h; intro p hp; rw [List.mem_singleton.1 hp]; exact ⟨_, rfl⟩
  case box x =>
    simp only [xop] at h
    split at h
    · cases h; intro p hp; rw [List.mem_singleton.1 hp]; exact ⟨_, rfl⟩
    · cases h

theorem xitem_adds {call : Caller} {ops : Array Oper} {o : Oper} (hs : addS (comp tb o.op) = true) {t : FT} {σ : St} {out : List (V × St)} (h : xitem call tb (sitem tb ops o) t σ = some out) : ∀ p ∈ out, ∃ new, p.2 = σ ++ new := by
  unfold xitem at h
  split at h
  · cases h
  · exact xop_adds hs h
  · cases h; intro p hp; rw [List.mem_singleton.1 hp]; exact ⟨[], by simp⟩

/-! ### Regions: what each operation leaves -/
/-- It leaves the store; it adds alone. -/
def Lv (stl : Op → Bool) (tb : Tab) (ops : Array Oper) (i : Nat) (σ σ' : St) : Prop :=
  ∀ o, ops[i]? = some o → (stl o.op = true → σ' = σ) ∧ (addS (comp tb o.op) = true → ∃ new, σ' = σ ++ new)

theorem Lv.refl {stl : Op → Bool} {ops : Array Oper} {i : Nat} {σ : St} : Lv stl tb ops i σ σ := fun o _ => ⟨fun _ => rfl, fun _ => ⟨[], by simp⟩⟩

def pAnyG (P : Program) (tb : Tab) (ops : Array Oper) (R : Nat → St → St → Prop) (K : Fr → St → Prop) : Nat → Array Bool → Fr → St → Prop
  | 0, listed, fr, σ => Region.ready .any ops listed = [] ∧ K fr σ
  | fuel + 1, listed, fr, σ => (Region.ready .any ops listed = [] → K fr σ) ∧
    ∀ i ∈ Region.ready .any ops listed, ∀ o, ops[i]? = some o → pOne P noF tb ops o (fun fr' σ' => R i σ σ' ∧ pAnyG P tb ops R K fuel (listed.setIfInBounds i true) fr' σ') fr σ

theorem pAnyG_weak {ops : Array Oper} {R : Nat → St → St → Prop} {K : Fr → St → Prop} : ∀ (fuel : Nat) {listed : Array Bool} {fr : Fr} {σ : St}, pAnyG P tb ops R K fuel listed fr σ → pAny P noF tb ops K fuel listed fr σ
  | 0, listed, fr, σ, h => h
  | fuel + 1, listed, fr, σ, h => ⟨h.1, fun i hi o ho => pOne_mono (h.2 i hi o ho) fun fr' σ' h' => pAnyG_weak fuel h'.2⟩

theorem pAnyG_first {ops : Array Oper} {R : Nat → St → St → Prop} (hR : ∀ i σ, R i σ σ) {K : Fr → St → Prop} {i : Nat} {oi : Oper} {r : V} (hi : ops[i]? = some oi) :
    ∀ (fuel : Nat) (listed : Array Bool) (fr : Fr) (σ : St),
      (∀ j oj, ops[j]? = some oj → j ≠ i → listed.getD j true = false → (∀ e ∈ oj.after, Region.binds .any e = true → e.on ≠ i) → oi.apart ops oj = true) →
      i ∈ Region.ready .any ops listed → PY P noF tb ops oi r fr →
      pAnyG P tb ops R K fuel (listed.setIfInBounds i true) (fr.put oi.dst r) σ → pAnyG P tb ops R K (fuel + 1) listed fr σ := by
  intro fuel
  induction fuel with
  | zero =>
    intro listed fr σ _ hr hy H
    refine ⟨fun h => (by rw [h] at hr; cases hr), fun j hj o ho => ?_⟩
    by_cases hji : j = i
    · subst hji
      rw [hi] at ho; cases ho
      exact hy σ _ ⟨hR _ _, H⟩
    · have := ready_mono hj hji
      rw [H.1] at this
      cases this
  | succ fuel ih =>
    intro listed fr σ hfree hr hy H
    refine ⟨fun h => (by rw [h] at hr; cases hr), fun j hj oj hoj => ?_⟩
    by_cases hji : j = i
    · subst hji
      rw [hi] at hoj; cases hoj
      exact hy σ _ ⟨hR _ _, H⟩
    · have h1 := H.2 j (ready_mono hj hji) oj hoj
      have hjun := (mem_ready.1 hj).1
      have h2 := pOne_put (hfree j oj hoj hji hjun (not_listed hr hoj hj)) hy h1
      refine pOne_mono h2 fun fr' σ' h3 => ⟨h3.2.1, ih (listed.setIfInBounds j true) fr' σ' (free_step hfree hjun) (ready_mono hr (Ne.symm hji)) h3.1 ?_⟩
      rw [Array.setIfInBounds_comm _ _ hji]
      exact h3.2.2

theorem pOne_putsQ {ops : Array Oper} {Q : St → St → Prop} (hQ : ∀ σ, Q σ σ) {oi oj : Oper} {r : V} {fr : Fr} (hap : oi.apart ops oj = true) {K : Fr → St → Prop} {σ : St} (hy : ∀ σ', Q σ σ' → PYs P tb ops oi r fr σ') (hT : ∀ {a b c}, Q a b → Q b c → Q a c)
    (h : pOne P noF tb ops oj (fun fr' σ' => Q σ σ' ∧ K fr' σ') (fr.put oi.dst r) σ) :
    pOne P noF tb ops oj (fun fr' σ' => Q σ σ' ∧ (∀ σ'', Q σ' σ'' → PYs P tb ops oi r fr' σ'') ∧ K (fr'.put oi.dst r) σ') fr σ := by
  obtain ⟨h1, h2, h3⟩ := Oper.apart_spec hap
  have hc : ∀ v, (fr.put oi.dst r).put oj.dst v = (fr.put oj.dst v).put oi.dst r := fun v => put_comm fr r v h2
  unfold pOne at h ⊢
  rw [vguard_put h1] at h
  simp only [hc] at h
  rcases vguard_cases h with ⟨q1, q2⟩ | ⟨q1, q2⟩
  · exact q2 _ _ (pdo_mono ((pdo_put h1).1 q1) fun v σ' hh => ⟨hh.1, fun σ'' hq => (hy σ'' (hT hh.1 hq)).put hap, hh.2⟩)
  · exact q2 _ _ ⟨hQ σ, fun σ'' hq => (hy σ'' hq).put hap, q1.2⟩

/-- Taken first: all that may come ahead of it leaves what it looks at. -/
theorem pAnyG_calm {ops : Array Oper} {R : Nat → St → St → Prop} {Q : St → St → Prop} (hR : ∀ i σ, R i σ σ) (hQ : ∀ σ, Q σ σ) (hT : ∀ {a b c}, Q a b → Q b c → Q a c) {K : Fr → St → Prop} {i : Nat} {oi : Oper} {r : V} (hi : ops[i]? = some oi) (D : Nat → Bool)
    (hDr : ∀ j, D j = true → ∃ o, ops[j]? = some o) (hD : ∀ j oj, ops[j]? = some oj → D j = true → ∃ e ∈ oj.after, Region.binds .any e = true ∧ (e.on = i ∨ D e.on = true)) :
    ∀ (fuel : Nat) (listed : Array Bool) (fr : Fr) (σ : St),
      (∀ j oj, ops[j]? = some oj → j ≠ i → listed.getD j true = false → (∀ e ∈ oj.after, Region.binds .any e = true → e.on ≠ i) → oi.apart ops oj = true) →
      (∀ j oj, ops[j]? = some oj → D j = true → listed.getD j true = false) →
      (∀ j oj, ops[j]? = some oj → D j = false → j ≠ i → listed.getD j true = false → ∀ a b, R j a b → Q a b) →
      i ∈ Region.ready .any ops listed → (∀ σ', Q σ σ' → PYs P tb ops oi r fr σ') →
      pAnyG P tb ops R K fuel (listed.setIfInBounds i true) (fr.put oi.dst r) σ → pAnyG P tb ops R K (fuel + 1) listed fr σ := by
  intro fuel
  induction fuel with
  | zero =>
    intro listed fr σ _ _ _ hr hy H
    refine ⟨fun h => (by rw [h] at hr; cases hr), fun j hj o ho => ?_⟩
    by_cases hji : j = i
    · subst hji
      rw [hi] at ho; cases ho
      exact hy σ (hQ σ) _ ⟨hR _ _, H⟩
    · have := ready_mono hj hji
      rw [H.1] at this
      cases this
  | succ fuel ih =>
    intro listed fr σ hfree hDl hst hr hy H
    refine ⟨fun h => (by rw [h] at hr; cases hr), fun j hj oj hoj => ?_⟩
    by_cases hji : j = i
    · subst hji
      rw [hi] at hoj; cases hoj
      exact hy σ (hQ σ) _ ⟨hR _ _, H⟩
    · have h1 := H.2 j (ready_mono hj hji) oj hoj
      obtain ⟨hjun, oj', hoj', hall⟩ := mem_ready.1 hj
      rw [hoj] at hoj'; cases hoj'
      have hDj : D j = false := by
        cases hd : D j with
        | false => rfl
        | true =>
          obtain ⟨e, he, hb, hor⟩ := hD j oj hoj hd
          rcases hor with h | h
          · exact absurd h (not_listed hr hoj hj e he hb)
          · have l1 := hall e he hb
            obtain ⟨oe, ho⟩ := hDr e.on h
            have l2 := hDl e.on oe ho h
            rcases Nat.lt_or_ge e.on listed.size with h' | h'
            · simp [h'] at l1 l2; rw [l2] at l1; cases l1
            · simp [Array.getElem?_eq_none h'] at l1
      have hS := hst j oj hoj hDj hji hjun
      have h2 := pOne_putsQ (Q := Q) hQ (hfree j oj hoj hji hjun (not_listed hr hoj hj)) hy hT (K := fun fr' σ' => R j σ σ' ∧ pAnyG P tb ops R K fuel ((listed.setIfInBounds i true).setIfInBounds j true) fr' σ') (pOne_mono h1 fun fr' σ' h => ⟨hS _ _ h.1, h⟩)
      refine pOne_mono h2 fun fr' σ' h3 => ⟨h3.2.2.1, ?_⟩
      obtain ⟨e, h4, h5⟩ := h3
      refine ih (listed.setIfInBounds j true) fr' σ' (free_step hfree hjun) ?_ ?_ (ready_mono hr (Ne.symm hji)) h4 ?_
      · intro k ok hk hdk
        by_cases hjk : j = k
        · subst hjk; rw [hDj] at hdk; cases hdk
        · rw [getD_set_ne true hjk]; exact hDl k ok hk hdk
      · intro k ok hk hdk hki hun
        refine hst k ok hk hdk hki ?_
        by_cases hjk : j = k
        · subst hjk; exact hjun
        · rw [getD_set_ne true hjk] at hun; exact hun
      · rw [Array.setIfInBounds_comm _ _ hji]
        exact h5.2

/-- Objects were added. -/
def Adds (σ σ' : St) : Prop := ∃ new, σ' = σ ++ new

theorem calm_first {ps : FuncId → Bool} {call : Caller} (hc : CallOk P call) (hst : CallStill ps call) {ops : Array Oper} {m : Nat} {K : Fr → St → Prop} {i : Nat} {o : Oper} (ho : ops[i]? = some o) {n : Nat} {listed : Array Bool} {t : FT} {σ : St} (ht : OkT m t)
    (hi : i ∈ Region.ready .any ops listed) (hfr : freeAt ops listed i = true) (hcm : calmY tb (stlOf tb ps) ops listed i o.op = true) {v : V} {τ : St} (hx : xitem call tb (sitem tb ops o) t σ = some [(v, τ)])
    (ih : pAnyG P tb ops (Lv (stlOf tb ps) tb ops) K n (listed.setIfInBounds i true) ((frT m t).put o.dst v) σ) : pAnyG P tb ops (Lv (stlOf tb ps) tb ops) K (n + 1) listed (frT m t) σ := by
  simp only [calmY, Bool.and_eq_true, Bool.or_eq_true] at hcm
  obtain ⟨hs, hcm⟩ := hcm
  have hτ : τ = σ := xitem_still hst hs hx (v, τ) (List.mem_singleton.2 rfl)
  subst hτ
  have py : ∀ σ', xitem call tb (sitem tb ops o) t σ' = some [(v, σ')] → PYs P tb ops o v (frT m t) σ' := by
    intro σ' hx' K hK
    refine pOne_mono (xitem_ok hc ht hx') fun fr' σ2 ⟨u, e, hu⟩ => ?_
    have := List.mem_singleton.1 hu
    cases this
    rw [e, frT_set ht]
    exact hK
  rcases hcm with hcm | ⟨hrd, hcm⟩
  · exact pAnyG_calm (Q := fun a b => b = a) (fun _ _ => Lv.refl) (fun _ => rfl) (fun h k => k.trans h) ho (Dof ops i) (fun j hd => Dof_lt hd) (fun j oj hj hd => ((calm_spec hcm hj).1 hd).2) n listed _ τ (fun j oj hj hne hun hno => Region.free_spec ho hfr j oj hj hne hun hno)
      (fun j oj hj hd => ((calm_spec hcm hj).1 hd).1) (fun j oj hj hd hne hun a b hl => (hl oj hj).1 ((calm_spec hcm hj).2 hd hne hun)) hi (fun σ' e => by subst e; exact py _ hx) ih
  · exact pAnyG_calm (Q := Adds) (fun _ _ => Lv.refl) (fun σ => ⟨[], by simp⟩) (fun ⟨x, h⟩ ⟨y, k⟩ => ⟨x ++ y, by rw [k, h, List.append_assoc]⟩) ho (Dof ops i) (fun j hd => Dof_lt hd) (fun j oj hj hd => ((calm_spec hcm hj).1 hd).2) n listed _ τ (fun j oj hj hne hun hno => Region.free_spec ho hfr j oj hj hne hun hno)
      (fun j oj hj hd => ((calm_spec hcm hj).1 hd).1) (fun j oj hj hd hne hun a b hl => by
        have := (calm_spec hcm hj).2 hd hne hun
        rcases Bool.or_eq_true _ _ ▸ this with h | h
        · exact ⟨[], by rw [(hl oj hj).1 h]; simp⟩
        · exact (hl oj hj).2 h) hi (fun σ' ⟨new, e⟩ => by subst e; exact py _ (xitem_add hrd new hx)) ih

/-- A call from frozen data comes to the same whatever the store is. -/
theorem tlessY_ok {call : Caller} (hc : CallOk P call) {ops : Array Oper} {o : Oper} {m : Nat} {t : FT} (ht : OkT m t) (hl : tlessY tb o.op t = true) {v u : V} {τ : St} (h : xitem call tb (sitem tb ops o) t [] = some [(v, τ)]) (hu : ysoft o.op (v, τ) = some u) : PY P noF tb ops o u (frT m t) := by
  unfold tlessY at hl
  unfold ysoft at hu
  rw [Bool.or_eq_true] at hl
  rcases hl with hl | hl
  · have hco : callOp o.op = false := by
      cases ho : o.op <;> rw [ho] at hl <;> first
        | rfl
        | (simp [movOp] at hl; done)
    rw [hco] at hu
    simp only [Option.some.injEq] at hu
    subst hu
    have hc2 : ∃ x, comp tb o.op = .mv x := by
      cases ho : o.op <;> rw [ho] at hl <;> first
        | (simp [movOp] at hl; done)
        | exact ⟨_, rfl⟩
    obtain ⟨x, hcx⟩ := hc2
    intro σ K hK
    have hx : xitem call tb (sitem tb ops o) t σ = some [(v, σ)] := by
      unfold xitem at h ⊢
      split at h
      · cases h
      · rename_i hg
        simp only [sitem, hcx, xop] at h ⊢
        cases h
        rfl
      · rename_i hg
        cases h
        rfl
    refine pOne_mono (xitem_ok hc ht hx) fun fr' σ2 ⟨u2, e, hu2⟩ => ?_
    have := List.mem_singleton.1 hu2
    cases this
    rw [e, frT_set ht]
    exact hK
  cases hco : callOp o.op with
  | false =>
    rw [hco] at hl hu
    simp only [Option.some.injEq] at hu
    subst hu
    exact xitem_tless hc ht hl h
  | true =>
    rw [hco] at hl hu
    simp only at hl hu
    obtain ⟨dst, op, ty, pos, after, guard⟩ := o
    cases op <;> first
      | (simp [callOp] at hco; done)
      | skip
    rename_i cl
    obtain ⟨cal, args, at'⟩ := cl
    cases cal <;> first
      | (simp [callOp] at hco; done)
      | skip
    rename_i x
    cases x <;> first
      | (simp [callOp] at hco; done)
      | skip
    rename_i f
    simp only at hl
    split at hu
    · cases hu
    · rename_i u' τ' hh
      split at hu
      · rename_i hfree
        cases hu
        have hcomp : comp tb (.call { callee := .value (.func f), args := args, argTypes := at' }) = .call (.func f) args.toList := by
          simp [comp, extraB, comp0]
        have hA := tA_in (m := m) t
        have hlk : ∀ i, lk (tA t m) i = t.get i := fun i => congrFun (tA_at ht) (.tmp i)
        unfold xitem at h
        split at h
        · cases h
        · rename_i hgd
          have hcall : call f (args.toList.map t.at) [] = some [(v, τ)] := by
            have := h
            simp only [sitem, hcomp, xop, FT.at, callee] at this
            exact this
          intro σ K hK
          -- a caller that knows this call alone
          let call' : Caller := fun f' l' σ' => @ite _ (f' = f ∧ l' = args.toList.map t.at) (Classical.propDecidable _) (some [(u, σ')]) none
          have hc' : CallOk P call' := by
            intro f' l' σ' o' ho'
            by_cases hfl : f' = f ∧ l' = args.toList.map t.at
            · simp only [call', if_pos hfl] at ho'
              obtain ⟨rfl, rfl⟩ := hfl
              cases ho'
              have hhard : hardly σ' [(v, τ)] = some [(u, σ')] := by
                simp only [hardly, hh, hfree]
              exact call_free hl (hc _ _ _ _ hcall) hhard
            · simp only [call', if_neg hfl] at ho'
              cases ho'
          have hx1 : xitem call' tb (sitem tb ops ⟨dst, .call { callee := .value (.func f), args := args, argTypes := at' }, ty, pos, after, guard⟩) t σ = some [(u, σ)] := by
            unfold xitem
            rw [hgd]
            simp only [sitem, hcomp, xop, FT.at, callee]
            exact if_pos ⟨rfl, rfl⟩
          refine pOne_mono (xitem_ok hc' ht hx1) fun fr' σ2 ⟨u2, e, hu2⟩ => ?_
          have := List.mem_singleton.1 hu2
          cases this
          rw [e, frT_set ht]
          exact hK
        · rename_i hgd
          cases h
          simp only [hardV, hardVs] at hh
          cases hh
          intro σ K hK
          exact sg hA (xguard_ok hlk hgd (fun e => by cases e) (fun _ => hK))
      · cases hu

/-- What a plan says: of a state of the region; of a row of ways out of one. -/
def PTSays (P : Program) (tb : Tab) (ps : FuncId → Bool) (ops : Array Oper) (m : Nat) (K : Fr → St → Prop) (s : PT) (top : Bool) (n : Nat) (listed : Array Bool) (t : FT) (σ : St) : Prop :=
  match top with
  | true => pAnyG P tb ops (Lv (stlOf tb ps) tb ops) K n listed (frT m t) σ
  | false => ∀ n', n = n' + 1 → ∀ i ∈ s.alts, ∀ o, ops[i]? = some o →
      pOne P noF tb ops o (fun fr' σ' => (Lv (stlOf tb ps) tb ops i σ σ') ∧ pAnyG P tb ops (Lv (stlOf tb ps) tb ops) K n' (listed.setIfInBounds i true) fr' σ') (frT m t) σ

theorem yrun_ok {ps : FuncId → Bool} {call : Caller} (hc : CallOk P call) (hst : CallStill ps call) {ops : Array Oper} {m : Nat} {K : Fr → St → Prop} : ∀ (s : PT) (top : Bool) (k : Nat → Array Bool → Bool) (n : Nat) (listed : Array Bool) {y : YT} {t : FT} {σ : St} {out : List (FT × St)}, OkT m t →
    ptOk tb (stlOf tb ps) ops s top k n listed = true → ytree tb ops s = some y → yrun y call tb m t σ = some out →
    (∀ n' l' t' σ', k n' l' = true → OkT m t' → (t', σ') ∈ out → pAnyG P tb ops (Lv (stlOf tb ps) tb ops) K n' l' (frT m t') σ') → PTSays P tb ps ops m K s top n listed t σ
  | .done, top, k, n, listed, y, t, σ, out, ht, hg, hy, h, hk => by
    simp only [ytree, Option.some.injEq] at hy
    subst hy
    simp only [ptOk, Bool.and_eq_true] at hg
    obtain ⟨rfl, hr⟩ := hg
    have h' : out = [(t, σ)] := (Option.some.inj h).symm
    subst h'
    exact hk n listed t σ hr ht (List.mem_singleton.2 rfl)
  | .stop, top, k, n, listed, y, t, σ, out, ht, hg, hy, h, hk => by
    simp only [ptOk, Bool.not_eq_true'] at hg
    subst hg
    intro n' _ i hi
    simp only [PT.alts] at hi
    cases hi
  | .sub s p, top, k, n, listed, y, t, σ, out, ht, hg, hy, h, hk => by
    simp only [ptOk, Bool.and_eq_true] at hg
    obtain ⟨rfl, hg⟩ := hg
    simp only [ytree] at hy
    split at hy
    · cases hy
    · rename_i ys hys
      split at hy
      · cases hy
      · rename_i yp hyp
        cases hy
        have h' : bindR (ynub (yrun ys call tb m t σ)) (fun p => yrun yp call tb m p.1 p.2) = some out := h
        rw [bindR_eq] at h'
        obtain ⟨l, h1, h2⟩ := bind_mem h'
        obtain ⟨l0, h3, h4⟩ := ynub_spec h1
        exact yrun_ok hc hst s true _ n listed ht hg hys h3 fun n' l' t' σ' hk' ht' hm => by
          obtain ⟨lx, h5, h6⟩ := h2 _ (h4 _ hm)
          exact yrun_ok hc hst p true k n' l' ht' hk' hyp h5 fun n2 l2 t2 σ2 a b c => hk n2 l2 t2 σ2 a b (h6 _ c)
  | .go i c p, top, k, n, listed, y, t, σ, out, ht, hg, hy, h, hk => by
    simp only [ptOk] at hg
    cases n with
    | zero => cases hg
    | succ n =>
    simp only at hg
    split at hg
    · rename_i hb
      simp only [Bool.and_eq_true, List.contains_eq_mem, decide_eq_true_eq] at hb
      obtain ⟨rfl, ⟨hi, hfr⟩, hcc⟩ := hb
      simp only [ytree] at hy
      split at hy
      · cases hy
      · rename_i o ho
        split at hy
        · cases hy
        · rename_i y' hy'
          cases hy
          rw [ho] at hcc
          show pAnyG P tb ops (Lv (stlOf tb ps) tb ops) K (n + 1) listed (frT m t) σ
          cases c with
          | true =>
            have h' : oneK (yitem (sitem tb ops o) call tb t σ) (fun q => ftPutK m t (sitem tb ops o).dst q.1 fun t' => yrun y' call tb m t' σ) (fun _ => none) = some out := h
            obtain ⟨⟨v, τ⟩, hx, h2⟩ := oneK_spec h'
            rw [ftPutK_eq] at h2
            rw [yitem_eq] at hx
            have ih : pAnyG P tb ops (Lv (stlOf tb ps) tb ops) K n (listed.setIfInBounds i true) (frT m (t.set m o.dst v)) σ := yrun_ok hc hst p true k n (listed.setIfInBounds i true) (ht.set o.dst v) hg hy' h2 hk
            rw [frT_set ht] at ih
            exact calm_first hc hst ho ht hi hfr hcc hx ih
          | false =>
            have h' : Bool.rec none (oneK (yitem (sitem tb ops o) call tb t []) (fun q => Option.rec none (fun u => ftPutK m t (sitem tb ops o).dst u fun t' => yrun y' call tb m t' σ) (ysoft o.op q)) fun _ => none) (tlessY tb o.op t) = some out := h
            cases htl : tlessY tb o.op t with
            | false => rw [htl] at h'; cases h'
            | true =>
              rw [htl] at h'
              obtain ⟨⟨v, τ⟩, hx, h2⟩ := oneK_spec h'
              rw [yitem_eq] at hx
              cases hu : ysoft o.op (v, τ) with
              | none => rw [hu] at h2; cases h2
              | some u =>
                rw [hu] at h2
                have h2 : ftPutK m t (sitem tb ops o).dst u (fun t' => yrun y' call tb m t' σ) = some out := h2
                rw [ftPutK_eq] at h2
                have ih : pAnyG P tb ops (Lv (stlOf tb ps) tb ops) K n (listed.setIfInBounds i true) (frT m (t.set m o.dst u)) σ := yrun_ok hc hst p true k n (listed.setIfInBounds i true) (ht.set o.dst u) hg hy' h2 hk
                rw [frT_set ht] at ih
                exact pAnyG_first (fun _ _ => Lv.refl) ho n listed _ σ (fun j oj hj hne hun hno => Region.free_spec ho hfr j oj hj hne hun hno) hi (tlessY_ok hc ht htl hx hu) ih
    · cases hg
  | .alt i p q, top, k, n, listed, y, t, σ, out, ht, hg, hy, h, hk => by
    simp only [ptOk] at hg
    cases n with
    | zero => cases hg
    | succ n =>
    simp only at hg
    split at hg
    · rename_i htop
      split at hg
      · rename_i hp
        simp only [ytree] at hy
        split at hy
        · cases hy
        · rename_i o ho
          split at hy
          · cases hy
          · rename_i yp hyp
            split at hy
            · cases hy
            · rename_i yq hyq
              cases hy
              have h' : yjoin (Rs.bind (yitem (sitem tb ops o) call tb t σ) fun r => yrun yp call tb m (t.set m (sitem tb ops o).dst r.1) r.2) (yrun yq call tb m t σ) = some out := h
              obtain ⟨l, l', h1, h2, h3, h4⟩ := yjoin_spec h'
              have key : PTSays P tb ps ops m K (.alt i p q) false (n + 1) listed t σ := by
                intro n' e j hj oj hoj
                cases e
                simp only [PT.alts] at hj
                rcases List.mem_cons.1 hj with rfl | hj
                · rw [ho] at hoj
                  cases hoj
                  obtain ⟨o1, e1, e2⟩ := bind_mem h1
                  rw [yitem_eq] at e1
                  refine pOne_mono (xitem_ok hc ht e1) fun fr' σ' ⟨v, e, hv⟩ => ?_
                  subst e
                  obtain ⟨lx, e3, e4⟩ := e2 _ hv
                  refine ⟨fun o' ho' => ?_, ?_⟩
                  · rw [ho] at ho'
                    cases ho'
                    exact ⟨fun hs => xitem_still hst hs e1 _ hv, fun hs => xitem_adds hs e1 _ hv⟩
                  · exact yrun_ok hc hst p true k n _ (ht.set o.dst v) hp hyp e3 fun n2 l2 t2 σ2 a b c => hk n2 l2 t2 σ2 a b (h3 _ (e4 _ c))
                · have ih := yrun_ok hc hst q false k (n + 1) listed ht hg hyq h2 fun n2 l2 t2 σ2 a b c => hk n2 l2 t2 σ2 a b (h4 _ c)
                  exact ih n rfl j hj oj hoj
              cases top with
              | false => exact key
              | true =>
                have hr := natsB_eq htop
                refine ⟨fun hn => (by rw [hr] at hn; cases hn), fun j hj oj hoj => ?_⟩
                rw [hr] at hj
                exact key n rfl j hj oj hoj
      · cases hg
    · cases hg

theorem yrun_all {ps : FuncId → Bool} {call : Caller} (hc : CallOk P call) (hst : CallStill ps call) {ops : Array Oper} {m : Nat} {s : PT} {n : Nat} {listed : Array Bool} {y : YT} {t : FT} {σ : St} {out : List (FT × St)} (ht : OkT m t)
    (hg : ptOk tb (stlOf tb ps) ops s true (allRun ops) n listed = true) (hy : ytree tb ops s = some y) (h : yrun y call tb m t σ = some out) : pAnyG P tb ops (Lv (stlOf tb ps) tb ops) (InO m out) n listed (frT m t) σ :=
  yrun_ok (K := InO m out) hc hst s true (allRun ops) n listed ht hg hy h fun n' l' t' σ' hk ht' hm => by
    have hr := nilB_eq hk
    cases n' with
    | zero => exact ⟨hr, t', ht', rfl, hm⟩
    | succ n' => exact ⟨fun _ => ⟨t', ht', rfl, hm⟩, fun i hi => by rw [hr] at hi; cases hi⟩

theorem hints_two {x y : Bool} (h : (match x with | true => y | false => false) = true) : x = true ∧ y = true := by cases x <;> cases y <;> first | exact ⟨rfl, rfl⟩ | cases h

theorem canonF_lifts {n m : Nat} {g : G} {w : World} {σ : St} {l : List (FT × St)} {a' : Act} {w' : World} (h : LiftsN n g w σ (InO m l) a' w') : LiftsN n g w σ (InO m (l.map (canonF n))) a' w' := by
  obtain ⟨fr', σ', g', ⟨t, ht, rfl, hm⟩, h2, h3, h4, h5⟩ := h
  have hm : canonF n (t, σ') ∈ l.map (canonF n) := List.mem_map.2 ⟨_, hm, rfl⟩
  unfold canonF at hm
  simp only at hm
  split at hm
  · rename_i σ2 e1 e2
    obtain ⟨hc, hv⟩ := canon_spec e1 e2
    exact ⟨_, σ2, _, ⟨_, ht.ren _, rfl, hm⟩, ren_rep hc h2, ren_turn hc h3, renFr ht hc hv h4, h5⟩
  · exact ⟨_, σ', g', ⟨t, ht, rfl, hm⟩, h2, h3, h4, h5⟩

theorem ynorm_spec {n m : Nat} {o : Rs (FT × St)} {out : List (XE × FT × St)} (h : ynorm n o = some out) : ∃ l, o = some l ∧
    ∀ {g : G} {w : World} {σ : St} {a' : Act} {w' : World}, LiftsN n g w σ (InO m l) a' w' → LiftsN n g w σ (InX m out .normal) a' w' := by
  cases o with
  | none => cases h
  | some l =>
    refine ⟨l, rfl, fun h' => ?_⟩
    cases l with
    | nil => obtain ⟨fr', σ', g', ⟨t, ht, rfl, hm⟩, _⟩ := h'; cases hm
    | cons q l =>
      cases l with
      | nil =>
        have e : out = [(XE.norm, q.1, q.2)] := (Option.some.inj h).symm
        subst e
        exact LiftsN.mono h' fun fr σ' ⟨t', q1, q2, q3⟩ => by
          subst q2
          have := List.mem_singleton.1 q3
          subst this
          exact inNorm q1 (List.mem_singleton.2 rfl)
      | cons q' l =>
        have e : out = (nub fsEqb ((q :: q' :: l).map (canonF n))).map fun p => (XE.norm, p.1, p.2) := (Option.some.inj h).symm
        subst e
        exact LiftsN.mono (canonF_lifts h') fun fr σ' ⟨t', q1, q2, q3⟩ => by
          subst q2
          exact inNorm q1 (List.mem_map.2 ⟨_, nub_mem fsEqb_ok q3, rfl⟩)

theorem ycond_spec {v : V} {a b : Unit → Rs (XE × FT × St)} {o : List (XE × FT × St)} (h : ycond v a b = some o) : (v = .c (.f (.bool true)) ∧ a () = some o) ∨ (v = .c (.f (.bool false)) ∧ b () = some o) := by
  cases v with
  | c c => cases c with
    | f f => cases f with
      | bool t => cases t with
        | true => exact .inl ⟨rfl, h⟩
        | false => exact .inr ⟨rfl, h⟩
      | _ => cases h
    | _ => cases h
  | _ => cases h

theorem ycode_ok (hm : P.follows .mixedOrders = true) (tok : TabOk P tb) {ps : FuncId → Bool} {call : Caller} (hc : CallOk P call) (hst : CallStill ps call) {m n it : Nat} {H : Hints} {c : Code} : ∀ {t : FT} {σ : St} {out : List (XE × FT × St)}, hintsOk tb (stlOf tb ps) H c = true → OkT m t →
    ycode (ycomp tb (stlOf tb ps) H c) call tb n m it t σ = some out → DWp P n c (InX m out) (frT m t) σ := by
  induction c with
  | skip =>
    intro t σ out hh0 ht h g w a hr hf hd
    simp only [ycomp, ycode, Option.some.injEq] at h
    subst h
    exact wp_skip (here_ok (inNorm ht (List.mem_singleton.2 rfl)) hr hf hd)
  | label l =>
    intro t σ out hh0 ht h g w a hr hf hd
    simp only [ycomp, ycode, Option.some.injEq] at h
    subst h
    exact wp_label (here_ok (inNorm ht (List.mem_singleton.2 rfl)) hr hf hd)
  | exit id =>
    intro t σ out hh0 ht h g w a hr hf hd
    simp only [ycomp, ycode, Option.some.injEq] at h
    subst h
    exact wp_exit (here_ok (inExit ht (List.mem_singleton.2 rfl)) hr hf hd)
  | ret =>
    intro t σ out hh0 ht h g w a hr hf hd
    simp only [ycomp, ycode, Option.some.injEq] at h
    subst h
    exact wp_ret (here_ok (inRet ht (List.mem_singleton.2 rfl)) hr hf hd)
  | region id ops draw =>
    intro t σ out hh0 ht h g w a hr hf hd
    cases draw with
    | false =>
      simp only [ycomp] at h
      obtain ⟨l, h1, h2⟩ := ynorm_spec (o := yseq _ call tb m t σ) h
      rw [yseq_eq] at h1
      refine wp_region ?_
      rw [List.range_eq_range']
      exact pSeq_sound tok ops.size 0 (by omega) hr hf hd (by rw [List.drop_zero]; exact xseq_ok hc _ ht h1) fun a' w' h' => show LiftsN n g w σ (InX m out .normal) a' w' from h2 (h'.n n)
    | true =>
      have key : ∃ l, (∀ {g : G} {w : World} {σ : St} {a' : Act} {w' : World}, LiftsN n g w σ (InO m l) a' w' → LiftsN n g w σ (InX m out .normal) a' w') ∧ pAny P noF tb ops (InO m l) ops.size (Array.replicate ops.size false) (frT m t) σ := by
        simp only [ycomp] at h
        simp only [hintsOk] at hh0
        split at h
        · rename_i s hs
          rw [hs] at hh0
          simp only at hh0
          split at h
          · rename_i y hy
            obtain ⟨l, h1, h2⟩ := ynorm_spec (o := yrun y call tb m t σ) h
            exact ⟨l, h2, pAnyG_weak _ (yrun_all hc hst ht hh0 hy h1)⟩
          · cases h
        · obtain ⟨l, h1, h2⟩ := ynorm_spec (o := xany call tb m ops.size (planOf tb (stlOf tb ps) ops) t σ) h
          exact ⟨l, h2, pAnyF_weak _ (xany_ok hc hst _ _ ht h1)⟩
      obtain ⟨l, h2, hp⟩ := key
      obtain ⟨d1, d2⟩ := drew_rep hr
      refine wp_region_any hm ?_
      exact pAny_sound tok _ _ d1 (hf.turn d2) hd hp fun a' w' h' => h2 ((h'.n n).trans (d2.n n))
  | seq x y ihx ihy =>
    intro t σ out hh0 ht h g w a hr hf hd
    have h : bindR (ycode (ycomp tb (stlOf tb ps) H x) call tb n m it t σ) (ynext (ycode (ycomp tb (stlOf tb ps) H y) call tb n m it)) = some out := h
    rw [bindR_eq] at h
    obtain ⟨hx0, hy0⟩ := hints_two (x := hintsOk tb (stlOf tb ps) H x) (y := hintsOk tb (stlOf tb ps) H y) hh0
    obtain ⟨l, h1, h2⟩ := bind_mem h
    refine wp_seq (wp_mono (ihx hx0 ht h1 g w a hr hf hd) fun e a' w' h' => ?_)
    obtain ⟨fr', σ', g', ⟨xe, t', hx, ht', rfl, hmm⟩, h4, h5, h6, h7⟩ := h'
    obtain ⟨lx, h8, h9⟩ := h2 _ hmm
    cases e with
    | normal =>
      cases xe <;> simp only [xeOf] at hx
      exact wp_mono (ihy hy0 ht' h8 g' w' a' h4 h6 h7) fun e a'' w'' h10 => (h10.mono fun fr σ hh => hh.mono h9).trans h5
    | exit i =>
      cases xe <;> simp only [xeOf] at hx
      subst hx
      have h8 := (Option.some.inj h8).symm
      subst h8
      exact ⟨_, σ', g', inExit ht' (h9 _ (List.mem_singleton.2 rfl)), h4, h5, h6, h7⟩
    | ret =>
      cases xe <;> simp only [xeOf] at hx
      have h8 := (Option.some.inj h8).symm
      subst h8
      exact ⟨_, σ', g', inRet ht' (h9 _ (List.mem_singleton.2 rfl)), h4, h5, h6, h7⟩
    | _ => cases xe <;> exact hx.elim
  | cond c x y ihx ihy =>
    intro t σ out hh0 ht h g w a hr hf hd
    have h : ycond (ftAt t c) (fun _ => ycode (ycomp tb (stlOf tb ps) H x) call tb n m it t σ) (fun _ => ycode (ycomp tb (stlOf tb ps) H y) call tb n m it t σ) = some out := h
    rw [ftAt_eq] at h
    obtain ⟨hx0, hy0⟩ := hints_two (x := hintsOk tb (stlOf tb ps) H x) (y := hintsOk tb (stlOf tb ps) H y) hh0
    have hcv := opd_rep hf c
    rw [frT_opd ht] at hcv
    rcases ycond_spec h with ⟨e, h⟩ | ⟨e, h⟩
    · rw [e] at hcv
      exact wp_cond_true (show a.eval c = .bool true from hcv) (ihx hx0 ht h g w a hr hf hd)
    · rw [e] at hcv
      exact wp_cond_false (show a.eval c = .bool false from hcv) (ihy hy0 ht h g w a hr hf hd)
  | block id c ih =>
    intro t σ out hh0 ht h g w a hr hf hd
    have h : bindR (ycode (ycomp tb (stlOf tb ps) H c) call tb n m it t σ) (yblk id) = some out := h
    rw [bindR_eq] at h
    obtain ⟨l, h1, h2⟩ := bind_mem h
    refine wp_block (wp_mono (ih hh0 ht h1 g w a hr hf hd) fun e a' w' h' => ?_)
    obtain ⟨fr', σ', g', ⟨xe, t', hx, ht', rfl, hmm⟩, h4⟩ := h'
    obtain ⟨lx, h8, h9⟩ := h2 _ hmm
    cases e with
    | normal =>
      cases xe <;> simp only [xeOf] at hx
      have h8 := (Option.some.inj h8).symm
      subst h8
      exact ⟨_, σ', g', inNorm ht' (h9 _ (List.mem_singleton.2 rfl)), h4⟩
    | exit j =>
      cases xe <;> simp only [xeOf] at hx
      subst hx
      simp only [Exit.inBlock]
      rename_i j
      have h8 : Bool.rec (some [(XE.exit j, t', σ')]) (some [(XE.norm, t', σ')]) (Nat.beq j id) = some lx := h8
      cases hj : Nat.beq j id with
      | true =>
        rw [hj] at h8
        have e8 : lx = [(XE.norm, t', σ')] := (Option.some.inj h8).symm
        subst e8
        have := Nat.eq_of_beq_eq_true hj
        subst this
        rw [if_pos rfl]
        exact ⟨_, σ', g', inNorm ht' (h9 _ (List.mem_singleton.2 rfl)), h4⟩
      | false =>
        rw [hj] at h8
        have e8 : lx = [(XE.exit j, t', σ')] := (Option.some.inj h8).symm
        subst e8
        rw [if_neg (fun e => by subst e; rw [Nat.beq_refl] at hj; cases hj)]
        exact ⟨_, σ', g', inExit ht' (h9 _ (List.mem_singleton.2 rfl)), h4⟩
    | ret =>
      cases xe <;> simp only [xeOf] at hx
      have h8 := (Option.some.inj h8).symm
      subst h8
      exact ⟨_, σ', g', inRet ht' (h9 _ (List.mem_singleton.2 rfl)), h4⟩
    | _ => cases xe <;> exact hx.elim
  | loop c ih =>
    intro t σ out hh0 ht h g w a hr hf hd b k cs
    have h : yloop (ycode (ycomp tb (stlOf tb ps) H c) call tb n m it) it t σ = some out := h
    rw [yloop_eq] at h
    obtain ⟨e, a', w', h1, h2⟩ := xloop_ok (n := n) (fun ht' h' => ih hh0 ht' h') it ht h g w a hr hf hd b k cs
    exact ⟨e, a', w', h1, .of_steps (.one step_loop) h2⟩
  | _ => intro t σ out hh0 ht h; simp [ycomp, ycode] at h

theorem yfunOf_spec {stl : Op → Bool} {H : Hints} {f : FuncId} {F : YFun} (h : yfunOf P tb stl H f = some F) : ∃ fn c, P.funcs[f]? = some fn ∧ fn.body = some c ∧ (fn.name == "runtime.NumGoroutine") = false ∧ F = ⟨fn.ntmps, ycomp tb stl H c, fn.results.toList⟩ := by
  unfold yfunOf at h
  split at h
  · cases h
  · rename_i fn hf
    split at h
    · cases h
    · rename_i c hb
      split at h
      · cases h
      · rename_i hn
        cases h
        exact ⟨fn, c, hf, hb, hn, rfl⟩

theorem ybody_ok (hm : P.follows .mixedOrders = true) (tok : TabOk P tb) {ps : FuncId → Bool} {call : Caller} (hc : CallOk P call) (hst : CallStill ps call) {it : Nat} {H : Hints} {f : FuncId} {F : YFun} (hF : yfunOf P tb (stlOf tb ps) H f = some F) (hH : yhintOk P tb (stlOf tb ps) H f = true) {args : List V} {σ : St} {o : List (V × St)}
    (h : ybody F call tb it args σ = some o) : CallAt P f args σ fun r σ' => (r, σ') ∈ o := by
  obtain ⟨fn, c, hf, hb, hn, rfl⟩ := yfunOf_spec hF
  have hH' : hintsOk tb (stlOf tb ps) H c = true := by
    unfold yhintOk at hH
    rw [hf] at hH
    simp only [hb] at hH
    exact hH
  unfold ybody at h
  split at h
  · cases h
  · rename_i hle
    simp only at h
    have key : ∃ o', bindR (ycode (ycomp tb (stlOf tb ps) H c) call tb σ.length fn.ntmps it (start fn.ntmps 0 args (blank (fn.ntmps / 8))) σ) (xret tb fn.results.toList) = some o' ∧ ∀ x ∈ o', x ∈ o := by
      revert h
      generalize bindR (ycode (ycomp tb (stlOf tb ps) H c) call tb σ.length fn.ntmps it (start fn.ntmps 0 args (blank (fn.ntmps / 8))) σ) (xret tb fn.results.toList) = y
      intro h
      cases y with
      | none => cases h
      | some o' =>
        refine ⟨o', rfl, fun x hx => ?_⟩
        cases o' with
        | nil => cases hx
        | cons p o1 =>
          cases o1 with
          | nil => simp only [Option.some.injEq] at h; subst h; exact hx
          | cons q o2 => simp only [Option.some.injEq] at h; subst h; exact nub_mem vsEqb_ok hx
    obtain ⟨o', hx, hsub⟩ := key
    rw [bindR_eq] at hx
    obtain ⟨l, h1, h2⟩ := bind_mem hx
    have hw := ycode_ok (n := σ.length) hm tok hc hst hH' (start_ok args 0 (blank_ok fn.ntmps)) h1
    rw [frT_start (ble_nat hle)] at hw
    refine call_of hm tok hf hb hn (hw.mono fun e fr σ' ⟨x, t, hxe, ht, hfr, hmem⟩ => ?_)
    subst hfr
    obtain ⟨lx, h3, h4⟩ := h2 _ hmem
    have fin : xret tb fn.results.toList (.norm, t, σ') = some lx → resVs prims tb fn.results.toList (frT fn.ntmps t) σ' fun l => match l with | [v] => (v, σ') ∈ o | l => (V.t l, σ') ∈ o := by
      intro h3
      unfold xret at h3
      simp only at h3
      split at h3
      · cases h3
      · rename_i v hr
        cases h3
        exact xres_ok ht hr (hsub _ (h4 _ (List.mem_singleton.2 rfl)))
      · rename_i l' hno hr
        cases h3
        refine xres_ok ht hr ?_
        have := hsub _ (h4 _ (List.mem_singleton.2 rfl))
        split
        · rename_i v; exact (hno v rfl).elim
        · exact this
    cases e with
    | normal =>
      cases x <;> simp only [xeOf] at hxe
      exact fin h3
    | ret =>
      cases x <;> simp only [xeOf] at hxe
      exact fin h3
    | exit i =>
      cases x <;> simp only [xeOf] at hxe
      simp [xret] at h3
    | _ => cases x <;> exact hxe.elim

theorem ytrim_eq (n : Nat) (p : V × St) : ytrim n p = trim n p := by
  unfold ytrim
  split
  · rename_i h
    have h := Nat.eq_of_beq_eq_true h
    obtain ⟨v, σ⟩ := p
    simp only at h
    unfold trim
    split
    · simp only; rw [List.take_of_length_le (by omega)]
    · rfl
  · rfl

theorem yim_spec {σ : St} {x : Rs (V × St)} {o : List (V × St)} (h : yim σ.length x = some o) : ∃ o1, x = some o1 ∧ ∀ {g : G} {w : World} {v : Value} {w' : World}, CallEnd g w σ (fun r σ' => (r, σ') ∈ o1) v w' → CallEnd g w σ (fun r σ' => (r, σ') ∈ o) v w' := by
  unfold yim at h
  split at h
  · cases h
  · rename_i p
    cases h
    refine ⟨_, rfl, fun h' => ?_⟩
    have := trim_end h'
    rw [ytrim_eq]
    exact this
  · rename_i o1 _
    cases h
    exact ⟨_, rfl, fun h' => (canonV_end h').mono fun r σ' hh => nub_mem vsEqb_ok hh⟩

theorem yps_spec {σ : St} {x : Rs (V × St)} {o : List (V × St)} (h : yps σ x = some o) : ∃ o1 o2, x = some o1 ∧ barely σ o1 = some o2 ∧ (∀ p ∈ o2, p ∈ o) ∧ ∀ p ∈ o, p ∈ o2 := by
  unfold yps at h
  split at h
  · rename_i o1
    split at h
    · cases h
    · rename_i p hb
      cases h
      exact ⟨_, _, rfl, hb, fun _ hq => hq, fun _ hq => hq⟩
    · rename_i o2 _ hb
      cases h
      exact ⟨_, _, rfl, hb, fun _ hq => nub_mem vsEqb_ok hq, fun _ hq => nub_sub hq⟩
  · cases h

theorem ypf_spec {σ : St} {x : Rs (V × St)} {o : List (V × St)} (h : ypf σ x = some o) : ∃ o1 o2, x = some o1 ∧ hardly σ o1 = some o2 ∧ (∀ p ∈ o2, p ∈ o) ∧ ∀ p ∈ o, p ∈ o2 := by
  unfold ypf at h
  split at h
  · rename_i o1
    split at h
    · cases h
    · rename_i p hb
      cases h
      exact ⟨_, _, rfl, hb, fun _ hq => hq, fun _ hq => hq⟩
    · rename_i o2 _ hb
      cases h
      exact ⟨_, _, rfl, hb, fun _ hq => nub_mem vsEqb_ok hq, fun _ hq => nub_sub hq⟩
  · cases h

/-- Bodies that are what they are said to be. -/
def BodiesOk (P : Program) (ps : FuncId → Bool) (bd : Bodies) : Prop := ∀ f B, bd f = some B → ∀ call, CallOk P call → CallStill ps call → ∀ args σ o, B call args σ = some o → CallAt P f args σ fun r σ' => (r, σ') ∈ o

theorem yorelse_spec {a : Option (List (V × St))} {f : Unit → Rs (V × St)} {o : List (V × St)} (h : yorelse a f = some o) : a = some o ∨ f () = some o := by
  cases a with
  | none => exact .inr h
  | some x => exact .inl h

theorem ycall_still {bd : Bodies} {E : Env} (hM : MemoOk P E) : ∀ (n : Nat), CallStill (psOf E) (ycall bd E n)
  | 0 => fun f _ l σ o h => by simp [ycall] at h
  | n + 1 => fun f hf l σ o h p hp => by
    simp only [ycall] at h
    rcases yorelse_spec h with h | h
    · exact (hM _ (memoAt_spec h)).2 hf p hp
    · unfold psOf at hf
      unfold ycallB at h
      split at h
      · rename_i s hs; rw [hs] at hf; cases hf
      · rename_i hs
        rw [hs] at hf
        simp only at hf
        split at h
        · cases h
        · rename_i B hB
          revert hf h
          cases E.mode f with
          | im => intro hf; cases hf
          | pf => intro hf; cases hf
          | ps =>
            intro _ h
            simp only [ymode] at h
            split at h
            · cases h
            · split at h
              · obtain ⟨o1, o2, h1, h2, h3, h4⟩ := yps_spec h
                exact barely_still h2 p (h4 p hp)
              · cases h
          | pg =>
            intro _ h
            simp only [ymode] at h
            split at h
            · obtain ⟨o1, o2, h1, h2, h3, h4⟩ := ypf_spec h
              exact hardly_still h2 p (h4 p hp)
            · cases h

theorem ycall_ok {E : Env} {bd : Bodies} (hb : BodiesOk P (psOf E) bd) (hs : SpecOk P E) (hM : MemoOk P E) : ∀ (n : Nat), CallOk P (ycall bd E n)
  | 0 => fun f l σ o h => by simp [ycall] at h
  | n + 1 => fun f l σ o h => by
    have ih := ycall_ok hb hs hM n
    have ihs := ycall_still (P := P) (bd := bd) (E := E) hM n
    simp only [ycall] at h
    rcases yorelse_spec h with h | h
    · exact (hM _ (memoAt_spec h)).1
    · unfold ycallB at h
      split at h
      · rename_i s hsp; exact hs f s hsp l σ o h
      · split at h
        · cases h
        · rename_i B hB
          have hB := hb f B hB _ ih ihs
          revert h
          cases E.mode f with
          | im =>
            intro h
            simp only [ymode] at h
            obtain ⟨o1, h1, h2⟩ := yim_spec h
            exact (hB _ _ _ h1).ends fun g w v w' he => h2 he
          | ps =>
            intro h
            simp only [ymode] at h
            split at h
            · cases h
            · rename_i l' hl
              split at h
              · obtain ⟨o1, o2, h1, h2, h3, h4⟩ := yps_spec h
                exact (call_look hl (hB _ _ _ h1) h2).mono fun r σ' hh => h3 _ hh
              · cases h
          | pf =>
            intro h
            simp only [ymode] at h
            split at h
            · cases h
            · rename_i l' σ1 hl
              split at h
              · rename_i hfr
                obtain ⟨o1, o2, h1, h2, h3, h4⟩ := ypf_spec h
                exact (call_hard hl hfr (hB _ _ _ h1) h2).mono fun r σ' hh => h3 _ hh
              · cases h
          | pg =>
            intro h
            simp only [ymode] at h
            split at h
            · rename_i hfr
              obtain ⟨o1, o2, h1, h2, h3, h4⟩ := ypf_spec h
              exact (call_free hfr (hB _ _ _ h1) h2).mono fun r σ' hh => h3 _ hh
            · cases h

theorem entAt_spec {stl : Op → Bool} {f : FuncId} {l : List (List (Option (Ent P tb stl)))} {F : YFun} (h : entAt f l = some F) : ∃ H, yfunOf P tb stl H f = some F ∧ yhintOk P tb stl H f = true := by
  unfold entAt at h
  split at h
  · cases h
  · split at h
    · rename_i e _
      split at h
      · rename_i he
        cases h
        have := Nat.eq_of_beq_eq_true he
        subst this
        exact ⟨_, e.ok, e.chk⟩
      · cases h
    · cases h

theorem bodies_ok (hm : P.follows .mixedOrders = true) (tok : TabOk P tb) {ps : FuncId → Bool} (it : Nat) (l : List (List (Option (Ent P tb (stlOf tb ps))))) : BodiesOk P ps (bodies it l) := by
  intro f B h call hc hst args σ o ho
  unfold bodies at h
  split at h
  · cases h
  · rename_i F hF
    cases h
    obtain ⟨H, h1, h2⟩ := entAt_spec hF
    exact ybody_ok hm tok hc hst h1 h2 ho
end
end Go.Dm
