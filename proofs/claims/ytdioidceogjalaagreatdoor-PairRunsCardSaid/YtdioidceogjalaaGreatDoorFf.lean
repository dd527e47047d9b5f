/- The plain machine, run by the kernel: regions. -/
import Derived.Test.YtdioidceogjalaaGreatDoorFe
namespace Go.Dm
set_option linter.unusedVariables false
set_option linter.unusedSimpArgs false

section
variable {P : Program} {tb : Tab}

abbrev noF : FuncId → Bool := fun _ => false

def CallOk (P : Program) (call : Caller) : Prop := ∀ f l σ o, call f l σ = some o → CallAt P f l σ fun r σ' => (r, σ') ∈ o

/-- States that are among outcomes. -/
def InO (m : Nat) (o : List (FT × St)) : Fr → St → Prop := fun fr σ => ∃ t, OkT m t ∧ fr = frT m t ∧ (t, σ) ∈ o

theorem InO.mono {m : Nat} {o o' : List (FT × St)} (h : ∀ x ∈ o, x ∈ o') {fr : Fr} {σ : St} (k : InO m o fr σ) : InO m o' fr σ :=
  let ⟨t, a, b, c⟩ := k; ⟨t, a, b, h _ c⟩

theorem xguard_ok {t : FT} {A : AF} (hlk : ∀ i, lk A i = t.get i) {g : Option (Option Tmp × Bool)} {b : Bool} (h : xguard t g = some b) {x y : Prop} (hx : b = true → x) (hy : b = false → y) : sguard A g x y := by
  cases g with
  | none => simp only [xguard, Option.some.injEq] at h; exact hx h.symm
  | some gw =>
    obtain ⟨d, want⟩ := gw
    cases d with
    | none => simp only [xguard, Option.some.injEq] at h; exact hy h.symm
    | some d =>
      simp only [xguard] at h
      simp only [sguard, hlk]
      split at h
      · rename_i c hc
        rw [hc]
        cases h
        cases want <;> cases c <;> first | exact hx rfl | exact hy rfl
      · rename_i l hc
        rw [hc]
        cases h
        exact hy rfl
      · cases h

/-- One item: what it comes to, and that it does. -/
theorem xitem_ok {call : Caller} (hc : CallOk P call) {ops : Array Oper} {o : Oper} {m : Nat} {t : FT} (ht : OkT m t) {σ : St} {out : List (V × St)} (h : xitem call tb (sitem tb ops o) t σ = some out) :
    pOne P noF tb ops o (fun fr σ' => ∃ v, fr = frT m (t.set m o.dst v) ∧ (v, σ') ∈ out) (frT m t) σ := by
  have hA := tA_in (m := m) t
  have hlk : ∀ i, lk (tA t m) i = t.get i := fun i => congrFun (tA_at ht) (.tmp i)
  unfold xitem at h
  split at h
  · cases h
  · rename_i hg
    refine sg hA (xguard_ok hlk hg (fun _ => ?_) (fun e => by cases e))
    have h1 := comp_ok hA (xop_ok (P := P) hc hA (tA_at ht) h (kk := fun v σ' => (v, σ') ∈ out) fun p hp => hp)
    exact ⟨_, h1, fun v σ' hv => ⟨v, (frT_set ht o.dst v).symm, hv⟩⟩
  · rename_i hg
    cases h
    refine sg hA (xguard_ok hlk hg (fun e => by cases e) (fun _ => ?_))
    exact ⟨_, (frT_set ht o.dst _).symm, List.mem_singleton.2 rfl⟩

/-! ### A region in its own order -/
def pSeq (P : Program) (tb : Tab) (ops : Array Oper) (K : Fr → St → Prop) : List Oper → Fr → St → Prop
  | [], fr, σ => K fr σ
  | o :: r, fr, σ => pOne P noF tb ops o (pSeq P tb ops K r) fr σ

theorem pSeq_sound (tok : TabOk P tb) {ops : Array Oper} {K : Fr → St → Prop} {Q : Exit → Act → World → Prop} : ∀ (n i : Nat) (hn : i + n = ops.size) {g : G} {w : World} {σ : St} (hr : Rep g w σ) {a : Act} {fr : Fr} (hf : FrRep g w σ fr a.tmps) (hd : a.defers = [])
    (h : pSeq P tb ops K (ops.toList.drop i) fr σ) (hQ : ∀ a' w', Lifts g w σ K a' w' → Q .normal a' w'), wpOps P ops Q (List.range' i n) a w
  | 0, i, hn, g, w, σ, hr, a, fr, hf, hd, h, hQ => by
    rw [List.drop_of_length_le (by simp; omega)] at h
    exact hQ _ _ ⟨fr, σ, g, h, hr, Turn.refl _ _ _, hf, hd⟩
  | n + 1, i, hn, g, w, σ, hr, a, fr, hf, hd, h, hQ => by
    have hi : i < ops.size := by omega
    rw [List.drop_eq_getElem_cons (by simpa using hi)] at h
    simp only [List.range'_succ, wpOps, Array.getElem?_eq_getElem hi]
    exact one_ok' tok hr hf hd h fun a' w' ⟨fr', σ', g', h1, h2, h3, h4, h5⟩ =>
      pSeq_sound tok n (i + 1) (by omega) h2 h4 h5 h1 fun a'' w'' h6 => hQ _ _ (h6.trans h3)

theorem pSeq_mono {ops : Array Oper} {K K' : Fr → St → Prop} (hk : ∀ fr σ, K fr σ → K' fr σ) : ∀ (l : List Oper) {fr : Fr} {σ : St}, pSeq P tb ops K l fr σ → pSeq P tb ops K' l fr σ
  | [], fr, σ, h => hk _ _ h
  | o :: r, fr, σ, h => pOne_mono h fun fr' σ' h' => pSeq_mono hk r h'

theorem xseq_ok {call : Caller} (hc : CallOk P call) {ops : Array Oper} {m : Nat} : ∀ (l : List Oper) {t : FT} {σ : St} {out : List (FT × St)}, OkT m t → xseq call tb m (l.map (sitem tb ops)) t σ = some out → pSeq P tb ops (InO m out) l (frT m t) σ
  | [], t, σ, out, ht, h => by
    simp only [List.map_nil, xseq, Option.some.injEq] at h
    subst h
    exact ⟨t, ht, rfl, List.mem_singleton.2 rfl⟩
  | o :: r, t, σ, out, ht, h => by
    simp only [List.map_cons, xseq] at h
    have key : ∃ o1, xitem call tb (sitem tb ops o) t σ = some o1 ∧ ∀ p ∈ o1, ∃ lx, xseq call tb m (r.map (sitem tb ops)) (t.set m o.dst p.1) p.2 = some lx ∧ ∀ y ∈ lx, y ∈ out := by
      split at h
      · cases h
      · rename_i v σ' hi
        exact ⟨_, hi, fun p hp => by rw [List.mem_singleton.1 hp]; exact ⟨out, h, fun y hy => hy⟩⟩
      · rename_i l hno hi
        exact ⟨l, hi, bindL_mem h⟩
    obtain ⟨o1, h1, h2⟩ := key
    refine pOne_mono (xitem_ok hc ht h1) fun fr' σ' ⟨v, e, hv⟩ => ?_
    subst e
    obtain ⟨lx, h3, h4⟩ := h2 _ hv
    exact pSeq_mono (fun _ _ hh => hh.mono h4) r (xseq_ok hc r (ht.set _ _) h3)
end
end Go.Dm
