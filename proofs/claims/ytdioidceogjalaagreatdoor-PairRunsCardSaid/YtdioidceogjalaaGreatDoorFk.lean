/- The plain machine, run by the kernel: what is frozen for good; all calls. -/
import Derived.Test.YtdioidceogjalaaGreatDoorFj
namespace Go.Dm
open Go.RowKit
set_option linter.unusedVariables false
set_option linter.unusedSimpArgs false

section
variable {P : Program} {tb : Tab}

theorem at_self {w : World} {b : Nat} {O : Obj} (h : w.heap[b]? = some O) : w.at b O = w := by
  have hlt := (Array.getElem?_eq_some_iff.1 h).1
  have e : w.heap.setIfInBounds b O = w.heap := by
    apply Array.ext (by simp)
    intro i h1 h2
    rw [Array.getElem_setIfInBounds]
    split
    · rename_i hi; subst hi; exact ((Array.getElem?_eq_some_iff.1 h).2).symm
    · rfl
  show { w with heap := w.heap.setIfInBounds b O } = w
  rw [e]

/-- Cells told otherwise. -/
theorem recast {g : G} {w : World} {σ : St} (hr : Rep g w σ) {i b : Nat} {l l' : List C} {vs : Array Value} {T : TypeId} {fz : Nat × Nat} (hi : σ[i]? = some (.cells l)) (hb : g.blk i = some b) (hO : w.heap[b]? = some (.cells vs T fz)) (hf : Free vs.size fz)
    (hl : CReps g w σ l' vs.toList) : Rep g w (σ.set i (.cells l')) ∧ Turn g w σ g w (σ.set i (.cells l')) := by
  have h := write_cells (vs' := vs.toList) hr hi hb hO hf (by simp) hl
  simp only [Array.toArray_toList] at h
  rw [at_self hO] at h
  exact h

mutual
theorem hardC_ok : ∀ (n : Nat) {g : G} {w : World} {σ σ' : St} {c c' : C} {v : Value}, Rep g w σ → hardC n c σ = some (c', σ') → CRep g w σ c v → ∃ g', Rep g' w σ' ∧ Turn g w σ g' w σ' ∧ CRep g' w σ' c' v
  | n, g, w, σ, σ', .f x, c', v, hr, h, hv => by cases n <;> (simp only [hardC, Option.some.injEq] at h; cases h; exact ⟨g, hr, Turn.refl _ _ _, hv⟩)
  | n, g, w, σ, σ', .ep l o, c', v, hr, h, hv => by cases n <;> (simp only [hardC, Option.some.injEq] at h; cases h; exact ⟨g, hr, Turn.refl _ _ _, hv⟩)
  | n, g, w, σ, σ', .un, c', v, hr, h, hv => by cases n <;> (simp only [hardC, Option.some.injEq] at h; cases h; exact ⟨g, hr, Turn.refl _ _ _, hv⟩)
  | n, g, w, σ, σ', .rs o e m, c', v, hr, h, hv => by
    have h' : (match nth σ o with
      | some (.arr _ e0 sz l) => (match Nat.beq e e0 with | true => some (C.f (.sl m l), put σ o (.arr false e0 sz l)) | false => none)
      | _ => none) = some (c', σ') := by cases n <;> (simp only [hardC] at h; exact h)
    simp only [nth_eq, put_eq] at h'
    split at h'
    · rename_i wr e0 sz l ho
      split at h'
      · rename_i he
        have := beq_nat he
        subst this
        cases h'
        obtain ⟨g1, k1, k2, k3, k4, k5⟩ := freeze_arr hr ho
        exact ⟨g1, k1, k2, rs_frozen (w' := w) hr ho hv k3 k4 k5⟩
      · cases h'
    · cases h'
  | n + 1, g, w, σ, σ', .ptr o off, c', v, hr, h, hv => by
    simp only [hardC, nth_eq, put_eq] at h
    split at h
    · split at h
      · rename_i cs ho
        split at h
        · rename_i l σ1 hl
          split at h
          · rename_i fs cs2 hf ho2
            cases h
            have hfs := frz_spec hf
            subst hfs
            obtain ⟨b, vs, T, fz, q1, q2, q3, q4⟩ := hr.ob o _ ho
            obtain ⟨b', ob, p1, p2, p3, p4⟩ := hv
            rw [q1] at p1
            cases p1
            obtain ⟨g1, k1, k2, k3⟩ := hardCs_ok n hr hl q4
            have hb1 : g1.blk o = some b := (k2.blks o _ ho rfl).trans q1
            obtain ⟨m1, m2⟩ := recast k1 ho2 hb1 q2 q3 k3
            have hget : (σ1.set o (.cells (fs.map .f)))[o]? = some (.cells (fs.map .f)) := by
              rw [List.getElem?_set, if_pos rfl, if_pos (lt_of_get ho2)]
            obtain ⟨g2, r1, r2, r3, r4, r5⟩ := freeze_obj m1 hget hb1
            rw [List.set_set] at r1 r2
            exact ⟨g2, r1, k2.trans (m2.trans r2), ⟨b, p2, r5⟩⟩
          · cases h
        · cases h
      · cases h
    · cases h
  | n + 1, g, w, σ, σ', .clo f caps, c', v, hr, h, hv => by
    simp only [hardC] at h
    split at h
    · rename_i l σ1 hl
      cases h
      obtain ⟨vs, h1, h2⟩ := hv
      obtain ⟨g1, k1, k2, k3⟩ := hardCs_ok n hr hl h2
      exact ⟨g1, k1, k2, ⟨vs, h1, k3⟩⟩
    · cases h
  | 0, g, w, σ, σ', .ptr o off, c', v, hr, h, hv => by simp [hardC] at h
  | 0, g, w, σ, σ', .clo f caps, c', v, hr, h, hv => by simp [hardC] at h
  | n, g, w, σ, σ', .pa .., c', v, hr, h, hv => by cases n <;> simp [hardC] at h
  | n, g, w, σ, σ', .mp .., c', v, hr, h, hv => by cases n <;> simp [hardC] at h
theorem hardCs_ok : ∀ (n : Nat) {g : G} {w : World} {σ σ' : St} {l l' : List C} {vs : List Value}, Rep g w σ → hardCs n l σ = some (l', σ') → CReps g w σ l vs → ∃ g', Rep g' w σ' ∧ Turn g w σ g' w σ' ∧ CReps g' w σ' l' vs
  | n, g, w, σ, σ', [], l', vs, hr, h, hv => by cases n <;> (simp only [hardCs, Option.some.injEq] at h; cases h; exact ⟨g, hr, Turn.refl _ _ _, hv⟩)
  | 0, g, w, σ, σ', x :: r, l', vs, hr, h, hv => by simp [hardCs] at h
  | n + 1, g, w, σ, σ', x :: r, l', vs, hr, h, hv => by
    simp only [hardCs] at h
    split at h
    · cases h
    · rename_i y σ1 hy
      split at h
      · rename_i l2 σ2 hl
        cases h
        obtain ⟨v, vr, rfl, h1, h2⟩ := hv
        obtain ⟨g1, k1, k2, k3⟩ := hardC_ok n hr hy h1
        obtain ⟨g2, m1, m2, m3⟩ := hardCs_ok n k1 hl (CReps.turn k2 _ _ h2)
        exact ⟨g2, m1, k2.trans m2, ⟨v, vr, rfl, CRep.turn m2 _ _ k3, m3⟩⟩
      · cases h
end

mutual
theorem hardV_ok : ∀ {g : G} {w : World} {σ σ' : St} {c c' : V} {v : Value}, Rep g w σ → hardV c σ = some (c', σ') → VRep g w σ c v → ∃ g', Rep g' w σ' ∧ Turn g w σ g' w σ' ∧ VRep g' w σ' c' v
  | g, w, σ, σ', .c x, c', v, hr, h, hv => by
    simp only [hardV] at h
    split at h
    · rename_i y σ1 hy; cases h; exact hardC_ok _ hr hy hv
    · cases h
  | g, w, σ, σ', .a l, c', v, hr, h, hv => by
    simp only [hardV] at h
    split at h
    · rename_i y σ1 hy
      cases h
      obtain ⟨vs, h1, h2⟩ := hv
      obtain ⟨g1, k1, k2, k3⟩ := hardCs_ok _ hr hy h2
      exact ⟨g1, k1, k2, ⟨vs, h1, k3⟩⟩
    · cases h
  | g, w, σ, σ', .t l, c', v, hr, h, hv => by
    simp only [hardV] at h
    split at h
    · rename_i y σ1 hy
      cases h
      obtain ⟨vs, h1, h2⟩ := hv
      obtain ⟨g1, k1, k2, k3⟩ := hardVs_ok hr hy h2
      exact ⟨g1, k1, k2, ⟨vs, h1, k3⟩⟩
    · cases h
theorem hardVs_ok : ∀ {g : G} {w : World} {σ σ' : St} {l l' : List V} {vs : List Value}, Rep g w σ → hardVs l σ = some (l', σ') → VReps g w σ l vs → ∃ g', Rep g' w σ' ∧ Turn g w σ g' w σ' ∧ VReps g' w σ' l' vs
  | g, w, σ, σ', [], l', vs, hr, h, hv => by simp only [hardVs, Option.some.injEq] at h; cases h; exact ⟨g, hr, Turn.refl _ _ _, hv⟩
  | g, w, σ, σ', x :: r, l', vs, hr, h, hv => by
    simp only [hardVs] at h
    split at h
    · cases h
    · rename_i y σ1 hy
      split at h
      · rename_i l2 σ2 hl
        cases h
        obtain ⟨v, vr, rfl, h1, h2⟩ := hv
        obtain ⟨g1, k1, k2, k3⟩ := hardV_ok hr hy h1
        obtain ⟨g2, m1, m2, m3⟩ := hardVs_ok k1 hl (VReps.turn k2 _ _ h2)
        exact ⟨g2, m1, k2.trans m2, ⟨v, vr, rfl, VRep.turn m2 _ _ k3, m3⟩⟩
      · cases h
end

/-! ### What leads nowhere into the store hangs on the frozen cells alone -/
section
variable {g g' : G} {w w' : World} {σ σ' : St}

def Keeps (g : G) (w : World) (g' : G) (w' : World) : Prop := ∀ b o, g.Z b o → g'.Z b o ∧ w'.cell? ⟨b, o, none⟩ = w.cell? ⟨b, o, none⟩
mutual
theorem freeC (hz : Keeps g w g' w') : ∀ {c : C} {v : Value}, c.free = true → CRep g w σ c v → CRep g' w' σ' c v
  | .f x, v, _, h => FRep.turn hz _ _ h
  | .ep l o, v, _, h => by obtain ⟨b, p, h1, h2⟩ := h; exact ⟨b, p, h1, FRow.turn hz _ _ _ h2⟩
  | .un, v, _, h => trivial
  | .clo f caps, v, hf, h => by obtain ⟨vs, h1, h2⟩ := h; exact ⟨vs, h1, freeCs hz hf h2⟩
  | .ptr .., v, hf, h => by simp [C.free] at hf
  | .pa .., v, hf, h => by simp [C.free] at hf
  | .rs .., v, hf, h => by simp [C.free] at hf
  | .mp .., v, hf, h => by simp [C.free] at hf
theorem freeCs (hz : Keeps g w g' w') : ∀ {l : List C} {vs : List Value}, C.frees l = true → CReps g w σ l vs → CReps g' w' σ' l vs
  | [], vs, _, h => h
  | c :: r, vs, hf, h => by
    simp only [C.frees] at hf
    split at hf
    · rename_i hc
      obtain ⟨v, vr, rfl, h1, h2⟩ := h
      exact ⟨v, vr, rfl, freeC hz hc h1, freeCs hz hf h2⟩
    · cases hf
end
mutual
theorem freeV (hz : Keeps g w g' w') : ∀ {c : V} {v : Value}, c.free = true → VRep g w σ c v → VRep g' w' σ' c v
  | .c x, v, hf, h => freeC hz hf h
  | .a l, v, hf, h => by obtain ⟨vs, h1, h2⟩ := h; exact ⟨vs, h1, freeCs hz hf h2⟩
  | .t l, v, hf, h => by obtain ⟨vs, h1, h2⟩ := h; exact ⟨vs, h1, freeVs hz hf h2⟩
theorem freeVs (hz : Keeps g w g' w') : ∀ {l : List V} {vs : List Value}, V.frees l = true → VReps g w σ l vs → VReps g' w' σ' l vs
  | [], vs, _, h => h
  | c :: r, vs, hf, h => by
    simp only [V.frees] at hf
    split at hf
    · rename_i hc
      obtain ⟨v, vr, rfl, h1, h2⟩ := h
      exact ⟨v, vr, rfl, freeV hz hc h1, freeVs hz hf h2⟩
    · cases hf
end
end

theorem hardly_spec {σ : St} : ∀ {l o : List (V × St)}, hardly σ l = some o → ∀ p ∈ l, ∃ u τ, hardV p.1 p.2 = some (u, τ) ∧ u.free = true ∧ (u, σ) ∈ o
  | [], o, h, p, hp => by simp at hp
  | (v, τ) :: r, o, h, p, hp => by
    simp only [hardly] at h
    split at h
    · cases h
    · rename_i u τ' hu
      split at h
      · rename_i l' hf hl
        cases h
        rcases List.mem_cons.1 hp with rfl | hp
        · exact ⟨u, τ', hu, hf, by simp⟩
        · obtain ⟨u', τ2, a, b, c⟩ := hardly_spec hl p hp
          exact ⟨u', τ2, a, b, List.mem_cons_of_mem _ c⟩
      · cases h

/-- A call from frozen data. -/
theorem call_from {f : FuncId} {args l : List V} {σ σ' : St} (hst : ∀ g w vs, Rep g w σ → VReps g w σ args vs → ∃ g1, Rep g1 w σ' ∧ Turn g w σ g1 w σ' ∧ VReps g1 w σ' l vs) (hf : V.frees l = true) {o o' : List (V × St)} (h : CallAt P f l [] fun r σ' => (r, σ') ∈ o) (hh : hardly σ' o = some o') :
    CallAt P f args σ fun r σ' => (r, σ') ∈ o' := by
  intro g w vs hr hv
  obtain ⟨g1, r1, t1, v1⟩ := hst g w vs hr hv
  let g0 : G := ⟨g1.Z, fun _ => none, fun _ => 0⟩
  have rep0 : Rep g0 w [] := ⟨fun i ob h => by simp at h, fun i j a b k h => by simp at h, fun b o _ ho => by obtain ⟨i, ob, h, _⟩ := own_iff.1 ho; simp at h, r1.inside⟩
  have v0 : VReps g0 w [] l vs := freeVs (g := g1) (g' := g0) (w := w) (w' := w) (fun b o hz => ⟨hz, rfl⟩) hf v1
  have hend : ∀ v w', CallEnd g0 w [] (fun r σ' => (r, σ') ∈ o) v w' → CallEnd g w σ (fun r σ' => (r, σ') ∈ o') v w' := by
    rintro v w' ⟨r, σ2, g2, h1, h2, h3, h4⟩
    obtain ⟨u, τ, e1, e2, e3⟩ := hardly_spec hh _ h1
    obtain ⟨g3, k1, k2, k3⟩ := hardV_ok h2 e1 h4
    have T := h3.trans k2
    have hb := below_of_turn T
    let g' : G := ⟨fun b o => g1.Z b o ∨ (w.heap.size ≤ b ∧ g3.Z b o), g1.blk, g1.cap⟩
    have hT : Turn g1 w σ' g' w' σ' :=
      { os := hb.os, tape := hb.tape, output := hb.output, size := hb.size, whole := fun b h _ => hb.block b h, zs := fun b o hz => ⟨.inl hz, (T.zs b o hz).2⟩,
        znew := fun b o hlt hz => by
          rcases hz with hz | ⟨hz, _⟩
          · exact .inl hz
          · omega
        onew := fun _ _ _ h => h,
        turns := fun i ob h => ⟨ob, h, by cases ob <;> simp [ObTurn, g']⟩,
        blks := fun _ _ _ _ => rfl }
    have hR : Rep g' w' σ' := by
      refine ⟨fun i ob h => ?_, r1.inj, fun b o hz ho => ?_, fun b o hz => ?_⟩
      · by_cases hl : live ob = true
        · exact (r1.ob i ob h).keep hT (fun b hbk => hb.block b ((r1.ob i ob h).inside hl hbk)) rfl rfl
        · cases ob <;> simp_all [live, ObRep]
      · have ho' : Own g1 σ' b o := ho
        rcases hz with hz | ⟨hz, _⟩
        · exact r1.apart b o hz ho'
        · have := Own.inside r1 ho'; omega
      · rcases hz with hz | ⟨_, hz⟩
        · exact Nat.lt_of_lt_of_le (r1.inside b o hz) hb.size
        · exact k1.inside b o hz
    refine ⟨u, σ', g', e3, hR, t1.trans hT, freeV (g := g3) (w := w') (fun b o hz => ⟨?_, rfl⟩) e2 k3⟩
    by_cases hlt : w.heap.size ≤ b
    · exact .inr ⟨hlt, hz⟩
    · rcases T.znew b o (by omega) hz with h | h
      · exact .inl h
      · obtain ⟨i, ob, h7, _⟩ := own_iff.1 h
        simp at h7
  rcases h g0 w vs rep0 v0 with ⟨v, w', h1, h2⟩ | ⟨h1, h2⟩
  · exact .inl ⟨v, w', h1, hend v w' h2⟩
  · exact .inr ⟨h1, h2.mono fun e w' ⟨v, h3, h4⟩ => ⟨v, h3, hend v w' h4⟩⟩

theorem call_hard {f : FuncId} {args l : List V} {σ σ' : St} (hs : hardVs args σ = some (l, σ')) (hf : V.frees l = true) {o o' : List (V × St)} (h : CallAt P f l [] fun r σ' => (r, σ') ∈ o) (hh : hardly σ' o = some o') :
    CallAt P f args σ fun r σ' => (r, σ') ∈ o' := call_from (fun g w vs hr hv => hardVs_ok hr hs hv) hf h hh

theorem call_free {f : FuncId} {args : List V} {σ : St} (hf : V.frees args = true) {o o' : List (V × St)} (h : CallAt P f args [] fun r σ' => (r, σ') ∈ o) (hh : hardly σ o = some o') :
    CallAt P f args σ fun r σ' => (r, σ') ∈ o' := call_from (fun g w vs hr hv => ⟨g, hr, Turn.refl _ _ _, hv⟩) hf h hh

theorem hardly_still {σ : St} : ∀ {l o : List (V × St)}, hardly σ l = some o → ∀ p ∈ o, p.2 = σ
  | [], o, h, p, hp => by simp only [hardly, Option.some.injEq] at h; subst h; simp at hp
  | (v, τ) :: r, o, h, p, hp => by
    simp only [hardly] at h
    split at h
    · cases h
    · split at h
      · rename_i l' hb hl
        cases h
        rcases List.mem_cons.1 hp with rfl | hp
        · rfl
        · exact hardly_still hl p hp
      · cases h

/-! ### All calls -/
/-- Functions that are known otherwise. -/
def SpecOk (P : Program) (E : Env) : Prop := ∀ f s, E.spec f = some s → ∀ l σ o, s l σ = some o → CallAt P f l σ fun r σ' => (r, σ') ∈ o

def isPs : Mode → Bool
  | .ps => true
  | .pg => true
  | _ => false

/-- Which calls leave the store. -/
def psOf (E : Env) (f : FuncId) : Bool := match E.spec f with | some _ => false | none => isPs (E.mode f)

theorem barely_still {σ : St} : ∀ {l o : List (V × St)}, barely σ l = some o → ∀ p ∈ o, p.2 = σ
  | [], o, h, p, hp => by simp only [barely, Option.some.injEq] at h; subst h; simp at hp
  | (v, τ) :: r, o, h, p, hp => by
    simp only [barely] at h
    split at h
    · rename_i l' hb hl
      cases h
      rcases List.mem_cons.1 hp with rfl | hp
      · rfl
      · exact barely_still hl p hp
    · cases h

theorem nub_sub {α : Type} {eq : α → α → Bool} : ∀ {l : List α} {x : α}, x ∈ nub eq l → x ∈ l
  | [], x, h => h
  | [a], x, h => h
  | a :: b :: r, x, h => by
    simp only [nub] at h
    split at h
    · exact List.mem_cons_of_mem _ (nub_sub h)
    · rcases List.mem_cons.1 h with rfl | h
      · simp
      · exact List.mem_cons_of_mem _ (nub_sub h)

/-- The calls that are known are sound. -/
def MemoOk (P : Program) (E : Env) : Prop := ∀ c ∈ E.memo, CallAt P c.1 c.2.1 c.2.2.1 (fun r σ' => (r, σ') ∈ c.2.2.2) ∧ (psOf E c.1 = true → ∀ p ∈ c.2.2.2, p.2 = c.2.2.1)

theorem memoAt_spec {f : FuncId} {args : List V} {σ : St} {o : List (V × St)} : ∀ {l : List (Nat × List V × St × List (V × St))}, memoAt f args σ l = some o → (f, args, σ, o) ∈ l
  | [], h => by simp [memoAt] at h
  | (f', args', σ', o') :: r, h => by
    simp only [memoAt] at h
    split at h
    · exact List.mem_cons_of_mem _ (memoAt_spec h)
    · rename_i e1
      split at h
      · exact List.mem_cons_of_mem _ (memoAt_spec h)
      · rename_i e2
        split at h
        · rename_i e3
          cases h
          rw [← beq_nat e1, V.eqbs_ok e2, stEqb_ok e3]
          simp
        · exact List.mem_cons_of_mem _ (memoAt_spec h)

theorem xcall_still {E : Env} (hM : MemoOk P E) : ∀ (n : Nat), CallStill (psOf E) (xcall P tb E n)
  | 0 => fun f _ l σ o h => by simp [xcall] at h
  | n + 1 => fun f hf l σ o h p hp => by
    simp only [xcall] at h
    split at h
    · rename_i o1 hmm
      cases h
      exact (hM _ (memoAt_spec hmm)).2 hf p hp
    unfold psOf at hf
    split at h
    · rename_i s hs; rw [hs] at hf; cases hf
    · rename_i hs
      rw [hs] at hf
      simp only at hf
      split at h
      · cases h
      · split at h
        · rename_i hm; rw [hm] at hf; cases hf
        · split at h
          · cases h
          · split at h
            · split at h
              · cases h
              · rename_i o1 hb
                cases h
                exact barely_still hb p (nub_sub hp)
            · cases h
        · rename_i hm; rw [hm] at hf; cases hf
        · split at h
          · cases h
          · split at h
            · split at h
              · cases h
              · rename_i o1 hb
                cases h
                exact hardly_still hb p (nub_sub hp)
            · cases h

theorem xcall_ok (hm : P.follows .mixedOrders = true) (tok : TabOk P tb) {E : Env} (hE : E.stl = stlOf tb (psOf E)) (hs : SpecOk P E) (hM : MemoOk P E) : ∀ (n : Nat), CallOk P (xcall P tb E n)
  | 0 => fun f l σ o h => by simp [xcall] at h
  | n + 1 => fun f l σ o h => by
    have ih := xcall_ok hm tok hE hs hM n
    have ihs := xcall_still (P := P) (tb := tb) (E := E) hM n
    simp only [xcall, hE] at h
    split at h
    · rename_i o1 hmm
      cases h
      exact (hM _ (memoAt_spec hmm)).1
    split at h
    · rename_i s hsp; exact hs f s hsp l σ o h
    · split at h
      · cases h
      · rename_i F hF
        split at h
        · split at h
          · cases h
          · rename_i o1 hb
            cases h
            exact ((xbody_ok hm tok ih ihs hF hb).ends fun g w v w' he => trim_end he).mono fun r σ' hh => nub_mem vsEqb_ok hh
        · split at h
          · cases h
          · rename_i l' hl
            split at h
            · rename_i o1 hfr hb
              split at h
              · cases h
              · rename_i o2 hba
                cases h
                exact (call_look hl (xbody_ok hm tok ih ihs hF hb) hba).mono fun r σ' hh => nub_mem vsEqb_ok hh
            · cases h
        · split at h
          · cases h
          · rename_i l' σ1 hl
            split at h
            · rename_i o1 hfr hb
              split at h
              · cases h
              · rename_i o2 hba
                cases h
                exact (call_hard hl hfr (xbody_ok hm tok ih ihs hF hb) hba).mono fun r σ' hh => nub_mem vsEqb_ok hh
            · cases h
        · split at h
          · cases h
          · rename_i hfr
            split at h
            · rename_i o1 hb
              split at h
              · cases h
              · rename_i o2 hba
                cases h
                exact (call_free hfr (xbody_ok hm tok ih ihs hF hb) hba).mono fun r σ' hh => nub_mem vsEqb_ok hh
            · cases h
end
end Go.Dm
