/- The plain machine, run by the kernel: calls in their modes are what they are said to be. -/
import Derived.Test.YtdioidceogjalaaGreatDoorFi
import Derived.Test.YtdioidceogjalaaGreatDoorDx
namespace Go.Dm
open Go.RowKit
set_option linter.unusedVariables false
set_option linter.unusedSimpArgs false

section
variable {P : Program} {tb : Tab}

/-! ### A body -/
theorem xres_ok {m : Nat} {t : FT} (ht : OkT m t) {σ : St} : ∀ {rs : List ResultVar} {l : List V} {K : List V → Prop}, xres tb rs t σ = some l → K l → resVs prims tb rs (frT m t) σ K
  | [], l, K, h, hk => by simp only [xres, Option.some.injEq] at h; subst h; exact hk
  | .tmp i :: r, l, K, h, hk => by
    simp only [xres] at h
    split at h
    · rename_i l' hl
      cases h
      simp only [resVs]
      refine xres_ok ht hl ?_
      have : (frT m t).getD i (.c .un) = t.get i := by
        unfold frT
        rw [toFr_get (tA_in t)]
        exact congrFun (tA_at ht) (.tmp i)
      rw [this]
      exact hk
    · cases h
  | .cell x ty :: r, l, K, h, hk => by
    simp only [xres] at h
    split at h
    · cases h
    · rename_i hn
      split at h
      · rename_i v l' hv hl
        cases h
        simp only [resVs]
        have : (frT m t).getD x (.c .un) = t.get x := by
          unfold frT
          rw [toFr_get (tA_in t)]
          exact congrFun (tA_at ht) (.tmp x)
        rw [this]
        refine not_isNo hn (xload_ok hv ?_)
        exact xres_ok ht hl hk
      · cases h

theorem funOf_spec {f : FuncId} {F : Fun} (h : funOf P tb f = some F) : ∃ fn c, P.funcs[f]? = some fn ∧ fn.body = some c ∧ (fn.name == "runtime.NumGoroutine") = false ∧ F = ⟨fn.ntmps, scode tb c, fn.results.toList⟩ := by
  unfold funOf at h
  split at h
  · cases h
  · rename_i fn hf
    split at h
    · cases h
    · rename_i c hb
      split at h
      · cases h
      · rename_i hn
        cases h
        exact ⟨fn, c, hf, hb, hn, rfl⟩

theorem xbody_ok (hm : P.follows .mixedOrders = true) (tok : TabOk P tb) {ps : FuncId → Bool} {call : Caller} (hc : CallOk P call) (hst : CallStill ps call) {it : Nat} {f : FuncId} {F : Fun} (hF : funOf P tb f = some F) {args : List V} {σ : St} {o : List (V × St)}
    (h : xbody call tb (stlOf tb ps) it F args σ = some o) : CallAt P f args σ fun r σ' => (r, σ') ∈ o := by
  obtain ⟨fn, c, hf, hb, hn, rfl⟩ := funOf_spec hF
  unfold xbody at h
  split at h
  · cases h
  · rename_i hle
    simp only at h
    split at h
    · cases h
    · rename_i o' hx
      cases h
      obtain ⟨l, h1, h2⟩ := bind_mem hx
      have hw := xcode_ok (n := σ.length) hm tok hc hst (start_ok args 0 (blank_ok fn.ntmps)) h1
      rw [frT_start (ble_nat hle)] at hw
      refine call_of hm tok hf hb hn (hw.mono fun e fr σ' ⟨x, t, hxe, ht, hfr, hmem⟩ => ?_)
      subst hfr
      obtain ⟨lx, h3, h4⟩ := h2 _ hmem
      have fin : xret tb fn.results.toList (.norm, t, σ') = some lx → resVs prims tb fn.results.toList (frT fn.ntmps t) σ' fun l => match l with | [v] => (v, σ') ∈ nub vsEqb o' | l => (V.t l, σ') ∈ nub vsEqb o' := by
        intro h3
        unfold xret at h3
        simp only at h3
        split at h3
        · cases h3
        · rename_i v hr
          cases h3
          exact xres_ok ht hr (nub_mem vsEqb_ok (h4 _ (List.mem_singleton.2 rfl)))
        · rename_i l' hno hr
          cases h3
          refine xres_ok ht hr ?_
          have := nub_mem vsEqb_ok (h4 _ (List.mem_singleton.2 rfl))
          split
          · rename_i v; exact (hno v rfl).elim
          · exact this
      cases e with
      | normal =>
        cases x <;> simp only [xeOf] at hxe
        exact fin h3
      | ret =>
        cases x <;> simp only [xeOf] at hxe
        exact fin h3
      | exit i =>
        cases x <;> simp only [xeOf] at hxe
        simp [xret] at h3
      | _ => cases x <;> exact hxe.elim

/-! ### What is not reached any more -/
theorem take_get {σ : St} {n o : Nat} (h : o < n) : (σ.take n)[o]? = σ[o]? := by
  rw [List.getElem?_take, if_pos h]

mutual
theorem underC {g : G} {w : World} {σ : St} {n : Nat} : ∀ {c : C} {v : Value}, c.under n = true → CRep g w σ c v → CRep g w (σ.take n) c v
  | .f x, v, _, h => h
  | .ep l o, v, _, h => h
  | .un, v, _, h => trivial
  | .ptr o off, v, hu, h => by
    obtain ⟨b, ob, h1, h2, h3, h4⟩ := h
    exact ⟨b, ob, h1, h2, by rw [take_get (blt_nat hu)]; exact h3, h4⟩
  | .pa o e off, v, hu, h => by
    obtain ⟨h1, ob, h3, h4⟩ := h
    exact ⟨h1, ob, by rw [take_get (blt_nat hu)]; exact h3, h4⟩
  | .rs o e m, v, hu, h => by
    obtain ⟨h1, ob, h3, h4⟩ := h
    exact ⟨h1, ob, by rw [take_get (blt_nat hu)]; exact h3, h4⟩
  | .mp o, v, hu, h => by
    obtain ⟨b, ob, h1, h2, h3, h4⟩ := h
    exact ⟨b, ob, h1, h2, by rw [take_get (blt_nat hu)]; exact h3, h4⟩
  | .clo f caps, v, hu, h => by
    obtain ⟨vs, h1, h2⟩ := h
    exact ⟨vs, h1, undersC hu h2⟩
theorem undersC {g : G} {w : World} {σ : St} {n : Nat} : ∀ {l : List C} {vs : List Value}, C.unders n l = true → CReps g w σ l vs → CReps g w (σ.take n) l vs
  | [], vs, _, h => h
  | c :: r, vs, hu, h => by
    simp only [C.unders] at hu
    split at hu
    · rename_i hc
      obtain ⟨v, vr, rfl, h1, h2⟩ := h
      exact ⟨v, vr, rfl, underC hc h1, undersC hu h2⟩
    · cases hu
end

mutual
theorem underV {g : G} {w : World} {σ : St} {n : Nat} : ∀ {c : V} {v : Value}, c.under n = true → VRep g w σ c v → VRep g w (σ.take n) c v
  | .c x, v, hu, h => underC hu h
  | .a l, v, hu, h => by obtain ⟨vs, h1, h2⟩ := h; exact ⟨vs, h1, undersC hu h2⟩
  | .t l, v, hu, h => by obtain ⟨vs, h1, h2⟩ := h; exact ⟨vs, h1, undersV hu h2⟩
theorem undersV {g : G} {w : World} {σ : St} {n : Nat} : ∀ {l : List V} {vs : List Value}, V.unders n l = true → VReps g w σ l vs → VReps g w (σ.take n) l vs
  | [], vs, _, h => h
  | c :: r, vs, hu, h => by
    simp only [V.unders] at hu
    split at hu
    · rename_i hc
      obtain ⟨v, vr, rfl, h1, h2⟩ := h
      exact ⟨v, vr, rfl, underV hc h1, undersV hu h2⟩
    · cases hu
end

theorem get_take {σ : St} {n i : Nat} {ob : Ob} (h : (σ.take n)[i]? = some ob) : i < n ∧ σ[i]? = some ob := by
  rw [List.getElem?_take] at h
  split at h
  · rename_i hi; exact ⟨hi, h⟩
  · cases h

theorem take_rep {g : G} {w : World} {σ : St} (hr : Rep g w σ) {n : Nat} (hu : (σ.take n).all (Ob.under n) = true) : Rep g w (σ.take n) where
  ob i ob h := by
    obtain ⟨hi, h1⟩ := get_take h
    have h2 := hr.ob i ob h1
    have h3 : Ob.under n ob = true := List.all_eq_true.1 hu ob (List.mem_of_getElem? h)
    cases ob with
    | cells l =>
      obtain ⟨b, vs, T, fz, q1, q2, q3, q4⟩ := h2
      exact ⟨b, vs, T, fz, q1, q2, q3, undersC h3 q4⟩
    | arr wr e sz l => exact h2
    | map kv =>
      obtain ⟨b, es, clock, q1, q2, q3⟩ := h2
      exact ⟨b, es, clock, q1, q2, KVRep.turn (fun b o hz => ⟨hz, rfl⟩) q3⟩
    | bld T u x =>
      obtain ⟨b, v, q1, q2, q3⟩ := h2
      exact ⟨b, v, q1, q2, underC h3 q3⟩
    | gone => trivial
  inj i j a b k hi hj := hr.inj i j a b k (get_take hi).2 (get_take hj).2
  apart b o hz ho := by
    obtain ⟨i, ob, h1, h2⟩ := ho
    exact hr.apart b o hz ⟨i, ob, (get_take h1).2, h2⟩
  inside := hr.inside

theorem take_turn {g g' : G} {w w' : World} {σ σ' : St} (h : Turn g w σ g' w' σ') : Turn g w σ g' w' (σ'.take σ.length) where
  os := h.os
  tape := h.tape
  output := h.output
  size := h.size
  whole := h.whole
  zs := h.zs
  znew := h.znew
  onew b o hb ho := by
    obtain ⟨i, ob, h1, h2⟩ := ho
    exact h.onew b o hb ⟨i, ob, (get_take h1).2, h2⟩
  turns i ob hi := by
    obtain ⟨ob', h1, h2⟩ := h.turns i ob hi
    exact ⟨ob', by rw [take_get (lt_of_get hi)]; exact h1, h2⟩
  blks := h.blks

theorem trim_end {g : G} {w : World} {σ : St} {o : List (V × St)} {v : Value} {w' : World} (h : CallEnd g w σ (fun r σ' => (r, σ') ∈ o) v w') : CallEnd g w σ (fun r σ' => (r, σ') ∈ o.map (trim σ.length)) v w' := by
  obtain ⟨r, σ', g', h1, h2, h3, h4⟩ := h
  have hm : trim σ.length (r, σ') ∈ o.map (trim σ.length) := List.mem_map.2 ⟨_, h1, rfl⟩
  unfold trim at hm
  split at hm
  · rename_i hu
    simp only [Bool.and_eq_true] at hu
    exact ⟨r, σ'.take σ.length, g', hm, take_rep h2 hu.2, take_turn h3, underV hu.1 h4⟩
  · exact ⟨r, σ', g', hm, h2, h3, h4⟩

theorem CallAt.ends {f : FuncId} {args : List V} {σ : St} {k k' : V → St → Prop} (h : CallAt P f args σ k) (hk : ∀ g w v w', CallEnd g w σ k v w' → CallEnd g w σ k' v w') : CallAt P f args σ k' := by
  intro g w vs hr hv
  rcases h g w vs hr hv with ⟨v, w', h1, h2⟩ | ⟨h1, h2⟩
  · exact .inl ⟨v, w', h1, hk _ _ _ _ h2⟩
  · exact .inr ⟨h1, h2.mono fun e w' ⟨v, h3, h4⟩ => ⟨v, h3, hk _ _ _ _ h4⟩⟩

/-! ### A look -/
theorem bareF {g g' : G} {w w' : World} : ∀ {x : F} {v : Value}, x.bare = true → FRep g w x v → FRep g' w' x v
  | .bool _, v, _, h => h
  | .int _ _, v, _, h => h
  | .flo _, v, _, h => h
  | .cpl _ _, v, _, h => h
  | .str _, v, _, h => h
  | .nils, v, _, h => h
  | .nilp, v, _, h => h
  | .nilm, v, _, h => h
  | .nilf, v, _, h => h
  | .fn _, v, _, h => h
  | .sl _ _, v, hb, h => by simp [F.bare] at hb
  | .obj _, v, hb, h => by simp [F.bare] at hb

theorem bareCs {g g' : G} {w w' : World} {σ σ' : St} : ∀ {l : List C} {vs : List Value}, l.all C.bare = true → CReps g w σ l vs → CReps g' w' σ' l vs
  | [], vs, _, h => h
  | c :: r, vs, hb, h => by
    simp only [List.all_cons, Bool.and_eq_true] at hb
    obtain ⟨v, vr, rfl, h1, h2⟩ := h
    refine ⟨v, vr, rfl, ?_, bareCs hb.2 h2⟩
    cases c <;> simp only [C.bare, Bool.false_eq_true, false_and] at hb
    exact bareF (g := g) (w := w) hb.1 h1

mutual
theorem bareV {g g' : G} {w w' : World} {σ σ' : St} : ∀ {x : V} {v : Value}, x.bare = true → VRep g w σ x v → VRep g' w' σ' x v
  | .c x, v, hb, h => by
    cases x <;> simp only [V.bare, C.bare, Bool.false_eq_true] at hb
    exact bareF (g := g) (w := w) hb h
  | .a l, v, hb, h => by obtain ⟨vs, h1, h2⟩ := h; exact ⟨vs, h1, bareCs hb h2⟩
  | .t l, v, hb, h => by obtain ⟨vs, h1, h2⟩ := h; exact ⟨vs, h1, baresV hb h2⟩
theorem baresV {g g' : G} {w w' : World} {σ σ' : St} : ∀ {l : List V} {vs : List Value}, V.bares l = true → VReps g w σ l vs → VReps g' w' σ' l vs
  | [], vs, _, h => h
  | c :: r, vs, hb, h => by
    simp only [V.bares] at hb
    split at hb
    · rename_i hc
      obtain ⟨v, vr, rfl, h1, h2⟩ := h
      exact ⟨v, vr, rfl, bareV hc h1, baresV hb h2⟩
    · cases hb
end

/-- All that is there, as if it were frozen. -/
def allZ (g : G) (w : World) : G := { g with Z := fun b _ => b < w.heap.size }

theorem allZ_rep {g : G} {w : World} {σ : St} (hr : Rep g w σ) {x : F} {v : Value} (h : FRep g w x v) : FRep (ghost0 w) w x v :=
  FRep.turn (fun b o hz => ⟨hr.inside b o hz, rfl⟩) _ _ h

theorem allZ_row {g : G} {w : World} {σ : St} (hr : Rep g w σ) {cs : List F} {b o : Nat} (h : FRow g w b o cs) : FRow (ghost0 w) w b o cs :=
  FRow.turn (fun b o hz => ⟨hr.inside b o hz, rfl⟩) _ _ _ h

theorem snap_rs {g : G} {w : World} {σ : St} (hr : Rep g w σ) {i e n sz : Nat} {l : List F} {wr : Bool} {v : Value} (hi : σ[i]? = some (.arr wr e sz l)) (hv : CRep g w σ (.rs i e n) v) : FRep (ghost0 w) w (.sl n l) v := by
  have h1 := rs_frozen (g' := allZ g w) (w' := w) hr hi hv rfl rfl fun b hb => FRow.of fun j x hx => by
    rcases hr.ob i _ hi with ⟨h1, _, _⟩ | ⟨c, vs, T, fz, rest, h1, h2, h3, h4, h5, ⟨pre, h6, h7, h8⟩, h9⟩
    · rw [hb] at h1; cases h1
    · rw [hb] at h1; cases h1
      have hj := (List.getElem?_eq_some_iff.1 hx).1
      rw [Nat.zero_add]
      refine ⟨(Array.getElem?_eq_some_iff.1 h2).1, pre[j]'(by omega), ?_, ?_⟩
      · simp only [World.cell?, h2]
        simp
        rw [← Array.getElem?_toList, h6, List.getElem?_append_left (by omega)]
        exact List.getElem?_eq_getElem (by omega)
      · have := h8 j hj (by omega)
        rw [(List.getElem?_eq_some_iff.1 hx).2] at this
        exact FRep.turn (fun b o hz => ⟨hr.inside b o hz, rfl⟩) _ _ this
  exact FRep.turn (g := allZ g w) (g' := ghost0 w) (w := w) (w' := w) (fun b o hz => ⟨hz, rfl⟩) _ _ h1

mutual
theorem snapC_ok {g : G} {w : World} {σ : St} (hr : Rep g w σ) : ∀ (n : Nat) {c c' : C} {v : Value}, snapC n σ c = some c' → CRep g w σ c v → CRep (ghost0 w) w [] c' v
  | n, .f x, c', v, h, hv => by simp only [snapC, Option.some.injEq] at h; subst h; exact allZ_rep hr hv
  | n, .ep l o, c', v, h, hv => by
    simp only [snapC, Option.some.injEq] at h
    subst h
    obtain ⟨b, p, h1, h2⟩ := hv
    exact ⟨b, p, h1, allZ_row hr h2⟩
  | n, .un, c', v, h, hv => by simp only [snapC, Option.some.injEq] at h; subst h; trivial
  | n, .rs o e m, c', v, h, hv => by
    simp only [snapC, nth_eq] at h
    split at h
    · rename_i wr e0 sz l ho
      split at h
      · rename_i he
        have := beq_nat he
        subst this
        cases h
        exact snap_rs hr ho hv
      · cases h
    · cases h
  | n + 1, .ptr o off, c', v, h, hv => by
    simp only [snapC, nth_eq] at h
    split at h
    · rename_i cs ho
      split at h
      · rename_i l hl
        split at h
        · rename_i fs hf
          have hfs := frz_spec hf
          subst hfs
          obtain ⟨b, vs, T, fz, q1, q2, q3, q4⟩ := hr.ob o _ ho
          obtain ⟨b', ob, p1, p2, p3, p4⟩ := hv
          rw [q1] at p1
          cases p1
          have hs := snapCs_ok hr n hl q4
          have hrow : FRow (ghost0 w) w b 0 fs := FRow.of fun i x hx => by
            obtain ⟨u, r1, r2⟩ := hs.get (i := i) (c := .f x) (by simp [hx])
            exact ⟨(Array.getElem?_eq_some_iff.1 q2).1, u, by rw [Nat.zero_add, cell_of q2]; exact r1, r2⟩
          split at h
          · cases h
            exact ⟨b, p2, hrow⟩
          · cases h
            exact ⟨b, 0, by rw [Nat.zero_add]; exact p2, hrow⟩
        · cases h
      · cases h
    · cases h
  | n + 1, .clo f caps, c', v, h, hv => by
    simp only [snapC] at h
    split at h
    · rename_i l hl
      cases h
      obtain ⟨vs, h1, h2⟩ := hv
      exact ⟨vs, h1, snapCs_ok hr n hl h2⟩
    · cases h
  | 0, .ptr o off, c', v, h, hv => by simp [snapC] at h
  | 0, .clo f caps, c', v, h, hv => by simp [snapC] at h
  | n, .pa .., c', v, h, hv => by cases n <;> simp [snapC] at h
  | n, .mp .., c', v, h, hv => by cases n <;> simp [snapC] at h
theorem snapCs_ok {g : G} {w : World} {σ : St} (hr : Rep g w σ) : ∀ (n : Nat) {l l' : List C} {vs : List Value}, snapCs n σ l = some l' → CReps g w σ l vs → CReps (ghost0 w) w [] l' vs
  | n, [], l', vs, h, hv => by cases n <;> (simp only [snapCs, Option.some.injEq] at h; subst h; exact hv)
  | 0, x :: r, l', vs, h, hv => by simp [snapCs] at h
  | n + 1, x :: r, l', vs, h, hv => by
    simp only [snapCs] at h
    split at h
    · cases h
    · rename_i y hy
      split at h
      · rename_i l hl
        cases h
        obtain ⟨v, vr, rfl, h1, h2⟩ := hv
        exact ⟨v, vr, rfl, snapC_ok hr n hy h1, snapCs_ok hr n hl h2⟩
      · cases h
end

theorem snapVs_ok {g : G} {w : World} {σ : St} (hr : Rep g w σ) : ∀ {l l' : List V} {vs : List Value}, snapVs σ l = some l' → VReps g w σ l vs → VReps (ghost0 w) w [] l' vs
  | [], l', vs, h, hv => by simp only [snapVs, Option.some.injEq] at h; subst h; exact hv
  | x :: r, l', vs, h, hv => by
    simp only [snapVs] at h
    split at h
    · cases h
    · rename_i y hy
      split at h
      · rename_i l hl
        cases h
        obtain ⟨v, vr, rfl, h1, h2⟩ := hv
        refine ⟨v, vr, rfl, ?_, snapVs_ok hr hl h2⟩
        unfold snapV at hy
        split at hy
        · split at hy
          · rename_i c hc; cases hy; exact snapC_ok hr _ hc h1
          · cases hy
        · split at hy
          · rename_i c hc; cases hy; obtain ⟨us, h3, h4⟩ := h1; exact ⟨us, h3, snapCs_ok hr _ hc h4⟩
          · cases hy
        · cases hy
      · cases h

theorem below_of_turn {w w' : World} {g' : G} {σ' : St} {g0 : G} (h : Turn g0 w [] g' w' σ') : Below w.heap.size w w' :=
  ⟨h.os, h.tape, h.output, h.size, fun b hb => h.whole b hb fun o ho => by
    obtain ⟨i, ob, h7, _⟩ := own_iff.1 ho
    simp at h7⟩

theorem barely_spec {σ : St} : ∀ {l o : List (V × St)}, barely σ l = some o → ∀ p ∈ l, p.1.bare = true ∧ (p.1, σ) ∈ o
  | [], o, h, p, hp => by simp at hp
  | (v, τ) :: r, o, h, p, hp => by
    simp only [barely] at h
    split at h
    · rename_i l' hb hl
      cases h
      rcases List.mem_cons.1 hp with rfl | hp
      · exact ⟨hb, by simp⟩
      · obtain ⟨a, b⟩ := barely_spec hl p hp
        exact ⟨a, List.mem_cons_of_mem _ b⟩
    · cases h

/-- A call that only looks. -/
theorem call_look {f : FuncId} {args args' : List V} {σ : St} (hs : snapVs σ args = some args') {o o' : List (V × St)} (h : CallAt P f args' [] fun r σ' => (r, σ') ∈ o) (hb : barely σ o = some o') : CallAt P f args σ fun r σ' => (r, σ') ∈ o' := by
  intro g w vs hr hv
  have hend : ∀ v w', CallEnd (ghost0 w) w [] (fun r σ' => (r, σ') ∈ o) v w' → CallEnd g w σ (fun r σ' => (r, σ') ∈ o') v w' := by
    rintro v w' ⟨r, σ1, g1, h1, h2, h3, h4⟩
    obtain ⟨b1, b2⟩ := barely_spec hb _ h1
    obtain ⟨t1, t2⟩ := turn_of_below hr (below_of_turn h3)
    exact ⟨r, σ, g, b2, t1, t2, bareV b1 h4⟩
  rcases h (ghost0 w) w vs (rep0 w) (snapVs_ok hr hs hv) with ⟨v, w', h1, h2⟩ | ⟨h1, h2⟩
  · exact .inl ⟨v, w', h1, hend v w' h2⟩
  · exact .inr ⟨h1, h2.mono fun e w' ⟨v, h3, h4⟩ => ⟨v, h3, hend v w' h4⟩⟩
end
end Go.Dm
