/- The plain machine: stores, freezing. -/
import Derived.Test.YtdioidceogjalaaGreatDoorDh
namespace Go.Dm
set_option linter.unusedVariables false
set_option linter.unusedSimpArgs false

theorem at_eq_setRow {w : World} {b : Nat} {cur cs : Array Value} {T : TypeId} {fz : Nat × Nat} (h : w.heap[b]? = some (.cells cur T fz)) : w.at b (.cells cs T fz) = w.setRow b cs := by
  unfold World.at World.setRow
  congr 1
  apply Array.ext_getElem?
  intro i
  rw [Array.getElem?_setIfInBounds, Array.getElem?_modify]
  by_cases hi : b = i
  · subst hi
    obtain ⟨h1, h2⟩ := Array.getElem?_eq_some_iff.1 h
    simp [h1, h2]
  · simp [hi]

theorem free_not {w : World} {b o : Nat} {cur : Array Value} {T : TypeId} {fz : Nat × Nat} (h : w.heap[b]? = some (.cells cur T fz)) (hf : Free cur.size fz) (ho : o < cur.size) : w.frozen? ⟨b, o, none⟩ = false := by
  simp only [World.frozen?, h]
  rcases hf with hf | hf
  · simp; omega
  · simp; omega

theorem run_storeRow {P : Program} (b off : Nat) (T : TypeId) (fz : Nat × Nat) : ∀ (vs : List Value) (i : Nat) (cur : Array Value) (w : World), w.heap[b]? = some (.cells cur T fz) → Free cur.size fz → off + i + vs.length ≤ cur.size → (∀ v ∈ vs, v.oneCell' = true) →
    (storeCells ⟨b, off, none⟩ vs i).run P w = .ok () (w.setRow b (cur.toList.take (off + i) ++ vs ++ cur.toList.drop (off + i + vs.length)).toArray)
  | [], i, cur, w, hg, _, _, _ => by
    simp only [storeCells, List.append_nil, List.length_nil, Nat.add_zero, List.take_append_drop, Array.toArray_toList]
    rw [setRow_self w b cur T fz hg]
    rfl
  | v :: rest, i, cur, w, hg, hf, hl, h1 => by
    have hi : off + i < cur.size := by simp at hl; omega
    have hcell : w.cell? ⟨b, off + i, none⟩ = some cur[off + i] := by simp [World.cell?, hg, hi]
    have hfro : w.frozen? ⟨b, off + i, none⟩ = false := free_not hg hf hi
    have hst : (store ((⟨b, off, none⟩ : Addr).add i) v).run P w = .ok () (w.setRow b (cur.setIfInBounds (off + i) v)) := by
      rw [add_addr, run_store P w _ v _ (h1 v (by simp)), hcell]
      simp [hfro, setCell_eq_setRow w b (off + i) cur T fz v hg]
    have ih := run_storeRow (P := P) b off T fz rest (i + 1) (cur.setIfInBounds (off + i) v) (w.setRow b (cur.setIfInBounds (off + i) v)) (setRow_heap w b cur _ T _ hg) (by simpa using hf) (by simp at hl ⊢; omega) (fun x hx => h1 x (by simp [hx]))
    simp only [storeCells, Sem.run_bind, hst, Result.andThen_ok, ih, setRow_setRow]
    congr 3
    have e := list_seg_step cur.toList (off + i) v rest (by simp at hl ⊢; omega)
    simpa [Array.toList_setIfInBounds, Nat.add_assoc] using e

theorem splice_spec {l l' r : List C} {off : Nat} (h : splice l off r = some l') : off + r.length ≤ l.length ∧ l' = l.take off ++ r ++ l.drop (off + r.length) := by
  unfold splice at h
  split at h
  · rename_i h1; cases h; exact ⟨h1, rfl⟩
  · cases h

theorem V.cells_rep {g : G} {w : World} {σ : St} {x : V} {u : Value} {r : List C} (h : x.cells = some r) (hx : VRep g w σ x u) : CReps g w σ r u.cells.toList := by
  unfold V.cells at h
  split at h
  · cases h
  · rename_i x hn
    cases h
    have h1 : u.oneCell' = true := CRep.one (by cases x <;> first | rfl | exact absurd rfl (hn ·)) hx
    rw [cells_one h1]
    exact ⟨u, [], rfl, hx, rfl⟩
  · cases h
    obtain ⟨vs, rfl, h1⟩ := hx
    simpa [Value.cells] using h1
  · cases h

theorem run_storeVar {P : Program} {tb : Tab} {t : TypeId} (h : (tb t).Ok P t) (hd : (tb t).d ≠ .no) {w : World} {b off : Nat} {cur : Array Value} {T : TypeId} {fz : Nat × Nat} (hg : w.heap[b]? = some (.cells cur T fz)) (hf : Free cur.size fz)
    {u : Value} (hs : u.cells.size = (tb t).size) (hl : off + u.cells.size ≤ cur.size) (h1 : ∀ v ∈ u.cells.toList, v.oneCell' = true) :
    (Instr.storeAt t (.pointer (some ⟨b, off, none⟩)) u).run P w = .ok () (w.at b (.cells (cur.toList.take off ++ u.cells.toList ++ cur.toList.drop (off + u.cells.size)).toArray T fz)) := by
  rw [at_eq_setRow hg]
  have := run_storeRow (P := P) b off T fz u.cells.toList 0 cur w hg hf (by simpa using hl) h1
  simp only [Instr.storeAt, Instr.sureAddr, storeVar, Sem.run_bind, Sem.run_pure, Result.andThen, run_sizeOf h hd, hs, ne_eq, not_true_eq_false, if_false]
  rw [Array.length_toList, hs] at this
  simpa using this

/-- A block of frozen cells to which nobody else writes. -/
theorem freeze_obj {g : G} {w : World} {σ : St} (hr : Rep g w σ) {i : Nat} {cs : List F} (hi : σ[i]? = some (.cells (cs.map .f))) {b : Nat} (hb : g.blk i = some b) :
    ∃ g', Rep g' w (σ.set i .gone) ∧ Turn g w σ g' w (σ.set i .gone) ∧ g'.blk = g.blk ∧ g'.cap = g.cap ∧ FRow g' w b 0 cs := by
  have hg : ∀ {j : Nat} {x : Ob}, (σ.set i .gone)[j]? = some x ↔ (j = i ∧ x = .gone) ∨ (j ≠ i ∧ σ[j]? = some x) := get_set hi
  have hob := hr.ob i _ hi
  let g' : G := { g with Z := fun c o => g.Z c o ∨ (c = b ∧ o < cs.length) }
  have hown : ∀ c o, Own g' (σ.set i .gone) c o → Own g σ c o ∧ c ≠ b := by
    intro c o ho
    obtain ⟨j, x, h1, h2, h3⟩ := own_iff.1 ho
    rcases hg.1 h1 with ⟨rfl, rfl⟩ | ⟨h4, h5⟩
    · exact h3.elim
    · have hlx : live x = true := by cases x <;> simp_all [live, ownAt]
      refine ⟨own_iff.2 ⟨j, x, h5, h2, h3⟩, fun e => h4 (hr.inj j i x _ c h5 hi hlx rfl h2 (e ▸ hb))⟩
  have ht : Turn g w σ g' w (σ.set i .gone) :=
    { os := rfl, tape := rfl, output := rfl, size := Nat.le_refl _, whole := fun _ _ _ => rfl, zs := fun c o hz => ⟨.inl hz, rfl⟩,
      znew := fun c o _ hz => hz.imp id fun ⟨h1, h2⟩ => own_iff.2 ⟨i, _, hi, h1 ▸ hb, trivial⟩,
      onew := fun c o _ ho => (hown c o ho).1,
      turns := fun j x hx => by
        by_cases h : j = i
        · subst h
          rw [hi] at hx; cases hx
          exact ⟨_, hg.2 (.inl ⟨rfl, rfl⟩), by simp [ObTurn]⟩
        · exact ⟨x, hg.2 (.inr ⟨h, hx⟩), by cases x <;> simp [ObTurn, g']⟩,
      blks := fun _ _ _ _ => rfl }
  obtain ⟨c, vs, T, fz, h1, h2, h3, h4⟩ := hob
  rw [hb] at h1; cases h1
  have hlen := h4.length
  simp at hlen
  refine ⟨g', ⟨?_, ?_, ?_, ?_⟩, ht, rfl, rfl, FRow.of fun j x hx => ?_⟩
  · intro j x hx
    rcases hg.1 hx with ⟨rfl, rfl⟩ | ⟨h4, h5⟩
    · trivial
    · exact (hr.ob j x h5).keep ht (fun _ _ => rfl) rfl rfl
  · intro j k x y c hj hk lx ly hbj hbk
    rcases hg.1 hj with ⟨rfl, rfl⟩ | ⟨h4, h5⟩
    · simp [live] at lx
    · rcases hg.1 hk with ⟨rfl, rfl⟩ | ⟨h6, h7⟩
      · simp [live] at ly
      · exact hr.inj j k x y c h5 h7 lx ly hbj hbk
  · intro c o hz ho
    have h5 := hown c o ho
    rcases hz with hz | ⟨h6, _⟩
    · exact hr.apart c o hz h5.1
    · exact h5.2 h6
  · intro c o hz
    rcases hz with hz | ⟨rfl, _⟩
    · exact hr.inside c o hz
    · exact (Array.getElem?_eq_some_iff.1 h2).1
  · rw [Nat.zero_add]
    have hj := (List.getElem?_eq_some_iff.1 hx).1
    obtain ⟨v, h5, h6⟩ := h4.get (i := j) (c := .f x) (by simp [hx])
    exact ⟨.inr ⟨rfl, hj⟩, v, (cell_of h2).trans h5, FRep.turn ht.zs _ _ h6⟩

theorem frz_spec : ∀ {l : List C} {fs : List F}, frz l = some fs → l = fs.map .f
  | [], fs, h => by simp [frz] at h; subst h; rfl
  | c :: r, fs, h => by
    cases c <;> simp only [frz] at h <;> try (exact absurd h (by simp))
    split at h
    · rename_i l hl
      cases h
      rw [frz_spec hl]; rfl
    · cases h

theorem rs_frozen {g g' : G} {w w' : World} {i e n sz : Nat} {l : List F} {v : Value} {wr : Bool} {σ : St} (hr : Rep g w σ) (hi : σ[i]? = some (.arr wr e sz l)) (hv : CRep g w σ (.rs i e n) v)
    (hb : g'.blk = g.blk) (hc : g'.cap = g.cap) (hrow : ∀ b, g.blk i = some b → FRow g' w' b 0 l) : FRep g' w' (.sl n l) v := by
  obtain ⟨_, ob, h1, h2⟩ := hv
  rw [hi] at h1; cases h1
  obtain ⟨_, h3⟩ := h2
  obtain ⟨rfl, h4, h5⟩ := h3 rfl
  refine ⟨_, _, rfl, h5, ?_, ?_⟩
  · rcases hr.ob i _ hi with ⟨_, _, h⟩ | ⟨b, vs, T, fz, rest, k1, k2, k3, k4, k5, _⟩
    · rw [h]; exact Nat.zero_le _
    · exact k5
  · rcases hr.ob i _ hi with ⟨h6, h7, h⟩ | ⟨b, vs, T, fz, rest, k1, k2, k3, k4, k5, _⟩
    · left; subst h7; rw [h] at h5; rw [h6]; simp; omega
    · right; exact ⟨b, 0, by rw [k1]; rfl, hrow b k1⟩

/-- Freezing cells. -/
theorem frzs_ok {P : Program} : ∀ (l : List C) {g : G} {w : World} {σ : St} (hr : Rep g w σ) {vs : List Value} (hl : CReps g w σ l vs) {k : List F → St → Prop} (hk : vfrzs prims l σ k),
    ∃ fs σ' g', Rep g' w σ' ∧ Turn g w σ g' w σ' ∧ CReps g' w σ' (fs.map .f) vs ∧ k fs σ'
  | [], g, w, σ, hr, vs, hl, k, hk => ⟨[], σ, g, hr, Turn.refl _ _ _, hl, hk⟩
  | .f x :: r, g, w, σ, hr, vs, hl, k, hk => by
    obtain ⟨v, vr, rfl, h1, h2⟩ := hl
    obtain ⟨fs, σ', g', h3, h4, h5, h6⟩ := frzs_ok (P := P) r hr h2 hk
    exact ⟨x :: fs, σ', g', h3, h4, ⟨v, vr, rfl, FRep.turn h4.zs _ _ h1, h5⟩, h6⟩
  | .rs o e n :: r, g, w, σ, hr, vs, hl, k, hk => by
    obtain ⟨v, vr, rfl, h1, h2⟩ := hl
    simp only [vfrzs] at hk
    split at hk
    · rename_i wr e0 sz l hl
      obtain ⟨he, hk⟩ := hk
      have he' : e = e0 := he
      subst he'
      obtain ⟨g1, k1, k2, k3, k4, k5⟩ := freeze_arr hr hl
      obtain ⟨fs, σ', g', h3, h4, h5, h6⟩ := frzs_ok (P := P) r k1 (CReps.turn k2 _ _ h2) hk
      have hf := rs_frozen (w' := w) hr hl h1 k3 k4 k5
      exact ⟨.sl n l :: fs, σ', g', h3, k2.trans h4, ⟨v, vr, rfl, FRep.turn h4.zs _ _ hf, h5⟩, h6⟩
    · exact hk.elim
  | .ptr o 0 :: r, g, w, σ, hr, vs, hl, k, hk => by
    obtain ⟨v, vr, rfl, h1, h2⟩ := hl
    simp only [vfrzs] at hk
    split at hk
    · rename_i cs hcs
      split at hk
      · rename_i fs hfs
        have := frz_spec hfs
        subst this
        obtain ⟨b, ob, m1, rfl, m2, m3⟩ := h1
        obtain ⟨g1, k1, k2, k3, k4, k5⟩ := freeze_obj hr hcs m1
        obtain ⟨fs', σ', g', h3, h4, h5, h6⟩ := frzs_ok (P := P) r k1 (CReps.turn k2 _ _ h2) hk
        exact ⟨.obj fs :: fs', σ', g', h3, k2.trans h4, ⟨_, vr, rfl, FRep.turn h4.zs _ _ ⟨b, rfl, k5⟩, h5⟩, h6⟩
      · exact hk.elim
    · exact hk.elim
  | .ptr o (m + 1) :: r, g, w, σ, hr, vs, hl, k, hk => hk.elim
  | .pa .. :: r, g, w, σ, hr, vs, hl, k, hk => hk.elim
  | .ep .. :: r, g, w, σ, hr, vs, hl, k, hk => hk.elim
  | .mp .. :: r, g, w, σ, hr, vs, hl, k, hk => hk.elim
  | .clo .. :: r, g, w, σ, hr, vs, hl, k, hk => hk.elim
  | .un :: r, g, w, σ, hr, vs, hl, k, hk => hk.elim

theorem soft_ok : ∀ (l : List C) {g : G} {w : World} {σ : St} (hr : Rep g w σ) {vs : List Value} (hl : CReps g w σ l vs) {k : List C → St → Prop} (hk : vsoft prims l σ k),
    ∃ l' σ' g', Rep g' w σ' ∧ Turn g w σ g' w σ' ∧ CReps g' w σ' l' vs ∧ k l' σ'
  | [], g, w, σ, hr, vs, hl, k, hk => ⟨[], σ, g, hr, Turn.refl _ _ _, hl, hk⟩
  | x :: r, g, w, σ, hr, vs, hl, k, hk => by
    obtain ⟨v, vr, rfl, h1, h2⟩ := hl
    have other : vsoft prims r σ (fun l' σ' => k (x :: l') σ') → ∃ l' σ' g', Rep g' w σ' ∧ Turn g w σ g' w σ' ∧ CReps g' w σ' l' (v :: vr) ∧ k l' σ' := fun hk => by
      obtain ⟨l', σ', g', h3, h4, h5, h6⟩ := soft_ok r hr h2 hk
      exact ⟨x :: l', σ', g', h3, h4, ⟨v, vr, rfl, CRep.turn h4 _ _ h1, h5⟩, h6⟩
    cases x with
    | rs o e n =>
      simp only [vsoft] at hk
      split at hk
      · rename_i wr e0 sz l hl
        obtain ⟨he, hk⟩ := hk
        have he' : e = e0 := he
        subst he'
        obtain ⟨g1, k1, k2, k3, k4, k5⟩ := freeze_arr hr hl
        obtain ⟨l', σ', g', h3, h4, h5, h6⟩ := soft_ok r k1 (CReps.turn k2 _ _ h2) hk
        have hf := rs_frozen (w' := w) hr hl h1 k3 k4 k5
        exact ⟨.f (.sl n l) :: l', σ', g', h3, k2.trans h4, ⟨v, vr, rfl, FRep.turn h4.zs _ _ hf, h5⟩, h6⟩
      · exact hk.elim
    | _ => exact other hk

theorem softs_ok : ∀ (l : List V) {g : G} {w : World} {σ : St} (hr : Rep g w σ) {vs : List Value} (hl : VReps g w σ l vs) {k : List V → St → Prop} (hk : vsofts prims l σ k),
    ∃ l' σ' g', Rep g' w σ' ∧ Turn g w σ g' w σ' ∧ VReps g' w σ' l' vs ∧ k l' σ'
  | [], g, w, σ, hr, vs, hl, k, hk => ⟨[], σ, g, hr, Turn.refl _ _ _, hl, hk⟩
  | x :: r, g, w, σ, hr, vs, hl, k, hk => by
    obtain ⟨v, vr, rfl, h1, h2⟩ := hl
    have other : vsofts prims r σ (fun l' σ' => k (x :: l') σ') → ∃ l' σ' g', Rep g' w σ' ∧ Turn g w σ g' w σ' ∧ VReps g' w σ' l' (v :: vr) ∧ k l' σ' := fun hk => by
      obtain ⟨l', σ', g', h3, h4, h5, h6⟩ := softs_ok r hr h2 hk
      exact ⟨x :: l', σ', g', h3, h4, ⟨v, vr, rfl, VRep.turn h4 _ _ h1, h5⟩, h6⟩
    cases x with
    | t l => exact other hk
    | a l =>
      obtain ⟨cs, rfl, hcs⟩ := h1
      simp only [vsofts] at hk
      obtain ⟨l2, σ1, g1, k1, k2, k3, k4⟩ := soft_ok l hr hcs hk
      obtain ⟨l', σ', g', h3, h4, h5, h6⟩ := softs_ok r k1 (VReps.turn k2 _ _ h2) k4
      exact ⟨.a l2 :: l', σ', g', h3, k2.trans h4, ⟨_, vr, rfl, ⟨cs, rfl, CReps.turn h4 _ _ k3⟩, h5⟩, h6⟩
    | c x =>
      cases x with
      | rs o e n =>
        simp only [vsofts] at hk
        split at hk
        · rename_i wr e0 sz l hl
          obtain ⟨he, hk⟩ := hk
          have he' : e = e0 := he
          subst he'
          obtain ⟨g1, k1, k2, k3, k4, k5⟩ := freeze_arr hr hl
          obtain ⟨l', σ', g', h3, h4, h5, h6⟩ := softs_ok r k1 (VReps.turn k2 _ _ h2) hk
          have hf := rs_frozen (w' := w) hr hl h1 k3 k4 k5
          exact ⟨.c (.f (.sl n l)) :: l', σ', g', h3, k2.trans h4, ⟨v, vr, rfl, FRep.turn h4.zs _ _ hf, h5⟩, h6⟩
        · exact hk.elim
      | _ => exact other hk

theorem soft_none {T : Pr} : ∀ (l : List C) (h : l.any C.isRs = false) (σ : St) (k : List C → St → Prop), vsoft T l σ k = k l σ
  | [], _, _, _ => rfl
  | x :: r, h, σ, k => by
    simp only [List.any_cons, Bool.or_eq_false_iff] at h
    cases x with
    | rs => simp [C.isRs] at h
    | _ => exact soft_none r h.2 σ _

theorem softs_none {T : Pr} : ∀ (l : List V) (h : l.any V.hasRs = false) (σ : St) (k : List V → St → Prop), vsofts T l σ k = k l σ
  | [], _, _, _ => rfl
  | x :: r, h, σ, k => by
    simp only [List.any_cons, Bool.or_eq_false_iff] at h
    cases x with
    | t l => exact softs_none r h.2 σ _
    | a l =>
      simp only [vsofts]
      rw [soft_none l h.1]
      exact softs_none r h.2 σ _
    | c x =>
      cases x with
      | rs => simp [V.hasRs, C.isRs] at h
      | _ => exact softs_none r h.2 σ _

/-- A row gets other elements. -/
theorem write_arr {g : G} {w : World} {σ : St} (hr : Rep g w σ) {i b : Nat} {e sz : Nat} {l l' : List F} {vs vs' : Array Value} {T : TypeId} {fz : Nat × Nat}
    (hi : σ[i]? = some (.arr true e sz l)) (hb : g.blk i = some b) (hO : w.heap[b]? = some (.cells vs T fz)) (hf : Free vs.size fz) (hs : vs'.size = vs.size) (hc : vs.size = g.cap i * sz) (hm : g.cap i ≤ maxLen)
    (hlen : l'.length = l.length) {pre rest : List Value} (hv : vs'.toList = pre ++ rest) (hl : CReps g w σ (l'.map .f) pre) :
    Rep g (w.at b (.cells vs' T fz)) (σ.set i (.arr true e sz l')) ∧ Turn g w σ g (w.at b (.cells vs' T fz)) (σ.set i (.arr true e sz l')) := by
  have ht := write_turn (ob' := .arr true e sz l') (O' := .cells vs' T fz) hr hi hb rfl hO
    (fun o hz => (hr.apart b o hz (own_iff.2 ⟨i, _, hi, hb, trivial⟩)).elim) (by right; exact ⟨rfl, rfl, hlen, rfl, rfl⟩) (fun _ _ => trivial)
  have hlt : b < w.heap.size := (Array.getElem?_eq_some_iff.1 hO).1
  have hT : T = e % 4294967296 := by
    rcases hr.ob i _ hi with ⟨q1, _, _⟩ | ⟨c, vs2, T', fz', rest', q1, q2, _, _, _, _, q9⟩
    · rw [hb] at q1; cases q1
    · rw [hb] at q1; cases q1
      rw [hO] at q2; cases q2
      exact q9.2
  refine ⟨write_rep hr hi hb rfl ht (fun _ => rfl) (fun _ _ => trivial) (.inr ⟨b, vs', T, fz, rest, hb, at_same hlt, by rw [hs]; exact hf, by rw [hs]; exact hc, hm, ⟨pre, hv, by simpa using hl.length, fun j h h' => ?_⟩, by simp, hT⟩), ht⟩
  obtain ⟨v, h1, h2⟩ := hl.get (i := j) (c := .f l'[j]) (by simp [h])
  rw [List.getElem?_eq_getElem h'] at h1
  cases h1
  exact FRep.turn ht.zs _ _ h2

/-- A store. -/
theorem store_ok {P : Program} {tb : Tab} {t : TypeId} (h : (tb t).Ok P t) (hd : (tb t).d ≠ .no) {g : G} {w : World} {σ : St} (hr : Rep g w σ) {x y : V} {u v : Value} (hx : VRep g w σ x u) (hy : VRep g w σ y v) {k : St → Prop}
    (hk : vstore prims x y (tb t).size σ k) : ∃ σ' g' w', (Instr.storeAt t u v).run P w = .ok () w' ∧ Rep g' w' σ' ∧ Turn g w σ g' w' σ' ∧ k σ' := by
  unfold vstore at hk
  split at hk
  case h_2 => exact hk.elim
  rename_i r hcells
  split at hk
  case isFalse => exact hk.elim
  rename_i hs
  have hv := V.cells_rep hcells hy
  have hone := CReps.one hs.2 hv
  have hlv := hv.length
  simp at hlv
  split at hk
  · rename_i o off
    obtain ⟨b, ob, h1, rfl, h2, h3⟩ := hx
    split at hk
    · rename_i l hl
      split at hk
      · rename_i l' hsp
        obtain ⟨h4, rfl⟩ := splice_spec hsp
        obtain ⟨c, vs, T, fz, k1, k2, k3, k4⟩ := hr.ob o _ hl
        rw [h1] at k1; cases k1
        have hll := k4.length
        simp at hll
        have hrun := run_storeVar (P := P) h hd k2 k3 (u := v) (off := off) (by omega) (by omega) hone
        have hw := write_cells (vs' := vs.toList.take off ++ v.cells.toList ++ vs.toList.drop (off + v.cells.size)) hr hl h1 k2 k3 (by simp; omega)
          (((k4.take off).append hv).append (by rw [hlv]; exact k4.drop _))
        exact ⟨_, _, _, hrun, hw.1, hw.2, hk⟩
      · exact hk.elim
    · rename_i T bu y hl
      obtain ⟨c, bv, k1, k2, k3⟩ := hr.ob o _ hl
      rw [h1] at k1; cases k1
      have hlen := hs.1
      split at hk
      · rename_i o'
        split at hk
        · rename_i ho
          have := Nat.eq_of_beq_eq_true ho
          subst this
          obtain ⟨v1, vr, e1, ⟨b', ob', p1, p2, p3, p4⟩, e2⟩ := hv
          simp only [CReps] at e2
          subst e2 p2
          rw [h1] at p1
          cases p1
          have hsz : v.cells.size = 1 := by rw [← Array.length_toList, e1]; rfl
          have hrun := run_storeVar (P := P) h hd k2 (.inl rfl) (u := v) (off := 0) (by simp at hlen; omega) (by simp; omega) hone
          have hw := write_bld (u' := true) hr hl h1 k2 k3
          refine ⟨σ.set o' (.bld T true y), g, _, hrun, ?_⟩
          have e3 : (List.toArray ((#[selfp bu b, bv] : Array Value).toList.take 0 ++ v.cells.toList ++ (#[selfp bu b, bv] : Array Value).toList.drop (0 + v.cells.size))) = #[.pointer (some ⟨b, 0, none⟩), bv] := by
            rw [e1, hsz]; rfl
          rw [e3]
          exact ⟨hw.1, hw.2, hk⟩
        · exact hk.elim
      · rename_i c1
        obtain ⟨v1, vr, e1, e4, e2⟩ := hv
        simp only [CReps] at e2
        subst e2
        have hsz : v.cells.size = 1 := by rw [← Array.length_toList, e1]; rfl
        have hrun := run_storeVar (P := P) h hd k2 (.inl rfl) (u := v) (off := 1) (by simp at hlen; omega) (by simp; omega) hone
        have hw := write_bld (u' := bu) hr hl h1 k2 e4
        refine ⟨σ.set o (.bld T bu c1), g, _, hrun, ?_⟩
        have e3 : (List.toArray ((#[selfp bu b, bv] : Array Value).toList.take 1 ++ v.cells.toList ++ (#[selfp bu b, bv] : Array Value).toList.drop (1 + v.cells.size))) = #[selfp bu b, v1] := by
          rw [e1, hsz]; rfl
        rw [e3]
        exact ⟨hw.1, hw.2, hk⟩
      · exact hk.elim
    · exact hk.elim
  · rename_i o e off
    obtain ⟨fs, σ1, g1, q1, q2, q3, q4⟩ := frzs_ok (P := P) r hr hv hk
    have hx1 := VRep.turn q2 _ _ hx
    obtain ⟨_, ob, h1, h2⟩ := hx1
    split at q4
    · rename_i e0 sz l hl
      obtain ⟨he, hle, hk4⟩ := q4
      have he' : e = e0 := he
      have hle' : off + (tb t).size ≤ l.length := hle
      rw [hl] at h1; cases h1
      obtain ⟨b, h5, rfl⟩ := h2.2 he'
      rcases q1.ob o _ hl with ⟨k1, _, _⟩ | ⟨c, vs, T, fz, rest, k1, k2, k3, k4, k5, ⟨pre, k6, k7, k8⟩, k9⟩
      · rw [h5] at k1; cases k1
      · rw [h5] at k1; cases k1
        have hreps : CReps g1 w σ1 (l.map .f) pre := freps k7 k8
        have hvl : vs.size = pre.length + rest.length := by rw [← Array.length_toList, k6]; simp
        have hrun := run_storeVar (P := P) h hd k2 k3 (u := v) (off := off) (by omega) (by omega) hone
        have hfl : fs.length = v.cells.size := by have := q3.length; simp at this; omega
        have hw := write_arr (l' := l.take off ++ fs ++ l.drop (off + fs.length)) (vs' := (vs.toList.take off ++ v.cells.toList ++ vs.toList.drop (off + v.cells.size)).toArray)
          (pre := pre.take off ++ v.cells.toList ++ pre.drop (off + v.cells.size)) (rest := rest) q1 hl h5 k2 k3 (by simp; omega) k4 k5 (by simp; omega)
          (by
            simp only [k6]
            rw [List.take_append_of_le_length (by omega), List.drop_append_of_le_length (by omega)]
            simp [List.append_assoc])
          (by
            simp only [List.map_append, List.map_take, List.map_drop]
            rw [hfl]
            exact ((hreps.take off).append q3).append (hreps.drop _))
        exact ⟨_, _, _, hrun, hw.1, q2.trans hw.2, hk4⟩
    · exact q4.elim
  · exact hk.elim
end Go.Dm
