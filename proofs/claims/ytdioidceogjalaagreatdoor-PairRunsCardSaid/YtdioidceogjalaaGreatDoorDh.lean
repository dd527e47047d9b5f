/- The plain machine: its operations are the model's: loads, stores, addresses, new objects. -/
import Derived.Test.YtdioidceogjalaaGreatDoorDg
namespace Go.Dm
set_option linter.unusedVariables false
set_option linter.unusedSimpArgs false

theorem add_addr (b off i : Nat) : (⟨b, off, none⟩ : Addr).add i = ⟨b, off + i, none⟩ := by
  unfold Addr.add; split
  · rename_i h; subst h; rfl
  · rfl

theorem run_loadFrom {P : Program} {w : World} {b off : Nat} : ∀ (vs : List Value) (i : Nat) (acc : Array Value), (∀ j (h : j < vs.length), w.cell? ⟨b, off + (i + j), none⟩ = some vs[j]) →
    (loadCellsFrom ⟨b, off, none⟩ i vs.length acc).run P w = .ok (acc ++ vs.toArray) w
  | [], i, acc, _ => by simp [loadCellsFrom]
  | v :: r, i, acc, h => by
    have h0 := h 0 (by simp)
    simp only [List.getElem_cons_zero, Nat.add_zero] at h0
    have hr := run_loadFrom (P := P) r (i + 1) (acc.push v) (fun j hj => by
      have := h (j + 1) (by simpa using hj)
      rw [show off + (i + 1 + j) = off + (i + (j + 1)) from by omega]
      simpa using this)
    simp only [List.length_cons, loadCellsFrom, load, add_addr, Sem.run_bind, Sem.run, h0, Result.andThen]
    rw [hr]
    simp

theorem run_loadCells' {P : Program} {w : World} {b off : Nat} (vs : List Value) (h : ∀ j (h : j < vs.length), w.cell? ⟨b, off + j, none⟩ = some vs[j]) :
    (loadCells ⟨b, off, none⟩ vs.length).run P w = .ok vs.toArray w := by
  have := run_loadFrom (P := P) (w := w) (b := b) (off := off) vs 0 #[] (fun j hj => by rw [show off + (0 + j) = off + j from by omega]; exact h j hj)
  simpa [loadCells] using this

section
variable {P : Program} {tb : Tab} {t : TypeId}
theorem run_isAgg (h : (tb t).Ok P t) (hd : (tb t).d ≠ .no) (w : World) : (isAgg t).run P w = .ok (tb t).agg w := by
  have hf := h.fits
  unfold isAgg TI.agg
  cases hx : (tb t).d with
  | no => exact (hd hx).elim
  | struct fs => rw [hx] at hf; obtain ⟨fields, h1, _⟩ := hf; simp [run_underlying h1]
  | bld a b => rw [hx] at hf; obtain ⟨fields, h1, _⟩ := hf; simp [run_underlying h1]
  | fn => rw [hx] at hf; obtain ⟨a, b, c, h1⟩ := hf; simp [run_underlying h1]
  | _ => rw [hx] at hf; simp [run_underlying hf]

theorem run_sizeOf (h : (tb t).Ok P t) (hd : (tb t).d ≠ .no) (w : World) : (sizeOf t).run P w = .ok (tb t).size w := by
  rcases h.info with h0 | ⟨j, h1, h2, _⟩
  · exact (hd h0).elim
  · simp [sizeOf, typeInfo, h1, h2]

theorem run_zero (h : (tb t).Ok P t) (hd : (tb t).d ≠ .no) (w : World) : ∃ z, (zeroValue t).run P w = .ok z w ∧ z.cells.toList = (tb t).zero.map zval := by
  rcases h.info with h0 | ⟨j, h1, h2, h3, ⟨z, h4, h5, h6⟩, _⟩
  · exact (hd h0).elim
  · exact ⟨z, by simp [zeroValue, typeInfo, h1, h4], h5⟩

theorem zero_len (h : (tb t).Ok P t) (hd : (tb t).d ≠ .no) : (tb t).zero.length = (tb t).size := by
  rcases h.info with h0 | ⟨j, h1, h2, h3, h4, h5, h6⟩
  · exact (hd h0).elim
  · exact h6
theorem zero_plain (h : (tb t).Ok P t) (hd : (tb t).d ≠ .no) : (tb t).zero.all plain = true := by
  rcases h.info with h0 | ⟨j, h1, h2, h3, h4, h5, h6⟩
  · exact (hd h0).elim
  · exact h5
end

theorem zero_reps {g : G} {w : World} {σ : St} : ∀ {l : List F}, l.all plain = true → CReps g w σ (l.map .f) (l.map zval)
  | [], _ => rfl
  | x :: r, h => by
    simp only [List.all_cons, Bool.and_eq_true] at h
    exact ⟨zval x, r.map zval, rfl, zval_rep h.1, zero_reps h.2⟩

theorem cell_of {w : World} {b o : Nat} {vs : Array Value} {T : TypeId} {fz : Nat × Nat} (h : w.heap[b]? = some (.cells vs T fz)) : w.cell? ⟨b, o, none⟩ = vs.toList[o]? := by
  simp [World.cell?, h]

theorem cut_spec {l r : List C} {off n : Nat} (h : cut l off n = some r) : off + n ≤ l.length ∧ r = (l.drop off).take n := by
  unfold cut at h
  split at h
  · rename_i h1; cases h; exact ⟨h1, rfl⟩
  · cases h

theorem loadAt_ptr {P : Program} {t : TypeId} {b off : Nat} {w : World} : (Instr.loadAt t (.pointer (some ⟨b, off, none⟩))).run P w = (loadVar t ⟨b, off, none⟩).run P w := by
  simp [Instr.loadAt, Instr.sureAddr]

theorem run_loadVar {P : Program} {tb : Tab} {t : TypeId} (h : (tb t).Ok P t) (hd : (tb t).d ≠ .no) {w : World} {b off : Nat} :
    (∀ v, (tb t).agg = false → w.cell? ⟨b, off, none⟩ = some v → (loadVar t ⟨b, off, none⟩).run P w = .ok v w) ∧
    (∀ vs : List Value, (tb t).agg = true → vs.length = (tb t).size → (∀ j (h : j < vs.length), w.cell? ⟨b, off + j, none⟩ = some vs[j]) → (loadVar t ⟨b, off, none⟩).run P w = .ok (.agg vs.toArray) w) := by
  constructor
  · intro v ha hv
    simp only [loadVar, Sem.run_bind, run_isAgg h hd, Result.andThen, ha, load]
    simp [Sem.run, hv]
  · intro vs ha hl hv
    have := run_loadCells' (P := P) vs hv
    rw [hl] at this
    simp only [loadVar, Sem.run_bind, run_isAgg h hd, Result.andThen, ha, if_true, run_sizeOf h hd, this]
    simp

theorem freps {g : G} {w : World} {σ : St} : ∀ {l : List F} {pre : List Value}, pre.length = l.length → (∀ j (h : j < l.length) (h' : j < pre.length), FRep g w l[j] pre[j]) → CReps g w σ (l.map .f) pre
  | [], [], _, _ => rfl
  | x :: r, v :: vr, hl, h => ⟨v, vr, rfl, h 0 (by simp) (by simp), freps (by simpa using hl) (fun j a b => h (j + 1) (Nat.succ_lt_succ a) (Nat.succ_lt_succ b))⟩
  | [], v :: vr, hl, _ => by simp at hl
  | x :: r, [], hl, _ => by simp at hl

/-- A load. -/
theorem load_ok {P : Program} {tb : Tab} {t : TypeId} (h : (tb t).Ok P t) (hd : (tb t).d ≠ .no) {g : G} {w : World} {σ : St} (hr : Rep g w σ) {x : V} {u : Value} (hx : VRep g w σ x u) {k : V → Prop}
    (hk : vload prims (tb t).agg (tb t).size x σ k) : ∃ r v, (Instr.loadAt t u).run P w = .ok v w ∧ VRep g w σ r v ∧ k r := by
  have frow : ∀ {cs : List F} {b o off : Nat}, FRow g w b o cs → u = .pointer (some ⟨b, o + off, none⟩) →
      ((tb t).agg = true → off + (tb t).size ≤ cs.length → k (.a (((cs.drop off).take (tb t).size).map .f)) → ∃ r v, (Instr.loadAt t u).run P w = .ok v w ∧ VRep g w σ r v ∧ k r) ∧
      (∀ x, (tb t).agg = false → cs[off]? = some x → k (.c (.f x)) → ∃ r v, (Instr.loadAt t u).run P w = .ok v w ∧ VRep g w σ r v ∧ k r) := by
    intro cs b o off hrow hu
    subst hu
    constructor
    · intro ha hle hk'
      have h2 := (hrow.drop off).take (tb t).size
      have hlen : ((cs.drop off).take (tb t).size).length = (tb t).size := by simp; omega
      generalize (cs.drop off).take (tb t).size = fs at *
      -- the values
      have hv : ∃ vs : List Value, vs.length = fs.length ∧ (∀ j (h : j < vs.length), w.cell? ⟨b, o + off + j, none⟩ = some vs[j]) ∧ CReps g w σ (fs.map .f) vs := by
        clear hk' hlen
        generalize o + off = m at h2
        induction fs generalizing m with
        | nil => exact ⟨[], rfl, by simp, rfl⟩
        | cons y r ih =>
          obtain ⟨_, ⟨v, hv, hy⟩, hrr⟩ := h2
          obtain ⟨vs, h3, h4, h5⟩ := ih (m + 1) hrr
          refine ⟨v :: vs, by simp [h3], fun j hj => ?_, v, vs, rfl, hy, h5⟩
          cases j with
          | zero => exact hv
          | succ j =>
            have := h4 j (by simpa using hj)
            rw [show m + (j + 1) = m + 1 + j from by omega]
            simpa using this
      obtain ⟨vs, h3, h4, h5⟩ := hv
      exact ⟨.a (fs.map .f), .agg vs.toArray, by rw [loadAt_ptr]; exact (run_loadVar h hd).2 vs ha (by omega) h4, ⟨vs, rfl, h5⟩, hk'⟩
    · intro y ha hy hk'
      obtain ⟨_, v, hv, hy⟩ := hrow.get hy
      exact ⟨.c (.f y), v, by rw [loadAt_ptr]; exact (run_loadVar h hd).1 v ha hv, hy, hk'⟩
  unfold vload at hk
  split at hk
  · -- an object
    rename_i o off
    obtain ⟨b, ob, h1, rfl, h2, h3⟩ := hx
    split at hk
    · rename_i l hl
      obtain ⟨c, vs, T, fz, k1, k2, k3, k4⟩ := hr.ob o _ hl
      rw [h1] at k1; cases k1
      split at hk
      · rename_i ha
        split at hk
        · rename_i r hc
          obtain ⟨h5, rfl⟩ := cut_spec hc
          have h6 := (k4.drop off).take (tb t).size
          have h7 := h6.length
          refine ⟨.a ((l.drop off).take (tb t).size), .agg ((vs.toList.drop off).take (tb t).size).toArray, ?_, ⟨_, rfl, h6⟩, hk⟩
          rw [loadAt_ptr]
          refine (run_loadVar h hd).2 _ ha (by rw [h7]; simp; omega) (fun j hj => ?_)
          rw [cell_of k2]
          rw [List.getElem_take, List.getElem_drop]
          exact List.getElem?_eq_getElem _
        · exact hk.elim
      · rename_i ha
        split at hk
        · rename_i c hc
          obtain ⟨v, h5, h6⟩ := k4.get hc
          exact ⟨.c c, v, by rw [loadAt_ptr]; exact (run_loadVar h hd).1 v ha ((cell_of k2).trans h5), h6, hk⟩
        · exact hk.elim
    · rename_i T bu y hl
      obtain ⟨c, bv, k1, k2, k3⟩ := hr.ob o _ hl
      rw [h1] at k1; cases k1
      split at hk
      · rename_i ha
        refine ⟨_, selfp bu b, by rw [loadAt_ptr]; exact (run_loadVar h hd).1 _ ha (by rw [cell_of k2]; rfl), ?_, hk⟩
        cases bu with
        | true => exact ⟨b, _, h1, rfl, hl, rfl⟩
        | false => rfl
      · rename_i ha
        exact ⟨.c y, bv, by rw [loadAt_ptr]; exact (run_loadVar h hd).1 _ ha (by rw [cell_of k2]; rfl), k3, hk⟩
      · exact hk.elim
    · exact hk.elim
  · rename_i cs off
    obtain ⟨b, o, hu, hrow⟩ := hx
    have hf := frow hrow hu
    split at hk
    · rename_i ha; exact hf.1 ha hk.1 hk.2
    · rename_i ha
      simp only [prims] at hk
      split at hk
      · rename_i y hy; exact hf.2 y ha hy hk
      · exact hk.elim
  · -- an element of a row of one's own
    rename_i o e off
    obtain ⟨_, ob, h1, h2⟩ := hx
    split at hk
    · rename_i wr e0 sz l hl
      rw [hl] at h1; cases h1
      obtain ⟨h3, h4⟩ := h2
      have he : e = e0 := hk.1
      obtain ⟨b, h5, rfl⟩ := h4 he
      rcases hr.ob o _ hl with ⟨k1, _, _⟩ | ⟨c, vs, T, fz, rest, k1, k2, k3, k4, k5, ⟨pre, k6, k7, k8⟩, k9⟩
      · rw [h5] at k1; cases k1
      · rw [h5] at k1; cases k1
        have hreps : CReps g w σ (l.map .f) pre := freps k7 k8
        have hcell : ∀ j, j < pre.length → w.cell? ⟨b, j, none⟩ = pre[j]? := fun j hj => by rw [cell_of k2, k6, List.getElem?_append_left hj]
        have hk2 := hk.2
        split at hk2
        · rename_i ha
          have hle : off + (tb t).size ≤ l.length := hk2.1
          have hrep := (hreps.drop off).take (tb t).size
          refine ⟨.a (((l.map .f).drop off).take (tb t).size), .agg ((pre.drop off).take (tb t).size).toArray, ?_, ⟨_, rfl, hrep⟩, ?_⟩
          · rw [loadAt_ptr]
            refine (run_loadVar h hd).2 _ ha (by simp; omega) (fun j hj => ?_)
            rw [hcell _ (by simp at hj; omega), List.getElem_take, List.getElem_drop]
            exact List.getElem?_eq_getElem _
          · have := hk2.2
            simpa [prims, List.map_take, List.map_drop] using this
        · rename_i ha
          simp only [prims] at hk2
          split at hk2
          · rename_i y hy
            have hy' : l[off]? = some y := hy
            obtain ⟨v, h6, h7⟩ := hreps.get (i := off) (c := .f y) (by simp [hy'])
            refine ⟨.c (.f y), v, ?_, h7, hk2⟩
            rw [loadAt_ptr]
            exact (run_loadVar h hd).1 v ha ((hcell off (List.getElem?_eq_some_iff.1 h6).1).trans h6)
          · exact hk2.elim
    · exact hk.elim
  · exact hk.elim
end Go.Dm
