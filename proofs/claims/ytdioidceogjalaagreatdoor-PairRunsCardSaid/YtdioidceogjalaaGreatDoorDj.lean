/- The plain machine: new objects, parts, addresses. -/
import Derived.Test.YtdioidceogjalaaGreatDoorDi
namespace Go.Dm
set_option linter.unusedVariables false
set_option linter.unusedSimpArgs false

theorem not_no {d : TD} (h : d.isNo = false) : d ≠ .no := by rintro rfl; simp [TD.isNo] at h

section
variable {P : Program} {tb : Tab} {t : TypeId} {g : G} {w : World} {σ : St}

theorem new_obj (hr : Rep g w σ) (T : TypeId) {l : List C} {cs : Array Value} (hl : CReps g w σ l cs.toList) :
    ∃ g', Rep g' (w.alloc (.cells cs T)) (σ ++ [.cells l]) ∧ Turn g w σ g' (w.alloc (.cells cs T)) (σ ++ [.cells l]) ∧ CRep g' (w.alloc (.cells cs T)) (σ ++ [.cells l]) (.ptr σ.length 0) (.pointer (some ⟨w.heap.size, 0, none⟩)) := by
  obtain ⟨g', h1, h2, h3⟩ := new_cells hr T hl
  simp only [Array.toArray_toList] at h1 h2
  exact ⟨g', h1, h2, w.heap.size, .cells l, h3, rfl, by simp, rfl⟩

theorem alloc_ok (h : (tb t).Ok P t) (hd : (tb t).d ≠ .no) (hr : Rep g w σ) {k : V → St → Prop} (hk : k (.c (.ptr σ.length 0)) (σ ++ [.cells ((tb t).zero.map .f)])) :
    ∃ r σ' g' w' v, (Instr.alloc t true (.tuple #[])).run P w = .ok v w' ∧ k r σ' ∧ Rep g' w' σ' ∧ Turn g w σ g' w' σ' ∧ VRep g' w' σ' r v := by
  obtain ⟨z, h1, h2⟩ := run_zero (P := P) h hd w
  have hc : CReps g w σ ((tb t).zero.map .f) z.cells.toList := by rw [h2]; exact zero_reps (zero_plain h hd)
  obtain ⟨g', h3, h4, h5⟩ := new_obj hr t hc
  refine ⟨_, _, g', _, _, ?_, hk, h3, h4, h5⟩
  simp only [Instr.alloc, Sem.run_bind, h1, Result.andThen]
  rfl

theorem box_ok (hr : Rep g w σ) {x : V} {u : Value} (hx : VRep g w σ x u) {l : List C} (hl : x.cells = some l) {k : V → St → Prop} (hk : k (.c (.ptr σ.length 0)) (σ ++ [.cells l])) :
    ∃ r σ' g' w' v, (Instr.box t u).run P w = .ok v w' ∧ k r σ' ∧ Rep g' w' σ' ∧ Turn g w σ g' w' σ' ∧ VRep g' w' σ' r v := by
  obtain ⟨g', h3, h4, h5⟩ := new_obj hr t (V.cells_rep hl hx)
  exact ⟨_, _, g', _, _, rfl, hk, h3, h4, h5⟩

theorem fill_cells (off : Nat) : ∀ (vs : List Value) (i : Nat) (cs : Array Value), off + i + vs.length ≤ cs.size →
    ((vs.zipIdx i).foldl (fun cs (p : Value × Nat) => cs.setIfInBounds (off + p.2) p.1) cs).toList = cs.toList.take (off + i) ++ vs ++ cs.toList.drop (off + i + vs.length)
  | [], i, cs, _ => by simp
  | v :: r, i, cs, h => by
    simp only [List.zipIdx_cons, List.foldl_cons]
    rw [fill_cells off r (i + 1) _ (by simp at h ⊢; omega)]
    have e := list_seg_step cs.toList (off + i) v r (by simp at h ⊢; omega)
    simpa [Array.toList_setIfInBounds, Nat.add_assoc] using e

theorem fill_eq {v : Value} {off : Nat} {cs : Array Value} (h : off + v.cells.size ≤ cs.size) :
    (v.cells.zipIdx.foldl (fun cs (x : Value × Nat) => cs.setIfInBounds (off + x.2) x.1) cs).toList = cs.toList.take off ++ v.cells.toList ++ cs.toList.drop (off + v.cells.size) := by
  have := fill_cells off v.cells.toList 0 cs (by simpa using h)
  rw [← Array.foldl_toList, Array.toList_zipIdx]
  simpa using this

/-- Parts put into cells. -/
theorem fill_ok {fr : Fr} {a : Act} (hf : FrRep g w σ fr a.tmps) {place : Nat → Option (Nat × Nat)} {pl : Nat → Option (Nat × Nat)} :
    ∀ (parts : List (Nat × Operand)) (cs : List C) (vs : Array Value), CReps g w σ cs vs.toList → ∀ {l : List C},
      (∀ (go : List (Nat × Operand) → List C → Option (List C)), (∀ cs, go [] cs = some cs) →
        (∀ i x r cs l, go ((i, x) :: r) cs = some l → ∃ off lx cs', place i = some (off, lx.length) ∧ (opd fr x).cells = some lx ∧ splice cs off lx = some cs' ∧ go r cs' = some l) →
        go parts cs = some l → ∃ vs', Instr.fill place vs (parts.map fun p => (p.1, a.eval p.2)) = some vs' ∧ CReps g w σ l vs'.toList)
  | [], cs, vs, h, l => fun go h0 h1 hg => by
    rw [h0] at hg; cases hg
    exact ⟨vs, rfl, h⟩
  | (i, x) :: r, cs, vs, h, l => fun go h0 h1 hg => by
    obtain ⟨off, lx, cs', h2, h3, h4, h5⟩ := h1 i x r cs l hg
    have hx := V.cells_rep h3 (opd_rep hf x)
    have hxl := hx.length
    simp at hxl
    have hcl := h.length
    simp at hcl
    obtain ⟨h6, rfl⟩ := splice_spec h4
    have e := fill_eq (v := a.eval x) (off := off) (cs := vs) (by omega)
    have hrep : CReps g w σ (cs.take off ++ lx ++ cs.drop (off + lx.length)) ((a.eval x).cells.zipIdx.foldl (fun cs (x : Value × Nat) => cs.setIfInBounds (off + x.2) x.1) vs).toList := by
      rw [e, hxl]
      exact ((h.take off).append hx).append (h.drop _)
    obtain ⟨vs', h7, h8⟩ := fill_ok hf (pl := pl) r _ _ hrep go h0 h1 h5
    refine ⟨vs', ?_, h8⟩
    simp only [List.map_cons, Instr.fill, h2]
    rw [if_neg (by simp; omega)]
    exact h7

theorem mapM_places {fields : List Field} (h : ∀ f ∈ fields, (tb f.type).Ok P f.type ∧ (tb f.type).d ≠ .no) (w : World) :
    (fields.mapM fun f => (do pure (f.offset, ← sizeOf f.type) : Sem (Nat × Nat))).run P w = .ok (fields.map fun f => (f.offset, (tb f.type).size)) w := by
  induction fields with
  | nil => rfl
  | cons f r ih =>
    have hf := h f (by simp)
    have hr := ih fun x hx => h x (by simp [hx])
    simp only [List.mapM_cons, Sem.run_bind, run_sizeOf hf.1 hf.2, Result.andThen, Sem.run_pure, hr, List.map_cons]

theorem run_fields {fs : List (Nat × TypeId)} (hd : (tb t).d = .struct fs) (h : (tb t).Ok P t) : ∃ fields : Array Field, P.underlying t = some (.struct fields) ∧ fields.toList.map (fun f => (f.offset, f.type)) = fs := by
  have := h.fits
  rw [hd] at this
  exact this

theorem build_struct_ok (tok : TabOk P tb) {fs : List (Nat × TypeId)} (hd : (tb t).d = .struct fs) (hall : fs.all (fun p => !(tb p.2).d.isNo) = true) {fr : Fr} {a : Act} (hf : FrRep g w σ fr a.tmps) {parts : Array (Nat × Operand)} {l : List C}
    (hl : vfill tb fs fr parts.toList ((tb t).zero.map .f) = some l) : ∃ v, (Instr.build t (parts.map fun (i, x) => (i, a.eval x))).run P w = .ok v w ∧ VRep g w σ (.a l) v := by
  have h := tok t
  have hd' : (tb t).d ≠ .no := by rw [hd]; simp
  obtain ⟨z, h1, h2⟩ := run_zero (P := P) h hd' w
  obtain ⟨fields, h3, h4⟩ := run_fields hd h
  have hc : CReps g w σ ((tb t).zero.map .f) z.cells.toList := by rw [h2]; exact zero_reps (zero_plain h hd')
  have hm := mapM_places (P := P) (tb := tb) (fields := fields.toList) (fun f hf => ⟨tok _, not_no (by
    have := List.all_eq_true.1 hall (f.offset, f.type) (by rw [← h4]; exact List.mem_map.2 ⟨f, hf, rfl⟩)
    simpa using this)⟩) w
  have hplace : ∀ i : Nat, (fields.toList.map fun f => (f.offset, (tb f.type).size))[i]? = (fs[i]?).map fun p => (p.1, (tb p.2).size) := fun i => by
    rw [← h4]; simp [Function.comp_def]
  obtain ⟨vs', h5, h6⟩ := fill_ok (place := fun i => (fields.toList.map fun f => (f.offset, (tb f.type).size))[i]?) (pl := fun _ => none) hf parts.toList ((tb t).zero.map .f) z.cells hc (l := l)
    (vfill tb fs fr) (fun cs => rfl) (fun i x r cs l hg => by
      simp only [vfill] at hg
      split at hg
      · rename_i off u lx e1 e2
        split at hg
        · rename_i hs
          split at hg
          · rename_i cs' e3
            exact ⟨off, lx, cs', by rw [hplace, e1, hs]; rfl, e2, e3, hg⟩
          · cases hg
        · cases hg
      · cases hg) hl
  refine ⟨.agg vs', ?_, ⟨vs'.toList, by simp, h6⟩⟩
  have hmm : (fields.mapM fun f => (do pure (f.offset, ← sizeOf f.type) : Sem (Nat × Nat))).run P w = .ok (fields.toList.map fun f => (f.offset, (tb f.type).size)).toArray w := by
    rw [Array.mapM_eq_mapM_toList]
    simp only [map_eq_pure_bind, Sem.run_bind, hm, Result.andThen, Sem.run_pure]
  simp only [Instr.build, Sem.run_bind, h1, Result.andThen, run_underlying h3, hmm]
  have e : (parts.map fun (i, x) => (i, a.eval x)).toList = parts.toList.map fun p => (p.1, a.eval p.2) := by simp
  rw [e]
  simp only [List.getElem?_toArray]
  rw [h5]
  rfl

theorem build_array_ok (tok : TabOk P tb) {n : Nat} {e : TypeId} (hd : (tb t).d = .array n e) (he : (tb e).d ≠ .no) {fr : Fr} {a : Act} (hf : FrRep g w σ fr a.tmps) {parts : Array (Nat × Operand)} {l : List C}
    (hl : vfillRow (tb e).size fr parts.toList ((tb t).zero.map .f) = some l) : ∃ v, (Instr.build t (parts.map fun (i, x) => (i, a.eval x))).run P w = .ok v w ∧ VRep g w σ (.a l) v := by
  have h := tok t
  have hd' : (tb t).d ≠ .no := by rw [hd]; simp
  obtain ⟨z, h1, h2⟩ := run_zero (P := P) h hd' w
  have h3 := h.fits
  rw [hd] at h3
  have hc : CReps g w σ ((tb t).zero.map .f) z.cells.toList := by rw [h2]; exact zero_reps (zero_plain h hd')
  obtain ⟨vs', h5, h6⟩ := fill_ok (place := fun i => some (i * (tb e).size, (tb e).size)) (pl := fun _ => none) hf parts.toList ((tb t).zero.map .f) z.cells hc (l := l)
    (vfillRow (tb e).size fr) (fun cs => rfl) (fun i x r cs l hg => by
      simp only [vfillRow] at hg
      split at hg
      · rename_i lx e2
        split at hg
        · rename_i hs
          split at hg
          · rename_i cs' e3
            exact ⟨_, lx, cs', by rw [hs], e2, e3, hg⟩
          · cases hg
        · cases hg
      · cases hg) hl
  refine ⟨.agg vs', ?_, ⟨vs'.toList, by simp, h6⟩⟩
  simp only [Instr.build, Sem.run_bind, h1, Result.andThen, run_underlying h3, run_sizeOf (tok e) he]
  have e : (parts.map fun (i, x) => (i, a.eval x)).toList = parts.toList.map fun p => (p.1, a.eval p.2) := by simp
  rw [e, h5]
  rfl

theorem rep_rep {l : List C} {vs : List Value} (h : CReps g w σ l vs) : ∀ (n : Nat), CReps g w σ (rep n l) ((List.range (n * vs.length)).map fun i => vs[i % vs.length]!)
  | 0 => by simp [rep, CReps]
  | n + 1 => by
    have ih := rep_rep h n
    have e : (List.range ((n + 1) * vs.length)).map (fun i => vs[i % vs.length]!) = vs ++ (List.range (n * vs.length)).map fun i => vs[i % vs.length]! := by
      rw [Nat.add_mul, Nat.one_mul, Nat.add_comm, List.range_add, List.map_append, List.map_map]
      congr 1
      · apply List.ext_getElem (by simp)
        intro i h1 h2
        simp [Nat.mod_eq_of_lt h2, h2]
      · apply List.map_congr_left
        intro i _
        simp [Nat.add_mod_left]
    rw [e]
    exact h.append ih

theorem buildSlice_ok (tok : TabOk P tb) {n : Nat} {e : TypeId} (hd : (tb t).d = .slice e) (he : (tb e).d ≠ .no) (hr : Rep g w σ) {fr : Fr} {a : Act} (hf : FrRep g w σ fr a.tmps) {parts : Array (Nat × Operand)} (hn : n * (tb e).size ≤ 16777216) (hn' : n ≤ maxLen) (hee : e ≤ 4294967295) {l : List C}
    (hl : vfillRow (tb e).size fr parts.toList (rep n ((tb e).zero.map .f)) = some l) {k : V → St → Prop} (hk : vfrzs prims l σ fun fs σ' => k (.c (.rs σ'.length e n)) (σ' ++ [.arr true e (tb e).size fs])) :
    ∃ r σ' g' w' v, (Instr.buildSlice t n (parts.map fun (i, x) => (i, a.eval x))).run P w = .ok v w' ∧ k r σ' ∧ Rep g' w' σ' ∧ Turn g w σ g' w' σ' ∧ VRep g' w' σ' r v := by
  have h := tok t
  obtain ⟨z, h1, h2⟩ := run_zero (P := P) (tok e) he w
  have h3 := h.fits
  rw [hd] at h3
  have hzl : z.cells.size = (tb e).size := by rw [← Array.length_toList, h2]; simp [zero_len (tok e) he]
  have hc : CReps g w σ ((tb e).zero.map .f) z.cells.toList := by rw [h2]; exact zero_reps (zero_plain (tok e) he)
  let row : Array Value := (Array.range (n * (tb e).size)).map (z.cells[· % z.cells.size]!)
  have hrow : CReps g w σ (rep n ((tb e).zero.map .f)) row.toList := by
    have := rep_rep hc n
    simp only [Array.length_toList, hzl] at this
    have e : row.toList = (List.range (n * (tb e).size)).map fun i => z.cells.toList[i % (tb e).size]! := by
      simp only [row, Array.toList_map, Array.toList_range, hzl]
      apply List.map_congr_left
      intro i _
      rw [getElem!_def, getElem!_def, Array.getElem?_toList]
    rw [e]
    exact this
  obtain ⟨vs', h5, h6⟩ := fill_ok (place := fun i => some (i * (tb e).size, (tb e).size)) (pl := fun _ => none) hf parts.toList (rep n ((tb e).zero.map .f)) row hrow (l := l)
    (vfillRow (tb e).size fr) (fun cs => rfl) (fun i x r cs l hg => by
      simp only [vfillRow] at hg
      split at hg
      · rename_i lx e2
        split at hg
        · rename_i hs
          split at hg
          · rename_i cs' e3
            exact ⟨_, lx, cs', by rw [hs], e2, e3, hg⟩
          · cases hg
        · cases hg
      · cases hg) hl
  have hll : l.length = n * (tb e).size := by
    have hgo : ∀ (parts : List (Nat × Operand)) (cs l : List C), vfillRow (tb e).size fr parts cs = some l → l.length = cs.length := by
      intro parts
      induction parts with
      | nil => intro cs l h; simp only [vfillRow] at h; cases h; rfl
      | cons p r ih =>
        intro cs l h
        obtain ⟨i, x⟩ := p
        simp only [vfillRow] at h
        split at h
        · split at h
          · split at h
            · rename_i cs' e3
              obtain ⟨q1, rfl⟩ := splice_spec e3
              rw [ih _ _ h]
              simp; omega
            · cases h
          · cases h
        · cases h
    rw [hgo _ _ _ hl]
    have := hrow.length
    simp [row] at this
    omega
  have h6l := h6.length
  simp at h6l
  obtain ⟨fs, σ1, g1, q1, q2, q3, q4⟩ := frzs_ok (P := P) l hr h6 hk
  have hfl := q3.length
  simp at hfl
  obtain ⟨g2, p1, p2, p3, p4⟩ := new_arr q1 e (tb e).size n (l := fs) (vs := vs'.toList) (0, 0) e (Nat.mod_eq_of_lt (Nat.lt_succ_of_le hee)).symm (.inl rfl) (by simp; omega) hn' (by simp; omega)
    (fun j a b => by
      obtain ⟨v, r1, r2⟩ := q3.get (i := j) (c := .f fs[j]) (by simp [a])
      rw [List.getElem?_eq_getElem b] at r1
      cases r1
      exact r2)
  simp only [Array.toArray_toList] at p1 p2
  refine ⟨_, _, g2, _, .slice (some ⟨w.heap.size, 0, none⟩) n n, ?_, q4, p1, q2.trans p2, ?_⟩
  · have hnn : ¬ (n * (tb e).size > 2 ^ 24) := by omega
    have ep : (parts.map fun (i, x) => (i, a.eval x)).toList = parts.toList.map fun p => (p.1, a.eval p.2) := by simp
    simp only [Instr.buildSlice, Sem.run_bind, run_underlying h3, Result.andThen, run_sizeOf (tok e) he, hnn, if_false, Sem.run_pure, ep]
    by_cases h0 : n * (tb e).size = 0
    · have hrow' : ∀ f : Nat → Value, (Array.range (n * (tb e).size)).map f = row := fun f => by simp [row, h0]
      rw [if_pos h0]
      simp only [Sem.run_bind, Sem.run_pure, Result.andThen, hrow', h5]
      rfl
    · rw [if_neg h0]
      simp only [Sem.run_bind, Sem.run_pure, Result.andThen, h1]
      change Sem.run P (match Instr.fill (fun i => some (i * (tb e).size, (tb e).size)) row (parts.toList.map fun p => (p.1, a.eval p.2)) with | some cells => _ | _ => _) w = _
      rw [h5]
      rfl
  · refine ⟨rfl, .arr true e (tb e).size fs, by simp, Nat.le_refl _, fun _ => ⟨?_, ?_, ?_⟩⟩
    · rw [p3, p4]; rfl
    · omega
    · rw [p4]; exact Nat.le_refl _
end
end Go.Dm
