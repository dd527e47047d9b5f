/- The plain machine: appending, reslicing. -/
import Derived.Test.YtdioidceogjalaaGreatDoorDk
import Derived.Laws.AppendOwn
namespace Go.Dm
set_option linter.unusedVariables false
set_option linter.unusedSimpArgs false

section
variable {P : Program} {tb : Tab} {t : TypeId} {g : G} {w : World} {σ : St}

/-- Nothing but the ghost changes: a row, seen anew over the same block. -/
theorem re_arr (hr : Rep g w σ) {i : Nat} {wr : Bool} {e e' sz : Nat} {l l' : List F} (hi : σ[i]? = some (.arr wr e sz l)) (he : e < e') (hM : e' % 4294967296 = e % 4294967296) (hw : wr = false → l.length ≤ l'.length)
    (hv : (g.blk i = none ∧ l' = [] ∧ g.cap i = 0) ∨ ∃ b vs T fz pre rest, g.blk i = some b ∧ w.heap[b]? = some (.cells vs T fz) ∧ Free vs.size fz ∧ vs.size = g.cap i * sz ∧ g.cap i ≤ maxLen ∧ vs.toList = pre ++ rest ∧ CReps g w σ (l'.map .f) pre) :
    ∃ g', Rep g' w (σ.set i (.arr wr e' sz l')) ∧ Turn g w σ g' w (σ.set i (.arr wr e' sz l')) ∧ g'.blk = g.blk ∧ g'.cap = g.cap := by
  have hg : ∀ {j : Nat} {x : Ob}, (σ.set i (.arr wr e' sz l'))[j]? = some x ↔ (j = i ∧ x = .arr wr e' sz l') ∨ (j ≠ i ∧ σ[j]? = some x) := get_set hi
  have hob := hr.ob i _ hi
  let g' : G := { g with Z := fun c o => g.Z c o ∨ (wr = false ∧ g.blk i = some c ∧ l.length ≤ o ∧ o < l'.length) }
  have hown : ∀ c o, Own g' (σ.set i (.arr wr e' sz l')) c o → Own g σ c o := by
    intro c o ho
    obtain ⟨j, x, h1, h2, h3⟩ := own_iff.1 ho
    rcases hg.1 h1 with ⟨rfl, rfl⟩ | ⟨h4, h5⟩
    · refine own_iff.2 ⟨j, _, hi, h2, ?_⟩
      cases wr with
      | true => trivial
      | false => exact Nat.le_trans (hw rfl) h3
    · exact own_iff.2 ⟨j, x, h5, h2, h3⟩
  have ht : Turn g w σ g' w (σ.set i (.arr wr e' sz l')) :=
    { os := rfl, tape := rfl, output := rfl, size := Nat.le_refl _, whole := fun _ _ _ => rfl, zs := fun c o hz => ⟨.inl hz, rfl⟩,
      znew := fun c o _ hz => hz.imp id fun ⟨h0, h1, h2, _⟩ => own_iff.2 ⟨i, _, hi, h1, by subst h0; exact h2⟩,
      onew := fun c o _ ho => hown c o ho,
      turns := fun j x hx => by
        by_cases h : j = i
        · subst h
          rw [hi] at hx; cases hx
          exact ⟨_, hg.2 (.inl ⟨rfl, rfl⟩), .inl he⟩
        · exact ⟨x, hg.2 (.inr ⟨h, hx⟩), by cases x <;> simp [ObTurn, g']⟩,
      blks := fun _ _ _ _ => rfl }
  refine ⟨g', ⟨?_, ?_, ?_, ?_⟩, ht, rfl, rfl⟩
  · intro j x hx
    rcases hg.1 hx with ⟨rfl, rfl⟩ | ⟨h4, h5⟩
    · rcases hv with h | ⟨b, vs, T, fz, pre, rest, h1, h2, h3, h4, h5, h6, h7⟩
      · exact .inl h
      · have hl7 := h7.length
        refine .inr ⟨b, vs, T, fz, rest, h1, h2, h3, h4, h5, ⟨pre, h6, by simpa using hl7, fun k a c => ?_⟩, fun h0 k hk => ?_, ?_⟩
        · obtain ⟨v, q1, q2⟩ := h7.get (i := k) (c := .f l'[k]) (by simp [a])
          rw [List.getElem?_eq_getElem c] at q1
          cases q1
          exact FRep.turn ht.zs _ _ q2
        · by_cases hlt : k < l.length
          · left
            subst h0
            rcases hob with ⟨q1, _, _⟩ | ⟨c, vs', T', fz', rest', q1, _, _, _, _, _, q9⟩
            · rw [h1] at q1; cases q1
            · rw [h1] at q1; cases q1
              exact q9.1 rfl k hlt
          · exact .inr ⟨h0, h1, by omega, hk⟩
        · rcases hob with ⟨q1, _, _⟩ | ⟨c, vs', T', fz', rest', q1, q2, _, _, _, _, q9⟩
          · rw [h1] at q1; cases q1
          · rw [h1] at q1; cases q1
            rw [h2] at q2; cases q2
            rw [q9.2, hM]
    · exact (hr.ob j x h5).keep ht (fun _ _ => rfl) rfl rfl
  · intro j k x y c hj hk lx ly hbj hbk
    have get : ∀ {m : Nat} {z : Ob}, (σ.set i (.arr wr e' sz l'))[m]? = some z → live z = true → ∃ z', σ[m]? = some z' ∧ live z' = true := by
      intro m z hz lz
      rcases hg.1 hz with ⟨rfl, rfl⟩ | ⟨h4, h5⟩
      · exact ⟨_, hi, rfl⟩
      · exact ⟨z, h5, lz⟩
    obtain ⟨x', hx', lx'⟩ := get hj lx
    obtain ⟨y', hy', ly'⟩ := get hk ly
    exact hr.inj j k x' y' c hx' hy' lx' ly' hbj hbk
  · intro c o hz ho
    rcases hz with hz | ⟨h0, h1, h2, h3⟩
    · exact hr.apart c o hz (hown c o ho)
    · obtain ⟨j, x, k1, k2, k3⟩ := own_iff.1 ho
      rcases hg.1 k1 with ⟨rfl, rfl⟩ | ⟨k4, k5⟩
      · subst h0
        have k3' : l'.length ≤ o := k3
        omega
      · have hlx : live x = true := by cases x <;> simp_all [live, ownAt]
        exact k4 (hr.inj j i x _ c k5 hi hlx rfl k2 h1)
  · intro c o hz
    rcases hz with hz | ⟨_, h1, _, _⟩
    · exact hr.inside c o hz
    · exact hob.inside rfl h1

/-- Cells behind a row's elements are written. -/
theorem tail_arr (hr : Rep g w σ) {i b : Nat} {wr : Bool} {e sz : Nat} {l : List F} (hi : σ[i]? = some (.arr wr e sz l)) (hb : g.blk i = some b) {vs : Array Value} {T : TypeId} {fz : Nat × Nat} (hO : w.heap[b]? = some (.cells vs T fz)) (hf : Free vs.size fz)
    (hc : vs.size = g.cap i * sz) (hm : g.cap i ≤ maxLen) {news : List Value} (hfit : l.length + news.length ≤ vs.size) :
    Rep g (w.at b (.cells (vs.toList.take l.length ++ news ++ vs.toList.drop (l.length + news.length)).toArray T fz)) σ ∧
    Turn g w σ g (w.at b (.cells (vs.toList.take l.length ++ news ++ vs.toList.drop (l.length + news.length)).toArray T fz)) σ := by
  have hlt : b < w.heap.size := (Array.getElem?_eq_some_iff.1 hO).1
  have hset : σ.set i (.arr wr e sz l) = σ := by
    apply List.ext_getElem?
    intro j
    rw [List.getElem?_set]
    split
    · rename_i h; subst h; rw [if_pos (lt_of_get hi), hi]
    · rfl
  have hsz : (vs.toList.take l.length ++ news ++ vs.toList.drop (l.length + news.length)).length = vs.size := by simp; omega
  have ht := write_turn (ob' := .arr wr e sz l) (O' := .cells (vs.toList.take l.length ++ news ++ vs.toList.drop (l.length + news.length)).toArray T fz) hr hi hb rfl hO
    (fun o hz => by
      have hno := hr.apart b o hz
      have hlo : o < l.length := by
        rcases Nat.lt_or_ge o l.length with h | h
        · exact h
        · exact (hno (own_iff.2 ⟨i, _, hi, hb, by cases wr with | true => trivial | false => exact h⟩)).elim
      rw [cell_of (at_same hlt), cell_of hO]
      simp only [List.append_assoc]
      rw [List.getElem?_append_left (by simp; omega), List.getElem?_take, if_pos hlo])
    (by right; exact ⟨rfl, rfl, rfl, rfl, rfl⟩) (fun _ h => h)
  have hr' := write_rep (ob' := .arr wr e sz l) hr hi hb rfl ht (fun _ => rfl) (fun _ h => h) (by
    rcases hr.ob i _ hi with ⟨h1, _, _⟩ | ⟨c, vs', T', fz', rest, h1, h2, h3, h4, h5, ⟨pre, h6, h7, h8⟩, h9⟩
    · rw [hb] at h1; cases h1
    · rw [hb] at h1; cases h1
      rw [hO] at h2; cases h2
      refine .inr ⟨b, _, T, fz, news ++ vs.toList.drop (l.length + news.length), hb, at_same hlt, by rw [List.size_toArray, hsz]; exact hf, by rw [List.size_toArray, hsz]; exact hc, hm, ⟨pre, ?_, h7, fun j a c => FRep.turn ht.zs _ _ (h8 j a c)⟩, h9⟩
      have : vs.toList.take l.length = pre := by rw [h6, ← h7]; exact List.take_left
      rw [this]
      simp [List.append_assoc])
  rw [hset] at ht hr'
  exact ⟨hr', ht⟩

theorem drew_rep (hr : Rep g w σ) : Rep g w.drew σ ∧ Turn g w σ g w.drew σ := by
  have ht : Turn g w σ g w.drew σ :=
    ⟨rfl, rfl, rfl, Nat.le_refl _, fun _ _ _ => rfl, fun _ _ h => ⟨h, rfl⟩, fun _ _ _ h => .inl h, fun _ _ _ h => h, fun i ob h => ⟨ob, h, by cases ob <;> simp [ObTurn]⟩, fun _ _ _ _ => rfl⟩
  exact ⟨⟨fun i ob h => (hr.ob i ob h).keep ht (fun _ _ => rfl) rfl rfl, hr.inj, hr.apart, hr.inside⟩, ht⟩

/-- A row moves into a new block. -/
theorem move_arr (hr : Rep g w σ) {i : Nat} {wr : Bool} {e sz : Nat} {l l' : List F} (hi : σ[i]? = some (.arr wr e sz l)) (T : TypeId) {e' : Nat} (he : e < e') (hT : T = e' % 4294967296) (cap : Nat) {vs : List Value} (hc : vs.length = cap * sz) (hm : cap ≤ maxLen) {pre rest : List Value} (hv : vs = pre ++ rest)
    (hl : CReps g w σ (l'.map .f) pre) :
    ∃ g', Rep g' (w.alloc (.cells vs.toArray T)) (σ.set i (.arr wr e' sz l')) ∧ Turn g w σ g' (w.alloc (.cells vs.toArray T)) (σ.set i (.arr wr e' sz l')) ∧ g'.blk i = some w.heap.size ∧ g'.cap i = cap := by
  have hg : ∀ {j : Nat} {x : Ob}, (σ.set i (.arr wr e' sz l'))[j]? = some x ↔ (j = i ∧ x = .arr wr e' sz l') ∨ (j ≠ i ∧ σ[j]? = some x) := get_set hi
  let g' : G := { Z := fun c o => g.Z c o ∨ (wr = false ∧ c = w.heap.size ∧ o < l'.length), blk := fun j => if j = i then some w.heap.size else g.blk j, cap := fun j => if j = i then cap else g.cap j }
  have hown : ∀ c o, c < w.heap.size → Own g' (σ.set i (.arr wr e' sz l')) c o → Own g σ c o := by
    intro c o hc ho
    obtain ⟨j, x, h1, h2, h3⟩ := own_iff.1 ho
    rcases hg.1 h1 with ⟨rfl, rfl⟩ | ⟨h4, h5⟩
    · simp [g'] at h2; omega
    · exact own_iff.2 ⟨j, x, h5, by simpa [g', h4] using h2, h3⟩
  have ht : Turn g w σ g' (w.alloc (.cells vs.toArray T)) (σ.set i (.arr wr e' sz l')) :=
    { os := rfl, tape := rfl, output := rfl, size := by show w.heap.size ≤ (w.heap.push _).size; simp, whole := fun b hb _ => heap_push_old hb,
      zs := fun c o hz => ⟨.inl hz, cell_push_old (hr.inside c o hz)⟩,
      znew := fun c o hc hz => hz.imp id fun ⟨_, h1, _⟩ => absurd hc (by omega),
      onew := fun c o hc ho => hown c o hc ho,
      turns := fun j x hx => by
        by_cases h : j = i
        · subst h
          rw [hi] at hx; cases hx
          exact ⟨_, hg.2 (.inl ⟨rfl, rfl⟩), .inl he⟩
        · exact ⟨x, hg.2 (.inr ⟨h, hx⟩), by cases x <;> simp [ObTurn, g', h]⟩,
      blks := fun j x hx hrow => by
        by_cases h : j = i
        · subst h
          rw [hi] at hx; cases hx
          simp [Ob.row] at hrow
        · simp [g', h] }
  refine ⟨g', ⟨?_, ?_, ?_, ?_⟩, ht, by simp [g'], by simp [g']⟩
  · intro j x hx
    rcases hg.1 hx with ⟨rfl, rfl⟩ | ⟨h4, h5⟩
    · have hl7 := hl.length
      refine .inr ⟨w.heap.size, vs.toArray, T, (0, 0), rest, by simp [g'], heap_push_new, .inl rfl, by simpa [g'] using hc, by simpa [g'] using hm, ⟨pre, by simpa using hv, by simpa using hl7, fun k a c => ?_⟩, fun h0 k hk => .inr ⟨h0, rfl, hk⟩, hT⟩
      obtain ⟨v, q1, q2⟩ := hl.get (i := k) (c := .f l'[k]) (by simp [a])
      rw [List.getElem?_eq_getElem c] at q1
      cases q1
      exact FRep.turn ht.zs _ _ q2
    · by_cases hl : live x = true
      · exact (hr.ob j x h5).keep ht (fun b hb => heap_push_old ((hr.ob j x h5).inside hl hb)) (by simp [g', h4]) (by simp [g', h4])
      · cases x <;> simp_all [live, ObRep]
  · intro j k x y c hj hk lx ly hbj hbk
    have get : ∀ {m : Nat} {z : Ob}, (σ.set i (.arr wr e' sz l'))[m]? = some z → live z = true → g'.blk m = some c → (m = i ∧ c = w.heap.size) ∨ (m ≠ i ∧ σ[m]? = some z ∧ g.blk m = some c ∧ c < w.heap.size) := by
      intro m z hz lz hb
      rcases hg.1 hz with ⟨rfl, rfl⟩ | ⟨h4, h5⟩
      · left; simp [g'] at hb; exact ⟨rfl, hb.symm⟩
      · right
        simp only [g', h4, if_false] at hb
        exact ⟨h4, h5, hb, (hr.ob m z h5).inside lz hb⟩
    rcases get hj lx hbj with ⟨h1, h2⟩ | ⟨h1, h2, h3, h4⟩ <;> rcases get hk ly hbk with ⟨k1, k2⟩ | ⟨k1, k2, k3, k4⟩
    · omega
    · omega
    · omega
    · exact hr.inj j k x y c h2 k2 lx ly h3 k3
  · intro c o hz ho
    rcases hz with hz | ⟨h0, rfl, h2⟩
    · exact hr.apart c o hz (hown c o (hr.inside c o hz) ho)
    · obtain ⟨j, x, k1, k2, k3⟩ := own_iff.1 ho
      rcases hg.1 k1 with ⟨rfl, rfl⟩ | ⟨k4, k5⟩
      · subst h0
        have k3' : l'.length ≤ o := k3
        omega
      · have hlx : live x = true := by cases x <;> simp_all [live, ownAt]
        simp only [g', k4, if_false] at k2
        have := (hr.ob j x k5).inside hlx k2
        omega
  · intro c o hz
    show c < (w.heap.push _).size
    rw [Array.size_push]
    rcases hz with hz | ⟨_, rfl, _⟩
    · have := hr.inside c o hz; omega
    · omega

/-- A row without a block. -/
theorem push_none (hr : Rep g w σ) (sz : Nat) : ∃ g', Rep g' w (σ ++ [.arr true 0 sz []]) ∧ Turn g w σ g' w (σ ++ [.arr true 0 sz []]) ∧ g'.blk σ.length = none ∧ g'.cap σ.length = 0 := by
  let g' : G := { g with blk := fun j => if j = σ.length then none else g.blk j, cap := fun j => if j = σ.length then 0 else g.cap j }
  have get : ∀ {m : Nat} {x : Ob}, (σ ++ [.arr true 0 sz []])[m]? = some x → (m = σ.length ∧ x = .arr true 0 sz []) ∨ (m ≠ σ.length ∧ σ[m]? = some x) := by
    intro m x hx
    by_cases hm : m = σ.length
    · subst hm; left; simp at hx; exact ⟨rfl, hx.symm⟩
    · right
      have hlt : m < σ.length := by
        have := (List.getElem?_eq_some_iff.1 hx).1
        simp at this
        omega
      rw [List.getElem?_append_left hlt] at hx
      exact ⟨hm, hx⟩
  have hown : ∀ c o, Own g' (σ ++ [.arr true 0 sz []]) c o → Own g σ c o := by
    intro c o ho
    obtain ⟨j, x, h1, h2, h3⟩ := own_iff.1 ho
    rcases get h1 with ⟨rfl, rfl⟩ | ⟨h4, h5⟩
    · simp [g'] at h2
    · exact own_iff.2 ⟨j, x, h5, by simpa [g', h4] using h2, h3⟩
  have ht : Turn g w σ g' w (σ ++ [.arr true 0 sz []]) :=
    { os := rfl, tape := rfl, output := rfl, size := Nat.le_refl _, whole := fun _ _ _ => rfl, zs := fun c o hz => ⟨hz, rfl⟩, znew := fun c o _ hz => .inl hz, onew := fun c o _ ho => hown c o ho,
      turns := fun j x hx => by
        have hlt := lt_of_get hx
        have : j ≠ σ.length := by omega
        exact ⟨x, by rw [List.getElem?_append_left hlt]; exact hx, by cases x <;> simp [ObTurn, g', this]⟩,
      blks := fun j x hx _ => by
        have hlt := lt_of_get hx
        have : j ≠ σ.length := by omega
        simp [g', this] }
  refine ⟨g', ⟨?_, ?_, ?_, ?_⟩, ht, by simp [g'], by simp [g']⟩
  · intro j x hx
    rcases get hx with ⟨rfl, rfl⟩ | ⟨h4, h5⟩
    · exact .inl ⟨by simp [g'], rfl, by simp [g']⟩
    · exact (hr.ob j x h5).keep ht (fun _ _ => rfl) (by simp [g', h4]) (by simp [g', h4])
  · intro j k x y c hj hk lx ly hbj hbk
    rcases get hj with ⟨rfl, rfl⟩ | ⟨h4, h5⟩
    · simp [g'] at hbj
    · rcases get hk with ⟨rfl, rfl⟩ | ⟨h6, h7⟩
      · simp [g'] at hbk
      · simp only [g', h4, h6, if_false] at hbj hbk
        exact hr.inj j k x y c h5 h7 lx ly hbj hbk
  · intro c o hz ho
    exact hr.apart c o hz (hown c o ho)
  · exact hr.inside

/-- The values of a frozen row. -/
theorem frow_vals {cs : List F} {b o : Nat} (h : FRow g w b o cs) : ∃ vs : List Value, vs.length = cs.length ∧ (∀ j v, vs[j]? = some v → w.cell? ⟨b, o + j, none⟩ = some v) ∧ CReps g w σ (cs.map .f) vs := by
  induction cs generalizing o with
  | nil => exact ⟨[], rfl, by simp, rfl⟩
  | cons y r ih =>
    obtain ⟨_, ⟨v, hv, hy⟩, hrr⟩ := h
    obtain ⟨vs, h3, h4, h5⟩ := ih hrr
    refine ⟨v :: vs, by simp [h3], fun j u hj => ?_, v, vs, rfl, hy, h5⟩
    cases j with
    | zero => simp at hj; subst hj; exact hv
    | succ j =>
      rw [show o + (j + 1) = o + 1 + j from by omega]
      exact h4 j u (by simpa using hj)

theorem arr_vals (hr : Rep g w σ) {i : Nat} {wr : Bool} {e sz : Nat} {l : List F} (hi : σ[i]? = some (.arr wr e sz l)) {b : Nat} (hb : g.blk i = some b) :
    ∃ vs : List Value, vs.length = l.length ∧ (∀ j v, vs[j]? = some v → w.cell? ⟨b, j, none⟩ = some v) ∧ CReps g w σ (l.map .f) vs := by
  rcases hr.ob i _ hi with ⟨k1, _, _⟩ | ⟨c, vs, T, fz, rest, k1, k2, k3, k4, k5, ⟨pre, k6, k7, k8⟩, k9⟩
  · rw [hb] at k1; cases k1
  · rw [hb] at k1; cases k1
    refine ⟨pre, k7, fun j v hv => ?_, freps k7 k8⟩
    rw [cell_of k2, k6, List.getElem?_append_left (List.getElem?_eq_some_iff.1 hv).1]
    exact hv

/-- The source of an append. -/
theorem src_ok (tok : TabOk P tb) (hr : Rep g w σ) {u : TypeId} {sz : Nat} {y : V} {v : Value} (hy : VRep g w σ y v) {k : Nat → List F → Prop} (hk : vsrc prims (tb u).d sz y σ k) :
    ∃ m new news, k m new ∧ (Builtin.lenOf v).run P w = .ok m w ∧ (∀ w2, w2 = w ∨ w2 = w.drew → (Builtin.firstCells sz m v).run P w2 = .ok news.toArray w2) ∧ news.length = m * sz ∧ CReps g w σ (new.map .f) news ∧
      ((∃ d, P.underlying u = some (.slice d)) ∨ P.underlying u = some .string) := by
  have h3 := (tok u).fits
  unfold vsrc at hk
  split at hk
  · rename_i e hd
    rw [hd] at h3
    have : v = .slice none 0 0 := hy
    subst this
    exact ⟨0, [], [], hk, rfl, fun w2 _ => by simp [Builtin.firstCells], by simp, rfl, .inl ⟨_, h3⟩⟩
  · rename_i e n cs hd
    rw [hd] at h3
    obtain ⟨hlen, hk⟩ := hk
    have hlen' : cs.length = n * sz := hlen
    obtain ⟨a, cap, rfl, h4, h5, h6⟩ := hy
    rcases h6 with ⟨rfl, rfl, rfl⟩ | ⟨b, o, rfl, h6⟩
    · exact ⟨0, [], [], hk, rfl, fun w2 _ => by simp [Builtin.firstCells], by simp, rfl, .inl ⟨_, h3⟩⟩
    · obtain ⟨vs, q1, q2, q3⟩ := frow_vals (σ := σ) h6
      refine ⟨n, cs, vs, hk, rfl, fun w2 h2 => run_firstCells_some w2 sz n ⟨b, o, none⟩ n cap vs (by omega) (fun j u hu => ?_), by omega, q3, .inl ⟨_, h3⟩⟩
      rw [add_addr]
      rcases h2 with rfl | rfl
      · exact q2 j u hu
      · exact q2 j u hu
  · rename_i e o ep n hd
    rw [hd] at h3
    split at hk
    · rename_i wr e0 s0 l ho
      obtain ⟨he, hs, hk⟩ := hk
      have he' : ep = e0 := he
      have hs' : sz = s0 := hs
      subst he' hs'
      obtain ⟨_, ob, h1, h2⟩ := hy
      rw [ho] at h1; cases h1
      obtain ⟨rfl, h4, h5⟩ := h2.2 rfl
      cases hb : g.blk o with
      | none =>
        rcases hr.ob o _ ho with ⟨k1, k2, k3⟩ | ⟨c, vs, T, fz, rest, k1, _⟩
        · have hn : n = 0 := by omega
          subst hn k2
          exact ⟨0, [], [], hk, rfl, fun w2 _ => by simp [Builtin.firstCells], by simp, rfl, .inl ⟨_, h3⟩⟩
        · rw [hb] at k1; cases k1
      | some b =>
        obtain ⟨vs, q1, q2, q3⟩ := arr_vals hr ho hb
        refine ⟨n, l, vs, hk, rfl, fun w2 h2 => run_firstCells_some w2 sz n ⟨b, 0, none⟩ n _ vs (by omega) (fun j u hu => ?_), by omega, q3, .inl ⟨_, h3⟩⟩
        rw [add_addr, Nat.zero_add]
        rcases h2 with rfl | rfl
        · exact q2 j u hu
        · exact q2 j u hu
    · exact hk.elim
  · rename_i s hd
    rw [hd] at h3
    obtain ⟨hs, hk⟩ := hk
    have hs' : sz = 1 := hs
    subst hs'
    have := rep_str hy
    subst this
    refine ⟨s.length, _, (s.map fun b => Value.int .u8 b.toNat), hk, rfl, fun w2 _ => ?_, by simp, ?_, .inr h3⟩
    · simp only [Builtin.firstCells, Sem.run_pure]
      congr 1
      apply Array.ext'
      have e : ((ByteArray.mk s.toArray).extract 0 s.length).data = s.toArray := by
        rw [ByteArray.data_extract]
        show s.toArray.extract 0 s.length = s.toArray
        simp
      rw [e]
      simp
    · have : ∀ s : List UInt8, CReps g w σ ((s.map fun b => F.int .u8 b.toNat).map .f) (s.map fun b => Value.int .u8 b.toNat) := by
        intro s
        induction s with
        | nil => rfl
        | cons b r ih => exact ⟨_, _, rfl, rfl, ih⟩
      exact this s
  · exact hk.elim
end
end Go.Dm
