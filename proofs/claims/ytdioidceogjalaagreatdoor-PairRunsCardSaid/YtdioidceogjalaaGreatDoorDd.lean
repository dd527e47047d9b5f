/- The plain machine: writing into an object, freezing a row, a row that moves. -/
import Derived.Test.YtdioidceogjalaaGreatDoorDc
namespace Go.Dm
set_option linter.unusedVariables false

def ownAt : Ob → Nat → Prop
  | .gone, _ => False
  | .arr false _ _ l, o => l.length ≤ o
  | _, _ => True

theorem own_iff {g : G} {σ : St} {b o : Nat} : Own g σ b o ↔ ∃ i ob, σ[i]? = some ob ∧ g.blk i = some b ∧ ownAt ob o := by
  constructor
  · rintro ⟨i, ob, h1, h2, h3⟩
    refine ⟨i, ob, h1, h2, ?_⟩
    revert h3
    cases ob with
    | arr wr e sz l => cases wr <;> simp [ownAt]
    | _ => simp [ownAt]
  · rintro ⟨i, ob, h1, h2, h3⟩
    refine ⟨i, ob, h1, h2, ?_⟩
    revert h3
    cases ob with
    | arr wr e sz l => cases wr <;> simp [ownAt]
    | _ => simp [ownAt]

theorem ownAt_far {ob : Ob} (h : live ob = true) : ∃ o, ownAt ob o := by
  cases ob with
  | gone => simp [live] at h
  | arr wr e sz l =>
    cases wr with
    | false => exact ⟨l.length, Nat.le_refl l.length⟩
    | true => exact ⟨0, trivial⟩
  | _ => exact ⟨0, trivial⟩

def _root_.Go.World.at (w : World) (b : Nat) (O : Obj) : World := { w with heap := w.heap.setIfInBounds b O }

theorem at_other {w : World} {b c : Nat} {O : Obj} (h : c ≠ b) : (w.at b O).heap[c]? = w.heap[c]? := by
  show (w.heap.setIfInBounds b O)[c]? = _
  rw [Array.getElem?_setIfInBounds_ne (Ne.symm h)]

theorem at_same {w : World} {b : Nat} {O : Obj} (h : b < w.heap.size) : (w.at b O).heap[b]? = some O := by
  show (w.heap.setIfInBounds b O)[b]? = _
  rw [Array.getElem?_setIfInBounds_self_of_lt h]

theorem cell_at_other {w : World} {b c o : Nat} {O : Obj} (h : c ≠ b) : (w.at b O).cell? ⟨c, o, none⟩ = w.cell? ⟨c, o, none⟩ := by
  simp [World.cell?, at_other h]

theorem lt_of_get {σ : St} {i : Nat} {ob : Ob} (h : σ[i]? = some ob) : i < σ.length := (List.getElem?_eq_some_iff.1 h).1

theorem get_set {σ : St} {i j : Nat} {ob ob' x : Ob} (hi : σ[i]? = some ob) : (σ.set i ob')[j]? = some x ↔ (j = i ∧ x = ob') ∨ (j ≠ i ∧ σ[j]? = some x) := by
  rw [List.getElem?_set]
  have := lt_of_get hi
  by_cases h : i = j
  · subst h; simp [this]; exact eq_comm
  · simp [h, Ne.symm h]

/-- An object is written in its place. -/
theorem write_turn {g : G} {w : World} {σ : St} (hr : Rep g w σ) {i b : Nat} {ob ob' : Ob} {O O' : Obj} (hi : σ[i]? = some ob) (hb : g.blk i = some b) (hl : live ob = true)
    (hO : w.heap[b]? = some O) (hcell : ∀ o, g.Z b o → (w.at b O').cell? ⟨b, o, none⟩ = w.cell? ⟨b, o, none⟩)
    (ht : ObTurn g g i ob ob') (hown : ∀ o, ownAt ob' o → ownAt ob o) : Turn g w σ g (w.at b O') (σ.set i ob') where
  os := rfl
  tape := rfl
  output := rfl
  size := by show w.heap.size ≤ (w.heap.setIfInBounds b O').size; simp
  whole c hc hn := by
    refine at_other fun e => ?_
    subst e
    obtain ⟨o, ho⟩ := ownAt_far hl
    exact hn o (own_iff.2 ⟨i, ob, hi, hb, ho⟩)
  zs c o hz := by
    refine ⟨hz, ?_⟩
    by_cases e : c = b
    · subst e; exact hcell o hz
    · exact cell_at_other e
  znew c o _ hz := .inl hz
  onew c o _ ho := by
    obtain ⟨j, x, h1, h2, h3⟩ := own_iff.1 ho
    rcases (get_set hi).1 h1 with ⟨rfl, rfl⟩ | ⟨h4, h5⟩
    · exact own_iff.2 ⟨j, ob, hi, h2, hown o h3⟩
    · exact own_iff.2 ⟨j, x, h5, h2, h3⟩
  turns j x hx := by
    by_cases e : j = i
    · subst e
      rw [hi] at hx; cases hx
      exact ⟨ob', (get_set hi).2 (.inl ⟨rfl, rfl⟩), ht⟩
    · exact ⟨x, (get_set hi).2 (.inr ⟨e, hx⟩), by cases x <;> simp [ObTurn]⟩
  blks _ _ _ _ := rfl

theorem write_rep {g : G} {w : World} {σ : St} (hr : Rep g w σ) {i b : Nat} {ob ob' : Ob} {O' : Obj} (hi : σ[i]? = some ob) (hb : g.blk i = some b) (hl : live ob = true)
    (ht : Turn g w σ g (w.at b O') (σ.set i ob')) (hl' : live ob' = true → live ob = true) (hown : ∀ o, ownAt ob' o → ownAt ob o)
    (hob : ObRep g (w.at b O') (σ.set i ob') i ob') : Rep g (w.at b O') (σ.set i ob') where
  ob j x hx := by
    rcases (get_set hi).1 hx with ⟨rfl, rfl⟩ | ⟨h4, h5⟩
    · exact hob
    · by_cases hlx : live x = true
      · exact (hr.ob j x h5).keep ht (fun c hc => at_other fun e => h4 (hr.inj j i x ob c h5 hi hlx hl hc (e ▸ hb))) rfl rfl
      · cases x <;> simp_all [live, ObRep]
  inj j k x y c hj hk lx ly hbj hbk := by
    have get : ∀ {m : Nat} {z : Ob}, (σ.set i ob')[m]? = some z → live z = true → ∃ z', σ[m]? = some z' ∧ live z' = true := by
      intro m z hz lz
      rcases (get_set hi).1 hz with ⟨rfl, rfl⟩ | ⟨h4, h5⟩
      · exact ⟨ob, hi, hl⟩
      · exact ⟨z, h5, lz⟩
    obtain ⟨x', hx', lx'⟩ := get hj lx
    obtain ⟨y', hy', ly'⟩ := get hk ly
    exact hr.inj j k x' y' c hx' hy' lx' ly' hbj hbk
  apart c o hz ho := by
    obtain ⟨j, x, h1, h2, h3⟩ := own_iff.1 ho
    rcases (get_set hi).1 h1 with ⟨rfl, rfl⟩ | ⟨h4, h5⟩
    · exact hr.apart c o hz (own_iff.2 ⟨j, ob, hi, h2, hown o h3⟩)
    · exact hr.apart c o hz (own_iff.2 ⟨j, x, h5, h2, h3⟩)
  inside c o hz := by
    have := hr.inside c o hz
    show c < (w.heap.setIfInBounds b O').size
    simpa using this

/-- A block of cells gets other cells. -/
theorem write_cells {g : G} {w : World} {σ : St} (hr : Rep g w σ) {i b : Nat} {l l' : List C} {vs : Array Value} {T : TypeId} {fz : Nat × Nat} {vs' : List Value}
    (hi : σ[i]? = some (.cells l)) (hb : g.blk i = some b) (hO : w.heap[b]? = some (.cells vs T fz)) (hf : Free vs.size fz) (hs : vs'.length = vs.size) (hl : CReps g w σ l' vs') :
    Rep g (w.at b (.cells vs'.toArray T fz)) (σ.set i (.cells l')) ∧ Turn g w σ g (w.at b (.cells vs'.toArray T fz)) (σ.set i (.cells l')) := by
  have ht := write_turn (ob' := .cells l') (O' := .cells vs'.toArray T fz) hr hi hb rfl hO
    (fun o hz => (hr.apart b o hz (own_iff.2 ⟨i, _, hi, hb, trivial⟩)).elim) (by simp [ObTurn]) (fun _ _ => trivial)
  have hlt : b < w.heap.size := (Array.getElem?_eq_some_iff.1 hO).1
  exact ⟨write_rep hr hi hb rfl ht (fun _ => rfl) (fun _ _ => trivial) ⟨b, vs'.toArray, T, fz, hb, at_same hlt, by simpa [hs] using hf, by simpa using CReps.turn ht l' vs' hl⟩, ht⟩

/-- A Builder's block written. -/
theorem write_bld {g : G} {w : World} {σ : St} (hr : Rep g w σ) {i b : Nat} {T : TypeId} {u u' : Bool} {x x' : C} {vs : Array Value} {v' : Value}
    (hi : σ[i]? = some (.bld T u x)) (hb : g.blk i = some b) (hO : w.heap[b]? = some (.cells vs T (0, 0))) (hl : CRep g w σ x' v') :
    Rep g (w.at b (.cells #[selfp u' b, v'] T (0, 0))) (σ.set i (.bld T u' x')) ∧ Turn g w σ g (w.at b (.cells #[selfp u' b, v'] T (0, 0))) (σ.set i (.bld T u' x')) := by
  have ht := write_turn (ob' := .bld T u' x') (O' := .cells #[selfp u' b, v'] T (0, 0)) hr hi hb rfl hO
    (fun o hz => (hr.apart b o hz (own_iff.2 ⟨i, _, hi, hb, trivial⟩)).elim) (by simp [ObTurn]) (fun _ _ => trivial)
  have hlt : b < w.heap.size := (Array.getElem?_eq_some_iff.1 hO).1
  exact ⟨write_rep hr hi hb rfl ht (fun _ => rfl) (fun _ _ => trivial) ⟨b, v', hb, at_same hlt, CRep.turn ht x' v' hl⟩, ht⟩

def G.freeze (g : G) (b n : Nat) : G := { g with Z := fun c o => g.Z c o ∨ (c = b ∧ o < n) }

/-- A row is frozen: its elements are never written again. -/
theorem freeze_arr {g : G} {w : World} {σ : St} (hr : Rep g w σ) {i : Nat} {wr : Bool} {e sz : Nat} {l : List F} (hi : σ[i]? = some (.arr wr e sz l)) :
    ∃ g', Rep g' w (σ.set i (.arr false e sz l)) ∧ Turn g w σ g' w (σ.set i (.arr false e sz l)) ∧ g'.blk = g.blk ∧ g'.cap = g.cap ∧
      (∀ b, g.blk i = some b → FRow g' w b 0 l) := by
  cases wr with
  | false =>
    have e1 : σ.set i (.arr false e sz l) = σ := by
      apply List.ext_getElem?
      intro j
      rw [List.getElem?_set]
      split
      · rename_i h; subst h; rw [if_pos (lt_of_get hi), hi]
      · rfl
    rw [e1]
    refine ⟨g, hr, Turn.refl _ _ _, rfl, rfl, fun b hb => FRow.of fun j x hx => ?_⟩
    rcases hr.ob i _ hi with ⟨h1, _, _⟩ | ⟨c, vs, T, fz, rest, h1, h2, h3, h4, h5, ⟨pre, h6, h7, h8⟩, h9⟩
    · rw [hb] at h1; cases h1
    · rw [hb] at h1; cases h1
      have hj := (List.getElem?_eq_some_iff.1 hx).1
      rw [Nat.zero_add]
      refine ⟨h9.1 rfl j hj, pre[j]'(by omega), ?_, ?_⟩
      · simp only [World.cell?, h2]
        have hp : pre.length = l.length := h7
        simp
        rw [← Array.getElem?_toList, h6, List.getElem?_append_left (by omega)]
        exact List.getElem?_eq_getElem (by omega)
      · have := h8 j hj (by omega)
        rw [(List.getElem?_eq_some_iff.1 hx).2] at this
        exact this
  | true =>
    have hg : ∀ {j : Nat} {x : Ob}, (σ.set i (.arr false e sz l))[j]? = some x ↔ (j = i ∧ x = .arr false e sz l) ∨ (j ≠ i ∧ σ[j]? = some x) := get_set hi
    have hob := hr.ob i _ hi
    -- the cells that are frozen
    let g' : G := { g with Z := fun c o => g.Z c o ∨ (g.blk i = some c ∧ o < l.length) }
    have hown : ∀ c o, Own g' (σ.set i (.arr false e sz l)) c o → Own g σ c o := by
      intro c o ho
      obtain ⟨j, x, h1, h2, h3⟩ := own_iff.1 ho
      rcases hg.1 h1 with ⟨rfl, rfl⟩ | ⟨h4, h5⟩
      · exact own_iff.2 ⟨j, _, hi, h2, trivial⟩
      · exact own_iff.2 ⟨j, x, h5, h2, h3⟩
    have hlt : ∀ c, g.blk i = some c → c < w.heap.size := fun c hc => hob.inside rfl hc
    have ht : Turn g w σ g' w (σ.set i (.arr false e sz l)) :=
      { os := rfl, tape := rfl, output := rfl, size := Nat.le_refl _, whole := fun _ _ _ => rfl, zs := fun c o hz => ⟨.inl hz, rfl⟩,
        znew := fun c o _ hz => hz.imp id fun ⟨h1, h2⟩ => own_iff.2 ⟨i, _, hi, h1, trivial⟩,
        onew := fun c o _ ho => hown c o ho,
        turns := fun j x hx => by
          by_cases h : j = i
          · subst h
            rw [hi] at hx; cases hx
            exact ⟨_, hg.2 (.inl ⟨rfl, rfl⟩), .inr ⟨rfl, rfl, rfl, rfl, rfl⟩⟩
          · exact ⟨x, hg.2 (.inr ⟨h, hx⟩), by cases x <;> simp [ObTurn, g']⟩,
        blks := fun _ _ _ _ => rfl }
    have hrow : ∀ b, g.blk i = some b → FRow g' w b 0 l := fun b hb => FRow.of fun j x hx => by
      rcases hob with ⟨h1, _, _⟩ | ⟨c, vs, T, fz, rest, h1, h2, h3, h4, h5, ⟨pre, h6, h7, h8⟩, h9⟩
      · rw [hb] at h1; cases h1
      · rw [hb] at h1; cases h1
        have hj := (List.getElem?_eq_some_iff.1 hx).1
        rw [Nat.zero_add]
        refine ⟨.inr ⟨hb, hj⟩, pre[j]'(by omega), ?_, ?_⟩
        · simp only [World.cell?, h2]
          simp
          rw [← Array.getElem?_toList, h6, List.getElem?_append_left (by omega)]
          exact List.getElem?_eq_getElem (by omega)
        · have := h8 j hj (by omega)
          rw [(List.getElem?_eq_some_iff.1 hx).2] at this
          exact FRep.turn ht.zs _ _ this
    refine ⟨g', ⟨?_, ?_, ?_, ?_⟩, ht, rfl, rfl, hrow⟩
    · intro j x hx
      rcases hg.1 hx with ⟨rfl, rfl⟩ | ⟨h4, h5⟩
      · rcases hob with h | ⟨c, vs, T, fz, rest, h1, h2, h3, h4, h5, ⟨pre, h6, h7, h8⟩, h9⟩
        · exact .inl h
        · exact .inr ⟨c, vs, T, fz, rest, h1, h2, h3, h4, h5, ⟨pre, h6, h7, fun k a b => FRep.turn ht.zs _ _ (h8 k a b)⟩, fun _ k hk => .inr ⟨h1, hk⟩, h9.2⟩
      · exact (hr.ob j x h5).keep ht (fun _ _ => rfl) rfl rfl
    · intro j k x y c hj hk lx ly hbj hbk
      have get : ∀ {m : Nat} {z : Ob}, (σ.set i (.arr false e sz l))[m]? = some z → live z = true → ∃ z', σ[m]? = some z' ∧ live z' = true := by
        intro m z hz lz
        rcases hg.1 hz with ⟨rfl, rfl⟩ | ⟨h4, h5⟩
        · exact ⟨_, hi, rfl⟩
        · exact ⟨z, h5, lz⟩
      obtain ⟨x', hx', lx'⟩ := get hj lx
      obtain ⟨y', hy', ly'⟩ := get hk ly
      exact hr.inj j k x' y' c hx' hy' lx' ly' hbj hbk
    · intro c o hz ho
      rcases hz with hz | ⟨h1, h2⟩
      · exact hr.apart c o hz (hown c o ho)
      · obtain ⟨j, x, k1, k2, k3⟩ := own_iff.1 ho
        rcases hg.1 k1 with ⟨rfl, rfl⟩ | ⟨k4, k5⟩
        · have k3' : l.length ≤ o := k3
          omega
        · have hlx : live x = true := by cases x <;> simp_all [live, ownAt]
          exact k4 (hr.inj j i x _ c k5 hi hlx rfl k2 h1)
    · intro c o hz
      rcases hz with hz | ⟨h1, _⟩
      · exact hr.inside c o hz
      · exact hlt c h1
end Go.Dm
