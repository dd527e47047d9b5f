/- The plain machine: making an object, writing into one. -/
import Derived.Test.YtdioidceogjalaaGreatDoorDb
namespace Go.Dm
set_option linter.unusedVariables false

theorem KVRep.turn {g g' : G} {w w' : World} {σ σ' : St} (h : ∀ b o, g.Z b o → g'.Z b o ∧ w'.cell? ⟨b, o, none⟩ = w.cell? ⟨b, o, none⟩) : ∀ {kv : List (List F × List F)} {es : List MapEntry}, KVRep g w σ kv es → KVRep g' w' σ' kv es
  | [], _, hx => hx
  | (k, v) :: r, es, hx => by
    obtain ⟨e, er, rfl, k1, k2, ⟨ks, h1, h2, h3⟩, ⟨vs, h4, h5, h6⟩, h7⟩ := hx
    exact ⟨e, er, rfl, k1, k2, ⟨ks, h1, h2, fun i a b => FRep.turn h _ _ (h3 i a b)⟩, ⟨vs, h4, h5, fun i a b => FRep.turn h _ _ (h6 i a b)⟩, KVRep.turn h h7⟩

theorem ObRep.keep {g g' : G} {w w' : World} {σ σ' : St} (h : Turn g w σ g' w' σ') {i : Nat} {ob : Ob} (hb : ∀ b, g.blk i = some b → w'.heap[b]? = w.heap[b]?) (hk : g'.blk i = g.blk i) (hc : g'.cap i = g.cap i)
    (ho : ObRep g w σ i ob) : ObRep g' w' σ' i ob := by
  cases ob with
  | cells l =>
    obtain ⟨b, vs, T, fz, h1, h2, h3, h4⟩ := ho
    exact ⟨b, vs, T, fz, hk.trans h1, (hb b h1).trans h2, h3, CReps.turn h l _ h4⟩
  | arr wr e sz l =>
    rcases ho with ⟨h1, h2, h3⟩ | ⟨b, vs, T, fz, rest, h1, h2, h3, h4, h5, ⟨pre, h6, h7, h8⟩, h9⟩
    · exact .inl ⟨hk.trans h1, h2, hc.trans h3⟩
    · exact .inr ⟨b, vs, T, fz, rest, hk.trans h1, (hb b h1).trans h2, h3, by rw [hc]; exact h4, by rw [hc]; exact h5, ⟨pre, h6, h7, fun j a c => FRep.turn h.zs _ _ (h8 j a c)⟩, fun hw j hj => (h.zs b j (h9.1 hw j hj)).1, h9.2⟩
  | map kv =>
    obtain ⟨b, es, clock, h1, h2, h3⟩ := ho
    exact ⟨b, es, clock, hk.trans h1, (hb b h1).trans h2, KVRep.turn h.zs h3⟩
  | bld T u x =>
    obtain ⟨b, v, h1, h2, h3⟩ := ho
    exact ⟨b, v, hk.trans h1, (hb b h1).trans h2, CRep.turn h _ _ h3⟩
  | gone => trivial

theorem ObRep.inside {g : G} {w : World} {σ : St} {i : Nat} {ob : Ob} (ho : ObRep g w σ i ob) (hl : live ob = true) {b : Nat} (hb : g.blk i = some b) : b < w.heap.size := by
  have lt : ∀ {c : Nat} {x : Obj}, w.heap[c]? = some x → c < w.heap.size := fun h => (Array.getElem?_eq_some_iff.1 h).1
  cases ob with
  | cells l => obtain ⟨c, vs, T, fz, h1, h2, _⟩ := ho; rw [hb] at h1; cases h1; exact lt h2
  | arr wr e sz l =>
    rcases ho with ⟨h1, _, _⟩ | ⟨c, vs, T, fz, rest, h1, h2, _⟩
    · rw [hb] at h1; cases h1
    · rw [hb] at h1; cases h1; exact lt h2
  | map kv => obtain ⟨c, es, clock, h1, h2, _⟩ := ho; rw [hb] at h1; cases h1; exact lt h2
  | bld T u x => obtain ⟨c, v, h1, h2, _⟩ := ho; rw [hb] at h1; cases h1; exact lt h2
  | gone => simp [live] at hl

theorem Own.inside {g : G} {w : World} {σ : St} (hr : Rep g w σ) {b o : Nat} (h : Own g σ b o) : b < w.heap.size := by
  obtain ⟨i, ob, h1, h2, h3⟩ := h
  refine (hr.ob i ob h1).inside ?_ h2
  cases ob <;> simp_all [live]

def G.push (g : G) (i b cap : Nat) : G := { g with blk := fun j => if j = i then some b else g.blk j, cap := fun j => if j = i then cap else g.cap j }

theorem Own.push {g : G} {σ : St} {ob : Ob} {s cap b o : Nat} (h : Own (g.push σ.length s cap) (σ ++ [ob]) b o) : Own g σ b o ∨ b = s := by
  obtain ⟨i, ob', h1, h2, h3⟩ := h
  by_cases hi : i = σ.length
  · subst hi
    right
    simp [G.push] at h2
    exact h2.symm
  · left
    have hlt : i < σ.length := by
      have := (List.getElem?_eq_some_iff.1 h1).1
      simp at this
      omega
    rw [List.getElem?_append_left hlt] at h1
    simp only [G.push, hi, if_false] at h2
    exact ⟨i, ob', h1, h2, h3⟩

theorem heap_push_old {w : World} {O : Obj} {b : Nat} (h : b < w.heap.size) : (w.alloc O).heap[b]? = w.heap[b]? := by
  show (w.heap.push O)[b]? = _
  rw [Array.getElem?_push, if_neg (by omega)]

theorem cell_push_old {w : World} {O : Obj} {b o : Nat} (h : b < w.heap.size) : (w.alloc O).cell? ⟨b, o, none⟩ = w.cell? ⟨b, o, none⟩ := by
  simp [World.cell?, heap_push_old h]

/-- A new object in a new block. -/
theorem push_turn {g : G} {w : World} {σ : St} (hr : Rep g w σ) (O : Obj) (ob : Ob) (cap : Nat) :
    Turn g w σ (g.push σ.length w.heap.size cap) (w.alloc O) (σ ++ [ob]) where
  os := rfl
  tape := rfl
  output := rfl
  size := by show w.heap.size ≤ (w.heap.push O).size; simp
  whole b hb hn := heap_push_old hb
  zs b o hz := ⟨hz, cell_push_old (hr.inside b o hz)⟩
  znew b o hb hz := .inl hz
  onew b o hb ho := by
    rcases ho.push with h | h
    · exact h
    · omega
  turns i x hx := by
    have hlt : i < σ.length := (List.getElem?_eq_some_iff.1 hx).1
    refine ⟨x, by rw [List.getElem?_append_left hlt]; exact hx, ?_⟩
    have : i ≠ σ.length := by omega
    cases x <;> simp [ObTurn, G.push, this]
  blks i x hx _ := by
    have hlt : i < σ.length := (List.getElem?_eq_some_iff.1 hx).1
    have : i ≠ σ.length := by omega
    simp [G.push, this]

theorem push_rep {g : G} {w : World} {σ : St} (hr : Rep g w σ) (O : Obj) (ob : Ob) (cap : Nat)
    (hob : Turn g w σ (g.push σ.length w.heap.size cap) (w.alloc O) (σ ++ [ob]) → ObRep (g.push σ.length w.heap.size cap) (w.alloc O) (σ ++ [ob]) σ.length ob) :
    Rep (g.push σ.length w.heap.size cap) (w.alloc O) (σ ++ [ob]) where
  ob i x hx := by
    have ht := push_turn hr O ob cap
    by_cases hi : i = σ.length
    · subst hi
      simp at hx
      subst hx
      exact hob ht
    · have hlt : i < σ.length := by
        have := (List.getElem?_eq_some_iff.1 hx).1
        simp at this
        omega
      rw [List.getElem?_append_left hlt] at hx
      have h0 := hr.ob i x hx
      by_cases hl : live x = true
      · exact h0.keep ht (fun b hb => heap_push_old (h0.inside hl hb)) (by simp [G.push, hi]) (by simp [G.push, hi])
      · cases x <;> simp_all [live, ObRep]
  inj i j a b k hi hj la lb hbi hbj := by
    have get : ∀ {m : Nat} {x : Ob}, (σ ++ [ob])[m]? = some x → live x = true → (g.push σ.length w.heap.size cap).blk m = some k → (m = σ.length ∧ k = w.heap.size) ∨ (m < σ.length ∧ σ[m]? = some x ∧ g.blk m = some k ∧ k < w.heap.size) := by
      intro m x hx hl hb
      by_cases hm : m = σ.length
      · left; refine ⟨hm, ?_⟩; simp [G.push, hm] at hb; exact hb.symm
      · right
        have hlt : m < σ.length := by
          have := (List.getElem?_eq_some_iff.1 hx).1
          simp at this
          omega
        rw [List.getElem?_append_left hlt] at hx
        simp only [G.push, hm, if_false] at hb
        exact ⟨hlt, hx, hb, (hr.ob m x hx).inside hl hb⟩
    rcases get hi la hbi with ⟨h1, h2⟩ | ⟨h1, h2, h3, h4⟩ <;> rcases get hj lb hbj with ⟨k1, k2⟩ | ⟨k1, k2, k3, k4⟩
    · omega
    · omega
    · omega
    · exact hr.inj i j a b k h2 k2 la lb h3 k3
  apart b o hz ho := by
    rcases ho.push with h | h
    · exact hr.apart b o hz h
    · have := hr.inside b o hz; omega
  inside b o hz := by
    have := hr.inside b o hz
    show b < (w.heap.push O).size
    simp; omega

theorem heap_push_new {w : World} {O : Obj} : (w.alloc O).heap[w.heap.size]? = some O := by
  show (w.heap.push O)[w.heap.size]? = _
  rw [Array.getElem?_push, if_pos rfl]

/-- A new block of cells. -/
theorem new_cells {g : G} {w : World} {σ : St} (hr : Rep g w σ) (T : TypeId) {l : List C} {vs : List Value} (hl : CReps g w σ l vs) :
    ∃ g', Rep g' (w.alloc (.cells vs.toArray T)) (σ ++ [.cells l]) ∧ Turn g w σ g' (w.alloc (.cells vs.toArray T)) (σ ++ [.cells l]) ∧ g'.blk σ.length = some w.heap.size :=
  ⟨g.push σ.length w.heap.size 0, push_rep hr _ _ 0 (fun ht => ⟨w.heap.size, vs.toArray, T, (0, 0), by simp [G.push], heap_push_new, .inl rfl, by simpa using CReps.turn ht l vs hl⟩), push_turn hr _ _ 0, by simp [G.push]⟩

/-- A new row of one's own. -/
theorem new_arr {g : G} {w : World} {σ : St} (hr : Rep g w σ) (T : TypeId) (sz cap : Nat) {l : List F} {vs : List Value} (fz : Nat × Nat) (ep : Nat) (hep : T = ep % 4294967296) (hf : Free vs.length fz) (hc : vs.length = cap * sz) (hm : cap ≤ maxLen) (hle : l.length ≤ vs.length)
    (hl : ∀ j (h : j < l.length) (h' : j < vs.length), FRep g w l[j] vs[j]) :
    ∃ g', Rep g' (w.alloc (.cells vs.toArray T fz)) (σ ++ [.arr true ep sz l]) ∧ Turn g w σ g' (w.alloc (.cells vs.toArray T fz)) (σ ++ [.arr true ep sz l]) ∧ g'.blk σ.length = some w.heap.size ∧ g'.cap σ.length = cap := by
  refine ⟨g.push σ.length w.heap.size cap, push_rep hr _ _ cap (fun ht => .inr ⟨w.heap.size, vs.toArray, T, fz, vs.drop l.length, by simp [G.push], heap_push_new, by simpa using hf, by simpa [G.push] using hc, by simpa [G.push] using hm,
    ⟨vs.take l.length, by simp, by simp; omega, fun j h h' => ?_⟩, by simp, hep⟩), push_turn hr _ _ cap, by simp [G.push], by simp [G.push]⟩
  rw [List.getElem_take]
  exact FRep.turn ht.zs _ _ (hl j h (by omega))
end Go.Dm
