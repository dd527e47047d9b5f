/- The plain machine: what stays when the state turns. -/
import Derived.Test.YtdioidceogjalaaGreatDoorDa
namespace Go.Dm
set_option linter.unusedVariables false

mutual
theorem FRep.turn {g g' : G} {w w' : World} (h : ∀ b o, g.Z b o → g'.Z b o ∧ w'.cell? ⟨b, o, none⟩ = w.cell? ⟨b, o, none⟩) : ∀ (x : F) (v : Value), FRep g w x v → FRep g' w' x v
  | .bool _, _, hx | .int _ _, _, hx | .flo _, _, hx | .cpl _ _, _, hx | .str _, _, hx | .nils, _, hx | .nilp, _, hx | .nilm, _, hx | .nilf, _, hx | .fn _, _, hx => hx
  | .sl n cs, v, hx => by
    obtain ⟨a, cap, rfl, h1, h2, h3⟩ := hx
    refine ⟨a, cap, rfl, h1, h2, ?_⟩
    rcases h3 with h3 | ⟨b, o, rfl, h3⟩
    · exact .inl h3
    · exact .inr ⟨b, o, rfl, FRow.turn h cs b o h3⟩
  | .obj cs, v, hx => by
    obtain ⟨b, rfl, h3⟩ := hx
    exact ⟨b, rfl, FRow.turn h cs b 0 h3⟩
theorem FRow.turn {g g' : G} {w w' : World} (h : ∀ b o, g.Z b o → g'.Z b o ∧ w'.cell? ⟨b, o, none⟩ = w.cell? ⟨b, o, none⟩) : ∀ (cs : List F) (b o : Nat), FRow g w b o cs → FRow g' w' b o cs
  | [], _, _, _ => trivial
  | x :: r, b, o, hx => by
    obtain ⟨hz, ⟨u, hu, hx⟩, hr⟩ := hx
    refine ⟨(h b o hz).1, ⟨u, (h b o hz).2.trans hu, FRep.turn h x u hx⟩, FRow.turn h r b (o + 1) hr⟩
end

theorem Turn.refl (g : G) (w : World) (σ : St) : Turn g w σ g w σ :=
  ⟨rfl, rfl, rfl, Nat.le_refl _, fun _ _ _ => rfl, fun _ _ h => ⟨h, rfl⟩, fun _ _ _ h => .inl h, fun _ _ _ h => h,
    fun i ob h => ⟨ob, h, by cases ob <;> simp [ObTurn]⟩, fun _ _ _ _ => rfl⟩

theorem ObTurn.row {g g' : G} {i : Nat} {a b : Ob} (h : ObTurn g g' i a b) (ha : a.row = false) : b.row = false := by
  cases a <;> cases b <;> simp_all [ObTurn, Ob.row]

theorem Turn.trans {g g' g'' : G} {w w' w'' : World} {σ σ' σ'' : St} (h : Turn g w σ g' w' σ') (k : Turn g' w' σ' g'' w'' σ'') : Turn g w σ g'' w'' σ'' where
  os := k.os.trans h.os
  tape := k.tape.trans h.tape
  output := k.output.trans h.output
  size := Nat.le_trans h.size k.size
  whole b hb hn := (k.whole b (Nat.lt_of_lt_of_le hb h.size) (fun o ho => hn o (h.onew b o hb ho))).trans (h.whole b hb hn)
  zs b o hz := ⟨(k.zs b o (h.zs b o hz).1).1, (k.zs b o (h.zs b o hz).1).2.trans (h.zs b o hz).2⟩
  znew b o hb hz := by
    rcases k.znew b o (Nat.lt_of_lt_of_le hb h.size) hz with h1 | h1
    · exact h.znew b o hb h1
    · exact .inr (h.onew b o hb h1)
  onew b o hb ho := h.onew b o hb (k.onew b o (Nat.lt_of_lt_of_le hb h.size) ho)
  turns i ob ho := by
    obtain ⟨ob', h1, h2⟩ := h.turns i ob ho
    obtain ⟨ob'', h3, h4⟩ := k.turns i ob' h1
    refine ⟨ob'', h3, ?_⟩
    cases ob <;> cases ob' <;> cases ob'' <;> simp_all [ObTurn]
    rcases h2 with h2 | ⟨rfl, rfl, h2a, h2b, h2c⟩ <;> rcases h4 with h4 | ⟨rfl, rfl, h4a, h4b, h4c⟩
    · left; omega
    · left; exact h2
    · left; exact h4
    · right; exact ⟨rfl, rfl, h4a.trans h2a, h4b.trans h2b, h4c.trans h2c⟩
  blks i ob ho hr := by
    obtain ⟨ob', h1, h2⟩ := h.turns i ob ho
    exact (k.blks i ob' h1 (h2.row hr)).trans (h.blks i ob ho hr)

mutual
theorem CRep.turn {g g' : G} {w w' : World} {σ σ' : St} (h : Turn g w σ g' w' σ') : ∀ (x : C) (v : Value), CRep g w σ x v → CRep g' w' σ' x v
  | .f x, v, hx => FRep.turn h.zs x v hx
  | .ptr o off, v, hx => by
    obtain ⟨b, ob, h1, rfl, h2, h3⟩ := hx
    obtain ⟨ob', h4, h5⟩ := h.turns o ob h2
    exact ⟨b, ob', (h.blks o ob h2 h3).trans h1, rfl, h4, h5.row h3⟩
  | .pa o e off, v, hx => by
    obtain ⟨h0, ob, h1, h2⟩ := hx
    obtain ⟨ob', h4, h5⟩ := h.turns o ob h1
    refine ⟨h0, ob', h4, ?_⟩
    cases ob <;> cases ob' <;> simp_all [ObTurn]
    rcases h5 with h5 | ⟨rfl, rfl, h5a, h5b, h5c⟩
    · exact ⟨by omega, fun he => by omega⟩
    · exact ⟨h2.1, fun he => by rw [h5b]; exact h2.2 he⟩
  | .ep cs off, v, hx => by
    obtain ⟨b, o, rfl, h1⟩ := hx
    exact ⟨b, o, rfl, FRow.turn h.zs cs b o h1⟩
  | .rs o e n, v, hx => by
    obtain ⟨h0, ob, h1, h2⟩ := hx
    obtain ⟨ob', h4, h5⟩ := h.turns o ob h1
    refine ⟨h0, ob', h4, ?_⟩
    cases ob <;> cases ob' <;> simp_all [ObTurn]
    rcases h5 with h5 | ⟨rfl, rfl, h5a, h5b, h5c⟩
    · exact ⟨by omega, fun he => by omega⟩
    · exact ⟨h2.1, fun he => by rw [h5b, h5c, h5a]; exact h2.2 he⟩
  | .mp o, v, hx => by
    obtain ⟨b, ob, h1, rfl, h2, h3⟩ := hx
    obtain ⟨ob', h4, h5⟩ := h.turns o ob h2
    exact ⟨b, ob', (h.blks o ob h2 h3).trans h1, rfl, h4, h5.row h3⟩
  | .clo f caps, v, hx => by
    obtain ⟨vs, rfl, h1⟩ := hx
    exact ⟨vs, rfl, CReps.turn h caps vs h1⟩
  | .un, _, _ => trivial
theorem CReps.turn {g g' : G} {w w' : World} {σ σ' : St} (h : Turn g w σ g' w' σ') : ∀ (l : List C) (vs : List Value), CReps g w σ l vs → CReps g' w' σ' l vs
  | [], _, hx => hx
  | c :: r, vs, hx => by
    obtain ⟨v, vr, rfl, h1, h2⟩ := hx
    exact ⟨v, vr, rfl, CRep.turn h c v h1, CReps.turn h r vr h2⟩
end

mutual
theorem VRep.turn {g g' : G} {w w' : World} {σ σ' : St} (h : Turn g w σ g' w' σ') : ∀ (x : V) (v : Value), VRep g w σ x v → VRep g' w' σ' x v
  | .c x, v, hx => CRep.turn h x v hx
  | .a l, v, hx => by obtain ⟨vs, rfl, h1⟩ := hx; exact ⟨vs, rfl, CReps.turn h l vs h1⟩
  | .t l, v, hx => by obtain ⟨vs, rfl, h1⟩ := hx; exact ⟨vs, rfl, VReps.turn h l vs h1⟩
theorem VReps.turn {g g' : G} {w w' : World} {σ σ' : St} (h : Turn g w σ g' w' σ') : ∀ (l : List V) (vs : List Value), VReps g w σ l vs → VReps g' w' σ' l vs
  | [], _, hx => hx
  | c :: r, vs, hx => by
    obtain ⟨v, vr, rfl, h1, h2⟩ := hx
    exact ⟨v, vr, rfl, VRep.turn h c v h1, VReps.turn h r vr h2⟩
end

theorem CReps.length {g : G} {w : World} {σ : St} : ∀ {l : List C} {vs : List Value}, CReps g w σ l vs → vs.length = l.length
  | [], _, h => by simp only [CReps] at h; subst h; rfl
  | c :: r, vs, h => by obtain ⟨v, vr, rfl, _, h2⟩ := h; simp [CReps.length h2]

theorem CReps.get {g : G} {w : World} {σ : St} : ∀ {l : List C} {vs : List Value}, CReps g w σ l vs → ∀ {i : Nat} {c : C}, l[i]? = some c → ∃ v, vs[i]? = some v ∧ CRep g w σ c v
  | [], _, _, i, c, hc => by simp at hc
  | c :: r, vs, h, i, x, hc => by
    obtain ⟨v, vr, rfl, h1, h2⟩ := h
    cases i with
    | zero => simp at hc; subst hc; exact ⟨v, rfl, h1⟩
    | succ i => simp at hc; simpa using CReps.get h2 hc

theorem CReps.set {g : G} {w : World} {σ : St} : ∀ {l : List C} {vs : List Value}, CReps g w σ l vs → ∀ (i : Nat) {c v}, CRep g w σ c v → CReps g w σ (l.set i c) (vs.set i v)
  | [], _, h, i, c, v, hc => by simp only [CReps] at h; subst h; simp [CReps]
  | c :: r, vs, h, i, x, u, hc => by
    obtain ⟨v, vr, rfl, h1, h2⟩ := h
    cases i with
    | zero => exact ⟨u, vr, rfl, hc, h2⟩
    | succ i => exact ⟨v, vr.set i u, rfl, h1, CReps.set h2 i hc⟩

theorem CReps.append {g : G} {w : World} {σ : St} : ∀ {l l' : List C} {vs vs' : List Value}, CReps g w σ l vs → CReps g w σ l' vs' → CReps g w σ (l ++ l') (vs ++ vs')
  | [], l', vs, vs', h, h' => by simp only [CReps] at h; subst h; exact h'
  | c :: r, l', vs, vs', h, h' => by obtain ⟨v, vr, rfl, h1, h2⟩ := h; exact ⟨v, vr ++ vs', rfl, h1, CReps.append h2 h'⟩

theorem CReps.drop {g : G} {w : World} {σ : St} : ∀ {l : List C} {vs : List Value}, CReps g w σ l vs → ∀ (i : Nat), CReps g w σ (l.drop i) (vs.drop i)
  | [], _, h, i => by simp only [CReps] at h; subst h; simp [CReps]
  | c :: r, vs, h, i => by
    obtain ⟨v, vr, rfl, h1, h2⟩ := h
    cases i with
    | zero => exact ⟨v, vr, rfl, h1, h2⟩
    | succ i => exact CReps.drop h2 i

theorem CReps.take {g : G} {w : World} {σ : St} : ∀ {l : List C} {vs : List Value}, CReps g w σ l vs → ∀ (i : Nat), CReps g w σ (l.take i) (vs.take i)
  | [], _, h, i => by simp only [CReps] at h; subst h; simp [CReps]
  | c :: r, vs, h, i => by
    obtain ⟨v, vr, rfl, h1, h2⟩ := h
    cases i with
    | zero => simp [CReps]
    | succ i => exact ⟨v, vr.take i, rfl, h1, CReps.take h2 i⟩


theorem FRow.get {g : G} {w : World} : ∀ {cs : List F} {b o : Nat}, FRow g w b o cs → ∀ {i : Nat} {x : F}, cs[i]? = some x → g.Z b (o + i) ∧ ∃ u, w.cell? ⟨b, o + i, none⟩ = some u ∧ FRep g w x u
  | [], _, _, _, i, x, h => by simp at h
  | y :: r, b, o, hx, i, x, h => by
    obtain ⟨hz, hu, hr⟩ := hx
    cases i with
    | zero => simp at h; subst h; exact ⟨hz, hu⟩
    | succ i =>
      simp at h
      have := FRow.get hr h
      rw [show o + (i + 1) = o + 1 + i from by omega]
      exact this

theorem FRow.drop {g : G} {w : World} : ∀ {cs : List F} {b o : Nat}, FRow g w b o cs → ∀ (i : Nat), FRow g w b (o + i) (cs.drop i)
  | [], _, _, _, i => by simp [FRow]
  | y :: r, b, o, hx, i => by
    obtain ⟨hz, hu, hr⟩ := hx
    cases i with
    | zero => exact ⟨hz, hu, hr⟩
    | succ i => rw [show o + (i + 1) = o + 1 + i from by omega]; exact FRow.drop hr i

theorem FRow.take {g : G} {w : World} : ∀ {cs : List F} {b o : Nat}, FRow g w b o cs → ∀ (i : Nat), FRow g w b o (cs.take i)
  | [], _, _, _, i => by simp [FRow]
  | y :: r, b, o, hx, i => by
    obtain ⟨hz, hu, hr⟩ := hx
    cases i with
    | zero => simp [FRow]
    | succ i => exact ⟨hz, hu, FRow.take hr i⟩

theorem FRow.of {g : G} {w : World} : ∀ {cs : List F} {b o : Nat}, (∀ (i : Nat) (x : F), cs[i]? = some x → g.Z b (o + i) ∧ ∃ u, w.cell? ⟨b, o + i, none⟩ = some u ∧ FRep g w x u) → FRow g w b o cs
  | [], _, _, _ => trivial
  | y :: r, b, o, h => by
    refine ⟨(h 0 y rfl).1, (h 0 y rfl).2, FRow.of fun i x hx => ?_⟩
    have := h (i + 1) x (by simpa using hx)
    rw [show o + (i + 1) = o + 1 + i from by omega] at this
    exact this
end Go.Dm
