/- The plain machine: types that are compared cell by cell: their kinds in a row; such cells are a key. -/
import Derived.Test.YtdioidceogjalaaGreatDoorDfa
import Derived.DeepKeys3
import Derived.Maps.Keyed
namespace Go.Dm
set_option linter.unusedVariables false

/-- A scalar as a value. -/
def fval : F → Value
  | .bool b => .bool b
  | .int k n => .int k n
  | .str s => .string ⟨s.toArray⟩
  | _ => undef

/-- The kinds of a type's cells, in a row. -/
def flatF (fk : TypeId → Option (List KK)) (P : Program) : Nat → List Field → Option (List KK)
  | _, [] => some []
  | off, f :: r =>
    match fk f.type with
    | none => none
    | some ks => if f.offset = off ∧ ks.length = P.cellsOf f.type then (match flatF fk P (off + ks.length) r with | some l => some (ks ++ l) | none => none) else none

def repK : Nat → List KK → List KK
  | 0, _ => []
  | n + 1, l => l ++ repK n l

def flatK (P : Program) : Nat → TypeId → Option (List KK)
  | 0, _ => none
  | d + 1, t =>
    match P.underlying t with
    | some .bool => some [.b]
    | some (.int q) => some [.i q]
    | some .string => some [.s]
    | some (.array n e) =>
      (match flatK P d e with
      | some ks => if ks.length = P.cellsOf e ∧ n * ks.length = P.cellsOf t then some (repK n ks) else none
      | none => none)
    | some (.struct fs) =>
      (match flatF (flatK P d) P 0 fs.toList with
      | some ks => if ks.length = P.cellsOf t ∧ (fs.all (·.name != "_")) = true then some ks else none
      | none => none)
    | _ => none

theorem FitK.length : ∀ {ks : List KK} {vs : List Value}, FitK ks vs → vs.length = ks.length
  | [], [], _ => rfl
  | [], v :: s, h => by simp [FitK] at h
  | k :: r, [], h => by cases k <;> simp [FitK] at h
  | k :: r, v :: s, h => by
    have : FitK r s := by cases k <;> cases v <;> simp [FitK] at h <;> first | exact h | exact h.2 | exact h.2.2
    simp [FitK.length this]

theorem FitK.append_iff : ∀ {ks ks' : List KK} {vs : List Value}, FitK (ks ++ ks') vs → FitK ks (vs.take ks.length) ∧ FitK ks' (vs.drop ks.length)
  | [], ks', vs, h => by simp only [List.nil_append] at h; simp [FitK]; exact h
  | k :: r, ks', [], h => by cases k <;> simp [FitK] at h
  | k :: r, ks', v :: s, h => by
    have key : FitK (r ++ ks') s ∧ ∀ {l}, FitK r l → FitK (k :: r) (v :: l) := by
      cases k <;> cases v <;> simp [FitK] at h <;> first
        | exact ⟨h, fun hl => hl⟩
        | exact ⟨h.2, fun hl => ⟨h.1, hl⟩⟩
        | exact ⟨h.2.2, fun hl => ⟨h.1, h.2.1, hl⟩⟩
    obtain ⟨h1, h2⟩ := FitK.append_iff key.1
    exact ⟨by simpa using key.2 h1, by simpa using h2⟩

theorem FitK.rep : ∀ {n : Nat} {ks : List KK} {vs : List Value}, FitK (repK n ks) vs → ∀ i, i < n → FitK ks ((vs.drop (i * ks.length)).take ks.length)
  | 0, ks, vs, h, i, hi => by omega
  | n + 1, ks, vs, h, i, hi => by
    obtain ⟨h1, h2⟩ := FitK.append_iff h
    cases i with
    | zero => simpa using h1
    | succ i =>
      have := FitK.rep h2 i (by omega)
      rw [List.drop_drop] at this
      rw [show (i + 1) * ks.length = ks.length + i * ks.length from by rw [Nat.add_mul]; omega]
      exact this

theorem mapM_some {α β : Type} {f : α → Option β} : ∀ {l : List α}, (∀ x ∈ l, ∃ y, f x = some y) → ∃ ys, l.mapM f = some ys
  | [], _ => ⟨[], rfl⟩
  | x :: r, h => by
    obtain ⟨y, hy⟩ := h x (by simp)
    obtain ⟨ys, hys⟩ := mapM_some (l := r) fun z hz => h z (List.mem_cons_of_mem _ hz)
    exact ⟨y :: ys, by rw [List.mapM_cons, hy, hys]; rfl⟩

theorem repK_len (n : Nat) (ks : List KK) : (repK n ks).length = n * ks.length := by
  induction n with
  | zero => simp [repK]
  | succ n ih => simp [repK, ih, Nat.add_mul, Nat.add_comm]

section
variable {P : Program}

theorem fields_fit {fk : TypeId → Option (List KK)} {vs : List Value} : ∀ {fs : List Field} {off : Nat} {ks : List KK}, flatF fk P off fs = some ks → FitK ks (vs.drop off) →
    ∀ f ∈ fs, ∃ k, fk f.type = some k ∧ FitK k ((vs.drop f.offset).take (P.cellsOf f.type))
  | [], off, ks, h, hf, f, hm => by simp at hm
  | f0 :: r, off, ks, h, hf, f, hm => by
    simp only [flatF] at h
    split at h
    · cases h
    · rename_i k0 hk
      split at h
      · rename_i hc
        split at h
        · rename_i l hl
          cases h
          obtain ⟨h1, h2⟩ := FitK.append_iff hf
          rw [List.drop_drop] at h2
          rcases List.mem_cons.1 hm with rfl | hm
          · exact ⟨k0, hk, by rw [hc.1, ← hc.2]; exact h1⟩
          · exact fields_fit hl h2 f hm
        · cases h
      · cases h

theorem keyLits_of : ∀ (d : Nat) {t : TypeId} {ks : List KK}, flatK P d t = some ks → ∀ (D : Nat), d ≤ D → ∀ (vs : List Value), FitK ks vs → ∃ L, P.keyLits D t vs = some L
  | 0, t, ks, h, D, hD, vs, hf => by simp [flatK] at h
  | d + 1, t, ks, h, 0, hD, vs, hf => by omega
  | d + 1, t, ks, h, D + 1, hD, vs, hf => by
    unfold flatK at h
    unfold Program.keyLits
    split at h
    · rename_i hu
      cases h
      match vs, hf with
      | [.bool y], _ => exact ⟨[.bool y], by simp only [hu]⟩
    · rename_i q hu
      cases h
      match vs, hf with
      | [.int k n], ⟨e, hw, _⟩ => exact ⟨[.int q n], by simp only [hu]; subst e; rw [if_pos ⟨rfl, hw⟩]⟩
    · rename_i hu
      cases h
      match vs, hf with
      | [.string s], ⟨hw, _⟩ => exact ⟨_, by simp only [hu]; rw [if_pos hw]⟩
    · rename_i n e hu
      split at h
      · rename_i k hk
        split at h
        · rename_i hc
          cases h
          simp only [hu]
          have hl := hf.length
          rw [repK_len] at hl
          rw [if_pos (by rw [hl]; exact hc.2)]
          obtain ⟨ys, hys⟩ := mapM_some (f := fun i => P.keyLits D e ((vs.drop (i * P.cellsOf e)).take (P.cellsOf e))) (l := List.range n) fun i hi => by
            have := FitK.rep hf i (List.mem_range.1 hi)
            rw [hc.1] at this
            exact keyLits_of d hk D (by omega) _ this
          exact ⟨ys.flatten, by rw [hys]; rfl⟩
        · cases h
      · cases h
    · rename_i fs hu
      split at h
      · rename_i k hk
        split at h
        · rename_i hc
          cases h
          simp only [hu]
          have hl := hf.length
          rw [if_pos ⟨by rw [hl]; exact hc.1, hc.2⟩]
          obtain ⟨ys, hys⟩ := mapM_some (f := fun f : Field => P.keyLits D f.type ((vs.drop f.offset).take (P.cellsOf f.type))) (l := fs.toList) fun f hm => by
            obtain ⟨kk, h1, h2⟩ := fields_fit hk (vs := vs) (by simpa using hf) f hm
            exact keyLits_of d h1 D (by omega) _ h2
          exact ⟨ys.flatten, by rw [hys]; rfl⟩
        · cases h
      · cases h
    · cases h

def keyB (P : Program) (t : TypeId) (ks : List KK) : Bool :=
  match flatK P 20 t with
  | some l => decide (l.length = ks.length) && (l.zip ks).all (fun p => match p with | (.b, .b) => true | (.i a, .i b) => sameK a b | (.s, .s) => true | _ => false) &&
      decide (20 ≤ P.types.size) && P.keyTypeAt 20 t && P.keyType t && P.tiled 20 t && !P.eqGuardType P.depth t && (!wideB P t || decide (ks.length = P.cellsOf t))
  | none => false

theorem zipK : ∀ {l ks : List KK}, l.length = ks.length → (l.zip ks).all (fun p => match p with | (.b, .b) => true | (.i a, .i b) => sameK a b | (.s, .s) => true | _ => false) = true → l = ks
  | [], [], _, _ => rfl
  | a :: r, y :: s, hl, h => by
    simp only [List.zip_cons_cons, List.all_cons, Bool.and_eq_true] at h
    rw [zipK (by simpa using hl) h.2]
    cases a <;> cases y <;> simp at h <;> first | rfl | (rw [sameK_eq h.1])
  | [], y :: s, hl, _ => by simp at hl
  | a :: r, [], hl, _ => by simp at hl

theorem keyB_ok {t : TypeId} {ks : List KK} (h : keyB P t ks = true) : KeyOk P t ks := by
  unfold keyB at h
  split at h
  · rename_i l hl
    simp only [Bool.and_eq_true, decide_eq_true_eq, Bool.not_eq_true', Bool.or_eq_true] at h
    obtain ⟨⟨⟨⟨⟨⟨⟨h1, h2⟩, h3⟩, h4⟩, h5⟩, h6⟩, h7⟩, h8⟩ := h
    have e := zipK h1 h2
    subst e
    have hlits : wideB P t = true → ∀ vs : List Value, FitK l vs → ∃ k, keyOf P t (.agg vs.toArray) = some k := fun hw vs hf => by
      obtain ⟨L, hL⟩ := keyLits_of 20 hl (P.types.size + 1) (by omega) vs hf
      have hlen := hf.length
      have hc : l.length = P.cellsOf t := by
        rcases h8 with h8 | h8
        · rw [hw] at h8; cases h8
        · exact h8
      unfold keyOf
      unfold wideB at hw
      split at hw
      · rename_i n e hu
        simp only [hu]
        rw [if_pos (by simp [h5, Value.formed, hu, hlen, hc])]
        exact ⟨_, by simp only [Value.cells]; rw [hL]; rfl⟩
      · rename_i fs hu
        simp only [hu]
        rw [if_pos (by simp [h5, Value.formed, hu, hlen, hc])]
        exact ⟨_, by simp only [Value.cells]; rw [hL]; rfl⟩
      · cases hw
    refine ⟨?_, hlits, h7, fun hw w us vs hu hv => ?_⟩
    · cases hw : wideB P t with
      | false => exact .inr rfl
      | true => exact .inl (deep_law (m := 20) (by omega) h4 h6 hw)
    · obtain ⟨a, ha⟩ := hlits hw us hu
      obtain ⟨y, hy⟩ := hlits hw vs hv
      have K := deep_law (m := 20) (by omega) h4 h6 hw
      obtain ⟨r, hr, hiff⟩ := run_equal_deep w (m := 20) (by omega) h4 hw ha hy
      refine ⟨r, hr, hiff.trans ⟨fun e => ?_, fun e => ?_⟩⟩
      · subst e
        have := K.inj ha hy
        simpa using this
      · subst e
        rw [ha] at hy
        exact Option.some.inj hy
  · cases h
end
end Go.Dm
