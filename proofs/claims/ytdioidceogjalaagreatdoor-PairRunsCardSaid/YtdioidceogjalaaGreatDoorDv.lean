/- The plain machine: the table of types, checked. -/
import Derived.Test.YtdioidceogjalaaGreatDoorDu
namespace Go.Dm
set_option linter.unusedVariables false
set_option linter.unusedSimpArgs false

def fitsB (P : Program) (t : TypeId) (d : TD) : Bool :=
  match d, P.underlying t with
  | .int k, some (.int k') => k == k'
  | .bool, some .bool => true
  | .str, some .string => true
  | .flo, some (.float .f64) => true
  | .cpl, some (.complex .f64) => true
  | .slice e, some (.slice e') => e == e'
  | .struct fs, some (.struct fields) => fields.toList.map (fun f => (f.offset, f.type)) == fs
  | .array n e, some (.array n' e') => n == n' && e == e'
  | .ptr e, some (.pointer e') => e == e'
  | .map k e, some (.map k' e') => k == k' && e == e'
  | .fn, some (.func _ _ _) => true
  | .uptr, some .unsafePointer => true
  | .bld a b, some (.struct fields) => fields.toList.map (fun f => (f.offset, f.type)) == [(0, a), (1, b)] && liesAt P P.depth t (2 / P.cellsOf t) 0 t 1
  | .no, _ => true
  | _, _ => false

theorem fitsB_ok {P : Program} {t : TypeId} {d : TD} (h : fitsB P t d = true) : d.fits P t := by
  unfold fitsB at h
  split at h <;> rename_i hu <;> simp only [TD.fits] <;> first
    | exact trivial
    | (simp only [Bool.and_eq_true, beq_iff_eq] at h; obtain ⟨rfl, rfl⟩ := h; exact hu)
    | (rw [Bool.and_eq_true] at h; exact ⟨_, hu, eq_of_beq h.1, h.2⟩)
    | (have h' := eq_of_beq h; subst h'; exact hu)
    | exact hu
    | exact ⟨_, hu, eq_of_beq h⟩
    | exact ⟨_, _, _, hu⟩
    | cases h

def zeroB : F → Value → Bool
  | .bool b, .bool b' => b == b'
  | .int k n, .int k' n' => k == k' && n == n'
  | .flo b, .float .f64 b' => b == b'
  | .cpl a b, .complex .f64 a' b' => a == a' && b == b'
  | .str [], .string s => s.data.toList.isEmpty
  | .nils, .slice none 0 0 => true
  | .nilp, .pointer none => true
  | .nilm, .map none => true
  | .nilf, .nilFunc => true
  | _, _ => false

theorem zeroB_ok {x : F} {v : Value} (h : zeroB x v = true) : v = zval x ∧ plain x = true := by
  unfold zeroB at h
  split at h <;> first
    | (cases h; done)
    | (simp only [Bool.and_eq_true, beq_iff_eq] at h; obtain ⟨rfl, rfl⟩ := h; exact ⟨rfl, rfl⟩)
    | (have h' := eq_of_beq h; subst h'; exact ⟨rfl, rfl⟩)
    | exact ⟨rfl, rfl⟩
    | (rename_i s
       have hs : s.data.toList = [] := by simpa using h
       refine ⟨?_, rfl⟩
       obtain ⟨⟨l⟩⟩ := s
       simp at hs
       subst hs
       rfl)

def zerosB : List F → List Value → Bool
  | [], [] => true
  | x :: r, v :: s => zeroB x v && zerosB r s
  | _, _ => false

theorem zerosB_ok : ∀ {l : List F} {vs : List Value}, zerosB l vs = true → vs = l.map zval ∧ l.all plain = true
  | [], [], _ => ⟨rfl, rfl⟩
  | x :: r, v :: s, h => by
    simp only [zerosB, Bool.and_eq_true] at h
    obtain ⟨h1, h2⟩ := zeroB_ok h.1
    obtain ⟨h3, h4⟩ := zerosB_ok h.2
    subst h1 h3
    exact ⟨rfl, by simp [h2, h4]⟩
  | [], v :: s, h => by simp [zerosB] at h
  | x :: r, [], h => by simp [zerosB] at h

def infoB (P : Program) (t : TypeId) (i : TI) : Bool :=
  match P.info? t with
  | none => false
  | some j =>
    j.size == i.size && j.bytes == i.bytes && i.zero.length == i.size &&
    (match j.zero with
    | none => false
    | some z => zerosB i.zero z.cells.toList && (!i.agg || (match z with | .agg _ => true | _ => false)))

def okB (P : Program) (t : TypeId) (i : TI) : Bool := (i.key.isEmpty || keyB P t i.key) && (i.d.isNo || (fitsB P t i.d && infoB P t i))

theorem okB_ok {P : Program} {t : TypeId} {i : TI} (h : okB P t i = true) : i.Ok P t := by
  unfold okB at h
  rw [Bool.and_eq_true] at h
  obtain ⟨hk, h⟩ := h
  have hkey : i.key = [] ∨ KeyOk P t i.key := by
    rw [Bool.or_eq_true] at hk
    exact hk.imp (fun e => by simpa using e) keyB_ok
  cases hn : i.d.isNo with
  | true =>
    have : i.d = .no := by cases hd : i.d <;> simp_all [TD.isNo]
    exact ⟨by rw [this]; trivial, .inl this, hkey⟩
  | false =>
    rw [hn] at h
    simp only [Bool.false_or, Bool.and_eq_true] at h
    refine ⟨fitsB_ok h.1, .inr ?_, hkey⟩
    have h2 := h.2
    unfold infoB at h2
    split at h2
    · cases h2
    · rename_i j hj
      simp only [Bool.and_eq_true, beq_iff_eq] at h2
      obtain ⟨⟨⟨h3, h4⟩, h5⟩, h6⟩ := h2
      split at h6
      · cases h6
      · rename_i z hz
        simp only [Bool.and_eq_true, Bool.or_eq_true, Bool.not_eq_true'] at h6
        obtain ⟨h7, h8⟩ := zerosB_ok h6.1
        refine ⟨j, hj, h3, h4, ⟨z, hz, h7, fun ha => ?_⟩, h8, h5⟩
        rcases h6.2 with h9 | h9
        · rw [ha] at h9; cases h9
        · cases z <;> first | rfl | (simp at h9)

def noTI : TI := ⟨.no, 0, 0, [], []⟩

def tabOf (l : List TI) : Tab := fun t => match l[t]? with | some i => i | none => noTI

def allB (P : Program) : Nat → List TI → Bool
  | _, [] => true
  | t, i :: r => okB P t i && allB P (t + 1) r

theorem allB_ok {P : Program} : ∀ {l : List TI} {s : Nat}, allB P s l = true → ∀ (k : Nat) (i : TI), l[k]? = some i → i.Ok P (s + k)
  | [], s, _, k, i, hi => by simp at hi
  | j :: r, s, h, k, i, hi => by
    simp only [allB, Bool.and_eq_true] at h
    cases k with
    | zero => simp at hi; subst hi; exact okB_ok h.1
    | succ k =>
      simp at hi
      have := allB_ok h.2 k i hi
      rw [show s + (k + 1) = s + 1 + k from by omega]
      exact this

theorem tab_ok {P : Program} {l : List TI} (h : allB P 0 l = true) : TabOk P (tabOf l) := by
  intro t
  unfold tabOf
  cases ht : l[t]? with
  | none => exact ⟨trivial, .inl rfl, .inl rfl⟩
  | some i => simpa using allB_ok h t i ht
end Go.Dm
