/- Printed by merge2.py: many texts in one. -/
import Derived.Test.YtpoegfkajdbplaaDoorMe
import Derived.IntWalk

namespace Go.Dm.Sx
open Go.Dm
set_option linter.unusedVariables false
set_option linter.unusedSimpArgs false
def nbeq (a b : Nat) : Bool := match Nat.beq (Nat.mod a 4294967296) (Nat.mod b 4294967296), Nat.beq (Nat.div a 4294967296) (Nat.div b 4294967296) with | true, true => true | _, _ => false
theorem nbeq_ok {a b : Nat} (h : nbeq a b = true) : a = b := by
  unfold nbeq at h
  split at h
  · rename_i h1 h2
    have h1 : a % 4294967296 = b % 4294967296 := beq_nat h1
    have h2 : a / 4294967296 = b / 4294967296 := beq_nat h2
    omega
  · cases h
def smallT (n : Nat) : Bool := match Nat.div n 4294967296 with | 0 => true | _ => false
theorem smallT_ok {n : Nat} (h : smallT n = true) : n ≤ 4294967295 := by
  unfold smallT at h
  split at h
  · rename_i h1
    have h1 : n / 4294967296 = 0 := h1
    omega
  · cases h
def okT (n : Nat) : Bool := match Nat.div n 8589934592 with | 0 => true | _ => false
theorem okT_ok {n : Nat} (h : okT n = true) : n < 8589934592 := by
  unfold okT at h
  split at h
  · rename_i h1
    have h1 : n / 8589934592 = 0 := h1
    omega
  · cases h
inductive Ty where
  | int (k : IntKind) | bool | str | flo | cpl
  | list (t : Ty) | ptr (t : Ty) | opt (t : Ty)
  | base (n : Nat)
  deriving Inhabited, DecidableEq
def Ty.eqb : Ty → Ty → Bool
  | .int k, .int k' => sameK k k'
  | .bool, .bool => true
  | .str, .str => true
  | .flo, .flo => true
  | .cpl, .cpl => true
  | .list a, .list b => Ty.eqb a b
  | .ptr a, .ptr b => Ty.eqb a b
  | .opt a, .opt b => Ty.eqb a b
  | .base n, .base m => Nat.beq n m
  | _, _ => false
theorem Ty.eqb_ok : ∀ {a b : Ty}, Ty.eqb a b = true → a = b
  | .int k, b, h => by cases b <;> simp only [Ty.eqb, Bool.false_eq_true] at h; rw [sameK_eq h]
  | .bool, b, h => by cases b <;> first | rfl | (simp only [Ty.eqb, Bool.false_eq_true] at h)
  | .str, b, h => by cases b <;> first | rfl | (simp only [Ty.eqb, Bool.false_eq_true] at h)
  | .flo, b, h => by cases b <;> first | rfl | (simp only [Ty.eqb, Bool.false_eq_true] at h)
  | .cpl, b, h => by cases b <;> first | rfl | (simp only [Ty.eqb, Bool.false_eq_true] at h)
  | .list a, b, h => by cases b <;> simp only [Ty.eqb, Bool.false_eq_true] at h; rw [Ty.eqb_ok h]
  | .ptr a, b, h => by cases b <;> simp only [Ty.eqb, Bool.false_eq_true] at h; rw [Ty.eqb_ok h]
  | .opt a, b, h => by cases b <;> simp only [Ty.eqb, Bool.false_eq_true] at h; rw [Ty.eqb_ok h]
  | .base n, b, h => by cases b <;> simp only [Ty.eqb, Bool.false_eq_true] at h; rw [beq_nat h]
@[reducible] def T (B : Nat → Type) : Ty → Type
  | .int _ => Int
  | .bool => Bool
  | .str => List UInt8
  | .flo => Nat
  | .cpl => Nat × Nat
  | .list t => List (T B t)
  | .ptr t => T B t
  | .opt t => Option (T B t)
  | .base n => B n
structure Dyn (B : Nat → Type) where
  t : Ty
  v : T B t
structure Uni where
  B : Nat → Type
  dft : (n : Nat) → B n
  lay : Nat → List Ty
  acc : (n : Nat) → B n → Nat → Dyn B
  bd : (n : Nat) → List (Dyn B) → B n
  acc_t : ∀ n x j t, (lay n)[j]? = some t → (acc n x j).t = t
  bd_acc : ∀ n l, l.map Dyn.t = lay n → ∀ j d, l[j]? = some d → acc n (bd n l) j = d
variable {U : Uni}
def dfl (U : Uni) : (t : Ty) → T U.B t
  | .int _ => (0 : Int)
  | .bool => false
  | .str => ([] : List UInt8)
  | .flo => (0 : Nat)
  | .cpl => ((0, 0) : Nat × Nat)
  | .list _ => []
  | .ptr t => dfl U t
  | .opt _ => none
  | .base n => U.dft n
def Dyn.as (t : Ty) (d : Dyn U.B) : T U.B t := if h : d.t = t then h ▸ d.v else dfl U t
theorem as_self (t : Ty) (x : T U.B t) : Dyn.as t (⟨t, x⟩ : Dyn U.B) = x := by simp [Dyn.as]
theorem as_eta {t : Ty} {d : Dyn U.B} (h : d.t = t) : (⟨t, d.as t⟩ : Dyn U.B) = d := by subst h; simp [Dyn.as]
def width (U : Uni) : Ty → Nat
  | .base n => (U.lay n).length
  | _ => 1
def cells (U : Uni) : Dyn U.B → List (Dyn U.B)
  | ⟨.base n, x⟩ => (List.range (U.lay n).length).map (U.acc n x)
  | d => [d]
theorem cells_len (d : Dyn U.B) : (cells U d).length = width U d.t := by
  obtain ⟨t, v⟩ := d
  cases t <;> simp [cells, width]
def pcells (U : Uni) : Dyn U.B → List (Dyn U.B)
  | ⟨.ptr t, x⟩ => cells U ⟨t, x⟩
  | ⟨.opt t, x⟩ => (match x with | some x => cells U ⟨t, x⟩ | none => [])
  | d => cells U d
def flat (U : Uni) {t : Ty} (xs : List (T U.B t)) : List (Dyn U.B) := xs.flatMap fun x => cells U ⟨t, x⟩
mutual
def FD (U : Uni) : F → Dyn U.B → Prop
  | .bool b, d => d = ⟨.bool, b⟩
  | .int k n, d => d = ⟨.int k, n⟩
  | .str s, d => d = ⟨.str, s⟩
  | .flo b, d => d = ⟨.flo, b⟩
  | .cpl a b, d => d = ⟨.cpl, (a, b)⟩
  | .nils, d => ∃ t, d = ⟨.list t, []⟩
  | .sl n cs, d => ∃ t, ∃ xs : List (T U.B t), d = ⟨.list t, xs⟩ ∧ n = xs.length ∧ FDs U cs (flat U xs)
  | .nilp, d => ∃ t, d = ⟨.opt t, none⟩
  | .obj cs, d => (∃ t, ∃ x : T U.B t, d = ⟨.opt t, some x⟩ ∧ FDs U cs (cells U ⟨t, x⟩)) ∨ ∃ t, ∃ x : T U.B t, d = ⟨.ptr t, x⟩ ∧ FDs U cs (cells U ⟨t, x⟩)
  | .nilm, _ => False
  | .nilf, _ => False
  | .fn _, _ => False
def FDs (U : Uni) : List F → List (Dyn U.B) → Prop
  | [], l => l = []
  | c :: r, l => ∃ d l', l = d :: l' ∧ FD U c d ∧ FDs U r l'
end
theorem FDs.len : ∀ {fs : List F} {l : List (Dyn U.B)}, FDs U fs l → fs.length = l.length
  | [], l, h => by simp only [FDs] at h; subst h; rfl
  | c :: r, l, h => by
    simp only [FDs] at h
    obtain ⟨d, l', rfl, _, h2⟩ := h
    simp [FDs.len h2]
theorem FDs.get : ∀ {fs : List F} {l : List (Dyn U.B)}, FDs U fs l → ∀ {j : Nat} {d : Dyn U.B}, l[j]? = some d → ∃ f, fs[j]? = some f ∧ FD U f d
  | [], l, h, j, d, hj => by simp only [FDs] at h; subst h; simp at hj
  | c :: r, l, h, j, d, hj => by
    simp only [FDs] at h
    obtain ⟨d0, l', rfl, h1, h2⟩ := h
    cases j with
    | zero => simp at hj; subst hj; exact ⟨c, rfl, h1⟩
    | succ j => simp at hj; simpa using FDs.get h2 hj
theorem FDs.of_get : ∀ {fs : List F} {l : List (Dyn U.B)}, fs.length = l.length → (∀ (j : Nat) d, l[j]? = some d → ∃ f, fs[j]? = some f ∧ FD U f d) → FDs U fs l
  | [], [], _, _ => rfl
  | c :: r, d :: l, hl, h => by
    obtain ⟨f, h1, h2⟩ := h 0 d rfl
    simp at h1
    subst h1
    exact ⟨d, l, rfl, h2, FDs.of_get (by simpa using hl) fun j d' hj => by simpa using h (j + 1) d' (by simpa using hj)⟩
  | [], d :: l, hl, _ => by simp at hl
  | c :: r, [], hl, _ => by simp at hl
theorem FDs.append : ∀ {fs fs' : List F} {l l' : List (Dyn U.B)}, FDs U fs l → FDs U fs' l' → FDs U (fs ++ fs') (l ++ l')
  | [], fs', l, l', h, h' => by simp only [FDs] at h; subst h; exact h'
  | c :: r, fs', l, l', h, h' => by
    simp only [FDs] at h
    obtain ⟨d, l0, rfl, h1, h2⟩ := h
    exact ⟨d, l0 ++ l', rfl, h1, FDs.append h2 h'⟩
theorem FDs.take : ∀ {fs : List F} {l : List (Dyn U.B)} (n : Nat), FDs U fs l → FDs U (fs.take n) (l.take n)
  | [], l, n, h => by simp only [FDs] at h; subst h; simp [FDs]
  | c :: r, l, 0, h => by simp [FDs]
  | c :: r, l, n + 1, h => by
    simp only [FDs] at h
    obtain ⟨d, l0, rfl, h1, h2⟩ := h
    exact ⟨d, l0.take n, rfl, h1, FDs.take n h2⟩
theorem FDs.drop : ∀ {fs : List F} {l : List (Dyn U.B)} (n : Nat), FDs U fs l → FDs U (fs.drop n) (l.drop n)
  | fs, l, 0, h => h
  | [], l, n + 1, h => by simp only [FDs] at h; subst h; simp [FDs]
  | c :: r, l, n + 1, h => by
    simp only [FDs] at h
    obtain ⟨d, l0, rfl, h1, h2⟩ := h
    exact FDs.drop n h2
theorem flat_cons {t : Ty} (x : T U.B t) (xs : List (T U.B t)) : flat U (x :: xs) = cells U ⟨t, x⟩ ++ flat U xs := rfl
theorem flat_app {t : Ty} (xs ys : List (T U.B t)) : flat U (xs ++ ys) = flat U xs ++ flat U ys := by simp [flat]
theorem flat_len {t : Ty} : ∀ (xs : List (T U.B t)), (flat U xs).length = xs.length * width U t
  | [] => by simp [flat]
  | x :: xs => by rw [flat_cons, List.length_append, flat_len xs, cells_len, List.length_cons, Nat.add_mul, Nat.one_mul]; exact Nat.add_comm _ _
theorem flat_drop {t : Ty} : ∀ (i : Nat) (xs : List (T U.B t)), (flat U xs).drop (i * width U t) = flat U (xs.drop i)
  | 0, xs => by simp
  | i + 1, [] => by simp [flat]
  | i + 1, x :: xs => by
    rw [flat_cons, List.drop_succ_cons, ← flat_drop i xs, Nat.add_mul, Nat.one_mul, Nat.add_comm, ← List.drop_drop, List.drop_append_of_le_length (by rw [cells_len]; exact Nat.le_refl _)]
    congr 1
    rw [List.drop_of_length_le (by rw [cells_len]; exact Nat.le_refl _), List.nil_append]
theorem flat_take {t : Ty} : ∀ (i : Nat) (xs : List (T U.B t)), (flat U xs).take (i * width U t) = flat U (xs.take i)
  | 0, xs => by simp [flat]
  | i + 1, [] => by simp [flat]
  | i + 1, x :: xs => by
    rw [flat_cons, List.take_succ_cons, flat_cons, ← flat_take i xs, Nat.add_mul, Nat.one_mul, Nat.add_comm, List.take_append, cells_len]
    congr 1
    · rw [List.take_of_length_le (by rw [cells_len]; exact Nat.le_add_right _ _)]
    · rw [Nat.add_sub_cancel_left]
theorem flat_get {t : Ty} {xs : List (T U.B t)} {i : Nat} {x : T U.B t} (hi : xs[i]? = some x) {j : Nat} (hj : j < width U t) : (flat U xs)[i * width U t + j]? = (cells U ⟨t, x⟩)[j]? := by
  have h := flat_drop (U := U) i xs
  have hx : xs.drop i = x :: xs.drop (i + 1) := by
    obtain ⟨hl, rfl⟩ := List.getElem?_eq_some_iff.1 hi
    exact List.drop_eq_getElem_cons hl
  rw [hx, flat_cons] at h
  rw [← List.getElem?_drop, h, List.getElem?_append_left (by rw [cells_len]; exact hj)]
inductive Tm where
  | at (i : Nat)
  | fld (i j : Nat)
  | int (k : IntKind) (n : Int)
  | bool (b : Bool)
  | str (s : List UInt8)
  | flo (n : Nat)
  | cpl (a b : Nat)
  | nil (t : Ty)
  | none (t : Ty)
  deriving Inhabited
abbrev Rho (U : Uni) := List (Dyn U.B)
def Tm.den? (ρ : Rho U) : Tm → Option (Dyn U.B)
  | .at i => ρ[i]?
  | .fld i j => (match ρ[i]? with | some d => (pcells U d)[j]? | Option.none => Option.none)
  | .int k n => some ⟨.int k, n⟩
  | .bool b => some ⟨.bool, b⟩
  | .str s => some ⟨.str, s⟩
  | .flo n => some ⟨.flo, n⟩
  | .cpl a b => some ⟨.cpl, (a, b)⟩
  | .nil t => some ⟨.list t, []⟩
  | .none t => some ⟨.opt t, Option.none⟩
def noD (U : Uni) : Dyn U.B := ⟨.bool, false⟩
def nthD : Rho U → Nat → Dyn U.B
  | [], _ => noD U
  | d :: r, i => (match i with | 0 => d | i + 1 => nthD r i)
theorem nthD_of : ∀ {ρ : Rho U} {i : Nat} {d : Dyn U.B}, ρ[i]? = some d → nthD ρ i = d
  | [], i, d, h => by simp at h
  | x :: r, 0, d, h => by simpa [nthD] using h
  | x :: r, i + 1, d, h => nthD_of (ρ := r) (i := i) (by simpa using h)
def fldD : Dyn U.B → Nat → Dyn U.B
  | ⟨.base n, x⟩, j => U.acc n x j
  | ⟨.ptr (.base n), x⟩, j => U.acc n x j
  | ⟨.ptr t, x⟩, _ => ⟨t, x⟩
  | ⟨.opt (.base n), some x⟩, j => U.acc n x j
  | ⟨.opt t, some x⟩, _ => ⟨t, x⟩
  | d, _ => d
theorem fldD_of {d d' : Dyn U.B} {j : Nat} (h : (pcells U d)[j]? = some d') : fldD d j = d' := by
  have base : ∀ {n : Nat} {x : U.B n}, (cells U ⟨.base n, x⟩)[j]? = some d' → U.acc n x j = d' := by
    intro n x h
    simp only [cells, List.getElem?_map, List.getElem?_range] at h
    cases hj : (List.range (U.lay n).length)[j]? with
    | none => simp [hj] at h
    | some k =>
      have := List.getElem?_eq_some_iff.1 hj
      obtain ⟨h1, h2⟩ := this
      simp at h2
      subst h2
      simpa [hj] using h
  have one : ∀ {d : Dyn U.B}, [d][j]? = some d' → d = d' := by
    intro d h
    cases j with
    | zero => simpa using h
    | succ j => simp at h
  obtain ⟨t, x⟩ := d
  cases t with
  | base n => exact base h
  | ptr t => cases t <;> first | exact base h | exact one h
  | opt t =>
    have x' : Option (T U.B t) := x
    cases x with
    | none => simp [pcells] at h
    | some x => cases t <;> first | exact base h | exact one h
  | _ => exact one h
def Tm.den (ρ : Rho U) : Tm → Dyn U.B
  | .at i => nthD ρ i
  | .fld i j => fldD (nthD ρ i) j
  | .int k n => ⟨.int k, n⟩
  | .bool b => ⟨.bool, b⟩
  | .str s => ⟨.str, s⟩
  | .flo n => ⟨.flo, n⟩
  | .cpl a b => ⟨.cpl, (a, b)⟩
  | .nil t => ⟨.list t, []⟩
  | .none t => ⟨.opt t, Option.none⟩
theorem Tm.den_of {ρ : Rho U} {x : Tm} {d : Dyn U.B} (h : x.den? ρ = some d) : x.den ρ = d := by
  cases x with
  | «at» i => exact nthD_of h
  | fld i j =>
    simp only [Tm.den?] at h
    cases hi : ρ[i]? with
    | none => simp [hi] at h
    | some d0 => simp only [hi] at h; simp only [Tm.den, nthD_of hi]; exact fldD_of h
  | _ => simp only [Tm.den?, Option.some.injEq] at h; exact h
theorem Tm.den_app {ρ : Rho U} {x : Tm} {d : Dyn U.B} (h : x.den? ρ = some d) (r : Rho U) : x.den? (ρ ++ r) = some d := by
  cases x with
  | «at» i =>
    simp only [Tm.den?] at h ⊢
    rw [List.getElem?_append_left (List.getElem?_eq_some_iff.1 h).1]; exact h
  | fld i j =>
    simp only [Tm.den?] at h ⊢
    cases hi : ρ[i]? with
    | none => simp [hi] at h
    | some d0 =>
      rw [List.getElem?_append_left (List.getElem?_eq_some_iff.1 hi).1, hi]
      simpa [hi] using h
  | _ => exact h
inductive SC where
  | d (t : Ty) (x : Tm)
  | nil | nilp | nilm | nilf
  | fn (f : Nat)
  | clo (f : Nat) (caps : List SC)
  | ptr (o off : Nat)
  | pa (o k sz : Nat) (i : Tm) (j : Nat)
  | el (x : Tm) (j : Nat)
  | rs (o k : Nat)
  | mp (o : Nat)
  | un
  deriving Inhabited
inductive SV where
  | c (x : SC)
  | a (l : List SC)
  | t (l : List SV)
  deriving Inhabited
inductive SOb where
  | cells (l : List SC)
  | arr (w : Bool) (k ty sz : Nat) (t : Ty) (x : Tm)
  | bld (T : Nat) (u : Option Bool) (x : SC)
  | any
  deriving Inhabited
abbrev SA := List (Nat × SV)
abbrev SSt := List SOb
abbrev Inf := Nat → Option (Nat × Nat)
mutual
def CR (ρ : Rho U) (β : Nat → Nat) (ι : Inf) : SC → C → Prop
  | .d t x, c => ∃ f d, c = .f f ∧ x.den? ρ = some d ∧ d.t = t ∧ FD U f d
  | .nil, c => c = .f .nils
  | .nilp, c => c = .f .nilp
  | .nilm, c => c = .f .nilm
  | .nilf, c => c = .f .nilf
  | .fn f, c => c = .f (.fn f)
  | .clo f caps, c => ∃ l, c = .clo f l ∧ CRs ρ β ι caps l
  | .ptr o off, c => c = .ptr o off
  | .pa o k sz i j, c => ∃ kd n p, i.den? ρ = some ⟨.int kd, n⟩ ∧ 0 ≤ n ∧ ι o = some p ∧ c = .pa o (β o + k * 8589934592) (n.toNat * sz + j)
  | .el x j, c => ∃ cs off d, c = .ep cs off ∧ x.den? ρ = some d ∧ j ≤ off ∧ ∀ m d', (pcells U d)[m]? = some d' → ∃ f, cs[off - j + m]? = some f ∧ FD U f d'
  | .rs o k, c => ∃ n kc len, c = .rs o (β o + k * 8589934592) n ∧ ι o = some (kc, len) ∧ k ≤ kc ∧ (k = kc → n = len)
  | .mp o, c => c = .mp o
  | .un, _ => True
def CRs (ρ : Rho U) (β : Nat → Nat) (ι : Inf) : List SC → List C → Prop
  | [], l => l = []
  | x :: r, l => ∃ c l', l = c :: l' ∧ CR ρ β ι x c ∧ CRs ρ β ι r l'
end
mutual
def VR (ρ : Rho U) (β : Nat → Nat) (ι : Inf) : SV → V → Prop
  | .c .un, _ => True
  | .c x, v => ∃ c, v = .c c ∧ CR ρ β ι x c
  | .a l, v => ∃ l', v = .a l' ∧ CRs ρ β ι l l'
  | .t l, v => ∃ l', v = .t l' ∧ VRs ρ β ι l l'
def VRs (ρ : Rho U) (β : Nat → Nat) (ι : Inf) : List SV → List V → Prop
  | [], l => l = []
  | x :: r, l => ∃ c l', l = c :: l' ∧ VR ρ β ι x c ∧ VRs ρ β ι r l'
end
def rowOf (d : Dyn U.B) : List (Dyn U.B) := match d with | ⟨.list _, xs⟩ => flat U xs | _ => []
def lenOf (d : Dyn U.B) : Nat := match d with | ⟨.list _, xs⟩ => List.length xs | _ => 0
def OR (ρ : Rho U) (β : Nat → Nat) (ι : Inf) (o : Nat) : SOb → Ob → Prop
  | .cells l, ob => ∃ l', ob = .cells l' ∧ CRs ρ β ι l l'
  | .arr w k ty sz t x, ob => ∃ d fs, x.den? ρ = some d ∧ d.t = .list t ∧ ob = .arr w (β o + k * 8589934592) sz fs ∧ sz = width U t ∧ β o % 8589934592 = ty ∧ FDs U fs (rowOf d)
  | .bld T u x, ob => ∃ v y, ob = .bld T v y ∧ (∀ b, u = some b → v = b) ∧ CR ρ β ι x y
  | .any, _ => True
def inf (ρ : Rho U) (S : SSt) : Inf := fun o =>
  match S[o]? with
  | some (.arr _ k _ _ _ x) => (match x.den? ρ with | some d => some (k, lenOf d) | none => none)
  | _ => none
def Later (ρ : Rho U) (β : Nat → Nat) (ι : Inf) (ρ' : Rho U) (β' : Nat → Nat) (ι' : Inf) : Prop :=
  (∀ (x : Tm) d, x.den? ρ = some d → x.den? ρ' = some d) ∧
  ∀ o kc len, ι o = some (kc, len) → β' o = β o ∧ ∃ kc' len', ι' o = some (kc', len') ∧ (kc < kc' ∨ (kc' = kc ∧ len' = len))
theorem Later.refl (ρ : Rho U) (β : Nat → Nat) (ι : Inf) : Later ρ β ι ρ β ι := ⟨fun _ _ h => h, fun o kc len h => ⟨rfl, kc, len, h, .inr ⟨rfl, rfl⟩⟩⟩
section
variable {ρ ρ' ρ'' : Rho U} {β β' β'' : Nat → Nat} {ι ι' ι'' : Inf}
theorem Later.trans (h : Later ρ β ι ρ' β' ι') (k : Later ρ' β' ι' ρ'' β'' ι'') : Later ρ β ι ρ'' β'' ι'' := by
  refine ⟨fun x d hx => k.1 x d (h.1 x d hx), fun o kc len ho => ?_⟩
  obtain ⟨h1, kc', len', h2, h3⟩ := h.2 o kc len ho
  obtain ⟨k1, kc'', len'', k2, k3⟩ := k.2 o kc' len' h2
  refine ⟨k1.trans h1, kc'', len'', k2, ?_⟩
  omega
mutual
theorem CR.later (hL : Later ρ β ι ρ' β' ι') : ∀ {x : SC} {c : C}, CR ρ β ι x c → CR ρ' β' ι' x c
  | .d t x, c, h => by
    simp only [CR] at h ⊢
    obtain ⟨f, d, h1, h2, h3⟩ := h
    exact ⟨f, d, h1, hL.1 _ _ h2, h3⟩
  | .nil, c, h => by simpa only [CR] using h
  | .nilp, c, h => by simpa only [CR] using h
  | .nilm, c, h => by simpa only [CR] using h
  | .nilf, c, h => by simpa only [CR] using h
  | .fn f, c, h => by simpa only [CR] using h
  | .clo f caps, c, h => by
    simp only [CR] at h ⊢
    obtain ⟨l, h1, h2⟩ := h
    exact ⟨l, h1, CRs.later hL h2⟩
  | .ptr o off, c, h => by simpa only [CR] using h
  | .pa o k sz i j, c, h => by
    simp only [CR] at h ⊢
    obtain ⟨kd, n, p, h1, h2, h3, h4⟩ := h
    obtain ⟨e, kc', len', h5, _⟩ := hL.2 o p.1 p.2 h3
    exact ⟨kd, n, _, hL.1 _ _ h1, h2, h5, by rw [e]; exact h4⟩
  | .el x j, c, h => by
    simp only [CR] at h ⊢
    obtain ⟨cs, off, d, h1, h2, h3⟩ := h
    exact ⟨cs, off, d, h1, hL.1 _ _ h2, h3⟩
  | .rs o k, c, h => by
    simp only [CR] at h ⊢
    obtain ⟨n, kc, len, h1, h2, h3, h4⟩ := h
    obtain ⟨e, kc', len', h5, h6⟩ := hL.2 o kc len h2
    refine ⟨n, kc', len', by rw [e]; exact h1, h5, by omega, fun hk => ?_⟩
    have := h4 (by omega)
    omega
  | .mp o, c, h => by simpa only [CR] using h
  | .un, c, h => by simp only [CR]
theorem CRs.later (hL : Later ρ β ι ρ' β' ι') : ∀ {x : List SC} {c : List C}, CRs ρ β ι x c → CRs ρ' β' ι' x c
  | [], c, h => by simpa only [CRs] using h
  | x :: r, c, h => by
    simp only [CRs] at h ⊢
    obtain ⟨c, l', h1, h2, h3⟩ := h
    exact ⟨c, l', h1, CR.later hL h2, CRs.later hL h3⟩
end
theorem VR.un {v : V} : VR ρ β ι (.c .un) v := by simp only [VR]
theorem VR.c {x : SC} {c : C} (h : CR ρ β ι x c) : VR ρ β ι (.c x) (.c c) := by
  cases x <;> first | exact VR.un | (simp only [VR]; exact ⟨_, rfl, h⟩)
mutual
theorem VR.later (hL : Later ρ β ι ρ' β' ι') : ∀ {x : SV} {v : V}, VR ρ β ι x v → VR ρ' β' ι' x v
  | .c x, v, h => by
    cases x <;> first
      | exact VR.un
      | (simp only [VR] at h; obtain ⟨c, rfl, h⟩ := h; exact VR.c (CR.later hL h))
  | .a l, v, h => by
    simp only [VR] at h ⊢
    obtain ⟨l', h1, h2⟩ := h
    exact ⟨l', h1, CRs.later hL h2⟩
  | .t l, v, h => by
    simp only [VR] at h ⊢
    obtain ⟨l', h1, h2⟩ := h
    exact ⟨l', h1, VRs.later hL h2⟩
theorem VRs.later (hL : Later ρ β ι ρ' β' ι') : ∀ {x : List SV} {v : List V}, VRs ρ β ι x v → VRs ρ' β' ι' x v
  | [], v, h => by simpa only [VRs] using h
  | x :: r, v, h => by
    simp only [VRs] at h ⊢
    obtain ⟨c, l', h1, h2, h3⟩ := h
    exact ⟨c, l', h1, VR.later hL h2, VRs.later hL h3⟩
end
theorem OR.later (hL : Later ρ β ι ρ' β' ι') {o : Nat} (hβ : β' o = β o) {x : SOb} {ob : Ob} (h : OR ρ β ι o x ob) : OR ρ' β' ι' o x ob := by
  cases x with
  | cells l => obtain ⟨l', h1, h2⟩ := h; exact ⟨l', h1, h2.later hL⟩
  | arr w k ty sz t x => obtain ⟨d, fs, h1, h2, h3, h4, h5, h6⟩ := h; exact ⟨d, fs, hL.1 _ _ h1, h2, by rw [hβ]; exact h3, h4, by rw [hβ]; exact h5, h6⟩
  | bld T u x => obtain ⟨v, y, h1, h0, h2⟩ := h; exact ⟨v, y, h1, h0, h2.later hL⟩
  | any => trivial
theorem CRs.len : ∀ {x : List SC} {c : List C}, CRs ρ β ι x c → c.length = x.length
  | [], c, h => by simp only [CRs] at h; subst h; rfl
  | x :: r, c, h => by simp only [CRs] at h; obtain ⟨c, l', rfl, h2, h3⟩ := h; simp [CRs.len h3]
theorem CRs.get : ∀ {l : List SC} {l' : List C}, CRs ρ β ι l l' → ∀ {i : Nat} {x : SC}, l[i]? = some x → ∃ c, l'[i]? = some c ∧ CR ρ β ι x c
  | [], c, h, i, x, hi => by simp at hi
  | y :: r, c, h, i, x, hi => by
    simp only [CRs] at h
    obtain ⟨c, l', rfl, h2, h3⟩ := h
    cases i with
    | zero => simp at hi; subst hi; exact ⟨c, rfl, h2⟩
    | succ i => simp at hi; simpa using CRs.get h3 hi
theorem CRs.append : ∀ {l m : List SC} {l' m' : List C}, CRs ρ β ι l l' → CRs ρ β ι m m' → CRs ρ β ι (l ++ m) (l' ++ m')
  | [], m, l', m', h, k => by simp only [CRs] at h; subst h; exact k
  | x :: r, m, l', m', h, k => by
    simp only [CRs] at h
    obtain ⟨c, l0, rfl, h2, h3⟩ := h
    simp only [List.cons_append, CRs]
    exact ⟨c, l0 ++ m', rfl, h2, CRs.append h3 k⟩
theorem CRs.take : ∀ (n : Nat) {l : List SC} {l' : List C}, CRs ρ β ι l l' → CRs ρ β ι (l.take n) (l'.take n)
  | 0, l, l', h => by simp [CRs]
  | n + 1, [], l', h => by simp only [CRs] at h; subst h; simp [CRs]
  | n + 1, x :: r, l', h => by
    simp only [CRs] at h
    obtain ⟨c, l0, rfl, h2, h3⟩ := h
    simp only [List.take_succ_cons, CRs]
    exact ⟨c, l0.take n, rfl, h2, CRs.take n h3⟩
theorem CRs.drop : ∀ (n : Nat) {l : List SC} {l' : List C}, CRs ρ β ι l l' → CRs ρ β ι (l.drop n) (l'.drop n)
  | 0, l, l', h => h
  | n + 1, [], l', h => by simp only [CRs] at h; subst h; simp [CRs]
  | n + 1, x :: r, l', h => by
    simp only [CRs] at h
    obtain ⟨c, l0, rfl, h2, h3⟩ := h
    exact CRs.drop n h3
theorem VRs.len : ∀ {x : List SV} {c : List V}, VRs ρ β ι x c → c.length = x.length
  | [], c, h => by simp only [VRs] at h; subst h; rfl
  | x :: r, c, h => by simp only [VRs] at h; obtain ⟨c, l', rfl, h2, h3⟩ := h; simp [VRs.len h3]
theorem VRs.get : ∀ {l : List SV} {l' : List V}, VRs ρ β ι l l' → ∀ {i : Nat} {x : SV}, l[i]? = some x → ∃ c, l'[i]? = some c ∧ VR ρ β ι x c
  | [], c, h, i, x, hi => by simp at hi
  | y :: r, c, h, i, x, hi => by
    simp only [VRs] at h
    obtain ⟨c, l', rfl, h2, h3⟩ := h
    cases i with
    | zero => simp at hi; subst hi; exact ⟨c, rfl, h2⟩
    | succ i => simp at hi; simpa using VRs.get h3 hi
end
end Go.Dm.Sx
namespace Go.Dm.Sx
open Go.Dm
set_option linter.unusedVariables false
set_option linter.unusedSimpArgs false
inductive Tr where
  | fail
  | triv
  | br (x : Tm) (a b : Tr)
  | both (a b : Tr)
  | ar (op : BinOp) (a b : Tm) (r : Tr)
  | bin (op : BinOp) (k : IntKind) (a b : Tm) (r : Tr)
  | cmp (op : BinOp) (a b : Tm) (r : Tr)
  | scmp (op : BinOp) (a b : Tm) (r : Tr)
  | beq (ne : Bool) (a b : Tm) (r : Tr)
  | bnot (a : Tm) (r : Tr)
  | sapp (a b : Tm) (r : Tr)
  | ssub (s : Tm) (lo hi : Option Tm) (r : Tr)
  | slen (s : Tm) (r : Tr)
  | sget (s i : Tm) (r : Tr)
  | wrap (k : IntKind) (a : Tm) (r : Tr)
  | llen (t : Ty) (l : Tm) (r : Tr)
  | lget (t : Ty) (l i : Tm) (r : Tr)
  | lidx (t : Ty) (l i : Tm) (r : Tr)
  | lnil (t : Ty) (l : Tm) (a b : Tr)
  | lapp (t : Ty) (bytes : Nat) (a b : Tm) (r : Tr)
  | lnew (t : Ty) (bytes : Nat) (a : Tm) (r : Tr)
  | lsub (t : Ty) (l : Tm) (lo hi : Option Tm) (r : Tr)
  | lset (t : Ty) (l i x : Tm) (r : Tr)
  | lmk (t : Ty) (xs : List Tm) (r : Tr)
  | lrep (t : Ty) (bytes : Nat) (n x : Tm) (r : Tr)
  | mk (n : Nat) (xs : List Tm) (r : Tr)
  | cp (t : Ty) (x : Tm) (r : Tr)
  | toPtr (t : Ty) (x : Tm) (r : Tr)
  | deref (t : Ty) (x : Tm) (r : Tr)
  | some (t : Ty) (x : Tm) (r : Tr)
  | unopt (t : Ty) (x : Tm) (r : Tr)
  | isnil (t : Ty) (x : Tm) (r : Tr)
  | sbytes (s : Tm) (r : Tr)
  | sof (l : Tm) (r : Tr)
  | mnx (mx : Bool) (k : IntKind) (a b : Tm) (r : Tr)
  | ne0 (a : Tm) (r : Tr)
  | nneg (a : Tm) (r : Tr)
  | inn (a : Tm) (n : Nat) (r : Tr)
  | isn (a : Tm) (n : Nat) (r : Tr)
  | eqn (a b : Tm) (r : Tr)
  | fcmp (op : BinOp) (a b : Tm) (r : Tr)
  | fsum (op : BinOp) (a b : Tm) (r : Tr)
  | fofi (a : Tm) (r : Tr)
  | foi (a : Tm) (r : Tr)
  | cx (a b : Tm) (r : Tr)
  | re (a : Tm) (r : Tr)
  | im (a : Tm) (r : Tr)
  | and (a b : Tm) (r : Tr)
  | call (i : Nat) (args : List Tm) (r : Tr)
  | ret (l : List Tm)
  | go (j : Nat) (l : List Tm)
  | here (j : Nat) (f : Unit → List Ty × List (Nat × SV) × List SOb)
  deriving Inhabited
variable {U : Uni}
def Dyn.int : Dyn U.B → Int
  | ⟨.int _, n⟩ => n
  | _ => 0
def Dyn.bool : Dyn U.B → Bool
  | ⟨.bool, b⟩ => b
  | _ => false
def Dyn.str : Dyn U.B → List UInt8
  | ⟨.str, s⟩ => s
  | _ => []
def Dyn.flo : Dyn U.B → Nat
  | ⟨.flo, s⟩ => s
  | _ => 0
def Dyn.cpl : Dyn U.B → Nat × Nat
  | ⟨.cpl, s⟩ => s
  | _ => (0, 0)
@[reducible] def HL (U : Uni) : List Ty → Type
  | [] => Unit
  | t :: ts => T U.B t × HL U ts
def HL.dyn : (ts : List Ty) → HL U ts → List (Dyn U.B)
  | [], _ => []
  | t :: ts, (x, xs) => ⟨t, x⟩ :: HL.dyn ts xs
def HL.of : (ts : List Ty) → List (Dyn U.B) → HL U ts
  | [], _ => ()
  | t :: ts, d :: l => (d.as t, HL.of ts l)
  | t :: ts, [] => (dfl U t, HL.of ts [])
inductive IC where
  | d (j : Nat)
  | row (o j : Nat)
  | ptr (o off : Nat)
  | mp (o : Nat)
  deriving Inhabited
inductive IO where
  | cells (l : List IC)
  | row (w : Bool) (ty sz : Nat) (t : Ty) (j : Nat)
  deriving Inhabited
inductive In where
  | ty (t : Ty)
  | fnc (f : Nat)
  | clo (f : Nat) (ts : List Ty)
  | st (b : Nat) (obs : List IO)
  | ptr (o off : Nat)
  | cloP (f : Nat) (l : List (Nat × Nat))
  deriving Inhabited
def In.tys : In → List Ty
  | .ty t => [t]
  | .fnc _ => []
  | .clo _ ts => ts
  | .st b _ => [.base b]
  | .ptr _ _ => []
  | .cloP _ _ => []
def stOf : List In → Option (Nat × List IO)
  | .st b obs :: _ => Option.some (b, obs)
  | _ => Option.none
def insTys : List In → List Ty
  | [] => []
  | i :: r => i.tys ++ insTys r
structure Sig where
  f : Nat
  ins : List In
  outs : List Ty
  deriving Inhabited
structure FSpec (U : Uni) where
  sig : Sig
  pre : HL U (insTys sig.ins) → Prop
  fn : HL U (insTys sig.ins) → List (Dyn U.B)
  ty : ∀ x, (fn x).map Dyn.t = sig.outs
def mnxI (mx : Bool) (a b : Int) : Int := match mx with | true => max a b | false => min a b
def exI (op : BinOp) (a b : Int) : Int := match op with | .add => a + b | .sub => a - b | .mul => a * b | _ => 0
def in64 (x : Int) : Prop := -9223372036854775808 ≤ x ∧ x ≤ 9223372036854775807
def optI (ρ : Rho U) (d : Int) : Option Tm → Int
  | .none => d
  | .some x => (x.den ρ).int
def TDen (Sp : List (FSpec U)) (Post : List (Dyn U.B) → Prop) (Go : Nat → List (Dyn U.B) → Prop) : Tr → Rho U → Prop
  | .fail, _ => False
  | .triv, _ => True
  | .br x a b, ρ => ((x.den ρ).bool = true → TDen Sp Post Go a ρ) ∧ ((x.den ρ).bool = false → TDen Sp Post Go b ρ)
  | .both a b, ρ => TDen Sp Post Go a ρ ∧ TDen Sp Post Go b ρ
  | .ar op a b r, ρ => ∀ x : Int, x = exI op (a.den ρ).int (b.den ρ).int → in64 x ∧ TDen Sp Post Go r (ρ ++ [⟨.int .i64, x⟩])
  | .bin op k a b r, ρ => ∀ x : Int, x = barith op k (a.den ρ).int (b.den ρ).int → TDen Sp Post Go r (ρ ++ [⟨.int k, x⟩])
  | .cmp op a b r, ρ => ∀ x : Bool, x = bcmp op (a.den ρ).int (b.den ρ).int → TDen Sp Post Go r (ρ ++ [⟨.bool, x⟩])
  | .scmp op a b r, ρ => ∀ x : Bool, x = bscmp op (a.den ρ).str (b.den ρ).str → TDen Sp Post Go r (ρ ++ [⟨.bool, x⟩])
  | .beq n a b r, ρ => ∀ x : Bool, x = (match n with | true => !((a.den ρ).bool == (b.den ρ).bool) | false => (a.den ρ).bool == (b.den ρ).bool) → TDen Sp Post Go r (ρ ++ [⟨.bool, x⟩])
  | .bnot a r, ρ => ∀ x : Bool, x = !(a.den ρ).bool → TDen Sp Post Go r (ρ ++ [⟨.bool, x⟩])
  | .sapp a b r, ρ => ∀ x : List UInt8, x = (a.den ρ).str ++ (b.den ρ).str → x.length ≤ 9223372036854775807 ∧ TDen Sp Post Go r (ρ ++ [⟨.str, x⟩])
  | .ssub s lo hi r, ρ => (0 ≤ optI ρ 0 lo ∧ optI ρ 0 lo ≤ optI ρ (s.den ρ).str.length hi ∧ optI ρ (s.den ρ).str.length hi ≤ (s.den ρ).str.length) ∧
      ∀ x : List UInt8, x = ((s.den ρ).str.drop (optI ρ 0 lo).toNat).take ((optI ρ (s.den ρ).str.length hi).toNat - (optI ρ 0 lo).toNat) → TDen Sp Post Go r (ρ ++ [⟨.str, x⟩])
  | .slen s r, ρ => ∀ x : Int, x = (s.den ρ).str.length → TDen Sp Post Go r (ρ ++ [⟨.int .i64, x⟩])
  | .sget s i r, ρ => (0 ≤ (i.den ρ).int ∧ (i.den ρ).int < (s.den ρ).str.length) ∧ ∀ x : Int, x = (((s.den ρ).str.getD (i.den ρ).int.toNat 0).toNat : Int) → TDen Sp Post Go r (ρ ++ [⟨.int .u8, x⟩])
  | .wrap k a r, ρ => ∀ x : Int, x = k.wrap (a.den ρ).int → TDen Sp Post Go r (ρ ++ [⟨.int k, x⟩])
  | .llen t l r, ρ => ∀ x : Int, x = ((l.den ρ).as (.list t)).length → TDen Sp Post Go r (ρ ++ [⟨.int .i64, x⟩])
  | .lget t l i r, ρ => (0 ≤ (i.den ρ).int ∧ (i.den ρ).int < ((l.den ρ).as (.list t)).length) ∧ ∀ x : T U.B t, ((l.den ρ).as (.list t))[(i.den ρ).int.toNat]? = Option.some x → TDen Sp Post Go r (ρ ++ [⟨t, x⟩])
  | .lidx t l i r, ρ => (0 ≤ (i.den ρ).int ∧ (i.den ρ).int < ((l.den ρ).as (.list t)).length) ∧ TDen Sp Post Go r ρ
  | .lnil t l a b, ρ => (((l.den ρ).as (.list t)) = [] → TDen Sp Post Go a ρ) ∧ (((l.den ρ).as (.list t)) ≠ [] → TDen Sp Post Go b ρ)
  | .lapp t bytes a b r, ρ => ∀ x : List (T U.B t), x = ((a.den ρ).as (.list t)) ++ ((b.den ρ).as (.list t)) → x.length * bytes ≤ 140737488355328 ∧ x.length ≤ 9223372036854775807 ∧ TDen Sp Post Go r (ρ ++ [⟨.list t, x⟩])
  | .lnew t bytes a r, ρ => ((a.den ρ).as (.list t)).length * bytes ≤ 140737488355328 ∧ ((a.den ρ).as (.list t)).length ≤ 9223372036854775807 ∧ TDen Sp Post Go r ρ
  | .lsub t l lo hi r, ρ => (0 ≤ optI ρ 0 lo ∧ optI ρ 0 lo ≤ optI ρ ((l.den ρ).as (.list t)).length hi ∧ optI ρ ((l.den ρ).as (.list t)).length hi ≤ ((l.den ρ).as (.list t)).length) ∧
      ∀ x : List (T U.B t), x = (((l.den ρ).as (.list t)).drop (optI ρ 0 lo).toNat).take ((optI ρ ((l.den ρ).as (.list t)).length hi).toNat - (optI ρ 0 lo).toNat) → TDen Sp Post Go r (ρ ++ [⟨.list t, x⟩])
  | .lset t l i y r, ρ => (0 ≤ (i.den ρ).int ∧ (i.den ρ).int < ((l.den ρ).as (.list t)).length) ∧ ∀ x : List (T U.B t), x = ((l.den ρ).as (.list t)).set (i.den ρ).int.toNat ((y.den ρ).as t) → TDen Sp Post Go r (ρ ++ [⟨.list t, x⟩])
  | .lmk t xs r, ρ => ∀ x : List (T U.B t), x = (xs.map fun y => (y.den ρ).as t) → TDen Sp Post Go r (ρ ++ [⟨.list t, x⟩])
  | .lrep t bytes n y r, ρ => (0 ≤ (n.den ρ).int ∧ (n.den ρ).int ≤ 16777216 ∧ (n.den ρ).int * bytes ≤ 16777216) ∧ ∀ x : List (T U.B t), x = List.replicate (n.den ρ).int.toNat ((y.den ρ).as t) → TDen Sp Post Go r (ρ ++ [⟨.list t, x⟩])
  | .mk n xs r, ρ => ∀ x : U.B n, x = U.bd n (xs.map fun y => y.den ρ) → TDen Sp Post Go r (ρ ++ [⟨.base n, x⟩])
  | .cp t y r, ρ => ∀ x : T U.B t, x = (y.den ρ).as t → TDen Sp Post Go r (ρ ++ [⟨t, x⟩])
  | .toPtr t y r, ρ => ∀ x : T U.B t, x = (y.den ρ).as t → TDen Sp Post Go r (ρ ++ [⟨.ptr t, x⟩])
  | .deref t y r, ρ => ∀ x : T U.B t, x = (y.den ρ).as (.ptr t) → TDen Sp Post Go r (ρ ++ [⟨t, x⟩])
  | .some t y r, ρ => ∀ x : Option (T U.B t), x = Option.some ((y.den ρ).as (.ptr t)) → TDen Sp Post Go r (ρ ++ [⟨.opt t, x⟩])
  | .unopt t y r, ρ => ∃ x : T U.B t, (y.den ρ).as (.opt t) = Option.some x ∧ TDen Sp Post Go r (ρ ++ [⟨.ptr t, x⟩])
  | .isnil t y r, ρ => ∀ x : Bool, x = ((y.den ρ).as (.opt t)).isNone → TDen Sp Post Go r (ρ ++ [⟨.bool, x⟩])
  | .sbytes s r, ρ => ∀ x : List Int, x = (s.den ρ).str.map (fun b => (b.toNat : Int)) → TDen Sp Post Go r (ρ ++ [⟨.list (.int .u8), x⟩])
  | .sof l r, ρ => ∃ x : List UInt8, ((l.den ρ).as (.list (.int .u8)) : List Int) = x.map (fun b => (b.toNat : Int)) ∧ TDen Sp Post Go r (ρ ++ [⟨.str, x⟩])
  | .mnx mx k a b r, ρ => ∀ x : Int, x = mnxI mx (a.den ρ).int (b.den ρ).int → TDen Sp Post Go r (ρ ++ [⟨.int k, x⟩])
  | .ne0 a r, ρ => (a.den ρ).int ≠ 0 ∧ TDen Sp Post Go r ρ
  | .nneg a r, ρ => 0 ≤ (a.den ρ).int ∧ TDen Sp Post Go r ρ
  | .inn a n r, ρ => (0 ≤ (a.den ρ).int ∧ (a.den ρ).int < n) ∧ TDen Sp Post Go r ρ
  | .isn a n r, ρ => (a.den ρ).int = n → TDen Sp Post Go r ρ
  | .eqn a b r, ρ => (a.den ρ).int = (b.den ρ).int ∧ TDen Sp Post Go r ρ
  | .fcmp op a b r, ρ => ∀ x : Bool, x = bfcmp op (a.den ρ).flo (b.den ρ).flo → TDen Sp Post Go r (ρ ++ [⟨.bool, x⟩])
  | .fsum op a b r, ρ => ∃ x : Nat, floatBits op .f64 (a.den ρ).flo (b.den ρ).flo = Option.some x ∧ TDen Sp Post Go r (ρ ++ [⟨.flo, x⟩])
  | .fofi a r, ρ => ∀ x : Nat, x = FloatKind.f64.nearest (a.den ρ).int → TDen Sp Post Go r (ρ ++ [⟨.flo, x⟩])
  | .foi a r, ρ => ∃ x : Int, floatToIntVal .f64 (a.den ρ).flo .i64 = Option.some x ∧ TDen Sp Post Go r (ρ ++ [⟨.int .i64, x⟩])
  | .cx a b r, ρ => ∀ x : Nat × Nat, x = ((a.den ρ).flo, (b.den ρ).flo) → TDen Sp Post Go r (ρ ++ [⟨.cpl, x⟩])
  | .re a r, ρ => ∀ x : Nat, x = (a.den ρ).cpl.1 → TDen Sp Post Go r (ρ ++ [⟨.flo, x⟩])
  | .im a r, ρ => ∀ x : Nat, x = (a.den ρ).cpl.2 → TDen Sp Post Go r (ρ ++ [⟨.flo, x⟩])
  | .and a b r, ρ => ∀ x : Bool, x = ((a.den ρ).bool && (b.den ρ).bool) → TDen Sp Post Go r (ρ ++ [⟨.bool, x⟩])
  | .call i args r, ρ =>
    (match Sp[i]? with
    | Option.some s => s.pre (HL.of _ (args.map fun y => y.den ρ)) ∧ TDen Sp Post Go r (ρ ++ s.fn (HL.of _ (args.map fun y => y.den ρ)))
    | Option.none => False)
  | .ret l, ρ => Post (l.map fun y => y.den ρ)
  | .go j l, ρ => Go j (l.map fun y => y.den ρ)
  | .here _ _, _ => False
def Tm.eqb : Tm → Tm → Bool
  | .at i, .at j => Nat.beq i j
  | .fld i j, .fld k l => (match Nat.beq i k with | true => Nat.beq j l | false => false)
  | .int k n, .int k' n' => (match sameK k k' with | true => ieq n n' | false => false)
  | .bool a, .bool b => (match a, b with | true, true | false, false => true | _, _ => false)
  | .str a, .str b => beqS a b
  | .nil t, .nil u => Ty.eqb t u
  | .none t, .none u => Ty.eqb t u
  | .flo a, .flo b => Nat.beq a b
  | .cpl a b, .cpl c d => (match Nat.beq a c with | true => Nat.beq b d | false => false)
  | _, _ => false
theorem Tm.eqb_ok {a b : Tm} (h : Tm.eqb a b = true) : a = b := by
  cases a <;> cases b <;> simp only [Tm.eqb, Bool.false_eq_true] at h
  · rw [beq_nat h]
  · rename_i i j k l
    cases h1 : Nat.beq i k <;> simp [h1] at h
    rw [beq_nat h1, beq_nat (a := j) (b := l) (by simpa using h)]
  · rename_i k n k' n'
    cases h1 : sameK k k' <;> simp [h1] at h
    rw [ieq_eq] at h
    rw [sameK_eq h1, eq_of_beq h]
  · rename_i a b; cases a <;> cases b <;> first | rfl | (simp at h)
  · rw [beqS_eq] at h; rw [eq_of_beq h]
  · rw [beq_nat h]
  · rename_i a b c d
    cases h1 : Nat.beq a c <;> simp [h1] at h
    rw [beq_nat h1, beq_nat (a := b) (b := d) (by simpa using h)]
  · rw [Ty.eqb_ok h]
  · rw [Ty.eqb_ok h]
structure SE where
  tys : List Ty
  kn : List (Tm × Bool)
  ne : List Tm
  deriving Inhabited
def SE.n (e : SE) : Nat := e.tys.length
def SE.push (e : SE) (t : Ty) : SE := { e with tys := e.tys ++ [t] }
def SE.new (e : SE) : Tm := .at e.n
def factL (x : Tm) : List (Tm × Bool) → Option Bool
  | [] => .none
  | (y, b) :: r => (match Tm.eqb x y with | true => .some b | false => factL x r)
def SE.fact (e : SE) (x : Tm) : Option Bool :=
  match x with
  | .bool b => .some b
  | x => factL x e.kn
def memT (x : Tm) : List Tm → Bool
  | [] => false
  | y :: r => (match Tm.eqb x y with | true => true | false => memT x r)
def tyCell (lay : Nat → List Ty) (t : Ty) (j : Nat) : Option Ty :=
  match t with
  | .base n => nth (lay n) j
  | t => (match j with | 0 => .some t | _ => .none)
def tmTy (lay : Nat → List Ty) (e : SE) : Tm → Option Ty
  | .at i => nth e.tys i
  | .fld i j => (match nth e.tys i with | .some (.ptr t) => tyCell lay t j | .some (.base n) => nth (lay n) j | _ => .none)
  | .int k _ => .some (.int k)
  | .bool _ => .some .bool
  | .str _ => .some .str
  | .flo _ => .some .flo
  | .cpl _ _ => .some .cpl
  | .nil t => .some (.list t)
  | .none t => .some (.opt t)
def wid (lay : Nat → List Ty) : Ty → Nat
  | .base n => (lay n).length
  | _ => 1
def lkS : SA → Nat → SV
  | [], _ => .c .un
  | (j, v) :: r, i => (match Nat.beq j i with | true => v | false => lkS r i)
def putS (m : Nat) (A : SA) (dst : Option Tmp) (v : SV) : SA :=
  match dst with
  | .none => A
  | .some d => (match Nat.blt d m with | true => (d, v) :: A | false => A)
def ofF : F → SC
  | .bool b => .d .bool (.bool b)
  | .int k n => .d (.int k) (.int k n)
  | .flo b => .d .flo (.flo b)
  | .cpl a b => .d .cpl (.cpl a b)
  | .str s => .d .str (.str s)
  | .nils => .nil
  | .nilp => .nilp
  | .nilm => .nilm
  | .nilf => .nilf
  | .fn f => .fn f
  | _ => .un
def ofV : V → SV
  | .c (.f x) => .c (ofF x)
  | _ => .c .un
def opS (A : SA) : Operand → SV
  | .tmp t => lkS A t
  | .const v => ofV (ofConst v)
  | .func f => .c (.fn f)
  | .global _ => .c .un
abbrev K1 := SE → SV → SSt → Tr
def vb (x : Tm) : SV := .c (.d .bool x)
def vi (k : IntKind) (x : Tm) : SV := .c (.d (.int k) x)
def brK (e : SE) (x : Tm) (a b : SE → Tr) : Tr :=
  match e.fact x with
  | .some true => a e
  | .some false => b e
  | .none => .br x (a { e with kn := (x, true) :: e.kn }) (b { e with kn := (x, false) :: e.kn })
def atomK (e : SE) (t : Ty) (x : Tm) (k : SE → Nat → Tr) : Tr :=
  match x with
  | .at i => k e i
  | x => .cp t x (k (e.push t) e.n)
def cellOf (lay : Nat → List Ty) (e : SE) (i j : Nat) : SC :=
  match nth e.tys i with
  | .some (.base n) => (match nth (lay n) j with | .some t => .d t (.fld i j) | .none => .un)
  | .some (.ptr t) => (match tyCell lay t j with | .some t => .d t (.fld i j) | .none => .un)
  | .some (.opt _) => .un
  | .some t => (match j with | 0 => .d t (.at i) | _ => .un)
  | .none => .un
end Go.Dm.Sx
namespace Go.Dm.Sx
open Go.Dm
set_option linter.unusedVariables false
set_option linter.unusedSimpArgs false
def isX64 (j : IntKind) (op : BinOp) : Bool := match j, op with | .i64, .add => true | .i64, .sub => true | .i64, .mul => true | _, _ => false
def binS (e : SE) (d : TD) (op : BinOp) (x y : SV) (k : SE → SV → Tr) : Tr :=
  match x, y with
  | .c (.d (.int j) a), .c (.d (.int j') b) =>
    (match isSh op with
    | true => .nneg b (.bin op j a b (k (e.push (.int j)) (vi j e.new)))
    | false =>
      (match sameK j j' with
      | false => .fail
      | true =>
        (match isCmp op with
        | true => (match a, b with
          | .int _ m, .int _ n => k e (vb (.bool (bcmp op m n)))
          | a, b => .cmp op a b (k (e.push .bool) (vb e.new)))
        | false =>
          (match isDiv op with
          | true => .ne0 b (.bin op j a b (k (e.push (.int j)) (vi j e.new)))
          | false =>
            (match isAr op with
            | false => .fail
            | true =>
              (match a, b with
              | .int _ m, .int _ n => k e (vi j (.int j (barith op j m n)))
              | a, b =>
                (match isX64 j op with
                | true => .ar op a b (k (e.push (.int j)) (vi j e.new))
                | false => .bin op j a b (k (e.push (.int j)) (vi j e.new)))))))))
  | .c (.d .bool a), .c (.d .bool b) =>
    (match d, op with
    | .bool, .eql => .beq false a b (k (e.push .bool) (vb e.new))
    | .bool, .neq => .beq true a b (k (e.push .bool) (vb e.new))
    | _, _ => .fail)
  | .c (.d .str a), .c (.d .str b) =>
    (match isCmp op with
    | true => (match a, b with
      | .str m, .str n => k e (vb (.bool (bscmp op m n)))
      | a, b => .scmp op a b (k (e.push .bool) (vb e.new)))
    | false => (match op with | .add => .sapp a b (k (e.push .str) (.c (.d .str e.new))) | _ => .fail))
  | .c (.d .flo a), .c (.d .flo b) =>
    (match isCmp op with
    | true => .fcmp op a b (k (e.push .bool) (vb e.new))
    | false => (match op with
      | .add => .fsum .add a b (k (e.push .flo) (.c (.d .flo e.new)))
      | .sub => .fsum .sub a b (k (e.push .flo) (.c (.d .flo e.new)))
      | _ => .fail))
  | .c (.d .cpl a), .c (.d .cpl b) =>
    (match op with
    | .add => cplS .add e a b k
    | .sub => cplS .sub e a b k
    | .eql => cplE e a b fun e x => k e (vb x)
    | .neq => cplE e a b fun e x => .bnot x (k (e.push .bool) (vb e.new))
    | _ => .fail)
  | _, _ => .fail
where
  cplS (op : BinOp) (e : SE) (a b : Tm) (k : SE → SV → Tr) : Tr :=
    .re a (.re b (.fsum op (.at e.n) (.at (e.n + 1)) (.im a (.im b (.fsum op (.at (e.n + 3)) (.at (e.n + 4)) (.cx (.at (e.n + 2)) (.at (e.n + 5))
      (k (((((((e.push .flo).push .flo).push .flo).push .flo).push .flo).push .flo).push .cpl) (.c (.d .cpl (.at (e.n + 6)))))))))))
  cplE (e : SE) (a b : Tm) (k : SE → Tm → Tr) : Tr :=
    .re a (.re b (.fcmp .eql (.at e.n) (.at (e.n + 1)) (.im a (.im b (.fcmp .eql (.at (e.n + 3)) (.at (e.n + 4)) (.and (.at (e.n + 2)) (.at (e.n + 5))
      (k (((((((e.push .flo).push .flo).push .bool).push .flo).push .flo).push .bool).push .bool) (.at (e.n + 6)))))))))
def unS (e : SE) (op : UnOp) (x : SV) (k : SE → SV → Tr) : Tr :=
  match op, x with
  | .not, .c (.d .bool a) =>
    (match e.fact a with
    | .some b => k e (vb (.bool (!b)))
    | .none => .bnot a (k (e.push .bool) (vb e.new)))
  | .neg, .c (.d (.int j) a) =>
    (match a with
    | .int _ n => k e (vi j (.int j (barith .sub j 0 n)))
    | a => .bin .sub j (.int j 0) a (k (e.push (.int j)) (vi j e.new)))
  | _, _ => .fail
def pickS (e : SE) (c a b : SV) (k : SE → SV → Tr) : Tr :=
  match c with
  | .c (.d .bool x) => brK e x (fun e => k e a) (fun e => k e b)
  | _ => .fail
def cutS (l : List SC) (off n : Nat) : Option (List SC) :=
  match Nat.ble (off + n) l.length with | true => .some ((l.drop off).take n) | false => .none
def partS (agg : Bool) (l : List SC) (off n : Nat) (k : SV → Tr) : Tr :=
  match agg with
  | true => (match cutS l off n with | .some r => k (.a r) | .none => .fail)
  | false => (match nth l off with | .some c => k (.c c) | .none => .fail)
def cellsFrom (lay : Nat → List Ty) (e : SE) (i : Nat) : Nat → Nat → List SC
  | _, 0 => []
  | j, n + 1 => cellOf lay e i j :: cellsFrom lay e i (j + 1) n
def spanOf (lay : Nat → List Ty) (e : SE) (i : Nat) : Nat :=
  match nth e.tys i with
  | .some (.base n) => (lay n).length
  | .some (.ptr t) => wid lay t
  | .some (.opt _) => 0
  | .some _ => 1
  | .none => 0
def addrS (e : SE) (x : SV) (k : SE → SV → Tr) : Tr :=
  match x with
  | .c (.d (.ptr t) a) => atomK e (.ptr t) a fun e i => k e (.c (.el (.at i) 0))
  | .c (.d (.opt t) a) => .unopt t a (k (e.push (.ptr t)) (.c (.el e.new 0)))
  | x => k e x
def loadS (lay : Nat → List Ty) (e : SE) (agg : Bool) (n : Nat) (x : SV) (S : SSt) (k : SE → SV → Tr) : Tr :=
  match x with
  | .c (.ptr o off) =>
    (match nth S o with
    | .some (.cells l) => partS agg l off n (k e)
    | .some (.bld _ u y) =>
      (match agg, off with
      | false, 0 => (match u with | .some true => k e (.c (.ptr o 0)) | .some false => k e (.c .nilp) | .none => .fail)
      | false, 1 => k e (.c y)
      | _, _ => .fail)
    | _ => .fail)
  | .c (.el (.at i) j) =>
    (match agg with
    | true => (match Nat.ble (j + n) (spanOf lay e i), Nat.blt 0 n with | true, true => k e (.a (cellsFrom lay e i j n)) | _, _ => .fail)
    | false => (match Nat.blt j (spanOf lay e i) with | true => k e (.c (cellOf lay e i j)) | false => .fail))
  | .c (.pa o kk sz i j) =>
    (match nth S o with
    | .some (.arr w k' ty sz' t x) =>
      (match Nat.beq kk k', Nat.beq sz sz' with
      | true, true =>
        (match t with
        | .base b =>
          (match agg with
          | true => (match Nat.ble (j + n) (lay b).length, Nat.blt 0 n with | true, true => .lget t x i (k (e.push t) (.a (cellsFrom lay (e.push t) e.n j n))) | _, _ => .fail)
          | false => (match Nat.blt j (lay b).length with | true => .lget t x i (k (e.push t) (.c (cellOf lay (e.push t) e.n j))) | false => .fail))
        | t => (match agg, j with | false, 0 => .lget t x i (k (e.push t) (.c (.d t e.new))) | _, _ => .fail))
      | _, _ => .fail)
    | _ => .fail)
  | _ => .fail
def freshS (S : SSt) (o kk : Nat) : Bool := match nth S o with | .some (.arr _ k' _ _ _ _) => Nat.beq kk k' | _ => false
def fieldS (x : SV) (fo : Nat) (S : SSt) (k : SV → Tr) : Tr :=
  match x with
  | .c (.ptr o off) => k (.c (.ptr o (off + fo)))
  | .c (.el a j) => k (.c (.el a (j + fo)))
  | .c (.pa o kk sz i j) => (match freshS S o kk with | true => k (.c (.pa o kk sz i (j + fo))) | false => .fail)
  | _ => .fail
def nilcS (e : SE) (x : SV) (S : SSt) (k : SE → SV → Tr) : Tr :=
  match x with
  | .c (.ptr o off) => k e x
  | .c (.el a j) => k e x
  | .c (.d (.ptr t) a) => k e x
  | .c (.d (.opt t) a) => .unopt t a (k (e.push (.ptr t)) (.c (.d (.ptr t) e.new)))
  | .c (.pa o kk sz i j) => (match freshS S o kk with | true => k e x | false => .fail)
  | _ => .fail
def plainElem : Ty → Bool
  | .ptr _ | .opt _ => false
  | _ => true
def ixrS (lay : Nat → List Ty) (e : SE) (sz : Nat) (x i : SV) (S : SSt) (k : SE → SV → Tr) : Tr :=
  match x, i with
  | .c (.d (.list t) l), .c (.d (.int _) a) =>
    (match Nat.beq sz (wid lay t), plainElem t with
    | true, true => .lget t l a (k (e.push t) (.c (.el e.new 0)))
    | _, _ => .fail)
  | .c (.rs o kk), .c (.d (.int _) a) =>
    (match nth S o with
    | .some (.arr w k' ty sz' t l) => (match Nat.beq kk k', Nat.beq sz sz' with | true, true => .lidx t l a (k e (.c (.pa o kk sz a 0))) | _, _ => .fail)
    | _ => .fail)
  | _, _ => .fail
def casesS (a : Tm) (k : Nat → Tr) : Nat → Nat → Tr
  | _, 0 => .triv
  | c, n + 1 => .both (.isn a c (k c)) (casesS a k (c + 1) n)
def caseS (a : Tm) (n : Nat) (k : Nat → Tr) : Tr :=
  match a with
  | .int _ (.ofNat c) => (match Nat.blt c n with | true => k c | false => .fail)
  | a => .inn a n (casesS a k 0 n)
def ixaS (n sz : Nat) (x i : SV) (S : SSt) (k : SV → Tr) : Tr :=
  match i with
  | .c (.d (.int _) a) => caseS a n fun c => fieldS x (c * sz) S k
  | _ => .fail
def chrS (e : SE) (x i : SV) (k : SE → SV → Tr) : Tr :=
  match x, i with
  | .c (.d .str s), .c (.d (.int _) a) =>
    (match s, a with
    | .str l, .int _ (.ofNat c) => (match nth l c with | .some b => k e (vi .u8 (.int .u8 (.ofNat b.toNat))) | .none => .fail)
    | s, a => .sget s a (k (e.push (.int .u8)) (vi .u8 e.new)))
  | _, _ => .fail
def lenS (e : SE) (d : TD) (x : SV) (S : SSt) (k : SE → SV → Tr) : Tr :=
  match d, x with
  | .str, .c (.d .str s) => (match s with | .str l => k e (vi .i64 (.int .i64 (.ofNat l.length))) | s => .slen s (k (e.push (.int .i64)) (vi .i64 e.new)))
  | .slice _, .c .nil => k e (vi .i64 (.int .i64 0))
  | .slice _, .c (.d (.list t) l) => .llen t l (k (e.push (.int .i64)) (vi .i64 e.new))
  | .slice _, .c (.rs o kk) =>
    (match nth S o with
    | .some (.arr w k' ty sz' t l) => (match Nat.beq kk k' with | true => .llen t l (k (e.push (.int .i64)) (vi .i64 e.new)) | false => .fail)
    | _ => .fail)
  | _, _ => .fail
end Go.Dm.Sx
namespace Go.Dm.Sx
open Go.Dm
set_option linter.unusedVariables false
set_option linter.unusedSimpArgs false
structure Cx (U : Uni) where
  ρ : Rho U
  β : Nat → Nat
  S : SSt
  σ : St
variable {U : Uni}
def Cx.ι (c : Cx U) : Inf := inf c.ρ c.S
def Cx.vr (c : Cx U) : SV → V → Prop := VR c.ρ c.β c.ι
def Cx.cr (c : Cx U) : SC → Dm.C → Prop := CR c.ρ c.β c.ι
def Cx.crs (c : Cx U) : List SC → List Dm.C → Prop := CRs c.ρ c.β c.ι
def Cx.push (c : Cx U) (d : Dyn U.B) : Cx U := { c with ρ := c.ρ ++ [d] }
structure Ok (c : Cx U) (e : SE) : Prop where
  tys : e.tys = c.ρ.map Dyn.t
  kn : ∀ p ∈ e.kn, p.1.den? c.ρ = some ⟨.bool, p.2⟩
  ne : ∀ x ∈ e.ne, ∃ d, x.den? c.ρ = some d ∧ lenOf d ≠ 0
  len : c.S.length = c.σ.length
  st : ∀ o so, c.S[o]? = some so → ∃ ob, c.σ[o]? = some ob ∧ OR c.ρ c.β c.ι o so ob
def Le (c c' : Cx U) : Prop := Later c.ρ c.β c.ι c'.ρ c'.β c'.ι
section
variable {c c' c'' : Cx U} {e : SE}
theorem Le.refl (c : Cx U) : Le c c := Later.refl _ _ _
theorem Le.trans (h : Le c c') (k : Le c' c'') : Le c c'' := Later.trans h k
theorem Le.vr (h : Le c c') {x : SV} {v : V} (hv : c.vr x v) : c'.vr x v := VR.later h hv
theorem Le.cr (h : Le c c') {x : SC} {v : Dm.C} (hv : c.cr x v) : c'.cr x v := CR.later h hv
theorem Le.crs (h : Le c c') {x : List SC} {v : List Dm.C} (hv : c.crs x v) : c'.crs x v := CRs.later h hv
theorem Le.den (h : Le c c') {x : Tm} {d : Dyn U.B} (hx : x.den? c.ρ = some d) : x.den? c'.ρ = some d := h.1 x d hx
theorem later_push (ρ : Rho U) (β : Nat → Nat) (S : SSt) (r : Rho U) : Later ρ β (inf ρ S) (ρ ++ r) β (inf (ρ ++ r) S) := by
  refine ⟨fun x d h => Tm.den_app h r, fun o kc len h => ⟨rfl, kc, len, ?_, .inr ⟨rfl, rfl⟩⟩⟩
  unfold inf at h ⊢
  split at h
  · rename_i w k ty sz t x ho
    split at h
    · rename_i d hd
      rw [Tm.den_app hd r]
      exact h
    · cases h
  · cases h
theorem Le.push (c : Cx U) (d : Dyn U.B) : Le c (c.push d) := later_push c.ρ c.β c.S [d]
theorem Ok.push (ok : Ok c e) (d : Dyn U.B) : Ok (c.push d) (e.push d.t) where
  tys := by simp [SE.push, Cx.push, ok.tys]
  kn p hp := Tm.den_app (ok.kn p hp) _
  ne x hx := let ⟨d', h1, h2⟩ := ok.ne x hx; ⟨d', Tm.den_app h1 _, h2⟩
  len := ok.len
  st o so ho := let ⟨ob, h1, h2⟩ := ok.st o so ho; ⟨ob, h1, h2.later (Le.push c d) rfl⟩
theorem Ok.n (ok : Ok c e) : e.n = c.ρ.length := by simp [SE.n, ok.tys]
theorem Ok.new (ok : Ok c e) (d : Dyn U.B) : e.new.den? (c.push d).ρ = some d := by
  simp [SE.new, Tm.den?, Cx.push, ok.n]
theorem Ok.kn' (ok : Ok c e) {x : Tm} {b : Bool} (hx : x.den? c.ρ = some ⟨.bool, b⟩) : Ok c { e with kn := (x, b) :: e.kn } where
  tys := ok.tys
  kn p hp := by rcases List.mem_cons.1 hp with rfl | hp; exact hx; exact ok.kn p hp
  ne := ok.ne
  len := ok.len
  st := ok.st
theorem Ok.ne' (ok : Ok c e) {x : Tm} {d : Dyn U.B} (hx : x.den? c.ρ = some d) (hl : lenOf d ≠ 0) : Ok c { e with ne := x :: e.ne } where
  tys := ok.tys
  kn := ok.kn
  ne y hy := by rcases List.mem_cons.1 hy with rfl | hy; exact ⟨d, hx, hl⟩; exact ok.ne y hy
  len := ok.len
  st := ok.st
theorem Ok.ty (ok : Ok c e) {i : Nat} {t : Ty} (h : nth e.tys i = some t) : ∃ d : Dyn U.B, c.ρ[i]? = some d ∧ d.t = t := by
  rw [nth_eq, ok.tys, List.getElem?_map] at h
  cases hi : c.ρ[i]? with
  | none => simp [hi] at h
  | some d => simp [hi] at h; exact ⟨d, rfl, h⟩
theorem Ok.get (ok : Ok c e) {o : Nat} {so : SOb} (h : nth c.S o = some so) : ∃ ob, c.σ[o]? = some ob ∧ OR c.ρ c.β c.ι o so ob := ok.st o so (by rwa [nth_eq] at h)
variable {ρ : Rho U} {β : Nat → Nat} {ι : Inf}
theorem V_c {x : SC} {v : V} (hs : x ≠ .un) (h : VR ρ β ι (.c x) v) : ∃ y, v = .c y ∧ CR ρ β ι x y := by
  cases x <;> first | exact absurd rfl hs | (simp only [VR] at h; exact h)
theorem vd {t : Ty} {a : Tm} {v : V} (h : VR ρ β ι (.c (.d t a)) v) : ∃ f d, v = .c (.f f) ∧ a.den? ρ = some d ∧ d.t = t ∧ FD U f d := by
  obtain ⟨y, rfl, h0⟩ := V_c (by simp) h
  simp only [CR] at h0
  obtain ⟨f, d, rfl, h1⟩ := h0
  exact ⟨f, d, rfl, h1⟩
theorem vd_of {t : Ty} {a : Tm} {f : F} {d : Dyn U.B} (h1 : a.den? ρ = some d) (h2 : d.t = t) (h3 : FD U f d) : VR ρ β ι (.c (.d t a)) (.c (.f f)) :=
  VR.c (by simp only [CR]; exact ⟨f, d, rfl, h1, h2, h3⟩)
theorem FD.int {f : F} {k : IntKind} {n : Int} (h : FD U f ⟨.int k, n⟩) : f = .int k n := by
  cases f <;> simp only [FD] at h <;> first
    | (obtain ⟨t, h⟩ := h; cases h; done)
    | (obtain ⟨t, xs, h, _⟩ := h; cases h; done)
    | (rcases h with ⟨t, x, h, _⟩ | ⟨t, x, h, _⟩ <;> cases h; done)
    | cases h
  rfl
theorem FD.bool {f : F} {b : Bool} (h : FD U f ⟨.bool, b⟩) : f = .bool b := by
  cases f <;> simp only [FD] at h <;> first
    | (obtain ⟨t, h⟩ := h; cases h; done)
    | (obtain ⟨t, xs, h, _⟩ := h; cases h; done)
    | (rcases h with ⟨t, x, h, _⟩ | ⟨t, x, h, _⟩ <;> cases h; done)
    | cases h
  rfl
theorem FD.str {f : F} {b : List UInt8} (h : FD U f ⟨.str, b⟩) : f = .str b := by
  cases f <;> simp only [FD] at h <;> first
    | (obtain ⟨t, h⟩ := h; cases h; done)
    | (obtain ⟨t, xs, h, _⟩ := h; cases h; done)
    | (rcases h with ⟨t, x, h, _⟩ | ⟨t, x, h, _⟩ <;> cases h; done)
    | cases h
  rfl
theorem FD.flo {f : F} {b : Nat} (h : FD U f ⟨.flo, b⟩) : f = .flo b := by
  cases f <;> simp only [FD] at h <;> first
    | (obtain ⟨t, h⟩ := h; cases h; done)
    | (obtain ⟨t, xs, h, _⟩ := h; cases h; done)
    | (rcases h with ⟨t, x, h, _⟩ | ⟨t, x, h, _⟩ <;> cases h; done)
    | cases h
  rfl
theorem FD.cpl {f : F} {b : Nat × Nat} (h : FD U f ⟨.cpl, b⟩) : f = .cpl b.1 b.2 := by
  cases f <;> simp only [FD] at h <;> first
    | (obtain ⟨t, h⟩ := h; cases h; done)
    | (obtain ⟨t, xs, h, _⟩ := h; cases h; done)
    | (rcases h with ⟨t, x, h, _⟩ | ⟨t, x, h, _⟩ <;> cases h; done)
    | cases h
  rfl
theorem FD.list {f : F} {t : Ty} {xs : List (T U.B t)} (h : FD U f ⟨.list t, xs⟩) : (f = .nils ∧ xs = []) ∨ ∃ fs, f = .sl xs.length fs ∧ FDs U fs (flat U xs) := by
  cases f <;> simp only [FD] at h <;> first
    | (rcases h with ⟨t, x, h, _⟩ | ⟨t, x, h, _⟩ <;> cases h; done)
    | (cases h; done)
    | skip
  · obtain ⟨t, h⟩ := h; cases h; exact .inl ⟨rfl, rfl⟩
  · obtain ⟨t, xs, h, rfl, h2⟩ := h; cases h; exact .inr ⟨_, rfl, h2⟩
  · obtain ⟨t, h⟩ := h; cases h
theorem FD.ptr {f : F} {t : Ty} {x : T U.B t} (h : FD U f ⟨.ptr t, x⟩) : ∃ fs, f = .obj fs ∧ FDs U fs (cells U ⟨t, x⟩) := by
  cases f <;> simp only [FD] at h <;> first
    | (obtain ⟨t, h⟩ := h; cases h; done)
    | (obtain ⟨t, xs, h, _⟩ := h; cases h; done)
    | (cases h; done)
    | skip
  rcases h with ⟨t, x, h, _⟩ | ⟨t, x, h, h2⟩
  · cases h
  · cases h; exact ⟨_, rfl, h2⟩
theorem FD.opt {f : F} {t : Ty} {x : Option (T U.B t)} (h : FD U f ⟨.opt t, x⟩) : (f = .nilp ∧ x = none) ∨ ∃ y fs, f = .obj fs ∧ x = some y ∧ FDs U fs (cells U ⟨t, y⟩) := by
  cases f <;> simp only [FD] at h <;> first
    | (obtain ⟨t, xs, h, _⟩ := h; cases h; done)
    | (cases h; done)
    | skip
  · obtain ⟨t, h⟩ := h; cases h
  · obtain ⟨t, h⟩ := h; cases h; exact .inl ⟨rfl, rfl⟩
  · rcases h with ⟨t, x, h, h2⟩ | ⟨t, x, h, _⟩
    · cases h; exact .inr ⟨_, _, rfl, rfl, h2⟩
    · cases h
theorem vr_int {k : IntKind} {a : Tm} {v : V} (h : VR ρ β ι (.c (.d (.int k) a)) v) : ∃ n : Int, v = .c (.f (.int k n)) ∧ a.den? ρ = some ⟨.int k, n⟩ := by
  obtain ⟨f, ⟨t, n⟩, rfl, h1, rfl, h3⟩ := vd h
  exact ⟨n, by rw [FD.int h3], h1⟩
theorem vr_bool {a : Tm} {v : V} (h : VR ρ β ι (.c (.d .bool a)) v) : ∃ n : Bool, v = .c (.f (.bool n)) ∧ a.den? ρ = some ⟨.bool, n⟩ := by
  obtain ⟨f, ⟨t, n⟩, rfl, h1, rfl, h3⟩ := vd h
  exact ⟨n, by rw [FD.bool h3], h1⟩
theorem vr_str {a : Tm} {v : V} (h : VR ρ β ι (.c (.d .str a)) v) : ∃ n : List UInt8, v = .c (.f (.str n)) ∧ a.den? ρ = some ⟨.str, n⟩ := by
  obtain ⟨f, ⟨t, n⟩, rfl, h1, rfl, h3⟩ := vd h
  exact ⟨n, by rw [FD.str h3], h1⟩
theorem vr_flo {a : Tm} {v : V} (h : VR ρ β ι (.c (.d .flo a)) v) : ∃ n : Nat, v = .c (.f (.flo n)) ∧ a.den? ρ = some ⟨.flo, n⟩ := by
  obtain ⟨f, ⟨t, n⟩, rfl, h1, rfl, h3⟩ := vd h
  exact ⟨n, by rw [FD.flo h3], h1⟩
theorem vr_cpl {a : Tm} {v : V} (h : VR ρ β ι (.c (.d .cpl a)) v) : ∃ n : Nat × Nat, v = .c (.f (.cpl n.1 n.2)) ∧ a.den? ρ = some ⟨.cpl, n⟩ := by
  obtain ⟨f, ⟨t, n⟩, rfl, h1, rfl, h3⟩ := vd h
  exact ⟨n, by rw [FD.cpl h3], h1⟩
theorem vr_list {t : Ty} {a : Tm} {v : V} (h : VR ρ β ι (.c (.d (.list t) a)) v) : ∃ xs : List (T U.B t), a.den? ρ = some ⟨.list t, xs⟩ ∧ ((v = .c (.f .nils) ∧ xs = []) ∨ ∃ fs, v = .c (.f (.sl xs.length fs)) ∧ FDs U fs (flat U xs)) := by
  obtain ⟨f, ⟨t, n⟩, rfl, h1, rfl, h3⟩ := vd h
  refine ⟨n, h1, ?_⟩
  rcases FD.list h3 with ⟨rfl, h4⟩ | ⟨fs, rfl, h4⟩
  · exact .inl ⟨rfl, h4⟩
  · exact .inr ⟨fs, rfl, h4⟩
theorem den_int {x : Tm} {k : IntKind} {n : Int} (h : x.den? ρ = some ⟨.int k, n⟩) : (x.den ρ).int = n := by rw [Tm.den_of h]; rfl
theorem den_bool {x : Tm} {n : Bool} (h : x.den? ρ = some ⟨.bool, n⟩) : (x.den ρ).bool = n := by rw [Tm.den_of h]; rfl
theorem den_str {x : Tm} {n : List UInt8} (h : x.den? ρ = some ⟨.str, n⟩) : (x.den ρ).str = n := by rw [Tm.den_of h]; rfl
theorem den_flo {x : Tm} {n : Nat} (h : x.den? ρ = some ⟨.flo, n⟩) : (x.den ρ).flo = n := by rw [Tm.den_of h]; rfl
theorem den_cpl {x : Tm} {n : Nat × Nat} (h : x.den? ρ = some ⟨.cpl, n⟩) : (x.den ρ).cpl = n := by rw [Tm.den_of h]; rfl
theorem den_as {x : Tm} {t : Ty} {n : T U.B t} (h : x.den? ρ = some ⟨t, n⟩) : (x.den ρ).as t = n := by rw [Tm.den_of h, as_self]
theorem at_flo {r : Rho U} {i : Nat} {x : Nat} (h : r[i]? = some ⟨.flo, x⟩) : ((Tm.at i).den r).flo = x := den_flo (x := .at i) h
theorem at_bool {r : Rho U} {i : Nat} {x : Bool} (h : r[i]? = some ⟨.bool, x⟩) : ((Tm.at i).den r).bool = x := den_bool (x := .at i) h
variable {Sp : List (FSpec U)} {Post : List (Dyn U.B) → Prop} {Go : Nat → List (Dyn U.B) → Prop}
def Foll (Sp : List (FSpec U)) (Post : List (Dyn U.B) → Prop) (Go : Nat → List (Dyn U.B) → Prop) (c : Cx U) (k : SE → SV → Tr) (K : V → Prop) : Prop :=
  ∀ (c' : Cx U) e' sv v, Le c c' → c'.S = c.S → c'.σ = c.σ → Ok c' e' → c'.vr sv v → TDen Sp Post Go (k e' sv) c'.ρ → K v
theorem Foll.now {k : SE → SV → Tr} {K : V → Prop} (h : Foll Sp Post Go c k K) (ok : Ok c e) {sv : SV} {v : V} (hv : c.vr sv v) (hd : TDen Sp Post Go (k e sv) c.ρ) : K v :=
  h c e sv v (Le.refl c) rfl rfl ok hv hd
theorem Foll.new {k : SE → SV → Tr} {K : V → Prop} (h : Foll Sp Post Go c k K) (ok : Ok c e) (d : Dyn U.B) {sv : SV} {v : V} (hv : (c.push d).vr sv v) (hd : TDen Sp Post Go (k (e.push d.t) sv) (c.ρ ++ [d])) : K v :=
  h (c.push d) _ sv v (Le.push c d) rfl rfl (ok.push d) hv hd
theorem Foll.later {k : SE → SV → Tr} {K : V → Prop} (h : Foll Sp Post Go c k K) (hl : Le c c') (hS : c'.S = c.S) (hσ : c'.σ = c.σ) : Foll Sp Post Go c' k K :=
  fun c'' e' sv v h1 h2 h3 => h c'' e' sv v (hl.trans h1) (h2.trans hS) (h3.trans hσ)
theorem Foll.atom {k : SE → SV → Tr} {K : V → Prop} (h : Foll Sp Post Go c k K) (ok : Ok c e) (d : Dyn U.B) {f : F} (hf : FD U f d) (hd : TDen Sp Post Go (k (e.push d.t) (.c (.d d.t e.new))) (c.ρ ++ [d])) : K (.c (.f f)) :=
  h.new ok d (vd_of (ok.new d) rfl hf) hd
theorem bin_ok (ok : Ok c e) {d : TD} {op : BinOp} {x y : SV} {v w : V} (hx : c.vr x v) (hy : c.vr y w) {k : SE → SV → Tr} {K : V → Prop} (hk : Foll Sp Post Go c k K)
    (h : TDen Sp Post Go (binS e d op x y k) c.ρ) : wbin qprims d op v w K := by
  unfold binS at h
  split at h
  · rename_i j a j' b
    obtain ⟨m, rfl, ha⟩ := vr_int hx
    obtain ⟨n, rfl, hb⟩ := vr_int hy
    unfold wbin
    simp only
    split at h
    · rename_i hs
      simp only [hs]
      obtain ⟨h1, h2⟩ := h
      rw [den_int hb] at h1
      have h3 := h2 _ (by rw [den_int ha, den_int hb])
      exact ⟨.inr (.inr ⟨hs, h1⟩), hk.atom ok ⟨.int j, barith op j m n⟩ rfl h3⟩
    · rename_i hs
      simp only [hs]
      split at h
      · exact h.elim
      · rename_i hjj
        have := sameK_eq hjj
        subst this
        have self : ∀ {p : Prop}, p → same j j p := fun hp => by cases j <;> exact hp
        refine self ?_
        split at h
        · rename_i hc
          simp only [hc]
          refine ⟨hc, ?_⟩
          split at h
          · rename_i k1 m' k2 n'
            simp only [Tm.den?, Option.some.injEq, Dyn.mk.injEq] at ha hb
            obtain ⟨e1, e2⟩ := ha
            obtain ⟨e3, e4⟩ := hb
            cases e1; cases e3
            have e2 := eq_of_heq e2; have e4 := eq_of_heq e4
            subst e2 e4
            exact hk.now ok (vd_of (d := ⟨.bool, bcmp op m' n'⟩) rfl rfl rfl) h
          · have h3 := h _ rfl
            rw [den_int ha, den_int hb] at h3
            exact hk.atom ok ⟨.bool, bcmp op m n⟩ rfl h3
        · rename_i hc
          simp only [hc]
          split at h
          · rename_i hd
            obtain ⟨h1, h2⟩ := h
            rw [den_int hb] at h1
            have h3 := h2 _ (by rw [den_int ha, den_int hb])
            exact ⟨.inr (.inl ⟨hd, h1⟩), hk.atom ok ⟨.int j, barith op j m n⟩ rfl h3⟩
          · split at h
            · exact h.elim
            · rename_i hd ha'
              refine ⟨.inl ha', ?_⟩
              split at h
              · rename_i k1 m' k2 n'
                simp only [Tm.den?, Option.some.injEq, Dyn.mk.injEq] at ha hb
                obtain ⟨e1, e2⟩ := ha
                obtain ⟨e3, e4⟩ := hb
                cases e1; cases e3
                have e2 := eq_of_heq e2; have e4 := eq_of_heq e4
                subst e2 e4
                exact hk.now ok (vd_of (d := ⟨.int _, barith op _ m' n'⟩) rfl rfl rfl) h
              · split at h
                · rename_i h64
                  obtain ⟨⟨h1, h2⟩, h3⟩ := h _ rfl
                  rw [den_int ha, den_int hb] at h1 h2 h3
                  have he : barith op j m n = exI op m n := by
                    unfold isX64 at h64
                    have hw : ∀ z : Int, -9223372036854775808 ≤ z → z ≤ 9223372036854775807 → IntKind.wrap .i64 z = z := fun z q1 q2 => IntWalk.i64_in z ⟨q1, q2⟩
                    split at h64 <;> first
                      | (cases h64; done)
                      | exact hw _ h1 h2
                  rw [he]
                  exact hk.atom ok ⟨.int j, exI op m n⟩ rfl (by
                    have hj : j = .i64 := by unfold isX64 at h64; split at h64 <;> first | rfl | cases h64
                    subst hj; exact h3)
                · have h3 := h _ rfl
                  rw [den_int ha, den_int hb] at h3
                  exact hk.atom ok ⟨.int j, barith op j m n⟩ rfl h3
  · rename_i a b
    obtain ⟨m, rfl, ha⟩ := vr_bool hx
    obtain ⟨n, rfl, hb⟩ := vr_bool hy
    unfold wbin vbin
    simp only
    split at h
    · have h3 := h _ rfl
      rw [den_bool ha, den_bool hb] at h3
      exact hk.atom ok ⟨.bool, m == n⟩ rfl h3
    · have h3 := h _ rfl
      rw [den_bool ha, den_bool hb] at h3
      exact hk.atom ok ⟨.bool, !(m == n)⟩ rfl h3
    · exact h.elim
  · rename_i a b
    obtain ⟨m, rfl, ha⟩ := vr_str hx
    obtain ⟨n, rfl, hb⟩ := vr_str hy
    unfold wbin
    simp only
    split at h
    · rename_i hc
      simp only [hc]
      refine ⟨hc, ?_⟩
      split at h
      · rename_i m' n'
        simp only [Tm.den?, Option.some.injEq, Dyn.mk.injEq] at ha hb
        have e2 := eq_of_heq ha.2; have e4 := eq_of_heq hb.2
        subst e2 e4
        exact hk.now ok (vd_of (d := ⟨.bool, bscmp op m' n'⟩) rfl rfl rfl) h
      · have h3 := h _ rfl
        rw [den_str ha, den_str hb] at h3
        exact hk.atom ok ⟨.bool, bscmp op m n⟩ rfl h3
    · rename_i hc
      simp only [hc]
      split at h
      · obtain ⟨h1, h3⟩ := h _ rfl
        rw [den_str ha, den_str hb] at h1 h3
        exact ⟨by simpa using h1, hk.atom ok ⟨.str, m ++ n⟩ rfl h3⟩
      · exact h.elim
  · rename_i a b
    obtain ⟨m, rfl, ha⟩ := vr_flo hx
    obtain ⟨n, rfl, hb⟩ := vr_flo hy
    unfold wbin
    simp only
    split at h
    · rename_i hc
      simp only [hc]
      have h3 := h _ rfl
      rw [den_flo ha, den_flo hb] at h3
      exact ⟨hc, hk.atom ok ⟨.bool, bfcmp op m n⟩ rfl h3⟩
    · rename_i hc
      simp only [hc]
      split at h
      · obtain ⟨r, h1, h3⟩ := h
        rw [den_flo ha, den_flo hb] at h1
        show match floatBits .add .f64 m n with | some r => K (.c (.f (.flo r))) | none => False
        rw [h1]
        exact hk.atom ok ⟨.flo, r⟩ rfl h3
      · obtain ⟨r, h1, h3⟩ := h
        rw [den_flo ha, den_flo hb] at h1
        show match floatBits .sub .f64 m n with | some r => K (.c (.f (.flo r))) | none => False
        rw [h1]
        exact hk.atom ok ⟨.flo, r⟩ rfl h3
      · exact h.elim
  · rename_i a b
    obtain ⟨m, rfl, ha⟩ := vr_cpl hx
    obtain ⟨n, rfl, hb⟩ := vr_cpl hy
    unfold wbin
    simp only
    split at h
    · have h1 := h _ rfl
      have h2 := h1 _ rfl
      obtain ⟨r, e1, h3⟩ := h2
      have h4 := h3 _ rfl
      have h5 := h4 _ rfl
      obtain ⟨i, e2, h6⟩ := h5
      have h7 := h6 _ rfl
      have a1 := den_cpl ha
      have b1 := fun r => den_cpl (Tm.den_app hb r)
      have a2 := fun r => den_cpl (Tm.den_app ha r)
      simp only [List.append_assoc, List.cons_append, List.nil_append, a1, b1, a2] at e1 e2 h7
      rw [at_flo (x := m.1) (by simp [ok.n]), at_flo (x := n.1) (by simp [ok.n])] at e1
      rw [at_flo (x := m.2) (by simp [ok.n]), at_flo (x := n.2) (by simp [ok.n])] at e2
      rw [at_flo (x := r) (by simp [ok.n]), at_flo (x := i) (by simp [ok.n])] at h7
      show match floatBits .add .f64 m.1 n.1 with | some r => (match floatBits .add .f64 m.2 n.2 with | some i => K (.c (.f (.cpl r i))) | none => False) | none => False
      rw [e1]
      simp only
      rw [e2]
      let c6 := (((((c.push ⟨.flo, m.1⟩).push ⟨.flo, n.1⟩).push ⟨.flo, r⟩).push ⟨.flo, m.2⟩).push ⟨.flo, n.2⟩).push ⟨.flo, i⟩
      have ok6 : Ok c6 _ := (((((ok.push ⟨.flo, m.1⟩).push ⟨.flo, n.1⟩).push ⟨.flo, r⟩).push ⟨.flo, m.2⟩).push ⟨.flo, n.2⟩).push ⟨.flo, i⟩
      have le6 : Le c c6 := later_push c.ρ c.β c.S [⟨.flo, m.1⟩] |>.trans (later_push _ c.β c.S [⟨.flo, n.1⟩]) |>.trans (later_push _ c.β c.S [⟨.flo, r⟩]) |>.trans (later_push _ c.β c.S [⟨.flo, m.2⟩]) |>.trans (later_push _ c.β c.S [⟨.flo, n.2⟩]) |>.trans (later_push _ c.β c.S [⟨.flo, i⟩])
      exact (hk.later le6 rfl rfl).new ok6 ⟨.cpl, (r, i)⟩ (sv := .c (.d .cpl (.at (e.n + 6)))) (vd_of (by simp [Tm.den?, Cx.push, c6, ok.n]) rfl rfl) (by simpa [c6, Cx.push] using h7)
    · have h1 := h _ rfl
      have h2 := h1 _ rfl
      obtain ⟨r, e1, h3⟩ := h2
      have h4 := h3 _ rfl
      have h5 := h4 _ rfl
      obtain ⟨i, e2, h6⟩ := h5
      have h7 := h6 _ rfl
      have a1 := den_cpl ha
      have b1 := fun r => den_cpl (Tm.den_app hb r)
      have a2 := fun r => den_cpl (Tm.den_app ha r)
      simp only [List.append_assoc, List.cons_append, List.nil_append, a1, b1, a2] at e1 e2 h7
      rw [at_flo (x := m.1) (by simp [ok.n]), at_flo (x := n.1) (by simp [ok.n])] at e1
      rw [at_flo (x := m.2) (by simp [ok.n]), at_flo (x := n.2) (by simp [ok.n])] at e2
      rw [at_flo (x := r) (by simp [ok.n]), at_flo (x := i) (by simp [ok.n])] at h7
      show match floatBits .sub .f64 m.1 n.1 with | some r => (match floatBits .sub .f64 m.2 n.2 with | some i => K (.c (.f (.cpl r i))) | none => False) | none => False
      rw [e1]
      simp only
      rw [e2]
      let c6 := (((((c.push ⟨.flo, m.1⟩).push ⟨.flo, n.1⟩).push ⟨.flo, r⟩).push ⟨.flo, m.2⟩).push ⟨.flo, n.2⟩).push ⟨.flo, i⟩
      have ok6 : Ok c6 _ := (((((ok.push ⟨.flo, m.1⟩).push ⟨.flo, n.1⟩).push ⟨.flo, r⟩).push ⟨.flo, m.2⟩).push ⟨.flo, n.2⟩).push ⟨.flo, i⟩
      have le6 : Le c c6 := later_push c.ρ c.β c.S [⟨.flo, m.1⟩] |>.trans (later_push _ c.β c.S [⟨.flo, n.1⟩]) |>.trans (later_push _ c.β c.S [⟨.flo, r⟩]) |>.trans (later_push _ c.β c.S [⟨.flo, m.2⟩]) |>.trans (later_push _ c.β c.S [⟨.flo, n.2⟩]) |>.trans (later_push _ c.β c.S [⟨.flo, i⟩])
      exact (hk.later le6 rfl rfl).new ok6 ⟨.cpl, (r, i)⟩ (sv := .c (.d .cpl (.at (e.n + 6)))) (vd_of (by simp [Tm.den?, Cx.push, c6, ok.n]) rfl rfl) (by simpa [c6, Cx.push] using h7)
    · have h1 := h _ rfl
      have h2 := h1 _ rfl
      have h3 := h2 _ rfl
      have h4 := h3 _ rfl
      have h5 := h4 _ rfl
      have h6 := h5 _ rfl
      have h7 := h6 _ rfl
      have a1 := den_cpl ha
      have b1 := fun r => den_cpl (Tm.den_app hb r)
      have a2 := fun r => den_cpl (Tm.den_app ha r)
      simp only [List.append_assoc, List.cons_append, List.nil_append, a1, b1, a2] at h7
      rw [at_flo (i := e.n) (x := m.1) (by simp [ok.n]), at_flo (i := e.n + 1) (x := n.1) (by simp [ok.n])] at h7
      rw [at_flo (i := e.n + 3) (x := m.2) (by simp [ok.n]), at_flo (i := e.n + 4) (x := n.2) (by simp [ok.n])] at h7
      generalize hx' : bfcmp .eql m.1 n.1 = x at h7
      generalize hy' : bfcmp .eql m.2 n.2 = y at h7
      rw [at_bool (i := e.n + 2) (x := x) (by simp [ok.n]), at_bool (i := e.n + 5) (x := y) (by simp [ok.n])] at h7
      refine ⟨rfl, rfl, ?_⟩
      rw [hx', hy']
      let c6 := (((((c.push ⟨.flo, m.1⟩).push ⟨.flo, n.1⟩).push ⟨.bool, x⟩).push ⟨.flo, m.2⟩).push ⟨.flo, n.2⟩).push ⟨.bool, y⟩
      have ok6 : Ok c6 _ := (((((ok.push ⟨.flo, m.1⟩).push ⟨.flo, n.1⟩).push ⟨.bool, x⟩).push ⟨.flo, m.2⟩).push ⟨.flo, n.2⟩).push ⟨.bool, y⟩
      have le6 : Le c c6 := later_push c.ρ c.β c.S [⟨.flo, m.1⟩] |>.trans (later_push _ c.β c.S [⟨.flo, n.1⟩]) |>.trans (later_push _ c.β c.S [⟨.bool, x⟩]) |>.trans (later_push _ c.β c.S [⟨.flo, m.2⟩]) |>.trans (later_push _ c.β c.S [⟨.flo, n.2⟩]) |>.trans (later_push _ c.β c.S [⟨.bool, y⟩])
      exact (hk.later le6 rfl rfl).new ok6 ⟨.bool, x && y⟩ (sv := vb (.at (e.n + 6))) (vd_of (by simp [Tm.den?, Cx.push, c6, ok.n]) rfl rfl) (by simpa [c6, Cx.push] using h7)
    · have h1 := h _ rfl
      have h2 := h1 _ rfl
      have h3 := h2 _ rfl
      have h4 := h3 _ rfl
      have h5 := h4 _ rfl
      have h6 := h5 _ rfl
      have h7 := h6 _ rfl
      have a1 := den_cpl ha
      have b1 := fun r => den_cpl (Tm.den_app hb r)
      have a2 := fun r => den_cpl (Tm.den_app ha r)
      simp only [List.append_assoc, List.cons_append, List.nil_append, a1, b1, a2] at h7
      rw [at_flo (i := e.n) (x := m.1) (by simp [ok.n]), at_flo (i := e.n + 1) (x := n.1) (by simp [ok.n])] at h7
      rw [at_flo (i := e.n + 3) (x := m.2) (by simp [ok.n]), at_flo (i := e.n + 4) (x := n.2) (by simp [ok.n])] at h7
      generalize hx' : bfcmp .eql m.1 n.1 = x at h7
      generalize hy' : bfcmp .eql m.2 n.2 = y at h7
      rw [at_bool (i := e.n + 2) (x := x) (by simp [ok.n]), at_bool (i := e.n + 5) (x := y) (by simp [ok.n])] at h7
      refine ⟨rfl, rfl, ?_⟩
      rw [hx', hy']
      let c6 := (((((c.push ⟨.flo, m.1⟩).push ⟨.flo, n.1⟩).push ⟨.bool, x⟩).push ⟨.flo, m.2⟩).push ⟨.flo, n.2⟩).push ⟨.bool, y⟩
      have ok6 : Ok c6 _ := (((((ok.push ⟨.flo, m.1⟩).push ⟨.flo, n.1⟩).push ⟨.bool, x⟩).push ⟨.flo, m.2⟩).push ⟨.flo, n.2⟩).push ⟨.bool, y⟩
      have le6 : Le c c6 := later_push c.ρ c.β c.S [⟨.flo, m.1⟩] |>.trans (later_push _ c.β c.S [⟨.flo, n.1⟩]) |>.trans (later_push _ c.β c.S [⟨.bool, x⟩]) |>.trans (later_push _ c.β c.S [⟨.flo, m.2⟩]) |>.trans (later_push _ c.β c.S [⟨.flo, n.2⟩]) |>.trans (later_push _ c.β c.S [⟨.bool, y⟩])
      have h8 := h7 _ rfl
      rw [at_bool (x := x && y) (by simp [ok.n])] at h8
      have ok7 := ok6.push ⟨.bool, x && y⟩
      exact ((hk.later le6 rfl rfl).later (Le.push c6 ⟨.bool, x && y⟩) rfl rfl).new ok7 ⟨.bool, !(x && y)⟩ (sv := vb (SE.new _)) (vd_of (ok7.new _) rfl rfl) (by simpa [c6, Cx.push] using h8)
    · exact h.elim
  · exact h.elim
theorem fact_ok (ok : Ok c e) {x : Tm} {t b : Bool} (hx : x.den? c.ρ = some ⟨.bool, t⟩) (h : e.fact x = some b) : t = b := by
  have key : ∀ l : List (Tm × Bool), (∀ p ∈ l, p.1.den? c.ρ = some ⟨.bool, p.2⟩) → factL x l = some b → t = b := by
    intro l
    induction l with
    | nil => intro _ h; simp [factL] at h
    | cons p r ih =>
      obtain ⟨y, b'⟩ := p
      intro hl h
      simp only [factL] at h
      split at h
      · rename_i he
        cases h
        have := hl (y, b) (List.mem_cons_self ..)
        rw [← Tm.eqb_ok he, hx] at this
        simpa using this
      · exact ih (fun p hp => hl p (List.mem_cons_of_mem _ hp)) h
  unfold SE.fact at h
  split at h
  · simp only [Tm.den?, Option.some.injEq] at hx
    cases h
    simpa using hx.symm
  · exact key _ ok.kn h
theorem br_ok (ok : Ok c e) {x : Tm} {t : Bool} (hx : x.den? c.ρ = some ⟨.bool, t⟩) {a b : SE → Tr} (h : TDen Sp Post Go (brK e x a b) c.ρ) :
    ∃ e', Ok c e' ∧ TDen Sp Post Go (bif t then a e' else b e') c.ρ := by
  unfold brK at h
  split at h
  · rename_i hf
    have := fact_ok ok hx hf
    subst this
    exact ⟨e, ok, h⟩
  · rename_i hf
    have := fact_ok ok hx hf
    subst this
    exact ⟨e, ok, h⟩
  · obtain ⟨h1, h2⟩ := h
    rw [den_bool hx] at h1 h2
    cases t with
    | true => exact ⟨_, ok.kn' hx, h1 rfl⟩
    | false => exact ⟨_, ok.kn' hx, h2 rfl⟩
theorem atom_ok (ok : Ok c e) {x : Tm} {t : Ty} {d : Dyn U.B} (hx : x.den? c.ρ = some d) (ht : d.t = t) {k : SE → Nat → Tr} (h : TDen Sp Post Go (atomK e t x k) c.ρ) :
    ∃ c' e' i, Le c c' ∧ c'.S = c.S ∧ c'.σ = c.σ ∧ Ok c' e' ∧ c'.ρ[i]? = some d ∧ TDen Sp Post Go (k e' i) c'.ρ := by
  unfold atomK at h
  split at h
  · exact ⟨c, e, _, Le.refl c, rfl, rfl, ok, hx, h⟩
  · subst ht
    have h1 := h _ rfl
    rw [den_as (n := d.v) hx] at h1
    exact ⟨c.push d, _, e.n, Le.push c d, rfl, rfl, ok.push d, by simp [Cx.push, ok.n], h1⟩
theorem un_ok (ok : Ok c e) {op : UnOp} {x : SV} {v : V} (hx : c.vr x v) {k : SE → SV → Tr} {K : V → Prop} (hk : Foll Sp Post Go c k K)
    (h : TDen Sp Post Go (unS e op x k) c.ρ) : vun prims op v K := by
  unfold unS at h
  split at h
  · rename_i a
    obtain ⟨m, rfl, ha⟩ := vr_bool hx
    show K (.c (.f (.bool (!m))))
    split at h
    · rename_i b hf
      rw [fact_ok ok ha hf]
      exact hk.now ok (vd_of (d := ⟨.bool, !b⟩) rfl rfl rfl) h
    · have h1 := h _ rfl
      rw [den_bool ha] at h1
      exact hk.atom ok ⟨.bool, !m⟩ rfl h1
  · rename_i j a
    obtain ⟨m, rfl, ha⟩ := vr_int hx
    show K (.c (.f (.int j (barith .sub j 0 m))))
    split at h
    · rename_i k0 n
      simp only [Tm.den?, Option.some.injEq, Dyn.mk.injEq] at ha
      obtain ⟨e1, e2⟩ := ha
      cases e1
      have e2 := eq_of_heq e2
      subst e2
      exact hk.now ok (vd_of (d := ⟨.int _, barith .sub _ 0 n⟩) rfl rfl rfl) h
    · have h1 := h _ rfl
      rw [den_int ha] at h1
      exact hk.atom ok ⟨.int j, barith .sub j 0 m⟩ rfl h1
  · exact h.elim
theorem pick_ok (ok : Ok c e) {x a b : SV} {v va vb : V} (hx : c.vr x v) (ha : c.vr a va) (hb : c.vr b vb) {k : SE → SV → Tr} {K : V → Prop} (hk : Foll Sp Post Go c k K)
    (h : TDen Sp Post Go (pickS e x a b k) c.ρ) : vpick v va vb K := by
  unfold pickS at h
  split at h
  · obtain ⟨m, rfl, hm⟩ := vr_bool hx
    obtain ⟨e', ok', h'⟩ := br_ok ok hm h
    cases m with
    | true => exact hk.now ok' ha h'
    | false => exact hk.now ok' hb h'
  · exact h.elim
theorem cut_ok {l r : List SC} {l' : List Dm.C} (hl : c.crs l l') {off n : Nat} (h : cutS l off n = some r) : ∃ r', cut l' off n = some r' ∧ c.crs r r' := by
  unfold cutS at h
  split at h
  · rename_i hb
    cases h
    have := CRs.len hl
    refine ⟨_, by unfold cut; rw [if_pos (by rw [this]; exact ble_nat hb)], (hl.drop off).take n⟩
  · cases h
theorem part_ok (ok : Ok c e) {agg : Bool} {l : List SC} {l' : List Dm.C} (hl : c.crs l l') {off n : Nat} {k : SE → SV → Tr} {K : V → Prop} (hk : Foll Sp Post Go c k K)
    (h : TDen Sp Post Go (partS agg l off n (k e)) c.ρ) : vpart agg l' off n K := by
  unfold partS at h
  unfold vpart
  cases agg with
  | true =>
    simp only at h ⊢
    split at h
    · rename_i r hr
      obtain ⟨r', h1, h2⟩ := cut_ok hl hr
      rw [h1]
      exact hk.now ok (by simp only [Cx.vr, VR]; exact ⟨r', rfl, h2⟩) h
    · exact h.elim
  | false =>
    simp only at h ⊢
    split at h
    · rename_i x hx
      rw [nth_eq] at hx
      obtain ⟨y, h1, h2⟩ := CRs.get hl hx
      rw [h1]
      exact hk.now ok (VR.c h2) h
    · exact h.elim
theorem cellOf_ok (ok : Ok c e) {i j : Nat} {d d' : Dyn U.B} (hi : c.ρ[i]? = some d) (hj : (pcells U d)[j]? = some d') {f : F} (hf : FD U f d') : c.cr (cellOf U.lay e i j) (.f f) := by
  have ht : nth e.tys i = some d.t := by rw [nth_eq, ok.tys, List.getElem?_map, hi]; rfl
  have base : ∀ {n : Nat} {x : U.B n}, (cells U ⟨.base n, x⟩)[j]? = some d' → ∃ t, nth (U.lay n) j = some t ∧ d'.t = t := by
    intro n x h
    simp only [cells, List.getElem?_map] at h
    cases hr : (List.range (U.lay n).length)[j]? with
    | none => simp [hr] at h
    | some k =>
      obtain ⟨h1, h2⟩ := List.getElem?_eq_some_iff.1 hr
      simp at h1 h2
      subst h2
      simp only [hr, Option.map_some, Option.some.injEq] at h
      subst h
      have h3 : (U.lay n)[j]? = some (U.lay n)[j] := List.getElem?_eq_getElem h1
      exact ⟨_, by rw [nth_eq]; exact h3, U.acc_t n x j _ h3⟩
  have one : ∀ {d0 : Dyn U.B}, [d0][j]? = some d' → j = 0 ∧ d' = d0 := by
    intro d0 h
    cases j with
    | zero => simp at h; exact ⟨rfl, h.symm⟩
    | succ j => simp at h
  have fld : (Tm.fld i j).den? c.ρ = some d' := by simp only [Tm.den?, hi, hj]
  have at' : ∀ {t : Ty}, j = 0 → d' = d → d.t = t → CR c.ρ c.β c.ι (.d t (.at i)) (.f f) := fun _ h1 h2 => by
    simp only [CR]; exact ⟨f, d, rfl, hi, h2, by rw [← h1]; exact hf⟩
  have fl' : ∀ {t : Ty}, d'.t = t → CR c.ρ c.β c.ι (.d t (.fld i j)) (.f f) := fun h2 => by
    simp only [CR]; exact ⟨f, d', rfl, fld, h2, hf⟩
  obtain ⟨t, x⟩ := d
  unfold cellOf
  rw [ht]
  cases t with
  | base n =>
    obtain ⟨t, h1, h2⟩ := base hj
    simp only [h1]
    exact fl' h2
  | ptr t =>
    simp only
    cases t with
    | base n =>
      obtain ⟨t, h1, h2⟩ := base hj
      simp only [tyCell, h1]
      exact fl' h2
    | _ =>
      obtain ⟨rfl, rfl⟩ := one hj
      simp only [tyCell]
      exact fl' rfl
  | opt t => simp only [Cx.cr, CR]
  | _ =>
    obtain ⟨rfl, e'⟩ := one hj
    exact at' rfl e' rfl
theorem span_ok (ok : Ok c e) {i : Nat} {d : Dyn U.B} (hi : c.ρ[i]? = some d) {j : Nat} (hj : j < spanOf U.lay e i) : ∃ d', (pcells U d)[j]? = some d' := by
  have ht : nth e.tys i = some d.t := by rw [nth_eq, ok.tys, List.getElem?_map, hi]; rfl
  have key : spanOf U.lay e i ≤ (pcells U d).length := by
    unfold spanOf
    rw [ht]
    obtain ⟨t, x⟩ := d
    cases t <;> simp only [pcells, cells_len] <;> first
      | exact Nat.le_refl _
      | exact Nat.zero_le _
      | (rename_i t; cases t <;> exact Nat.le_refl _)
      | simp [cells]
  exact ⟨_, List.getElem?_eq_getElem (by omega)⟩
theorem cellsFrom_ok (ok : Ok c e) {i : Nat} {d : Dyn U.B} (hi : c.ρ[i]? = some d) : ∀ (n j : Nat) {r : List F}, r.length = n → (∀ m, m < n → ∃ d' f, (pcells U d)[j + m]? = some d' ∧ r[m]? = some f ∧ FD U f d') →
    c.crs (cellsFrom U.lay e i j n) (r.map .f)
  | 0, j, r, hr, h => by
    have : r = [] := List.eq_nil_of_length_eq_zero hr
    subst this
    simp only [cellsFrom, Cx.crs, CRs, List.map_nil]
  | n + 1, j, r, hr, h => by
    match r, hr, h with
    | f0 :: r, hr, h =>
      simp only [cellsFrom, Cx.crs, CRs, List.map_cons]
      obtain ⟨d', f, h1, h2, h3⟩ := h 0 (by omega)
      simp at h2
      subst h2
      refine ⟨_, _, rfl, cellOf_ok ok hi h1 h3, cellsFrom_ok ok hi n (j + 1) (by simpa using hr) fun m hm => ?_⟩
      obtain ⟨d', f, h1, h2, h3⟩ := h (m + 1) (by omega)
      exact ⟨d', f, by rw [show j + 1 + m = j + (m + 1) from by omega]; exact h1, by simpa using h2, h3⟩
theorem vr_el {x : Tm} {j : Nat} {v : V} (h : VR ρ β ι (.c (.el x j)) v) : ∃ cs off, ∃ d : Dyn U.B, v = .c (.ep cs off) ∧ x.den? ρ = some d ∧ j ≤ off ∧ ∀ m d', (pcells U d)[m]? = some d' → ∃ f, cs[off - j + m]? = some f ∧ FD U f d' := by
  obtain ⟨y, rfl, h0⟩ := V_c (by simp) h
  simp only [CR] at h0
  obtain ⟨cs, off, d, rfl, h1⟩ := h0
  exact ⟨cs, off, d, rfl, h1⟩
theorem vr_pa {o kk sz j : Nat} {i : Tm} {v : V} (h : VR ρ β ι (.c (.pa o kk sz i j)) v) : ∃ kd, ∃ n : Int, ∃ p, i.den? ρ = some ⟨.int kd, n⟩ ∧ 0 ≤ n ∧ ι o = some p ∧ v = .c (.pa o (β o + kk * 8589934592) (n.toNat * sz + j)) := by
  obtain ⟨y, rfl, h0⟩ := V_c (by simp) h
  simp only [CR] at h0
  obtain ⟨kd, n, p, h1, h2, h3, rfl⟩ := h0
  exact ⟨kd, n, p, h1, h2, h3, rfl⟩
theorem vr_ptr {o off : Nat} {v : V} (h : VR ρ β ι (.c (.ptr o off)) v) : v = .c (.ptr o off) := by
  obtain ⟨y, rfl, h0⟩ := V_c (by simp) h
  simp only [CR] at h0
  rw [h0]
theorem vr_rs {o kk : Nat} {v : V} (h : VR ρ β ι (.c (.rs o kk)) v) : ∃ n kc len, v = .c (.rs o (β o + kk * 8589934592) n) ∧ ι o = some (kc, len) ∧ kk ≤ kc ∧ (kk = kc → n = len) := by
  obtain ⟨y, rfl, h0⟩ := V_c (by simp) h
  simp only [CR] at h0
  obtain ⟨n, kc, len, rfl, h1⟩ := h0
  exact ⟨n, kc, len, rfl, h1⟩
theorem arr_at (ok : Ok c e) {o : Nat} {w : Bool} {k' ty sz : Nat} {t : Ty} {x : Tm} (h : nth c.S o = some (.arr w k' ty sz t x)) :
    ∃ xs : List (T U.B t), ∃ fs, x.den? c.ρ = some ⟨.list t, xs⟩ ∧ c.σ[o]? = some (.arr w (c.β o + k' * 8589934592) sz fs) ∧ sz = width U t ∧ c.β o % 8589934592 = ty ∧ FDs U fs (flat U xs) ∧ c.ι o = some (k', xs.length) := by
  obtain ⟨ob, h1, d, fs, h2, h3, rfl, h4, h5, h6⟩ := ok.get h
  obtain ⟨t', xs⟩ := d
  simp only at h3
  subst h3
  refine ⟨xs, fs, h2, h1, h4, h5, h6, ?_⟩
  rw [nth_eq] at h
  simp only [Cx.ι, inf, h, h2, lenOf]
theorem addr_ok (ok : Ok c e) {x : SV} {v : V} (hx : c.vr x v) {k : SE → SV → Tr} {K : V → Prop} (hk : Foll Sp Post Go c k K) (h : TDen Sp Post Go (addrS e x k) c.ρ) : K (addr v) := by
  have el : ∀ {t : Ty} {y : T U.B t} {fs : List F}, FDs U fs (cells U ⟨t, y⟩) → ∀ m d', (pcells U ⟨.ptr t, y⟩)[m]? = some d' → ∃ f, fs[0 - 0 + m]? = some f ∧ FD U f d' := by
    intro t y fs hfs m d' hm
    rw [Nat.sub_self, Nat.zero_add]
    exact hfs.get hm
  unfold addrS at h
  split at h
  · rename_i t a
    obtain ⟨f, ⟨t', y⟩, rfl, h1, rfl, h3⟩ := vd hx
    obtain ⟨fs, rfl, h4⟩ := FD.ptr h3
    obtain ⟨c', e', i, q1, q2, q3, q4, q5, q6⟩ := atom_ok ok h1 rfl h
    refine hk c' e' _ _ q1 q2 q3 q4 ?_ q6
    refine VR.c ?_
    simp only [CR]
    exact ⟨fs, 0, _, rfl, q5, Nat.le_refl _, el h4⟩
  · rename_i t a
    obtain ⟨f, ⟨t', y⟩, rfl, h1, rfl, h3⟩ := vd hx
    obtain ⟨z, h4, h5⟩ := h
    rw [den_as h1] at h4
    rcases FD.opt h3 with ⟨rfl, rfl⟩ | ⟨z', fs, rfl, rfl, h6⟩
    · cases h4
    · cases h4
      refine hk.new ok ⟨.ptr t, z⟩ (VR.c ?_) h5
      simp only [CR]
      exact ⟨fs, 0, _, rfl, ok.new _, Nat.le_refl _, el h6⟩
  · rename_i hn1 hn2
    refine hk.now ok ?_ h
    have same : ∀ {y : V}, (∀ cs, y ≠ .c (.f (.obj cs))) → addr y = y := fun {y} hy => by
      unfold addr
      split
      · exact absurd rfl (hy _)
      · rfl
    cases x with
    | c x =>
      cases x with
      | un => exact VR.un
      | d t a =>
        have hx' := hx
        obtain ⟨f, ⟨t', y⟩, rfl, h1, rfl, h3⟩ := vd hx
        rw [same]
        · exact hx'
        · rintro cs e1
          cases e1
          simp only [FD] at h3
          rcases h3 with ⟨t, x, h3, _⟩ | ⟨t, x, h3, _⟩
          · cases h3; exact hn2 _ _ rfl
          · cases h3; exact hn1 _ _ rfl
      | _ =>
        have hx' := hx
        obtain ⟨y, rfl, h0⟩ := V_c (by simp) hx
        rw [same]
        · exact hx'
        · rintro cs e1
          cases e1
          simp only [CR] at h0
          first
            | (cases h0; done)
            | (obtain ⟨_, h0, _⟩ := h0; cases h0; done)
            | (obtain ⟨_, _, _, _, _, _, h0⟩ := h0; cases h0; done)
            | (obtain ⟨_, _, _, h0, _⟩ := h0; cases h0; done)
    | a l =>
      have hx' := hx
      simp only [Cx.vr, VR] at hx
      obtain ⟨l', rfl, _⟩ := hx
      exact hx'
    | t l =>
      have hx' := hx
      simp only [Cx.vr, VR] at hx
      obtain ⟨l', rfl, _⟩ := hx
      exact hx'
end
end Go.Dm.Sx
namespace Go.Dm.Sx
open Go.Dm
set_option linter.unusedVariables false
set_option linter.unusedSimpArgs false
variable {U : Uni} {c c' c'' : Cx U} {e : SE} {Sp : List (FSpec U)} {Post : List (Dyn U.B) → Prop} {Go : Nat → List (Dyn U.B) → Prop}
theorem fresh_ok (ok : Ok c e) {o kk : Nat} (h : freshS c.S o kk = true) : ∃ w ty sz t x, nth c.S o = some (.arr w kk ty sz t x) := by
  unfold freshS at h
  split at h
  · rename_i w k' ty sz t x ho
    rw [beq_nat h]
    exact ⟨w, ty, sz, t, x, ho⟩
  · cases h
theorem field_ok (ok : Ok c e) {x : SV} {v : V} (hx : c.vr x v) {fo : Nat} {k : SE → SV → Tr} {K : V → Prop} (hk : Foll Sp Post Go c k K)
    (h : TDen Sp Post Go (fieldS x fo c.S (k e)) c.ρ) : vfield prims v fo c.σ K := by
  have more : ∀ off, vmore prims off fo = off + fo := fun off => by cases fo <;> rfl
  unfold fieldS at h
  split at h
  · cases vr_ptr hx
    exact hk.now ok (VR.c (by simp only [CR])) h
  · obtain ⟨cs, off, d, rfl, h1, h2, h3⟩ := vr_el hx
    unfold vfield
    simp only
    rw [more]
    refine hk.now ok (VR.c ?_) h
    simp only [CR]
    exact ⟨cs, off + fo, d, rfl, h1, by omega, fun m d' hm => by rw [Nat.add_sub_add_right]; exact h3 m d' hm⟩
  · split at h
    · rename_i hf
      obtain ⟨kd, n, p, h1, h2, h3, rfl⟩ := vr_pa hx
      obtain ⟨w, ty, sz, t, x, ho⟩ := fresh_ok ok hf
      obtain ⟨xs, fs, q1, q2, q3, q4, q5, q6⟩ := arr_at ok ho
      unfold vfield
      simp only [q2, more]
      refine ⟨rfl, hk.now ok (VR.c ?_) h⟩
      simp only [CR]
      exact ⟨kd, n, p, h1, h2, h3, by rw [Nat.add_assoc]⟩
    · exact h.elim
  · exact h.elim
theorem load_ok (ok : Ok c e) {agg : Bool} {n : Nat} {x : SV} {v : V} (hx : c.vr x v) {k : SE → SV → Tr} {K : V → Prop} (hk : Foll Sp Post Go c k K)
    (h : TDen Sp Post Go (loadS U.lay e agg n x c.S k) c.ρ) : vload prims agg n v c.σ K := by
  unfold loadS at h
  split at h
  · rename_i o off
    cases vr_ptr hx
    split at h
    · rename_i l ho
      obtain ⟨ob, h1, l', rfl, h2⟩ := ok.get ho
      unfold vload
      simp only [h1]
      have := part_ok ok h2 hk h
      unfold vpart at this
      exact this
    · rename_i T u y ho
      obtain ⟨ob, h1, bu, y', rfl, h0, h2⟩ := ok.get ho
      unfold vload
      simp only [h1]
      split at h
      · split at h
        · obtain rfl := h0 true rfl
          exact hk.now ok (VR.c (by simp only [CR])) h
        · obtain rfl := h0 false rfl
          exact hk.now ok (VR.c (by simp only [CR])) h
        · exact h.elim
      · exact hk.now ok (VR.c h2) h
      · exact h.elim
    · exact h.elim
  · rename_i i j
    obtain ⟨cs, off, d, rfl, h1, h2, h3⟩ := vr_el hx
    have h1 : c.ρ[i]? = some d := h1
    unfold vload
    simp only
    cases agg with
    | true =>
      simp only at h ⊢
      split at h
      · rename_i hb hn
        have hb := ble_nat hb
        have hn := blt_nat hn
        have get : ∀ m, m < n → ∃ d' f, (pcells U d)[j + m]? = some d' ∧ cs[off + m]? = some f ∧ FD U f d' := fun m hm => by
          obtain ⟨d', h4⟩ := span_ok ok h1 (j := j + m) (by omega)
          obtain ⟨f, h5, h6⟩ := h3 _ _ h4
          exact ⟨d', f, h4, by rw [show off + m = off - j + (j + m) from by omega]; exact h5, h6⟩
        have hlen : off + n ≤ cs.length := by
          obtain ⟨d', f, _, h5, _⟩ := get (n - 1) (by omega)
          have := (List.getElem?_eq_some_iff.1 h5).1
          omega
        refine ⟨hlen, hk.now ok ?_ h⟩
        simp only [Cx.vr, VR]
        refine ⟨_, rfl, cellsFrom_ok ok h1 n j (by rw [List.length_take, List.length_drop]; omega) fun m hm => ?_⟩
        obtain ⟨d', f, h4, h5, h6⟩ := get m hm
        exact ⟨d', f, h4, by rw [List.getElem?_take, if_pos hm, List.getElem?_drop]; exact h5, h6⟩
      · exact h.elim
    | false =>
      simp only at h ⊢
      split at h
      · rename_i hb
        obtain ⟨d', h4⟩ := span_ok ok h1 (blt_nat hb)
        obtain ⟨f, h5, h6⟩ := h3 _ _ h4
        rw [show off - j + j = off from by omega] at h5
        show match cs[off]? with | some x => K (.c (.f x)) | none => False
        rw [h5]
        exact hk.now ok (VR.c (cellOf_ok ok h1 h4 h6)) h
      · exact h.elim
  · rename_i o kk sz i j
    obtain ⟨kd, n0, p, h1, h2, h3, rfl⟩ := vr_pa hx
    split at h
    · rename_i w k' ty sz' t x ho
      obtain ⟨xs, fs, q1, q2, q3, q4, q5, q6⟩ := arr_at ok ho
      split at h
      · rename_i hk' hsz
        have e1 := beq_nat hk'
        have e2 := beq_nat hsz
        subst e1 e2
        unfold vload
        simp only [q2]
        refine ⟨rfl, ?_⟩
        have den1 := den_as (t := .list t) q1
        have idx : ∀ {r : Tr}, TDen Sp Post Go (.lget t x i r) c.ρ → ∃ y, xs[n0.toNat]? = some y ∧ TDen Sp Post Go r (c.ρ ++ [⟨t, y⟩]) := by
          intro r hr
          obtain ⟨⟨_, hr1⟩, hr2⟩ := hr
          rw [den1, den_int h1] at hr1 hr2
          have : n0.toNat < xs.length := by omega
          exact ⟨_, List.getElem?_eq_getElem this, hr2 _ (List.getElem?_eq_getElem this)⟩
        split at h
        · rename_i b
          have wb : width U (.base b) = (U.lay b).length := rfl
          split at h
          · split at h
            · rename_i hb hn
              have hb := ble_nat hb
              have hn := blt_nat hn
              obtain ⟨y, h4, h5⟩ := idx h
              have hi : (c.push ⟨.base b, y⟩).ρ[e.n]? = some ⟨.base b, y⟩ := by simp [Cx.push, ok.n]
              have get : ∀ m, m < n → ∃ d' f, (cells U ⟨.base b, y⟩)[j + m]? = some d' ∧ fs[n0.toNat * sz + j + m]? = some f ∧ FD U f d' := fun m hm => by
                have h6 : (cells U ⟨.base b, y⟩)[j + m]? = some ((cells U ⟨.base b, y⟩)[j + m]'(by rw [cells_len, wb]; omega)) := List.getElem?_eq_getElem _
                have h7 := flat_get (U := U) h4 (j := j + m) (by rw [wb]; omega)
                rw [h6] at h7
                obtain ⟨f, h8, h9⟩ := q5.get h7
                exact ⟨_, f, h6, by rw [q3, Nat.add_assoc]; exact h8, h9⟩
              have hlen : n0.toNat * sz + j + n ≤ fs.length := by
                obtain ⟨d', f, _, h5, _⟩ := get (n - 1) (by omega)
                have := (List.getElem?_eq_some_iff.1 h5).1
                omega
              refine ⟨hlen, hk.new ok ⟨.base b, y⟩ ?_ h5⟩
              simp only [Cx.vr, VR]
              refine ⟨_, rfl, cellsFrom_ok (ok.push _) hi n j (by rw [List.length_take, List.length_drop]; omega) fun m hm => ?_⟩
              obtain ⟨d', f, h4, h5, h6⟩ := get m hm
              exact ⟨d', f, h4, by rw [List.getElem?_take, if_pos hm, List.getElem?_drop]; exact h5, h6⟩
            · exact h.elim
          · split at h
            · rename_i hb
              have hb := blt_nat hb
              obtain ⟨y, h4, h5⟩ := idx h
              have hi : (c.push ⟨.base b, y⟩).ρ[e.n]? = some ⟨.base b, y⟩ := by simp [Cx.push, ok.n]
              have h6 : (cells U ⟨.base b, y⟩)[j]? = some ((cells U ⟨.base b, y⟩)[j]'(by rw [cells_len, wb]; omega)) := List.getElem?_eq_getElem _
              have h7 := flat_get (U := U) h4 (j := j) (by rw [wb]; omega)
              rw [h6] at h7
              obtain ⟨f, h8, h9⟩ := q5.get h7
              show match fs[n0.toNat * sz + j]? with | some x => K (.c (.f x)) | none => False
              rw [q3, h8]
              exact hk.new ok ⟨.base b, y⟩ (VR.c (cellOf_ok (ok.push _) hi h6 h9)) h5
            · exact h.elim
        · rename_i hnb
          split at h
          · obtain ⟨y, h4, h5⟩ := idx h
            have wb : width U t = 1 := by cases t <;> first | rfl | exact (hnb _ rfl).elim
            have h6 : (cells U ⟨t, y⟩)[0]? = some ⟨t, y⟩ := by cases t <;> first | rfl | exact (hnb _ rfl).elim
            have h7 := flat_get (U := U) h4 (j := 0) (by rw [wb]; omega)
            rw [h6] at h7
            obtain ⟨f, h8, h9⟩ := q5.get h7
            show match fs[n0.toNat * sz + 0]? with | some x => K (.c (.f x)) | none => False
            rw [q3, h8]
            exact hk.atom ok ⟨t, y⟩ h9 h5
          · exact h.elim
      · exact h.elim
    · exact h.elim
  · exact h.elim
def NilV (v : V) (σ : St) (K : V → Prop) : Prop :=
  match v with
  | .c (.ptr o off) => K (.c (.ptr o off))
  | .c (.f (.obj cs)) => K (.c (.f (.obj cs)))
  | .c (.ep cs off) => K (.c (.ep cs off))
  | .c (.pa o e off) => (match σ[o]? with | some (.arr _ e0 _ _) => prims.eqN e e0 ∧ K (.c (.pa o e off)) | _ => False)
  | _ => False
theorem nilc_ok (ok : Ok c e) {x : SV} {v : V} (hx : c.vr x v) {k : SE → SV → Tr} {K : V → Prop} (hk : Foll Sp Post Go c k K)
    (h : TDen Sp Post Go (nilcS e x c.S k) c.ρ) :
    NilV v c.σ K := by
  unfold nilcS at h
  split at h
  · have hx' := hx
    cases vr_ptr hx
    exact hk.now ok hx' h
  · have hx' := hx
    obtain ⟨cs, off, d, rfl, h1, h2, h3⟩ := vr_el hx
    exact hk.now ok hx' h
  · have hx' := hx
    obtain ⟨f, ⟨t', y⟩, rfl, h1, rfl, h3⟩ := vd hx
    obtain ⟨fs, rfl, h4⟩ := FD.ptr h3
    exact hk.now ok hx' h
  · obtain ⟨f, ⟨t', y⟩, rfl, h1, rfl, h3⟩ := vd hx
    obtain ⟨z, h4, h5⟩ := h
    rw [den_as h1] at h4
    rcases FD.opt h3 with ⟨rfl, rfl⟩ | ⟨z', fs, rfl, rfl, h6⟩
    · cases h4
    · cases h4
      exact hk.atom ok ⟨.ptr _, z⟩ (f := .obj fs) (by simp only [FD]; exact .inr ⟨_, z, rfl, h6⟩) h5
  · split at h
    · rename_i hf
      have hx' := hx
      obtain ⟨kd, n, p, h1, h2, h3, rfl⟩ := vr_pa hx
      obtain ⟨w, ty, sz, t, x, ho⟩ := fresh_ok ok hf
      obtain ⟨xs, fs, q1, q2, q3, q4, q5, q6⟩ := arr_at ok ho
      simp only [NilV, q2]
      exact ⟨rfl, hk.now ok hx' h⟩
    · exact h.elim
  · exact h.elim
theorem wid_eq (t : Ty) : wid U.lay t = width U t := by cases t <;> rfl
theorem ixr_ok (ok : Ok c e) {sz : Nat} {x i : SV} {v vi : V} (hx : c.vr x v) (hi : c.vr i vi) {k : SE → SV → Tr} {K : V → Prop} (hk : Foll Sp Post Go c k K)
    (h : TDen Sp Post Go (ixrS U.lay e sz x i c.S k) c.ρ) : ixrow prims sz v vi c.σ K := by
  unfold ixrS at h
  split at h
  · rename_i t l kd a
    obtain ⟨n, rfl, hn⟩ := vr_int hi
    obtain ⟨xs, h1, h2⟩ := vr_list hx
    split at h
    · rename_i hsz hp
      have e1 := beq_nat hsz
      rw [wid_eq] at e1
      subst e1
      obtain ⟨⟨hr0, hr1⟩, hr2⟩ := h
      rw [den_as h1, den_int hn] at hr1 hr2
      rw [den_int hn] at hr0
      have hlt : n.toNat < xs.length := by omega
      have hy := List.getElem?_eq_getElem hlt
      have h5 := hr2 _ hy
      rcases h2 with ⟨rfl, rfl⟩ | ⟨fs, rfl, h2⟩
      · simp at hlt
      · unfold ixrow
        refine ⟨⟨hr0, hr1⟩, hk.new ok ⟨t, xs[n.toNat]⟩ (VR.c ?_) h5⟩
        simp only [CR]
        refine ⟨fs, n.toNat * width U t, _, rfl, ok.new _, Nat.zero_le _, fun m d' hm => ?_⟩
        have hpc : pcells U ⟨t, xs[n.toNat]⟩ = cells U ⟨t, xs[n.toNat]⟩ := by
          generalize xs[n.toNat] = y
          cases t <;> first | rfl | (simp [plainElem] at hp)
        rw [hpc] at hm
        have hml : m < width U t := by
          have := (List.getElem?_eq_some_iff.1 hm).1
          rwa [cells_len] at this
        rw [Nat.sub_zero]
        exact h2.get (by rw [flat_get hy hml]; exact hm)
    · exact h.elim
  · rename_i o kk kd a
    obtain ⟨n, rfl, hn⟩ := vr_int hi
    obtain ⟨n', kc, len, rfl, h1, h2, h3⟩ := vr_rs hx
    split at h
    · rename_i w k' ty sz' t l ho
      obtain ⟨xs, fs, q1, q2, q3, q4, q5, q6⟩ := arr_at ok ho
      split at h
      · rename_i hk' hsz
        have e1 := beq_nat hk'
        have e2 := beq_nat hsz
        subst e1 e2
        obtain ⟨⟨hr0, hr1⟩, hr2⟩ := h
        rw [den_as q1, den_int hn] at hr1
        rw [den_int hn] at hr0
        have h1' : c.ι o = some (kc, len) := h1
        rw [q6] at h1'
        cases h1'
        have := h3 rfl
        subst this
        unfold ixrow
        simp only [q2]
        refine ⟨rfl, ⟨hr0, hr1⟩, hk.now ok (VR.c ?_) hr2⟩
        simp only [CR]
        exact ⟨kd, n, _, hn, hr0, q6, rfl⟩
      · exact h.elim
    · exact h.elim
  · exact h.elim
theorem cases_ok {a : Tm} {k0 : IntKind} {n : Int} (ha : a.den? c.ρ = some ⟨.int k0, n⟩) {k : Nat → Tr} : ∀ (m s : Nat), TDen Sp Post Go (casesS a k s m) c.ρ → ∀ j : Nat, n = j → s ≤ j → j < s + m → TDen Sp Post Go (k j) c.ρ
  | 0, s, _, j, _, h1, h2 => by omega
  | m + 1, s, h, j, hj, h1, h2 => by
    obtain ⟨h3, h4⟩ := h
    by_cases hs : s = j
    · subst hs
      exact h3 (by rw [den_int ha]; exact hj)
    · exact cases_ok ha m (s + 1) h4 j hj (by omega) (by omega)
theorem case_ok {a : Tm} {k0 : IntKind} {n : Int} (ha : a.den? c.ρ = some ⟨.int k0, n⟩) {m : Nat} {k : Nat → Tr} (h : TDen Sp Post Go (caseS a m k) c.ρ) : (0 ≤ n ∧ n < m) ∧ TDen Sp Post Go (k n.toNat) c.ρ := by
  unfold caseS at h
  split at h
  · rename_i k1 j
    simp only [Tm.den?, Option.some.injEq, Dyn.mk.injEq] at ha
    obtain ⟨e1, e2⟩ := ha
    cases e1
    have e2 := eq_of_heq e2
    subst e2
    split at h
    · rename_i hb
      have := blt_nat hb
      exact ⟨⟨Int.natCast_nonneg j, Int.ofNat_lt.2 this⟩, h⟩
    · exact h.elim
  · obtain ⟨⟨h1, h2⟩, h3⟩ := h
    rw [den_int ha] at h1 h2
    exact ⟨⟨h1, h2⟩, cases_ok ha m 0 h3 n.toNat (by omega) (by omega) (by omega)⟩
theorem ixa_ok (ok : Ok c e) {n sz : Nat} {x i : SV} {v vi : V} (hx : c.vr x v) (hi : c.vr i vi) {k : SE → SV → Tr} {K : V → Prop} (hk : Foll Sp Post Go c k K)
    (h : TDen Sp Post Go (ixaS n sz x i c.S (k e)) c.ρ) : ixarr prims n sz v vi c.σ K := by
  unfold ixaS at h
  split at h
  · rename_i kd a
    obtain ⟨m, rfl, hm⟩ := vr_int hi
    obtain ⟨⟨h1, h2⟩, h3⟩ := case_ok hm h
    have h4 := field_ok ok hx hk h3
    unfold vfield at h4
    unfold ixarr
    split at h4
    · exact ⟨h1, h2, h4⟩
    · exact ⟨h1, h2, h4⟩
    · split at h4
      · rename_i ho
        simp only [ho]
        exact ⟨h4.1, h1, h2, h4.2⟩
      · exact h4.elim
    · exact h4.elim
  · exact h.elim
theorem chr_ok (ok : Ok c e) {x i : SV} {v vi : V} (hx : c.vr x v) (hi : c.vr i vi) {k : SE → SV → Tr} {K : V → Prop} (hk : Foll Sp Post Go c k K)
    (h : TDen Sp Post Go (chrS e x i k) c.ρ) : ixchr prims v vi K := by
  unfold chrS at h
  split at h
  · rename_i s kd a
    obtain ⟨l, rfl, hl⟩ := vr_str hx
    obtain ⟨n, rfl, hn⟩ := vr_int hi
    unfold ixchr
    split at h
    · rename_i l' k1 j
      simp only [Tm.den?, Option.some.injEq, Dyn.mk.injEq] at hl hn
      obtain ⟨e1, e2⟩ := hn
      cases e1
      have e2 := eq_of_heq e2
      have e3 := eq_of_heq hl.2
      subst e2 e3
      split at h
      · rename_i b hb
        rw [nth_eq] at hb
        have hj := (List.getElem?_eq_some_iff.1 hb).1
        refine ⟨⟨Int.natCast_nonneg j, Int.ofNat_lt.2 hj⟩, ?_⟩
        refine hk.now ok (vd_of (d := ⟨.int .u8, Int.ofNat b.toNat⟩) rfl rfl ?_) h
        simp only [FD]
        congr 1
        show Int.ofNat b.toNat = (((l'.getD j 0).toNat : Nat) : Int)
        simp [List.getD_eq_getElem?_getD, hb]
      · exact h.elim
    · obtain ⟨⟨h1, h2⟩, h3⟩ := h
      rw [den_int hn, den_str hl] at h2 h3
      rw [den_int hn] at h1
      have h4 := h3 _ rfl
      exact ⟨⟨h1, h2⟩, hk.atom ok ⟨.int .u8, ((l.getD n.toNat 0).toNat : Int)⟩ (f := .int .u8 ((l.getD n.toNat 0).toNat : Int)) rfl h4⟩
  · exact h.elim
theorem len_ok (ok : Ok c e) {d : TD} {x : SV} {v : V} (hx : c.vr x v) {k : SE → SV → Tr} {K : V → Prop} (hk : Foll Sp Post Go c k K)
    (h : TDen Sp Post Go (lenS e d x c.S k) c.ρ) : vlen prims d v c.σ K := by
  unfold lenS at h
  split at h
  · rename_i s
    obtain ⟨l, rfl, hl⟩ := vr_str hx
    unfold vlen
    split at h
    · rename_i l'
      simp only [Tm.den?, Option.some.injEq, Dyn.mk.injEq] at hl
      have e3 := eq_of_heq hl.2
      subst e3
      exact hk.now ok (vd_of (d := ⟨.int .i64, Int.ofNat l'.length⟩) rfl rfl rfl) h
    · have h4 := h _ rfl
      rw [den_str hl] at h4
      exact hk.atom ok ⟨.int .i64, (l.length : Int)⟩ (f := .int .i64 (l.length : Int)) rfl h4
  · obtain ⟨y, rfl, h0⟩ := V_c (by simp) hx
    simp only [CR] at h0
    subst h0
    exact hk.now ok (vd_of (d := ⟨.int .i64, (0 : Int)⟩) (f := .int .i64 0) rfl rfl rfl) h
  · rename_i t l
    obtain ⟨xs, h1, h2⟩ := vr_list hx
    have h4 := h _ rfl
    rw [den_as h1] at h4
    rcases h2 with ⟨rfl, rfl⟩ | ⟨fs, rfl, h2⟩
    · exact hk.atom ok ⟨.int .i64, (0 : Int)⟩ (f := .int .i64 0) rfl h4
    · exact hk.atom ok ⟨.int .i64, (xs.length : Int)⟩ (f := .int .i64 (xs.length : Int)) rfl h4
  · rename_i o kk
    obtain ⟨n', kc, len, rfl, h1, h2, h3⟩ := vr_rs hx
    split at h
    · rename_i w k' ty sz' t l ho
      obtain ⟨xs, fs, q1, q2, q3, q4, q5, q6⟩ := arr_at ok ho
      split at h
      · rename_i hk'
        have e1 := beq_nat hk'
        subst e1
        have h1' : c.ι o = some (kc, len) := h1
        rw [q6] at h1'
        cases h1'
        have := h3 rfl
        subst this
        unfold vlen
        simp only [q2]
        have h4 := h _ rfl
        rw [den_as q1] at h4
        exact ⟨rfl, hk.atom ok ⟨.int .i64, (xs.length : Int)⟩ (f := .int .i64 (xs.length : Int)) rfl h4⟩
      · exact h.elim
    · exact h.elim
  · exact h.elim
end Go.Dm.Sx
namespace Go.Dm.Sx
open Go.Dm
set_option linter.unusedVariables false
set_option linter.unusedSimpArgs false
def tmK (e : SE) (t : Ty) (x : SC) (k : SE → Tm → Tr) : Tr :=
  match x with
  | .d t' a =>
    (match Ty.eqb t' t with
    | true => k e a
    | false =>
      (match t, t' with
      | .opt u, .ptr u' => (match Ty.eqb u u' with | true => .some u a (k (e.push (.opt u)) e.new) | false => .fail)
      | _, _ => .fail))
  | .nil => (match t with | .list u => k e (.nil u) | _ => .fail)
  | .nilp => (match t with | .opt u => k e (.none u) | _ => .fail)
  | _ => .fail
def tmsK (e : SE) (ts : List Ty) (xs : List SC) (k : SE → List Tm → Tr) : Tr :=
  match ts, xs with
  | [], [] => k e []
  | t :: ts, x :: xs => tmK e t x fun e a => tmsK e ts xs fun e l => k e (a :: l)
  | _, _ => .fail
def etaB (i : Nat) : Nat → List SC → Bool
  | _, [] => true
  | j, x :: r => (match x with
    | .d _ (.fld i' j') => (match Nat.beq i' i, Nat.beq j' j with | true, true => etaB i (j + 1) r | _, _ => false)
    | _ => false)
def eta? (e : SE) (b : Nat) (n : Nat) (xs : List SC) : Option Nat :=
  match xs with
  | .d _ (.fld i _) :: _ =>
    (match nth e.tys i with
    | .some (.base b') => (match Nat.beq b' b, Nat.beq xs.length n, etaB i 0 xs with | true, true, true => .some i | _, _, _ => .none)
    | _ => .none)
  | _ => .none
def dataK (lay : Nat → List Ty) (e : SE) (t : Ty) (xs : List SC) (k : SE → Tm → Tr) : Tr :=
  match t with
  | .base b =>
    (match eta? e b (lay b).length xs with
    | .some i => k e (.at i)
    | .none => tmsK e (lay b) xs fun e l => .mk b l (k (e.push (.base b)) e.new))
  | t => (match xs with | [x] => tmK e t x k | _ => .fail)
def keepC : SC → Bool
  | .d _ _ | .nil | .nilp | .nilm | .nilf | .fn _ => true
  | _ => false
def frzS : List SC → SSt → Option (List SC × SSt)
  | [], S => .some ([], S)
  | x :: r, S =>
    match x with
    | .rs o kk =>
      (match nth S o with
      | .some (.arr w k' ty sz t a) =>
        (match Nat.beq kk k' with
        | true => (match frzS r (S.set o (.arr false k' ty sz t a)) with | .some (l, S') => .some (.d (.list t) a :: l, S') | .none => .none)
        | false => .none)
      | _ => .none)
    | x => (match keepC x with | true => (match frzS r S with | .some (l, S') => .some (x :: l, S') | .none => .none) | false => .none)
def SV.cells : SV → Option (List SC)
  | .c .un => .none
  | .c x => .some [x]
  | .a l => .some l
  | .t _ => .none
def SC.solid : SC → Bool
  | .un => false
  | _ => true
def spliceS (l : List SC) (off : Nat) (r : List SC) : Option (List SC) :=
  match Nat.ble (off + r.length) l.length with | true => .some (l.take off ++ r ++ l.drop (off + r.length)) | false => .none
def boxS (e : SE) (x : SV) (S : SSt) (k : K1) : Tr :=
  match x.cells with
  | .some l => k e (.c (.ptr S.length 0)) (S ++ [.cells l])
  | .none => .fail
def storeS (lay : Nat → List Ty) (e : SE) (n : Nat) (a x : SV) (S : SSt) (k : K1) : Tr :=
  match x.cells with
  | .none => .fail
  | .some r =>
    match Nat.beq r.length n, r.all SC.solid with
    | true, true =>
      (match a with
      | .c (.ptr o off) =>
        (match nth S o with
        | .some (.cells l) => (match spliceS l off r with | .some l' => k e (.c .un) (S.set o (.cells l')) | .none => .fail)
        | .some (.bld T u y) =>
          (match off, r with
          | 0, [.ptr o' 0] => (match Nat.beq o' o with | true => k e (.c .un) (S.set o (.bld T (.some true) y)) | false => .fail)
          | 1, [z] => k e (.c .un) (S.set o (.bld T u z))
          | _, _ => .fail)
        | _ => .fail)
      | .c (.pa o kk sz i j) =>
        (match frzS r S with
        | .none => .fail
        | .some (r', S') =>
          match nth S' o with
          | .some (.arr true k' ty sz' t l) =>
            (match Nat.beq kk k', Nat.beq sz sz' with
            | true, true =>
              (match Nat.beq j 0, Nat.beq n sz with
              | true, true => dataK lay e t r' fun e y => .lset t l i y (k (e.push (.list t)) (.c .un) (S'.set o (.arr true k' ty sz t (.at e.n))))
              | _, _ =>
                (match t with
                | .base b =>
                  .lget t l i (match spliceS (cellsFrom lay (e.push t) e.n 0 (lay b).length) j r' with
                    | .some q => dataK lay (e.push t) t q fun e y => .lset t l i y (k (e.push (.list t)) (.c .un) (S'.set o (.arr true k' ty sz t (.at e.n))))
                    | .none => .fail)
                | _ => .fail))
            | _, _ => .fail)
          | _ => .fail)
      | _ => .fail)
    | _, _ => .fail
def appMain (lay : Nat → List Ty) (e : SE) (ty sz bytes : Nat) (x : SV) (t : Ty) (l : Tm) (S : SSt) (k : K1) : Tr :=
  match x with
  | .c .nil =>
    (match Nat.beq sz (wid lay t), Nat.ble ty 4294967295 with
    | true, true =>
      (match memT l e.ne with
      | true => .lnew t bytes l (k e (.c (.rs S.length 0)) (S ++ [.arr true 0 ty sz t l]))
      | false => .lnil t l (k e (.c .nil) S) (.lnew t bytes l (k { e with ne := l :: e.ne } (.c (.rs S.length 0)) (S ++ [.arr true 0 ty sz t l]))))
    | _, _ => .fail)
  | .c (.rs o kk) =>
    (match nth S o with
    | .some (.arr w k' ty' sz' t' l') =>
      (match Nat.beq kk k', Nat.beq (Nat.mod ty' 4294967296) ty, Nat.beq sz' sz, Ty.eqb t' t with
      | true, true, true, true => .lapp t bytes l' l (k (e.push (.list t)) (.c (.rs o (k' + 1))) (S.set o (.arr w (k' + 1) ty' sz t e.new)))
      | _, _, _, _ => .fail)
    | _ => .fail)
  | _ => .fail
def appS (lay : Nat → List Ty) (e : SE) (d : TD) (ty sz bytes : Nat) (x y : SV) (S : SSt) (k : K1) : Tr :=
  match d, y with
  | .slice _, .c .nil => (match x with | .c .nil => k e (.c .nil) S | .c (.rs o kk) => (match nth S o with | .some (.arr _ _ _ _ t _) => appMain lay e ty sz bytes x t (.nil t) S k | _ => .fail) | _ => .fail)
  | .slice _, .c (.d (.list t) l) => (match Nat.beq sz (wid lay t) with | true => appMain lay e ty sz bytes x t l S k | false => .fail)
  | .slice _, .c (.rs o kk) =>
    (match nth S o with
    | .some (.arr w k' ty' sz' t l) => (match Nat.beq kk k', Nat.beq sz sz' with | true, true => appMain lay e ty sz bytes x t l S k | _, _ => .fail)
    | _ => .fail)
  | .str, .c (.d .str s) => (match Nat.beq sz 1 with | true => .sbytes s (appMain lay (e.push (.list (.int .u8))) ty sz bytes x (.int .u8) e.new S k) | false => .fail)
  | _, _ => .fail
def optS : Option SV → Option (Option Tm)
  | .none => .some .none
  | .some (.c (.d (.int _) a)) => .some (.some a)
  | _ => .none
def zeroT : Option Tm → Bool
  | .none => true
  | .some (.int _ n) => ieq0 n
  | _ => false
def slcS (lay : Nat → List Ty) (e : SE) (d : TD) (sz : Nat) (x : SV) (lo hi : Option SV) (S : SSt) (k : K1) : Tr :=
  match optS lo, optS hi with
  | .some a, .some b =>
    (match d, x with
    | .str, .c (.d .str s) => .ssub s a b (k (e.push .str) (.c (.d .str e.new)) S)
    | .slice _, .c (.d (.list t) l) => (match Nat.beq sz (wid lay t) with | true => .lsub t l a b (k (e.push (.list t)) (.c (.d (.list t) e.new)) S) | false => .fail)
    | .slice _, .c .nil => (match zeroT a, zeroT b with | true, true => k e (.c .nil) S | _, _ => .fail)
    | .slice _, .c (.rs o kk) =>
      (match nth S o, a, b with
      | .some (.arr true k' ty sz' t l), .none, .some b =>
        (match Nat.beq kk k' with
        | true => .lsub t l .none (.some b) (k (e.push (.list t)) (.c (.rs o (k' + 1))) (S.set o (.arr true (k' + 1) ty sz' t e.new)))
        | false => .fail)
      | _, _, _ => .fail)
    | _, _ => .fail)
  | _, _ => .fail
def fillS (ρ : Operand → SV) : List (Nat × Nat × Operand) → List SC → Option (List SC)
  | [], cs => .some cs
  | (off, n, x) :: r, cs =>
    match (ρ x).cells with
    | .some l => (match Nat.beq l.length n with | true => (match spliceS cs off l with | .some cs' => fillS ρ r cs' | .none => .none) | false => .none)
    | .none => .none
def fillRowS (sz : Nat) (ρ : Operand → SV) : List (Nat × Operand) → List SC → Option (List SC)
  | [], cs => .some cs
  | (i, x) :: r, cs =>
    match (ρ x).cells with
    | .some l => (match Nat.beq l.length sz with | true => (match spliceS cs (i * sz) l with | .some cs' => fillRowS sz ρ r cs' | .none => .none) | false => .none)
    | .none => .none
def repS (n : Nat) (l : List SC) : List SC :=
  match n with
  | 0 => []
  | n + 1 => l ++ repS n l
def elemsK (lay : Nat → List Ty) (t : Ty) (sz : Nat) (k : SE → List Tm → Tr) : Nat → SE → List SC → (List Tm → List Tm) → Tr
  | 0, e, _, acc => k e (acc [])
  | n + 1, e, xs, acc => dataK lay e t (xs.take sz) fun e y => elemsK lay t sz k n e (xs.drop sz) fun l => acc (y :: l)
def neIf (n : Nat) (e : SE) (x : Tm) : SE := match n with | 0 => e | _ => { e with ne := x :: e.ne }
def bslS (lay : Nat → List Ty) (tyO : Nat → Option Ty) (e : SE) (n ty sz : Nat) (z : List F) (ρ : Operand → SV) (parts : List (Nat × Operand)) (S : SSt) (k : K1) : Tr :=
  match fillRowS sz ρ parts (repS n (z.map ofF)) with
  | .none => .fail
  | .some l =>
    match frzS l S, tyO ty with
    | .some (l', S'), .some t =>
      (match Nat.beq sz (wid lay t), Nat.beq l'.length (n * sz), Nat.ble ty 4294967295 with
      | true, true, true =>
        elemsK lay t sz (fun e ys => .lmk t ys (k (neIf n (e.push (.list t)) e.new) (.c (.rs S'.length 0)) (S' ++ [.arr true 0 (ty + 4294967296) sz t e.new]))) n e l' id
      | _, _, _ => .fail)
    | _, _ => .fail
end Go.Dm.Sx
namespace Go.Dm.Sx
open Go.Dm
set_option linter.unusedVariables false
set_option linter.unusedSimpArgs false
variable {U : Uni} {c c' c'' : Cx U} {e : SE} {Sp : List (FSpec U)} {Post : List (Dyn U.B) → Prop} {Go : Nat → List (Dyn U.B) → Prop}
def FollS (Sp : List (FSpec U)) (Post : List (Dyn U.B) → Prop) (Go : Nat → List (Dyn U.B) → Prop) (c : Cx U) (k : K1) (K : V → St → Prop) : Prop :=
  ∀ (c' : Cx U) e' sv v, Le c c' → Ok c' e' → c'.vr sv v → TDen Sp Post Go (k e' sv c'.S) c'.ρ → K v c'.σ
theorem FollS.foll {k : K1} {K : V → St → Prop} (h : FollS Sp Post Go c k K) : Foll Sp Post Go c (fun e sv => k e sv c.S) fun v => K v c.σ := by
  intro c' e' sv v h1 h2 h3 h4 h5 h6
  simp only at h6
  rw [← h2] at h6
  rw [← h3]
  exact h c' e' sv v h1 h4 h5 h6
theorem FollS.later {k : K1} {K : V → St → Prop} (h : FollS Sp Post Go c k K) (hl : Le c c') : FollS Sp Post Go c' k K :=
  fun c'' e' sv v h1 => h c'' e' sv v (hl.trans h1)
def Cx.add (c : Cx U) (ty : Nat) (so : SOb) (ob : Ob) : Cx U := ⟨c.ρ, fun o => if o = c.S.length then ty else c.β o, c.S ++ [so], c.σ ++ [ob]⟩
def Cx.set (c : Cx U) (o : Nat) (so : SOb) (ob : Ob) : Cx U := ⟨c.ρ, c.β, c.S.set o so, c.σ.set o ob⟩
theorem inf_lt {ρ : Rho U} {S : SSt} {o : Nat} {p : Nat × Nat} (h : inf ρ S o = some p) : o < S.length := by
  unfold inf at h
  split at h
  · rename_i ho; exact (List.getElem?_eq_some_iff.1 ho).1
  · cases h
theorem Le.add (ty : Nat) (so : SOb) (ob : Ob) : Le c (c.add ty so ob) := by
  refine ⟨fun _ _ h => h, fun o kc len h => ?_⟩
  have hl := inf_lt h
  refine ⟨if_neg (Nat.ne_of_lt hl), kc, len, ?_, .inr ⟨rfl, rfl⟩⟩
  have h' : inf c.ρ c.S o = some (kc, len) := h
  show inf c.ρ (c.S ++ [so]) o = _
  unfold inf at h' ⊢
  rw [List.getElem?_append_left hl]
  exact h'
theorem Ok.add (ok : Ok c e) {ty : Nat} {so : SOb} {ob : Ob} (h : OR (c.add ty so ob).ρ (c.add ty so ob).β (c.add ty so ob).ι c.S.length so ob) : Ok (c.add ty so ob) e where
  tys := ok.tys
  kn := ok.kn
  ne := ok.ne
  len := by simp [Cx.add, ok.len]
  st o so' ho := by
    simp only [Cx.add] at ho ⊢
    by_cases hl : o < c.S.length
    · rw [List.getElem?_append_left hl] at ho
      obtain ⟨ob', h1, h2⟩ := ok.st o so' ho
      exact ⟨ob', by rw [List.getElem?_append_left (by rw [← ok.len]; exact hl)]; exact h1, h2.later (Le.add ty so ob) (if_neg (Nat.ne_of_lt hl))⟩
    · rw [List.getElem?_append_right (by omega)] at ho
      have : o = c.S.length := by
        rcases Nat.lt_or_ge (o - c.S.length) 1 with h | h
        · omega
        · rw [List.getElem?_eq_none (by simpa using h)] at ho; cases ho
      subst this
      rw [Nat.sub_self] at ho
      simp at ho
      subst ho
      exact ⟨ob, by rw [ok.len, List.getElem?_append_right (Nat.le_refl _), Nat.sub_self]; rfl, h⟩
theorem Le.set {o : Nat} {so : SOb} {ob : Ob} (h : ∀ kc len, c.ι o = some (kc, len) → ∃ kc' len', inf c.ρ (c.S.set o so) o = some (kc', len') ∧ (kc < kc' ∨ (kc' = kc ∧ len' = len))) : Le c (c.set o so ob) := by
  refine ⟨fun _ _ h => h, fun o' kc len h' => ⟨rfl, ?_⟩⟩
  by_cases ho : o = o'
  · subst ho
    exact h kc len h'
  · refine ⟨kc, len, ?_, .inr ⟨rfl, rfl⟩⟩
    have h2 : inf c.ρ c.S o' = some (kc, len) := h'
    show inf c.ρ (c.S.set o so) o' = _
    unfold inf at h2 ⊢
    rw [List.getElem?_set_ne ho]
    exact h2
theorem Ok.set (ok : Ok c e) {o : Nat} {so : SOb} {ob : Ob} (hl : Le c (c.set o so ob)) (h : OR (c.set o so ob).ρ (c.set o so ob).β (c.set o so ob).ι o so ob) : Ok (c.set o so ob) e where
  tys := ok.tys
  kn := ok.kn
  ne := ok.ne
  len := by simp [Cx.set, ok.len]
  st o' so' ho := by
    simp only [Cx.set] at ho ⊢
    by_cases hoo : o = o'
    · subst hoo
      have hlt : o < c.S.length := by
        have := (List.getElem?_eq_some_iff.1 ho).1
        simpa using this
      rw [List.getElem?_set_self hlt] at ho
      cases ho
      exact ⟨ob, by rw [List.getElem?_set_self (by rw [← ok.len]; exact hlt)], h⟩
    · rw [List.getElem?_set_ne hoo] at ho
      obtain ⟨ob', h1, h2⟩ := ok.st o' so' ho
      exact ⟨ob', by rw [List.getElem?_set_ne hoo]; exact h1, h2.later hl rfl⟩
theorem no_inf {o : Nat} {so : SOb} (h : nth c.S o = some so) (hs : ∀ w k ty sz t x, so ≠ .arr w k ty sz t x) : c.ι o = none := by
  rw [nth_eq] at h
  simp only [Cx.ι, inf, h]
  cases so <;> first | rfl | exact absurd rfl (hs _ _ _ _ _ _)
theorem tm_ok (ok : Ok c e) {t : Ty} {x : SC} {y : Dm.C} (hx : c.cr x y) {k : SE → Tm → Tr} (h : TDen Sp Post Go (tmK e t x k) c.ρ) :
    ∃ c' e' a d f, Le c c' ∧ c'.S = c.S ∧ c'.σ = c.σ ∧ Ok c' e' ∧ y = .f f ∧ a.den? c'.ρ = some d ∧ d.t = t ∧ FD U f d ∧ TDen Sp Post Go (k e' a) c'.ρ := by
  unfold tmK at h
  split at h
  · rename_i t' a
    simp only [Cx.cr, CR] at hx
    obtain ⟨f, d, rfl, h1, h2, h3⟩ := hx
    split at h
    · rename_i ht
      have := Ty.eqb_ok ht
      subst this
      exact ⟨c, e, a, d, f, Le.refl c, rfl, rfl, ok, rfl, h1, h2, h3, h⟩
    · split at h
      · rename_i u u'
        split at h
        · rename_i hu
          have := (Ty.eqb_ok hu).symm
          subst this
          obtain ⟨t0, v⟩ := d
          simp only at h2
          subst h2
          obtain ⟨fs, rfl, h4⟩ := FD.ptr h3
          have h5 := h _ rfl
          rw [den_as h1] at h5
          refine ⟨c.push ⟨.opt u, some v⟩, _, e.new, ⟨.opt u, some v⟩, _, Le.push c _, rfl, rfl, ok.push _, rfl, ok.new _, rfl, ?_, h5⟩
          simp only [FD]
          exact .inl ⟨u, v, rfl, h4⟩
        · exact h.elim
      · exact h.elim
  · simp only [Cx.cr, CR] at hx
    subst hx
    split at h
    · rename_i u
      exact ⟨c, e, .nil u, ⟨.list u, []⟩, .nils, Le.refl c, rfl, rfl, ok, rfl, rfl, rfl, by simp only [FD]; exact ⟨_, rfl⟩, h⟩
    · exact h.elim
  · simp only [Cx.cr, CR] at hx
    subst hx
    split at h
    · rename_i u
      exact ⟨c, e, .none u, ⟨.opt u, none⟩, .nilp, Le.refl c, rfl, rfl, ok, rfl, rfl, rfl, by simp only [FD]; exact ⟨_, rfl⟩, h⟩
    · exact h.elim
  · exact h.elim
theorem tms_ok : ∀ (ts : List Ty) {c : Cx U} {e : SE} (ok : Ok c e) {xs : List SC} {ys : List Dm.C} (hx : c.crs xs ys) {k : SE → List Tm → Tr} (h : TDen Sp Post Go (tmsK e ts xs k) c.ρ),
    ∃ c' e' l ds fs, Le c c' ∧ c'.S = c.S ∧ c'.σ = c.σ ∧ Ok c' e' ∧ ys = List.map C.f fs ∧ l.map (Tm.den? c'.ρ) = List.map Option.some ds ∧ ds.map Dyn.t = ts ∧ FDs U fs ds ∧ TDen Sp Post Go (k e' l) c'.ρ
  | [], c, e, ok, [], ys, hx, k, h => by
    simp only [Cx.crs, CRs] at hx
    subst hx
    exact ⟨c, e, [], [], [], Le.refl c, rfl, rfl, ok, rfl, rfl, rfl, rfl, h⟩
  | t :: ts, c, e, ok, x :: xs, ys, hx, k, h => by
    simp only [Cx.crs, CRs] at hx
    obtain ⟨y, ys', rfl, h1, h2⟩ := hx
    obtain ⟨c1, e1, a, d, f, q1, q2, q3, q4, rfl, q6, q7, q8, q9⟩ := tm_ok ok h1 h
    obtain ⟨c2, e2, l, ds, fs, p1, p2, p3, p4, rfl, p6, p7, p8, p9⟩ := tms_ok ts q4 (q1.crs h2) q9
    refine ⟨c2, e2, a :: l, d :: ds, f :: fs, q1.trans p1, p2.trans q2, p3.trans q3, p4, rfl, ?_, ?_, ⟨d, ds, rfl, q8, p8⟩, p9⟩
    · simp only [List.map_cons, p6, p1.den q6]
    · simp only [List.map_cons, p7, q7]
  | [], c, e, ok, x :: xs, ys, hx, k, h => h.elim
  | t :: ts, c, e, ok, [], ys, hx, k, h => h.elim
theorem eta_ok {i b : Nat} {y : U.B b} (hi : c.ρ[i]? = some ⟨.base b, y⟩) : ∀ (j : Nat) {xs : List SC} {ys : List Dm.C}, c.crs xs ys → etaB i j xs = true → ∃ fs, ys = List.map C.f fs ∧ fs.length = xs.length ∧ ∀ m, m < xs.length → ∃ f d, fs[m]? = some f ∧ (cells U ⟨.base b, y⟩)[j + m]? = some d ∧ FD U f d
  | j, [], ys, hx, h => by
    simp only [Cx.crs, CRs] at hx
    subst hx
    exact ⟨[], rfl, rfl, fun m hm => by simp at hm⟩
  | j, x :: r, ys, hx, h => by
    simp only [Cx.crs, CRs] at hx
    obtain ⟨y', ys', rfl, h1, h2⟩ := hx
    simp only [etaB] at h
    split at h
    · rename_i t i' j'
      split at h
      · rename_i hi' hj'
        have e1 := beq_nat hi'
        have e2 := beq_nat hj'
        subst e1 e2
        simp only [CR] at h1
        obtain ⟨f, d, rfl, q1, q2, q3⟩ := h1
        simp only [Tm.den?, hi] at q1
        obtain ⟨fs, rfl, h3, h4⟩ := eta_ok hi (j' + 1) h2 h
        refine ⟨f :: fs, rfl, by simp [h3], fun m hm => ?_⟩
        cases m with
        | zero => exact ⟨f, d, rfl, q1, q3⟩
        | succ m =>
          obtain ⟨f', d', p1, p2, p3⟩ := h4 m (by simpa using hm)
          exact ⟨f', d', by simpa using p1, by rw [show j' + (m + 1) = j' + 1 + m from by omega]; exact p2, p3⟩
      · cases h
    · cases h
theorem cells_bd {b : Nat} {ds : List (Dyn U.B)} (h : ds.map Dyn.t = U.lay b) : cells U ⟨.base b, U.bd b ds⟩ = ds := by
  apply List.ext_getElem?
  intro j
  have hl : ds.length = (U.lay b).length := by rw [← h]; simp
  by_cases hj : j < ds.length
  · have h1 : ds[j]? = some ds[j] := List.getElem?_eq_getElem hj
    have h2 := U.bd_acc b ds h j _ h1
    simp only [cells, List.getElem?_map]
    rw [List.getElem?_eq_getElem (by simp; omega), h1]
    simp [h2]
  · rw [List.getElem?_eq_none (by rw [cells_len]; show (U.lay b).length ≤ j; omega), List.getElem?_eq_none (by omega)]
theorem data_ok (ok : Ok c e) {t : Ty} {xs : List SC} {ys : List Dm.C} (hx : c.crs xs ys) {k : SE → Tm → Tr} (h : TDen Sp Post Go (dataK U.lay e t xs k) c.ρ) :
    ∃ c' e' a d fs, Le c c' ∧ c'.S = c.S ∧ c'.σ = c.σ ∧ Ok c' e' ∧ ys = List.map C.f fs ∧ a.den? c'.ρ = some d ∧ d.t = t ∧ FDs U fs (cells U d) ∧ TDen Sp Post Go (k e' a) c'.ρ := by
  unfold dataK at h
  split at h
  · rename_i b
    split at h
    · rename_i i hi
      unfold eta? at hi
      split at hi
      · rename_i t0 i0 j0 r
        split at hi
        · rename_i b' hb
          split at hi
          · rename_i e1 e2 e3
            cases hi
            have q1 := beq_nat e1
            have q2 := beq_nat e2
            subst q1
            obtain ⟨d, h1, h2⟩ := ok.ty hb
            obtain ⟨t, y⟩ := d
            simp only at h2
            subst h2
            obtain ⟨fs, rfl, h3, h4⟩ := eta_ok h1 0 hx e3
            refine ⟨c, e, .at i, ⟨.base b', y⟩, fs, Le.refl c, rfl, rfl, ok, rfl, h1, rfl, FDs.of_get ?_ fun j d hj => ?_, h⟩
            · rw [h3, cells_len, q2]; rfl
            · have hlt : j < (List.length (SC.d t0 (Tm.fld i j0) :: r)) := by
                have := (List.getElem?_eq_some_iff.1 hj).1
                rw [cells_len] at this
                rw [q2]
                exact this
              obtain ⟨f, d', p1, p2, p3⟩ := h4 j hlt
              rw [Nat.zero_add, hj] at p2
              cases p2
              exact ⟨f, p1, p3⟩
          · cases hi
        · cases hi
      · cases hi
    · obtain ⟨c1, e1, l, ds, fs, q1, q2, q3, q4, rfl, q6, q7, q8, q9⟩ := tms_ok _ ok hx h
      have h5 := q9 _ rfl
      have hl : (l.map fun y => y.den c1.ρ) = ds := by
        clear h5 q9 h q7 q8
        induction l generalizing ds with
        | nil => cases ds with | nil => rfl | cons d ds => simp at q6
        | cons a l ih =>
          cases ds with
          | nil => simp at q6
          | cons d ds =>
            simp only [List.map_cons, List.cons.injEq] at q6 ⊢
            exact ⟨Tm.den_of q6.1, ih _ q6.2⟩
      rw [hl] at h5
      exact ⟨c1.push ⟨.base b, U.bd b ds⟩, _, e1.new, ⟨.base b, U.bd b ds⟩, fs, q1.trans (Le.push c1 _), q2, q3, q4.push _, rfl, q4.new _, rfl, by rw [cells_bd q7]; exact q8, h5⟩
  · rename_i hnb
    split at h
    · rename_i x
      simp only [Cx.crs, CRs] at hx
      obtain ⟨y, l', rfl, h1, rfl⟩ := hx
      obtain ⟨c1, e1, a, d, f, q1, q2, q3, q4, rfl, q6, q7, q8, q9⟩ := tm_ok ok h1 h
      refine ⟨c1, e1, a, d, [f], q1, q2, q3, q4, rfl, q6, q7, ?_, q9⟩
      have : cells U d = [d] := by
        obtain ⟨t0, v⟩ := d
        simp only at q7
        subst q7
        cases t0 <;> first | rfl | exact (hnb _ rfl).elim
      rw [this]
      exact ⟨d, [], rfl, q8, rfl⟩
    · exact h.elim
theorem Le.frz (ok : Ok c e) {o : Nat} {w : Bool} {k' ty sz : Nat} {t : Ty} {x : Tm} {ob : Ob} (h : nth c.S o = some (.arr w k' ty sz t x)) (w' : Bool) : Le c (c.set o (.arr w' k' ty sz t x) ob) := by
  obtain ⟨xs, fs, q1, q2, q3, q4, q5, q6⟩ := arr_at ok h
  refine Le.set fun kc len hi => ⟨kc, len, ?_, .inr ⟨rfl, rfl⟩⟩
  have hlt : o < c.S.length := inf_lt hi
  have hi' : inf c.ρ c.S o = some (kc, len) := hi
  rw [nth_eq] at h
  simp only [inf, h] at hi'
  simp only [inf, List.getElem?_set_self hlt]
  exact hi'
theorem Ok.frz (ok : Ok c e) {o : Nat} {w : Bool} {k' ty sz : Nat} {t : Ty} {x : Tm} {xs : List (T U.B t)} {fs : List F} (h : nth c.S o = some (.arr w k' ty sz t x)) (w' : Bool)
    (q1 : x.den? c.ρ = some ⟨.list t, xs⟩) (q3 : sz = width U t) (q4 : c.β o % 8589934592 = ty) (q5 : FDs U fs (flat U xs)) : Ok (c.set o (.arr w' k' ty sz t x) (.arr w' (c.β o + k' * 8589934592) sz fs)) e :=
  ok.set (Le.frz ok h w') ⟨_, fs, q1, rfl, rfl, q3, q4, q5⟩
theorem frz_ok : ∀ (xs : List SC) {c : Cx U} {e : SE} (ok : Ok c e) {ys : List Dm.C} (hx : c.crs xs ys) {xs' : List SC} {S' : SSt} (h : frzS xs c.S = some (xs', S')),
    ∃ c' fs, Le c c' ∧ c'.S = S' ∧ c'.ρ = c.ρ ∧ Ok c' e ∧ c'.crs xs' (List.map C.f fs) ∧ ∀ K : List F → St → Prop, K fs c'.σ → vfrzs prims ys c.σ K
  | [], c, e, ok, ys, hx, xs', S', h => by
    simp only [Cx.crs, CRs] at hx
    subst hx
    simp only [frzS, Option.some.injEq, Prod.mk.injEq] at h
    obtain ⟨rfl, rfl⟩ := h
    exact ⟨c, [], Le.refl c, rfl, rfl, ok, by simp only [Cx.crs, CRs, List.map_nil], fun K hK => hK⟩
  | x :: r, c, e, ok, ys, hx, xs', S', h => by
    simp only [Cx.crs, CRs] at hx
    obtain ⟨y, ys', rfl, h1, h2⟩ := hx
    simp only [frzS] at h
    split at h
    · rename_i o kk
      split at h
      · rename_i w k' ty sz t a ho
        split at h
        · rename_i hk
          have e1 := beq_nat hk
          subst e1
          obtain ⟨zs, gs, q1, q2, q3, q4, q5, q6⟩ := arr_at ok ho
          simp only [CR] at h1
          obtain ⟨n, kc, len, rfl, p2, p3, p4⟩ := h1
          have p2' : c.ι o = some (kc, len) := p2
          rw [q6] at p2'
          cases p2'
          have := p4 rfl
          subst this
          split at h
          · rename_i l S2 hr
            cases h
            have hle := Le.frz (ob := .arr false (c.β o + kk * 8589934592) sz gs) ok ho false
            obtain ⟨c2, fs, r1, r2, r3, r4, r5, r6⟩ := frz_ok r (Ok.frz ok ho false q1 q3 q4 q5) (hle.crs h2) hr
            refine ⟨c2, .sl zs.length gs :: fs, hle.trans r1, r2, r3, r4, ?_, fun K hK => ?_⟩
            · simp only [Cx.crs, CRs, List.map_cons]
              refine ⟨_, _, rfl, ?_, r5⟩
              simp only [CR]
              exact ⟨_, ⟨.list t, zs⟩, rfl, by rw [r3]; exact q1, rfl, by simp only [FD]; exact ⟨t, zs, rfl, rfl, q5⟩⟩
            · simp only [vfrzs, q2]
              exact ⟨rfl, r6 (fun l σ => K (.sl zs.length gs :: l) σ) hK⟩
          · cases h
        · cases h
      · cases h
    · rename_i hnr
      split at h
      · rename_i hkeep
        split at h
        · rename_i l S2 hr
          cases h
          obtain ⟨c2, fs, r1, r2, r3, r4, r5, r6⟩ := frz_ok r ok h2 hr
          have hf : ∃ f, y = .f f := by
            cases x <;> simp only [keepC] at hkeep <;> first
              | (cases hkeep; done)
              | (simp only [CR] at h1; first | exact ⟨_, h1⟩ | (obtain ⟨f, d, h1, _⟩ := h1; exact ⟨f, h1⟩))
          obtain ⟨f, rfl⟩ := hf
          refine ⟨c2, f :: fs, r1, r2, r3, r4, ?_, fun K hK => ?_⟩
          · simp only [Cx.crs, CRs, List.map_cons]
            exact ⟨_, _, rfl, r1.cr h1, r5⟩
          · simp only [vfrzs]
            exact r6 (fun l σ => K (f :: l) σ) hK
        · cases h
      · cases h
end Go.Dm.Sx
namespace Go.Dm.Sx
open Go.Dm
set_option linter.unusedVariables false
set_option linter.unusedSimpArgs false
variable {U : Uni} {c c' c'' : Cx U} {e : SE} {Sp : List (FSpec U)} {Post : List (Dyn U.B) → Prop} {Go : Nat → List (Dyn U.B) → Prop}
theorem ofF_ok {ρ : Rho U} {β : Nat → Nat} {ι : Inf} (f : F) : CR ρ β ι (ofF f) (.f f) := by
  cases f <;> simp only [ofF, CR] <;> first
    | trivial
    | exact ⟨_, _, rfl, rfl, rfl, rfl⟩
theorem ofFs_ok {ρ : Rho U} {β : Nat → Nat} {ι : Inf} : ∀ (l : List F), CRs ρ β ι (l.map ofF) (l.map C.f)
  | [] => by simp only [List.map_nil, CRs]
  | f :: r => by simp only [List.map_cons, CRs]; exact ⟨_, _, rfl, ofF_ok f, ofFs_ok r⟩
theorem add_cells (ok : Ok c e) {l : List SC} {l' : List Dm.C} (hl : c.crs l l') {k : K1} {K : V → St → Prop} (hk : FollS Sp Post Go c k K)
    (h : TDen Sp Post Go (k e (.c (.ptr c.S.length 0)) (c.S ++ [.cells l])) c.ρ) : K (.c (.ptr c.σ.length 0)) (c.σ ++ [.cells l']) := by
  have hle : Le c (c.add 0 (.cells l) (.cells l')) := Le.add _ _ _
  exact hk (c.add 0 (.cells l) (.cells l')) e _ _ hle (ok.add ⟨l', rfl, hle.crs hl⟩) (VR.c (by simp only [CR, ok.len])) h
theorem alloc_ok (ok : Ok c e) {z : List F} {k : K1} {K : V → St → Prop} (hk : FollS Sp Post Go c k K)
    (h : TDen Sp Post Go (k e (.c (.ptr c.S.length 0)) (c.S ++ [.cells (z.map ofF)])) c.ρ) : K (.c (.ptr c.σ.length 0)) (c.σ ++ [.cells (z.map .f)]) :=
  add_cells ok (ofFs_ok z) hk h
theorem cells_of {x : SV} {v : V} (hx : c.vr x v) {l : List SC} (h : x.cells = some l) : ∃ l', v.cells = some l' ∧ c.crs l l' := by
  cases x with
  | c x =>
    cases x <;> simp only [SV.cells, Option.some.injEq] at h <;> first
      | (cases h; done)
      | (subst h
         obtain ⟨y, rfl, h0⟩ := V_c (by simp) hx
         refine ⟨[y], ?_, by simp only [Cx.crs, CRs]; exact ⟨y, [], rfl, h0, rfl⟩⟩
         cases y <;> first | rfl | (simp only [CR] at h0; first | (cases h0; done) | (obtain ⟨_, h0, _⟩ := h0; cases h0; done) | (obtain ⟨_, _, h0, _⟩ := h0; cases h0; done) | (obtain ⟨_, _, _, h0, _⟩ := h0; cases h0; done) | (obtain ⟨_, _, _, _, _, _, h0⟩ := h0; cases h0; done)))
  | a l0 =>
    simp only [SV.cells, Option.some.injEq] at h
    subst h
    simp only [Cx.vr, VR] at hx
    obtain ⟨l', rfl, h1⟩ := hx
    exact ⟨l', rfl, h1⟩
  | t l0 => simp [SV.cells] at h
theorem box_ok (ok : Ok c e) {x : SV} {v : V} (hx : c.vr x v) {k : K1} {K : V → St → Prop} (hk : FollS Sp Post Go c k K)
    (h : TDen Sp Post Go (boxS e x c.S k) c.ρ) : match v.cells with | some l => K (.c (.ptr c.σ.length 0)) (c.σ ++ [.cells l]) | none => False := by
  unfold boxS at h
  split at h
  · rename_i l hl
    obtain ⟨l', h1, h2⟩ := cells_of hx hl
    rw [h1]
    exact add_cells ok h2 hk h
  · exact h.elim
theorem solid_of {ρ : Rho U} {β : Nat → Nat} {ι : Inf} {x : SC} {y : Dm.C} (h : CR ρ β ι x y) (hs : x.solid = true) : y.solid = true := by
  cases y <;> first
    | rfl
    | (cases x <;> simp only [CR] at h <;> first
      | (cases hs; done)
      | (cases h; done)
      | (obtain ⟨_, h, _⟩ := h; cases h; done)
      | (obtain ⟨_, _, h, _⟩ := h; cases h; done)
      | (obtain ⟨_, _, _, h, _⟩ := h; cases h; done)
      | (obtain ⟨_, _, _, _, _, _, h⟩ := h; cases h; done))
theorem solids_of {ρ : Rho U} {β : Nat → Nat} {ι : Inf} : ∀ {l : List SC} {l' : List Dm.C}, CRs ρ β ι l l' → l.all SC.solid = true → l'.all C.solid = true
  | [], l', h, _ => by simp only [CRs] at h; subst h; rfl
  | x :: r, l', h, hs => by
    simp only [CRs] at h
    obtain ⟨y, l0, rfl, h1, h2⟩ := h
    simp only [List.all_cons, Bool.and_eq_true] at hs ⊢
    exact ⟨solid_of h1 hs.1, solids_of h2 hs.2⟩
theorem splice_ok {ρ : Rho U} {β : Nat → Nat} {ι : Inf} {l r q : List SC} {l' r' : List Dm.C} (hl : CRs ρ β ι l l') (hr : CRs ρ β ι r r') {off : Nat} (h : spliceS l off r = some q) : ∃ q', splice l' off r' = some q' ∧ CRs ρ β ι q q' := by
  unfold spliceS at h
  split at h
  · rename_i hb
    cases h
    refine ⟨_, by unfold splice; rw [if_pos (by rw [hl.len, hr.len]; exact ble_nat hb)], ?_⟩
    rw [hr.len]
    exact ((hl.take off).append hr).append (hl.drop _)
  · cases h
theorem set_cells (ok : Ok c e) {o : Nat} {so : SOb} (ho : nth c.S o = some so) (hs : ∀ w k ty sz t x, so ≠ .arr w k ty sz t x) {so' : SOb} {ob' : Ob} (h : ∀ ρ β ι, Later c.ρ c.β c.ι ρ β ι → OR ρ β ι o so' ob') :
    Le c (c.set o so' ob') ∧ Ok (c.set o so' ob') e := by
  have hle : Le c (c.set o so' ob') := Le.set fun kc len hi => by rw [no_inf ho hs] at hi; cases hi
  exact ⟨hle, ok.set hle (h _ _ _ hle)⟩
theorem set_arr (ok : Ok c e) {o : Nat} {w : Bool} {k' ty sz : Nat} {t : Ty} {x : Tm} (ho : nth c.S o = some (.arr w k' ty sz t x)) {xs : List (T U.B t)} (hx : x.den? c.ρ = some ⟨.list t, xs⟩)
    {k2 : Nat} {x2 : Tm} {ys : List (T U.B t)} {fs : List F} (w2 : Bool) (hx2 : x2.den? c.ρ = some ⟨.list t, ys⟩) (hk : k' < k2 ∨ (k2 = k' ∧ ys.length = xs.length)) (hf : FDs U fs (flat U ys)) :
    Le c (c.set o (.arr w2 k2 ty sz t x2) (.arr w2 (c.β o + k2 * 8589934592) sz fs)) ∧ Ok (c.set o (.arr w2 k2 ty sz t x2) (.arr w2 (c.β o + k2 * 8589934592) sz fs)) e := by
  obtain ⟨xs', fs', q1, q2, q3, q4, q5, q6⟩ := arr_at ok ho
  rw [hx] at q1
  simp only [Option.some.injEq, Dyn.mk.injEq, heq_eq_eq, true_and] at q1
  subst q1
  have hle : Le c (c.set o (.arr w2 k2 ty sz t x2) (.arr w2 (c.β o + k2 * 8589934592) sz fs)) := Le.set fun kc len hi => by
    have hlt : o < c.S.length := inf_lt hi
    rw [q6] at hi
    cases hi
    refine ⟨k2, ys.length, ?_, hk⟩
    simp only [inf, List.getElem?_set_self hlt, hx2, lenOf]
  exact ⟨hle, ok.set hle ⟨_, fs, hx2, rfl, rfl, q3, q4, hf⟩⟩
theorem fput_row {t : Ty} {xs : List (T U.B t)} {fs gs : List F} {y : T U.B t} {i : Nat} (hf : FDs U fs (flat U xs)) (hg : FDs U gs (cells U ⟨t, y⟩)) (hi : i < xs.length) :
    FDs U (prims.fput fs (i * width U t) gs) (flat U (xs.set i y)) := by
  show FDs U (fs.take (i * width U t) ++ gs ++ fs.drop (i * width U t + gs.length)) _
  have hgl : gs.length = width U t := by rw [hg.len, cells_len]
  have e1 : xs.set i y = xs.take i ++ y :: xs.drop (i + 1) := by
    rw [List.set_eq_take_append_cons_drop, if_pos hi]
  rw [e1, flat_app, flat_cons, ← flat_take, ← flat_drop, hgl, List.append_assoc]
  refine (hf.take _).append (hg.append ?_)
  have := hf.drop ((i + 1) * width U t)
  rwa [show i * width U t + width U t = (i + 1) * width U t from by rw [Nat.add_mul, Nat.one_mul]]
theorem frz_len : ∀ (xs : List SC) {S S' : SSt} {ys : List SC}, frzS xs S = some (ys, S') → ys.length = xs.length
  | [], S, S', ys, h => by simp only [frzS, Option.some.injEq, Prod.mk.injEq] at h; rw [← h.1]
  | x :: r, S, S', ys, h => by
    simp only [frzS] at h
    split at h
    · split at h
      · split at h
        · split at h
          · rename_i l S2 hr
            cases h
            simp [frz_len r hr]
          · cases h
        · cases h
      · cases h
    · split at h
      · split at h
        · rename_i l S2 hr
          cases h
          simp [frz_len r hr]
        · cases h
      · cases h
theorem fput_part {fs gs : List F} {p sz j n : Nat} (hg : gs.length = n) (hj : j + n ≤ sz) (hp : p + sz ≤ fs.length) :
    prims.fput fs p (((fs.drop p).take sz).take j ++ gs ++ ((fs.drop p).take sz).drop (j + n)) = prims.fput fs (p + j) gs := by
  show fs.take p ++ (((fs.drop p).take sz).take j ++ gs ++ ((fs.drop p).take sz).drop (j + n)) ++ fs.drop (p + (((fs.drop p).take sz).take j ++ gs ++ ((fs.drop p).take sz).drop (j + n)).length) = fs.take (p + j) ++ gs ++ fs.drop (p + j + gs.length)
  have h1 : (((fs.drop p).take sz).take j ++ gs ++ ((fs.drop p).take sz).drop (j + n)).length = sz := by
    simp only [List.length_append, List.length_take, List.length_drop, hg]; omega
  rw [h1, List.take_take, Nat.min_eq_left (by omega), List.take_add, hg]
  simp only [List.append_assoc]
  congr 2
  rw [List.drop_take, List.drop_drop, ← List.append_assoc]
  have h2 : fs.drop (p + j + n) = (fs.drop (p + (j + n))).take (sz - (j + n)) ++ fs.drop (p + sz) := by
    rw [show p + sz = p + (j + n) + (sz - (j + n)) from by omega, ← List.drop_drop (i := sz - (j + n)), List.take_append_drop, Nat.add_assoc]
  rw [h2, List.append_assoc]
theorem store_ok (ok : Ok c e) {n : Nat} {a x : SV} {va v : V} (ha : c.vr a va) (hx : c.vr x v) {k : K1} {K : V → St → Prop} (hk : FollS Sp Post Go c k K)
    (h : TDen Sp Post Go (storeS U.lay e n a x c.S k) c.ρ) : vstore prims va v n c.σ fun σ => K (.c .un) σ := by
  unfold storeS at h
  split at h
  · exact h.elim
  · rename_i r hr
    obtain ⟨r', hr1, hr2⟩ := cells_of hx hr
    split at h
    · rename_i hlen hsol
      have hlen := beq_nat hlen
      unfold vstore
      rw [hr1]
      simp only
      rw [if_pos ⟨by rw [hr2.len]; exact hlen, solids_of hr2 hsol⟩]
      split at h
      · rename_i o off
        cases vr_ptr ha
        split at h
        · rename_i l ho
          obtain ⟨ob, h1, l', rfl, h2⟩ := ok.get ho
          simp only [h1]
          split at h
          · rename_i q hq
            obtain ⟨q', h3, h4⟩ := splice_ok h2 hr2 hq
            rw [h3]
            obtain ⟨g1, g2⟩ := set_cells (so' := .cells q) (ob' := .cells q') ok ho (by simp) fun ρ β ι hl => ⟨q', rfl, CRs.later hl h4⟩
            exact hk _ e _ (.c .un) g1 g2 VR.un h
          · exact h.elim
        · rename_i T u y ho
          obtain ⟨ob, h1, bu, y', rfl, h0, h2⟩ := ok.get ho
          simp only [h1]
          split at h
          · rename_i o'
            split at h
            · rename_i hb
              simp only [Cx.crs, CRs, CR] at hr2
              obtain ⟨c0, l0, rfl, rfl, rfl⟩ := hr2
              simp only [hb]
              obtain ⟨g1, g2⟩ := set_cells (so' := .bld T (some true) y) (ob' := .bld T true y') ok ho (by simp) fun ρ β ι hl => ⟨true, y', rfl, fun b hb => by cases hb; rfl, CR.later hl h2⟩
              exact hk _ e _ (.c .un) g1 g2 VR.un h
            · exact h.elim
          · simp only [Cx.crs, CRs] at hr2
            obtain ⟨c0, l0, rfl, h3, rfl⟩ := hr2
            obtain ⟨g1, g2⟩ := set_cells (so' := .bld T u _) (ob' := .bld T bu c0) ok ho (by simp) fun ρ β ι hl => ⟨bu, c0, rfl, h0, CR.later hl h3⟩
            exact hk _ e _ (.c .un) g1 g2 VR.un h
          · exact h.elim
        · exact h.elim
      · rename_i o kk sz i j
        obtain ⟨kd, n0, p, h1, h2, h3, rfl⟩ := vr_pa ha
        simp only
        split at h
        · exact h.elim
        · rename_i r2 S2 hfr
          obtain ⟨c2, gs, g1, rfl, g3, ok2, g5, g6⟩ := frz_ok r ok hr2 hfr
          refine g6 _ ?_
          split at h
          · rename_i k' ty sz' t l ho
            obtain ⟨xs, fs, q1, q2, q3, q4, q5, q6⟩ := arr_at ok2 ho
            have h1' := g1.den h1
            have hβ : c2.β o = c.β o := by obtain ⟨a1, a2⟩ := p; exact (g1.2 o a1 a2 h3).1
            rw [← g3] at h
            split at h
            · rename_i hkk hsz
              have e1 := beq_nat hkk
              have e2 := beq_nat hsz
              subst e1 e2
              simp only [q2]
              have hgl : gs.length = n := by
                have := frz_len r hfr
                have h5 := g5.len
                rw [List.length_map] at h5
                omega
              have hfl : fs.length = xs.length * sz := by rw [q5.len, flat_len, q3]
              -- the end
              have fin : ∀ {c3 : Cx U} {e3 : SE} {y : Tm} {d : Dyn U.B} {hs : List F}, Le c2 c3 → c3.S = c2.S → c3.σ = c2.σ → Ok c3 e3 → y.den? c3.ρ = some d → d.t = t → FDs U hs (cells U d) →
                  prims.fput fs (n0.toNat * sz) hs = prims.fput fs (n0.toNat * sz + j) gs → n0.toNat * sz + j + n ≤ fs.length →
                  TDen Sp Post Go (.lset t l i y (k (e3.push (.list t)) (.c .un) (c2.S.set o (.arr true kk ty sz t (.at e3.n))))) c3.ρ →
                  prims.eqN (c.β o + kk * 8589934592) (c2.β o + kk * 8589934592) ∧ prims.le (prims.nadd (n0.toNat * sz + j) n) (prims.flen fs) ∧ K (.c .un) (c2.σ.set o (.arr true (c2.β o + kk * 8589934592) sz (prims.fput fs (n0.toNat * sz + j) gs))) := by
                intro c3 e3 y d hs hle hS hσ ok3 hy hd hhs heq hlen hD
                refine ⟨by rw [hβ]; rfl, hlen, ?_⟩
                obtain ⟨⟨b1, b2⟩, b3⟩ := hD
                rw [den_as (t := .list t) (hle.den q1), den_int (hle.den h1')] at b2 b3
                obtain ⟨t0, y0⟩ := d
                simp only at hd
                subst hd
                rw [den_as hy] at b3
                have b4 := b3 _ rfl
                rw [← heq]
                have hlt : n0.toNat < xs.length := by omega
                let c4 := c3.push ⟨.list t0, xs.set n0.toNat y0⟩
                have ok4 : Ok c4 (e3.push (.list t0)) := ok3.push _
                have ho4 : nth c4.S o = some (.arr true kk ty sz t0 l) := by show nth c3.S o = _; rw [hS]; exact ho
                have hl4 : l.den? c4.ρ = some ⟨.list t0, xs⟩ := (Le.push c3 _).den (hle.den q1)
                obtain ⟨s1, s2⟩ := set_arr ok4 ho4 hl4 (k2 := kk) (x2 := .at e3.n) (ys := xs.set n0.toNat y0) true (ok3.new _) (.inr ⟨rfl, by simp⟩) (by have := fput_row q5 hhs hlt; rwa [← q3] at this)
                have hβ3 : c4.β o = c2.β o := by
                  have := hle.2 o _ _ q6
                  exact this.1
                rw [hβ3] at s1 s2
                have := hk _ _ (.c .un) (.c .un) (g1.trans (hle.trans ((Le.push c3 _).trans s1))) s2 VR.un (by
                  show TDen Sp Post Go (k (e3.push (.list t0)) (.c .un) (c3.S.set o _)) _
                  rw [hS]; exact b4)
                have e5 : c4.σ = c2.σ := hσ
                simpa [Cx.set, e5] using this
              have row : n0.toNat < xs.length → n0.toNat * sz + sz ≤ fs.length := fun hlt => by
                rw [hfl]
                have := Nat.mul_le_mul_right sz (Nat.succ_le_of_lt hlt)
                rwa [Nat.succ_mul] at this
              split at h
              · rename_i hj hn
                have hj0 := beq_nat hj
                have hn0 := beq_nat hn
                obtain ⟨c3, e3, y, d, hs, r1, r2', r3, r4, r5, r6, r7, r8, r9⟩ := data_ok ok2 g5 h
                have : hs = gs := (List.map_inj_right (fun _ _ hh => by cases hh; rfl)).1 r5.symm
                subst this
                have hR9 := r9
                obtain ⟨⟨b1, b2⟩, _⟩ := hR9
                rw [den_as (t := .list t) (r1.den q1), den_int (r1.den h1')] at b2
                rw [den_int (r1.den h1')] at b1
                exact fin r1 r2' r3 r4 r6 r7 r8 (by rw [hj0, Nat.add_zero]) (by rw [hj0, hn0, Nat.add_zero]; exact row (by omega)) r9
              · split at h
                · rename_i b
                  obtain ⟨⟨b1, b2⟩, b3⟩ := h
                  rw [den_as (t := .list (.base b)) q1, den_int h1'] at b2 b3
                  rw [den_int h1'] at b1
                  have hlt : n0.toNat < xs.length := by omega
                  have hy := List.getElem?_eq_getElem hlt
                  generalize xs[n0.toNat] = y at hy
                  have b4 := b3 y hy
                  split at b4
                  · rename_i q hq
                    have okp := ok2.push (⟨.base b, y⟩ : Dyn U.B)
                    have hi : (c2.push ⟨.base b, y⟩).ρ[e.n]? = some ⟨.base b, y⟩ := by simp [Cx.push, ok2.n]
                    have wb : width U (.base b) = (U.lay b).length := rfl
                    have hr := row hlt
                    have hcf : (c2.push ⟨.base b, y⟩).crs (cellsFrom U.lay (e.push (.base b)) e.n 0 (U.lay b).length) (List.map C.f ((fs.drop (n0.toNat * sz)).take sz)) := by
                      refine cellsFrom_ok okp hi _ 0 (by rw [List.length_take, List.length_drop, ← wb, ← q3]; omega) fun m hm => ?_
                      have h6 : (cells U ⟨.base b, y⟩)[m]? = some ((cells U ⟨.base b, y⟩)[m]'(by rw [cells_len]; exact hm)) := List.getElem?_eq_getElem _
                      have h7 := flat_get (U := U) hy (j := m) hm
                      rw [h6] at h7
                      obtain ⟨f, h8, h9⟩ := q5.get h7
                      refine ⟨_, f, by rw [Nat.zero_add]; exact h6, ?_, h9⟩
                      rw [List.getElem?_take, if_pos (by rw [q3]; exact hm), List.getElem?_drop]
                      rw [q3]; exact h8
                    obtain ⟨q', s1, s2⟩ := splice_ok hcf ((Le.push c2 _).crs g5) hq
                    obtain ⟨c3, e3, z, d, hs, r1, r2', r3, r4, r5, r6, r7, r8, r9⟩ := data_ok okp s2 b4
                    have hjn : j + n ≤ sz := by
                      unfold splice at s1
                      split at s1
                      · rename_i hh
                        simp only [List.length_map, List.length_take, List.length_drop, hgl] at hh
                        omega
                      · cases s1
                    have hhs : hs = ((fs.drop (n0.toNat * sz)).take sz).take j ++ gs ++ ((fs.drop (n0.toNat * sz)).take sz).drop (j + n) := by
                      unfold splice at s1
                      split at s1
                      · cases s1
                        rw [List.length_map, hgl, ← List.map_take, ← List.map_drop, ← List.map_append, ← List.map_append] at r5
                        exact ((List.map_inj_right (fun _ _ hh => by cases hh; rfl)).1 r5).symm
                      · cases s1
                    exact fin ((Le.push c2 _).trans r1) r2' r3 r4 r6 r7 r8 (by rw [hhs]; exact fput_part hgl hjn (by omega)) (by omega) r9
                  · exact b4.elim
                · exact h.elim
            · exact h.elim
          · exact h.elim
      · exact h.elim
    · exact h.elim
end Go.Dm.Sx
