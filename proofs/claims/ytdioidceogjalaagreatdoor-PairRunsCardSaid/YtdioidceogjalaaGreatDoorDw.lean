/- The plain machine: uses of specs whose results stay unknowns. -/
import Derived.Test.YtdioidceogjalaaGreatDoorDv
import Derived.Laws.BitsLemmas
namespace Go.Dm
set_option linter.unusedVariables false

/-- A test. -/
theorem br {b : Bool} {p q : Prop} (h1 : b = true → p) (h2 : b = false → q) : (match (generalizing := false) b with | true => p | false => q) := by
  cases b
  · exact h2 rfl
  · exact h1 rfl

/-- A frame of k temporaries, of which some are known. -/
def mk (k : Nat) (l : List (Nat × V)) : Fr := l.foldl (fun fr p => List.set fr p.1 p.2) (List.replicate k (.c .un))

section
variable {P : Program} {X : Mx} {f : FuncId} {args : List V} {K : V → Prop}

theorem pk_int (hX : X = mx P) {k : IntKind} {n : Int} (h : PureAt P f args (.c (.f (.int k n)))) (hk : ∀ m, m = n → K (.c (.f (.int k m)))) : X.pk f args K := pk_use hX h (hk _ rfl)
theorem pk_bool (hX : X = mx P) {b : Bool} (h : PureAt P f args (.c (.f (.bool b)))) (hk : ∀ m, m = b → K (.c (.f (.bool m)))) : X.pk f args K := pk_use hX h (hk _ rfl)
theorem pk_str (hX : X = mx P) {s : List UInt8} (h : PureAt P f args (.c (.f (.str s)))) (hk : ∀ m, m = s → K (.c (.f (.str m)))) : X.pk f args K := pk_use hX h (hk _ rfl)
theorem pk_cpl (hX : X = mx P) {a b : Nat} (h : PureAt P f args (.c (.f (.cpl a b)))) (hk : ∀ x y, x = a → y = b → K (.c (.f (.cpl x y)))) : X.pk f args K := pk_use hX h (hk _ _ rfl rfl)
theorem pk_sl (hX : X = mx P) {n : Nat} {cs : List F} (h : PureAt P f args (.c (.f (.sl n cs)))) (hk : ∀ m l, m = n → l = cs → K (.c (.f (.sl m l)))) : X.pk f args K := pk_use hX h (hk _ _ rfl rfl)

theorem getK_use (hX : X = mx P) {cs : List F} {j : Nat} {x : F} {K : F → Prop} (h : cs[j]? = some x) (hk : K x) : X.T.getK cs j K := by
  subst hX
  show (match cs[j]? with | some x => K x | none => False)
  rw [h]
  exact hk

theorem cutK_use (hX : X = mx P) {cs r : List F} {j n : Nat} {K : List F → Prop} (h : (cs.drop j).take n = r) (hl : j + n ≤ cs.length) (hk : K r) : X.T.cutK cs j n K := by
  subst hX h
  exact ⟨hl, hk⟩

theorem idx_use (hX : X = mx P) {i n : Int} (h : 0 ≤ i ∧ i < n) : X.T.idx i n := by subst hX; exact h
theorem atp_eq (hX : X = mx P) (i n : Nat) : X.T.atp (Int.ofNat i) n = i * n := by subst hX; rfl
theorem lss_eq (hX : X = mx P) (a b : Int) : X.T.icmp .lss a b = decide (a < b) := by subst hX; rfl
theorem leq_eq (hX : X = mx P) (a b : Int) : X.T.icmp .leq a b = decide (a ≤ b) := by subst hX; rfl
theorem gtr_eq (hX : X = mx P) (a b : Int) : X.T.icmp .gtr a b = decide (a > b) := by subst hX; rfl
theorem geq_eq (hX : X = mx P) (a b : Int) : X.T.icmp .geq a b = decide (a ≥ b) := by subst hX; rfl
theorem eql_eq (hX : X = mx P) (a b : Int) : X.T.icmp .eql a b = (a == b) := by subst hX; rfl
theorem neq_eq (hX : X = mx P) (a b : Int) : X.T.icmp .neq a b = !(a == b) := by subst hX; rfl
theorem iadd_eq (hX : X = mx P) {a b : Int} (h : -9223372036854775808 ≤ a + b ∧ a + b ≤ 9223372036854775807) : X.T.iar .add .i64 a b = a + b := by
  subst hX
  show IntKind.i64.wrap (a + b) = a + b
  rw [IntKind.wrap_i64]; omega
theorem isub_eq (hX : X = mx P) {a b : Int} (h : -9223372036854775808 ≤ a - b ∧ a - b ≤ 9223372036854775807) : X.T.iar .sub .i64 a b = a - b := by
  subst hX
  show IntKind.i64.wrap (a - b) = a - b
  rw [IntKind.wrap_i64]; omega
theorem imul_eq (hX : X = mx P) {a b : Int} (h : -9223372036854775808 ≤ a * b ∧ a * b ≤ 9223372036854775807) : X.T.iar .mul .i64 a b = a * b := by
  subst hX
  show IntKind.i64.wrap (a * b) = a * b
  rw [IntKind.wrap_i64]; omega
theorem fadd_eq (hX : X = mx P) (a b : Nat) : X.T.fadd a b = floatBits .add .f64 a b := by subst hX; rfl
theorem slen_eq (hX : X = mx P) (s : List UInt8) : X.T.slen s = s.length := by subst hX; rfl
theorem sget_eq (hX : X = mx P) {s : List UInt8} {i : Nat} (h : i < s.length) : X.T.sget s (Int.ofNat i) = (s[i].toNat : Int) := by
  subst hX
  show ((s.getD (Int.ofNat i).toNat 0).toNat : Int) = _
  simp [List.getD_eq_getElem?_getD, h]
theorem sapp_eq (hX : X = mx P) (s t : List UInt8) : X.T.sapp s t = s ++ t := by subst hX; rfl
theorem ssub_eq (hX : X = mx P) (s : List UInt8) (a b : Int) : X.T.ssub s a b = (s.drop a.toNat).take (b.toNat - a.toNat) := by subst hX; rfl
theorem idx_iff (hX : X = mx P) (i n : Int) : X.T.idx i n ↔ 0 ≤ i ∧ i < n := by subst hX; rfl
theorem rng_iff (hX : X = mx P) (a b c : Int) : X.T.rng a b c ↔ 0 ≤ a ∧ a ≤ b ∧ b ≤ c := by subst hX; rfl
theorem le_iff (hX : X = mx P) (a b : Nat) : X.T.le a b ↔ a ≤ b := by subst hX; rfl
theorem eqN_iff (hX : X = mx P) (a b : Nat) : X.T.eqN a b ↔ a = b := by subst hX; rfl
theorem sroom_iff (hX : X = mx P) (s t : List UInt8) : X.T.sroom s t ↔ s.length + t.length ≤ 9223372036854775807 := by subst hX; rfl
theorem imin_eq (hX : X = mx P) (a b : Int) : X.T.imin a b = min a b := by
  subst hX
  show (if b < a then b else a) = _
  rw [Int.min_def]; split <;> split <;> omega
theorem imax_eq (hX : X = mx P) (a b : Int) : X.T.imax a b = max a b := by
  subst hX
  show (if b > a then b else a) = _
  rw [Int.max_def]; split <;> split <;> omega
theorem scmp_eql (hX : X = mx P) (s t : List UInt8) : X.T.scmp .eql s t = (s == t) := by subst hX; rfl
theorem scmp_neq (hX : X = mx P) (s t : List UInt8) : X.T.scmp .neq s t = !(s == t) := by subst hX; rfl
theorem beq_eq (hX : X = mx P) (a b : Bool) : X.T.beq a b = (a == b) := by subst hX; rfl
theorem bnot_eq (hX : X = mx P) (a : Bool) : X.T.bnot a = !a := by subst hX; rfl
theorem band_eq (hX : X = mx P) (a b : Bool) : X.T.band a b = (a && b) := by subst hX; rfl
theorem toNat_eq (hX : X = mx P) (a : Int) : X.T.toNat a = a.toNat := by subst hX; rfl
theorem nadd_eq (hX : X = mx P) (a b : Nat) : X.T.nadd a b = a + b := by subst hX; rfl
theorem nsub_eq (hX : X = mx P) (a b : Nat) : X.T.nsub a b = a - b := by subst hX; rfl
theorem flen_eq (hX : X = mx P) (l : List F) : X.T.flen l = l.length := by subst hX; rfl
theorem fapp_eq (hX : X = mx P) (a b : List F) : X.T.fapp a b = a ++ b := by subst hX; rfl
theorem fcut_eq (hX : X = mx P) (l : List F) (i n : Nat) : X.T.fcut l i n = (l.drop i).take n := by subst hX; rfl
theorem fput_eq (hX : X = mx P) (l : List F) (i : Nat) (r : List F) : X.T.fput l i r = l.take i ++ r ++ l.drop (i + r.length) := by subst hX; rfl
theorem wrap_eq (hX : X = mx P) (k : IntKind) (n : Int) : X.T.wrap k n = k.wrap n := by subst hX; rfl
end
end Go.Dm
