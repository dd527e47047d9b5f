/- The contract of mark.Text. -/
import Derived.Test.YtghhdgalledajaaMark
import Derived.Lib.Bytealg
import Derived.Outline
namespace Go.Proofs.Ytghhdgalledajaa
open Go.RowKit Go.Fl
set_option linter.unusedVariables false
set_option linter.unusedSimpArgs false

theorem ext_count (s : ByteArray) (c : Int) (w : World) : (callFunc 20 #[.string s, .int .u8 c]).run Try.prog w = .ok (.value (.int .i64 (Lib.countByte s.data.toList c.toNat.toUInt8))) w := by
  rw [run_callFunc_extern Try.func20 (by kernel_rfl) (by kernel_rfl) (by kernel_rfl) (e := Extern.BytealgCount.count) (by kernel_rfl), Lib.run_countString]
  rfl

def nls (s : ByteArray) : Nat := s.data.toList.count 10

theorem count_nl (s : ByteArray) (w : World) :
    Calls Try.prog 17 #[.string s, .string ⟨#[10]⟩] w fun e w' => e = .returned (.int .i64 (nls s)) ∧ w = w' := by
  have hcs := fun c w => ext_count s c w
  go_enter Try.func17, Try.ntmps17
  go_wp2
  go_ret
  exact ⟨rfl, rfl⟩

/-- Does a text end with a line end? -/
def endsNl (s : ByteArray) : Bool := if 1 ≤ s.size then (s.extract (s.size - 1) s.size).toList == [10] else false

theorem suffix_nl (s : ByteArray) (w : World) (hs : s.size ≤ 140737488351232) :
    Calls Try.prog 18 #[.string s, .string ⟨#[10]⟩] w fun e w' => e = .returned (.bool (endsNl s)) ∧ w = w' := by
  by_cases h : 1 ≤ s.size
  · have hd : endsNl s = ((s.extract (s.size - 1) s.size).toList == [10]) := by unfold endsNl; rw [if_pos h]
    rw [hd]; clear hd
    go_enter Try.func18, Try.ntmps18
    go_wp2
    go_ret
    exact ⟨rfl, rfl⟩
  · have hd : endsNl s = false := by unfold endsNl; rw [if_neg h]
    rw [hd]; clear hd
    go_enter Try.func18, Try.ntmps18
    go_wp2
    go_ret
    exact ⟨rfl, rfl⟩

/-- How many lines a text has. -/
def lns (s : ByteArray) : Nat := nls s + (if s.size = 0 then 0 else if endsNl s then 0 else 1)

theorem nls_le (s : ByteArray) : nls s ≤ s.size := by
  unfold nls; have := List.count_le_length (a := (10 : UInt8)) (l := s.data.toList); simpa using this

theorem text_any (s : ByteArray) (w : World) (hs : s.size ≤ 140737488351232) :
    Calls Try.prog 10 #[.string s] w fun e w' => e = .returned (cx (lns s) s.size) ∧ w = w' := by
  have hn := nls_le s
  by_cases h0 : s.size = 0
  · have hl : lns s = nls s := by unfold lns; rw [if_pos h0]; rfl
    obtain rfl : s = ByteArray.empty := by simpa using h0
    rw [hl]; clear hl h0
    go_enter Try.func10, Try.ntmps10
    go_wp2_with (first
      | (go_at_call 17; refine (count_nl _ _).mono ?_; rintro e w' ⟨rfl, rfl⟩)
      | (go_at_call 18; refine (suffix_nl _ _ hs).mono ?_; rintro e w' ⟨rfl, rfl⟩)
      | (go_at_call 9; refine (of_any _ _ (by omega) (by omega) _).mono ?_; rintro e w' ⟨rfl, rfl⟩))
    go_ret
    exact ⟨rfl, rfl⟩
  · have h1 : s.toList.isEmpty = false := by
      cases h : s.toList with
      | nil =>
        exfalso; apply h0
        rw [ByteArray.toList_eq] at h
        have e : s.data.toList.length = s.size := by simp
        rw [h] at e; exact e.symm
      | cons a l => rfl
    have h2 : (!s.toList.isEmpty) = true := by rw [h1]; rfl
    have H0 := Lib.hid h0; clear h0
    cases he : endsNl s with
    | true =>
      have hl : lns s = nls s := by unfold lns; rw [if_neg H0.out, he]; rfl
      rw [hl]; clear hl
      go_enter Try.func10, Try.ntmps10
      go_wp2_with (first
        | (go_at_call 17; refine (count_nl _ _).mono ?_; rintro e w' ⟨rfl, rfl⟩)
        | (go_at_call 18; refine (suffix_nl _ _ hs).mono ?_; rintro e w' ⟨rfl, rfl⟩)
        | (go_at_call 9; refine (of_any _ _ (by omega) (by omega) _).mono ?_; rintro e w' ⟨rfl, rfl⟩))
      go_ret
      exact ⟨rfl, rfl⟩
    | false =>
      have hl : ((lns s : Nat) : Int) = (nls s : Int) + 1 := by unfold lns; rw [if_neg H0.out, he]; rfl
      rw [hl]; clear hl
      go_enter Try.func10, Try.ntmps10
      go_wp2_with (first
        | (go_at_call 17; refine (count_nl _ _).mono ?_; rintro e w' ⟨rfl, rfl⟩)
        | (go_at_call 18; refine (suffix_nl _ _ hs).mono ?_; rintro e w' ⟨rfl, rfl⟩)
        | (go_at_call 9; refine (of_any _ _ (by omega) (by omega) _).mono ?_; rintro e w' ⟨rfl, rfl⟩))
      go_ret
      exact ⟨rfl, rfl⟩

theorem ret_int {k : IntKind} {a b : Int} (h : a = b) : Ending.returned (.int k a) = .returned (.int k b) := by rw [h]
/-- 'Within': a number brought into lo .. hi. -/
def within (n lo hi : Int) : Int := lo + n % (hi - lo + 1)

theorem tmod_cases (n d : Int) (hd : 0 < d) : (0 ≤ n.tmod d ∧ n.tmod d = n % d ∧ n.tmod d < d) ∨ (n.tmod d < 0 ∧ n.tmod d + d = n % d ∧ -d < n.tmod d) := by
  have h1 := Int.emod_nonneg n (b := d) (by omega)
  have h2 := Int.emod_lt_of_pos n hd
  by_cases hn : 0 ≤ n
  · left; rw [Int.tmod_eq_emod_of_nonneg hn]; exact ⟨h1, rfl, h2⟩
  · have e : n.tmod d = -((-n).tmod d) := by rw [Int.neg_tmod]; omega
    rw [Int.tmod_eq_emod_of_nonneg (by omega : 0 ≤ -n)] at e
    have h3 := Int.emod_nonneg (-n) (b := d) (by omega)
    have h4 := Int.emod_lt_of_pos (-n) hd
    by_cases hz : (-n) % d = 0
    · left
      have : n % d = 0 := by have := Int.dvd_of_emod_eq_zero hz; exact Int.emod_eq_zero_of_dvd (Int.dvd_neg.1 this)
      omega
    · right
      have : n % d = d - (-n) % d := by
        have a1 := Int.mul_ediv_add_emod n d
        have a2 := Int.mul_ediv_add_emod (-n) d
        have a3 : d * (n / d + (-n) / d) = -(n % d) - (-n) % d := by rw [Int.mul_add]; omega
        generalize n / d + (-n) / d = q at a3
        rcases Int.lt_trichotomy q (-1) with hq | rfl | hq
        · have : d * q ≤ d * (-2) := Int.mul_le_mul_of_nonneg_left (by omega) (by omega)
          omega
        · omega
        · have : d * 0 ≤ d * q := Int.mul_le_mul_of_nonneg_left (by omega) (by omega)
          omega
      omega

theorem within_any (n lo hi : Int) (h0 : -9223372036854775808 ≤ n ∧ n ≤ 9223372036854775807) (h1 : 0 ≤ lo ∧ lo ≤ hi ∧ hi < 4611686018427387904) (w : World) :
    Calls Try.prog 14 #[.int .i64 n, .int .i64 lo, .int .i64 hi] w fun e w' => e = .returned (.int .i64 (within n lo hi)) ∧ w = w' := by
  obtain ⟨a1, a2, a3⟩ := h1
  unfold within
  rcases tmod_cases n (hi - lo + 1) (by omega) with ⟨b1, b2, b3⟩ | ⟨b1, b2, b3⟩
  · have B2 := Lib.hid b2
    clear b2
    go_enter Try.func14, Try.ntmps14
    go_wp2
    go_ret
    exact ⟨by rw [← B2.out]; rfl, rfl⟩
  · have B2 := Lib.hid b2
    clear b2
    go_enter Try.func14, Try.ntmps14
    go_wp2
    go_ret
    exact ⟨ret_int (by have := B2.out; omega), rfl⟩
end Go.Proofs.Ytghhdgalledajaa
