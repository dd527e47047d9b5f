import GoSem.Core.Float
namespace Go.Fl
open Ieee

def fl (n : Nat) : Nat := double.nearest false n 0

theorem nearest_scaled (n k : Nat) (h : n < 2 ^ 53) (_hk : k ≤ 1074) :
    double.nearest false (n * 2 ^ k) (-(k : Int)) = if n = 0 then 0 else (n.log2 + 1022) * 2 ^ 52 + n * 2 ^ (52 - n.log2) := by
  unfold Format.nearest
  by_cases hn : n = 0
  · subst hn; simp [Format.word]
  · have hp : 0 < 2 ^ k := Nat.two_pow_pos _
    have hnk : n * 2 ^ k ≠ 0 := by
      intro e; rcases Nat.mul_eq_zero.1 e with e | e
      · exact hn e
      · omega
    have hL : n.log2 < 53 := (Nat.log2_lt hn).2 h
    have hlog : (n * 2 ^ k).log2 = n.log2 + k := by
      rw [Nat.log2_eq_iff hnk]
      have h1 := Nat.log2_self_le hn
      have h2 := @Nat.lt_log2_self n
      constructor
      · rw [Nat.pow_add]; exact Nat.mul_le_mul_right _ h1
      · rw [show n.log2 + k + 1 = (n.log2 + 1) + k from by omega, Nat.pow_add]; exact Nat.mul_lt_mul_of_pos_right h2 hp
    have hlast : max (-(k:Int) + ((n * 2 ^ k).log2 : Nat) - (double.fractionBits : Nat)) double.leastPlace = (n.log2 : Int) - 52 := by
      rw [hlog]; simp [double, Format.leastPlace]; omega
    simp only [hnk, hn, if_false]
    rw [hlast]
    have e1 : (n.log2 : Int) - 52 - double.leastPlace = ((n.log2 + 1022 : Nat) : Int) := by simp [double, Format.leastPlace]; omega
    rw [e1]
    have hkept : Toward.even.cut false ((n * 2 ^ k) <<< (-(k:Int) - ((n.log2 : Int) - 52)).toNat) ((n.log2 : Int) - 52 - -(k:Int)).toNat = n * 2 ^ (52 - n.log2) := by
      by_cases hs : n.log2 + k ≤ 52
      · have a1 : (-(k:Int) - ((n.log2 : Int) - 52)).toNat = 52 - n.log2 - k := by omega
        have a2 : ((n.log2 : Int) - 52 - -(k:Int)).toNat = 0 := by omega
        rw [a1, a2, Nat.shiftLeft_eq, Nat.mul_assoc, ← Nat.pow_add, show k + (52 - n.log2 - k) = 52 - n.log2 from by omega]
        simp [Toward.cut, Nat.mod_one]
      · have a1 : (-(k:Int) - ((n.log2 : Int) - 52)).toNat = 0 := by omega
        have a2 : ((n.log2 : Int) - 52 - -(k:Int)).toNat = n.log2 + k - 52 := by omega
        rw [a1, a2]
        have a3 : n * 2 ^ k = n * 2 ^ (52 - n.log2) * 2 ^ (n.log2 + k - 52) := by
          rw [Nat.mul_assoc, ← Nat.pow_add, show (52 - n.log2) + (n.log2 + k - 52) = k from by omega]
        have a4 : min (n.log2 + k - 52) ((n * 2 ^ k).log2 + 2) = n.log2 + k - 52 := by rw [hlog]; omega
        unfold Toward.cut
        simp only [Nat.shiftLeft_zero, a4]
        rw [Nat.one_shiftLeft]
        have hd : 0 < 2 ^ (n.log2 + k - 52) := Nat.two_pow_pos _
        have a5 : n * 2 ^ k / 2 ^ (n.log2 + k - 52) = n * 2 ^ (52 - n.log2) := by rw [a3]; exact Nat.mul_div_cancel _ hd
        have a6 : n * 2 ^ k % 2 ^ (n.log2 + k - 52) = 0 := by rw [a3]; exact Nat.mul_mod_left _ _
        rw [a5, a6]
        have a7 : ¬ 2 ^ (n.log2 + k - 52) < 2 * 0 := by omega
        have a8 : (2 ^ (n.log2 + k - 52) == 2 * 0) = false := by simp
        simp [a8]
    rw [hkept]
    have b1 : 2 ^ n.log2 ≤ n := Nat.log2_self_le hn
    have b2 : n < 2 ^ (n.log2 + 1) := Nat.lt_log2_self
    have b3 : n * 2 ^ (52 - n.log2) < 2 ^ 53 := by
      calc n * 2 ^ (52 - n.log2) < 2 ^ (n.log2 + 1) * 2 ^ (52 - n.log2) := Nat.mul_lt_mul_of_pos_right b2 (Nat.two_pow_pos _)
        _ = 2 ^ 53 := by rw [← Nat.pow_add]; congr 1; omega
    have c1 : double.binade = 2 ^ 52 := rfl
    have c2 : double.infRung = 2047 * 2 ^ 52 := rfl
    rw [c1, c2, Int.toNat_natCast]
    simp only [Format.word]
    rw [Nat.min_eq_left]
    · simp
    · have : n.log2 + 1022 ≤ 1074 := by omega
      omega

theorem fl_eq (n : Nat) (h : n < 2 ^ 53) : fl n = if n = 0 then 0 else (n.log2 + 1022) * 2 ^ 52 + n * 2 ^ (52 - n.log2) := by
  have := nearest_scaled n 0 h (by omega)
  simpa [fl] using this

theorem nearest_fl (n k : Nat) (h : n < 2 ^ 53) (hk : k ≤ 1074) : double.nearest false (n * 2 ^ k) (-(k : Int)) = fl n := by
  rw [nearest_scaled n k h hk, fl_eq n h]

theorem zero_read (K : Nat) (h : K = 1074) : Datum.number false 0 (-1074) = Datum.number false (0 * 2 ^ K) (-(K : Int)) := by
  rw [Nat.zero_mul, h]; rfl

theorem read_fl (n : Nat) (h : n < 2 ^ 53) : ∃ k : Nat, k ≤ 1074 ∧ double.read (fl n) = .number false (n * 2 ^ k) (-(k : Int)) := by
  rw [fl_eq n h]
  by_cases hn : n = 0
  · subst hn
    obtain ⟨K, hK⟩ : ∃ K : Nat, K = 1074 := ⟨_, rfl⟩
    refine ⟨K, by omega, ?_⟩
    have c1 : double.binade = 2 ^ 52 := rfl
    have c3 : double.signWeight = 2 ^ 63 := rfl
    have c4 : double.leastPlace = -1074 := rfl
    unfold Format.read
    simp only [c1, c3, c4, if_true, Nat.zero_mod, Nat.zero_div]
    rw [if_pos (by omega)]
    exact zero_read K hK
  · rw [if_neg hn]
    have hL : n.log2 < 53 := (Nat.log2_lt hn).2 h
    refine ⟨52 - n.log2, by omega, ?_⟩
    have b1 : 2 ^ n.log2 ≤ n := Nat.log2_self_le hn
    have b2 : n < 2 ^ (n.log2 + 1) := Nat.lt_log2_self
    have b3 : n * 2 ^ (52 - n.log2) < 2 ^ 53 := by
      calc n * 2 ^ (52 - n.log2) < 2 ^ (n.log2 + 1) * 2 ^ (52 - n.log2) := Nat.mul_lt_mul_of_pos_right b2 (Nat.two_pow_pos _)
        _ = 2 ^ 53 := by rw [← Nat.pow_add]; congr 1; omega
    have b4 : 2 ^ 52 ≤ n * 2 ^ (52 - n.log2) := by
      calc 2 ^ 52 = 2 ^ n.log2 * 2 ^ (52 - n.log2) := by rw [← Nat.pow_add]; congr 1; omega
        _ ≤ _ := Nat.mul_le_mul_right _ b1
    generalize hm : n * 2 ^ (52 - n.log2) = m at *
    generalize n.log2 = L at *
    clear hm b1 b2
    have c1 : double.binade = 2 ^ 52 := rfl
    have c2 : double.infRung = 2047 * 2 ^ 52 := rfl
    have c3 : double.signWeight = 2 ^ 63 := rfl
    have c4 : double.leastPlace = -1074 := rfl
    have d1 : ((L + 1022) * 2 ^ 52 + m) / 2 ^ 63 = 0 := by omega
    have d2 : ((L + 1022) * 2 ^ 52 + m) % 2 ^ 63 = (L + 1022) * 2 ^ 52 + m := by omega
    have d3 : ((L + 1022) * 2 ^ 52 + m) % 2 ^ 52 = m - 2 ^ 52 := by omega
    have d4 : ((L + 1022) * 2 ^ 52 + m) / 2 ^ 52 = L + 1023 := by omega
    unfold Format.read
    simp only [c1, c2, c3, c4, d1, d2, d3, d4]
    rw [if_neg (by omega), if_pos (by omega)]
    rw [show 2 ^ 52 + (m - 2 ^ 52) = m from by omega]
    simp
    omega

theorem signed_pow (n k j : Nat) : signed false (n * 2 ^ k) j = ((n * 2 ^ (k + j) : Nat) : Int) := by
  simp only [signed, Nat.shiftLeft_eq, Nat.mul_assoc, ← Nat.pow_add]; rfl
theorem signed_pow_neg (n k j : Nat) : signed true (n * 2 ^ k) j = -((n * 2 ^ (k + j) : Nat) : Int) := by
  simp only [signed, Nat.shiftLeft_eq, Nat.mul_assoc, ← Nat.pow_add]; rfl

theorem add_fl (a b : Nat) (h : a + b < 2 ^ 53) : double.add (fl a) (fl b) = some (fl (a + b)) := by
  obtain ⟨i, hi, ei⟩ := read_fl a (by omega)
  obtain ⟨j, hj, ej⟩ := read_fl b (by omega)
  unfold Format.add
  rw [ei, ej]
  unfold Datum.sum
  have hb : min (-(i : Int)) (-(j : Int)) = -((max i j : Nat) : Int) := by omega
  simp only [hb]
  rw [signed_pow, signed_pow, show i + (-(i : Int) - -((max i j : Nat) : Int)).toNat = max i j from by omega, show j + (-(j : Int) - -((max i j : Nat) : Int)).toNat = max i j from by omega]
  have e : ((a * 2 ^ max i j : Nat) : Int) + ((b * 2 ^ max i j : Nat) : Int) = (((a + b) * 2 ^ max i j : Nat) : Int) := by rw [Nat.add_mul]; rfl
  rw [e]
  have s : (if (((a + b) * 2 ^ max i j : Nat) : Int) = 0 then false && false else decide ((((a + b) * 2 ^ max i j : Nat) : Int) < 0)) = false := by
    split
    · rfl
    · exact decide_eq_false (by omega)
  rw [s]
  simp only [Option.map, Format.write, Int.natAbs_natCast]
  rw [nearest_fl (a + b) (max i j) h (by omega)]

theorem sub_fl (a b : Nat) (h : a < 2 ^ 53) (hb : b ≤ a) : double.sub (fl a) (fl b) = some (fl (a - b)) := by
  obtain ⟨i, hi, ei⟩ := read_fl a (by omega)
  obtain ⟨j, hj, ej⟩ := read_fl b (by omega)
  unfold Format.sub
  rw [ei, ej]
  unfold Datum.opposite Datum.sum
  have hbm : min (-(i : Int)) (-(j : Int)) = -((max i j : Nat) : Int) := by omega
  simp only [hbm, Bool.not_false]
  rw [signed_pow, signed_pow_neg, show i + (-(i : Int) - -((max i j : Nat) : Int)).toNat = max i j from by omega, show j + (-(j : Int) - -((max i j : Nat) : Int)).toNat = max i j from by omega]
  have e : ((a * 2 ^ max i j : Nat) : Int) + -((b * 2 ^ max i j : Nat) : Int) = (((a - b) * 2 ^ max i j : Nat) : Int) := by
    rw [Nat.sub_mul]
    have : b * 2 ^ max i j ≤ a * 2 ^ max i j := Nat.mul_le_mul_right _ hb
    omega
  rw [e]
  have s : (if (((a - b) * 2 ^ max i j : Nat) : Int) = 0 then false && true else decide ((((a - b) * 2 ^ max i j : Nat) : Int) < 0)) = false := by
    split
    · rfl
    · exact decide_eq_false (by omega)
  rw [s]
  simp only [Option.map, Format.write, Int.natAbs_natCast]
  rw [nearest_fl (a - b) (max i j) (by omega) (by omega)]

theorem order_fl (a b : Nat) (ha : a < 2 ^ 53) (hb : b < 2 ^ 53) : double.order (fl a) (fl b) = some (compare a b) := by
  obtain ⟨i, hi, ei⟩ := read_fl a ha
  obtain ⟨j, hj, ej⟩ := read_fl b hb
  unfold Format.order
  rw [ei, ej]
  unfold Datum.order
  have hbm : min (-(i : Int)) (-(j : Int)) = -((max i j : Nat) : Int) := by omega
  simp only [hbm]
  rw [signed_pow, signed_pow, show i + (-(i : Int) - -((max i j : Nat) : Int)).toNat = max i j from by omega, show j + (-(j : Int) - -((max i j : Nat) : Int)).toNat = max i j from by omega]
  congr 1
  have hp : 0 < 2 ^ max i j := Nat.two_pow_pos _
  rw [compare, compare]
  simp only [instOrdInt, instOrdNat, compareOfLessAndEq]
  have l1 : ((a * 2 ^ max i j : Nat) : Int) < ((b * 2 ^ max i j : Nat) : Int) ↔ a < b := by
    rw [Int.ofNat_lt]; exact Nat.mul_lt_mul_right hp
  have l2 : ((a * 2 ^ max i j : Nat) : Int) = ((b * 2 ^ max i j : Nat) : Int) ↔ a = b := by
    rw [Int.ofNat_inj]; exact Nat.mul_left_inj (by omega)
  simp only [l1, l2]

theorem toInt_fl (n : Nat) (h : n < 2 ^ 53) : (double.read (fl n)).toInt .zero = some (n : Int) := by
  obtain ⟨k, hk, e⟩ := read_fl n h
  rw [e]
  unfold Datum.toInt Datum.integral
  have e1 : (-(k : Int)).toNat = 0 := by omega
  have e2 : (- -(k : Int)).toNat = k := by omega
  simp only [e1, e2, Nat.shiftLeft_zero]
  have hc : Toward.zero.cut false (n * 2 ^ k) k = n := by
    unfold Toward.cut
    by_cases hn : n = 0
    · subst hn; simp
    · have hp : 0 < 2 ^ k := Nat.two_pow_pos _
      have hnk : n * 2 ^ k ≠ 0 := by
        intro e; rcases Nat.mul_eq_zero.1 e with e | e
        · exact hn e
        · omega
      have hlog : k ≤ (n * 2 ^ k).log2 := by
        rw [Nat.le_log2 hnk]
        exact Nat.le_mul_of_pos_left _ (by omega)
      rw [show min k ((n * 2 ^ k).log2 + 2) = k from by omega, Nat.one_shiftLeft]
      simp [Nat.mul_div_cancel _ hp]
  rw [hc]
  simp [signed]
end Go.Fl
