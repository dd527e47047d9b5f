/- glosslaw1.MarkTells: its walk, where r < p. -/
import Derived.Test.YtghhdgalledajaaTellsBase
namespace Go.Proofs.Ytghhdgalledajaa.markTells
open Go.ChangeShapes Go.WideShapes Go.ChangeAt Go.RowKit
set_option linter.unusedVariables false
set_option linter.unusedSimpArgs false

set_option maxHeartbeats 4000000 in
theorem coreGt (a0 a1 a2 a3 p q r s : Int) (w : World)
    (hp : 0 ≤ p ∧ p ≤ 1099511627776) (hq : 0 ≤ q ∧ q ≤ 1099511627776) (hr : 0 ≤ r ∧ r ≤ 1099511627776) (hs : 0 ≤ s ∧ s ≤ 1099511627776)
    (W0 : Hid (∀ w, Calls Try.prog 14 #[.int .i64 a0, .int .i64 0, .int .i64 1099511627776] w fun e w' => e = .returned (.int .i64 p) ∧ w = w'))
    (W1 : Hid (∀ w, Calls Try.prog 14 #[.int .i64 a1, .int .i64 0, .int .i64 1099511627776] w fun e w' => e = .returned (.int .i64 q) ∧ w = w'))
    (W2 : Hid (∀ w, Calls Try.prog 14 #[.int .i64 a2, .int .i64 0, .int .i64 1099511627776] w fun e w' => e = .returned (.int .i64 r) ∧ w = w'))
    (W3 : Hid (∀ w, Calls Try.prog 14 #[.int .i64 a3, .int .i64 0, .int .i64 1099511627776] w fun e w' => e = .returned (.int .i64 s) ∧ w = w'))
    (h : r < p) : Calls Try.prog 6 #[.int .i64 a0, .int .i64 a1, .int .i64 a2, .int .i64 a3] w fun e w' => e = .returned (.bool true) ∧ Grown w w' := by
  obtain ⟨p0, p1⟩ := hp
  obtain ⟨q0, q1⟩ := hq
  obtain ⟨r0, r1⟩ := hr
  obtain ⟨s0, s1⟩ := hs
  have o1 := order_eq p (by omega) (by omega)
  have o2 := order_eq q (by omega) (by omega)
  have o3 := order_eq (p + r) (by omega) (by omega)
  have o4 := order_eq (q + s) (by omega) (by omega)
  have c2 := Lib.hid (fun w => fits_any p q (p + r) (q + s) (by omega) (by omega) (by omega) (by omega) w)
  rw [show (decide (p ≤ p + r) && decide (q ≤ q + s)) = true from by rw [decide_eq_true (by omega : p ≤ p + r), decide_eq_true (by omega : q ≤ q + s)]; rfl] at c2
  have c1 := Lib.hid (fun w => fits_any p q r s (by omega) (by omega) (by omega) (by omega) w)
  rcases Int.lt_trichotomy q s with h' | rfl | h'
  · have f1 := order_gt p r (by omega) (by omega) h
    have f2 := order_lt q s (by omega) (by omega) h'
    have d1 : (decide (p ≤ r) && decide (q ≤ s)) = false := by rw [decide_eq_false (by omega : ¬ p ≤ r), decide_eq_true (by omega : q ≤ s)]; rfl
    rw [d1] at c1; clear d1
    go_enter Try.func6, Try.ntmps6
    go_wp2_with (first
      | (go_at_call 14; ((with_reducible refine (W0.out _).mono ?_); rintro e w' ⟨rfl, rfl⟩))
      | (go_at_call 14; ((with_reducible refine (W1.out _).mono ?_); rintro e w' ⟨rfl, rfl⟩))
      | (go_at_call 14; ((with_reducible refine (W2.out _).mono ?_); rintro e w' ⟨rfl, rfl⟩))
      | (go_at_call 14; ((with_reducible refine (W3.out _).mono ?_); rintro e w' ⟨rfl, rfl⟩))
      | (go_at_call 9; refine (of_any _ _ (by omega) (by omega) _).mono ?_; rintro e w' ⟨rfl, rfl⟩)
      | (go_at_call 8; ((with_reducible refine (sum_two _ _ p q r s ?_ ?_ (by omega) (by omega) (by omega)).mono ?_); (· go_simp); (· go_simp); rintro e w' ⟨rfl, rfl⟩))
      | (go_at_call 8; ((with_reducible refine (sum_two _ _ r s p q ?_ ?_ (by omega) (by omega) (by omega)).mono ?_); (· go_simp); (· go_simp); rintro e w' ⟨rfl, rfl⟩; simp only [Int.add_comm r p, Int.add_comm s q]))
      | (go_at_call 11; refine (lines_any _ _ (by omega) (by omega) _).mono ?_; rintro e w' ⟨rfl, rfl⟩)
      | (go_at_call 12; refine (bytes_any _ _ (by omega) (by omega) _).mono ?_; rintro e w' ⟨rfl, rfl⟩)
      | (go_at_call 15; refine (less_any (p + r) (q + s) r s (by omega) (by omega) (by omega) (by omega) _).mono ?_; rintro e w' ⟨rfl, rfl⟩)
      | (go_at_call 16; ((with_reducible refine (c1.out _).mono ?_); rintro e w' ⟨rfl, rfl⟩))
      | (go_at_call 16; ((with_reducible refine (c2.out _).mono ?_); rintro e w' ⟨rfl, rfl⟩))
      | (go_at_call 3; refine (runs_any _).mono ?_; rintro e w' ⟨rfl, hg⟩))
    all_goals (go_ret; exact ⟨ret_bool (by first | rfl | (simp; omega)), grown_trans (by repeat (first | exact Grown.refl _ | apply Grown.alloc)) hg⟩)
  · have f1 := order_gt p r (by omega) (by omega) h
    have d1 : (decide (p ≤ r) && decide (q ≤ q)) = false := by rw [decide_eq_false (by omega : ¬ p ≤ r), decide_eq_true (by omega : q ≤ q)]; rfl
    rw [d1] at c1; clear d1
    go_enter Try.func6, Try.ntmps6
    go_wp2_with (first
      | (go_at_call 14; ((with_reducible refine (W0.out _).mono ?_); rintro e w' ⟨rfl, rfl⟩))
      | (go_at_call 14; ((with_reducible refine (W1.out _).mono ?_); rintro e w' ⟨rfl, rfl⟩))
      | (go_at_call 14; ((with_reducible refine (W2.out _).mono ?_); rintro e w' ⟨rfl, rfl⟩))
      | (go_at_call 14; ((with_reducible refine (W3.out _).mono ?_); rintro e w' ⟨rfl, rfl⟩))
      | (go_at_call 9; refine (of_any _ _ (by omega) (by omega) _).mono ?_; rintro e w' ⟨rfl, rfl⟩)
      | (go_at_call 8; ((with_reducible refine (sum_two _ _ p q r q ?_ ?_ (by omega) (by omega) (by omega)).mono ?_); (· go_simp); (· go_simp); rintro e w' ⟨rfl, rfl⟩))
      | (go_at_call 8; ((with_reducible refine (sum_two _ _ r q p q ?_ ?_ (by omega) (by omega) (by omega)).mono ?_); (· go_simp); (· go_simp); rintro e w' ⟨rfl, rfl⟩; simp only [Int.add_comm r p, Int.add_comm q q]))
      | (go_at_call 11; refine (lines_any _ _ (by omega) (by omega) _).mono ?_; rintro e w' ⟨rfl, rfl⟩)
      | (go_at_call 12; refine (bytes_any _ _ (by omega) (by omega) _).mono ?_; rintro e w' ⟨rfl, rfl⟩)
      | (go_at_call 15; refine (less_any (p + r) (q + q) r q (by omega) (by omega) (by omega) (by omega) _).mono ?_; rintro e w' ⟨rfl, rfl⟩)
      | (go_at_call 16; ((with_reducible refine (c1.out _).mono ?_); rintro e w' ⟨rfl, rfl⟩))
      | (go_at_call 16; ((with_reducible refine (c2.out _).mono ?_); rintro e w' ⟨rfl, rfl⟩))
      | (go_at_call 3; refine (runs_any _).mono ?_; rintro e w' ⟨rfl, hg⟩))
    all_goals (go_ret; exact ⟨ret_bool (by first | rfl | (simp; omega)), grown_trans (by repeat (first | exact Grown.refl _ | apply Grown.alloc)) hg⟩)
  · have f1 := order_gt p r (by omega) (by omega) h
    have f2 := order_gt q s (by omega) (by omega) h'
    have d1 : (decide (p ≤ r) && decide (q ≤ s)) = false := by rw [decide_eq_false (by omega : ¬ p ≤ r), decide_eq_false (by omega : ¬ q ≤ s)]; rfl
    rw [d1] at c1; clear d1
    go_enter Try.func6, Try.ntmps6
    go_wp2_with (first
      | (go_at_call 14; ((with_reducible refine (W0.out _).mono ?_); rintro e w' ⟨rfl, rfl⟩))
      | (go_at_call 14; ((with_reducible refine (W1.out _).mono ?_); rintro e w' ⟨rfl, rfl⟩))
      | (go_at_call 14; ((with_reducible refine (W2.out _).mono ?_); rintro e w' ⟨rfl, rfl⟩))
      | (go_at_call 14; ((with_reducible refine (W3.out _).mono ?_); rintro e w' ⟨rfl, rfl⟩))
      | (go_at_call 9; refine (of_any _ _ (by omega) (by omega) _).mono ?_; rintro e w' ⟨rfl, rfl⟩)
      | (go_at_call 8; ((with_reducible refine (sum_two _ _ p q r s ?_ ?_ (by omega) (by omega) (by omega)).mono ?_); (· go_simp); (· go_simp); rintro e w' ⟨rfl, rfl⟩))
      | (go_at_call 8; ((with_reducible refine (sum_two _ _ r s p q ?_ ?_ (by omega) (by omega) (by omega)).mono ?_); (· go_simp); (· go_simp); rintro e w' ⟨rfl, rfl⟩; simp only [Int.add_comm r p, Int.add_comm s q]))
      | (go_at_call 11; refine (lines_any _ _ (by omega) (by omega) _).mono ?_; rintro e w' ⟨rfl, rfl⟩)
      | (go_at_call 12; refine (bytes_any _ _ (by omega) (by omega) _).mono ?_; rintro e w' ⟨rfl, rfl⟩)
      | (go_at_call 15; refine (less_any (p + r) (q + s) r s (by omega) (by omega) (by omega) (by omega) _).mono ?_; rintro e w' ⟨rfl, rfl⟩)
      | (go_at_call 16; ((with_reducible refine (c1.out _).mono ?_); rintro e w' ⟨rfl, rfl⟩))
      | (go_at_call 16; ((with_reducible refine (c2.out _).mono ?_); rintro e w' ⟨rfl, rfl⟩))
      | (go_at_call 3; refine (runs_any _).mono ?_; rintro e w' ⟨rfl, hg⟩))
    all_goals (go_ret; exact ⟨ret_bool (by first | rfl | (simp; omega)), grown_trans (by repeat (first | exact Grown.refl _ | apply Grown.alloc)) hg⟩)
end Go.Proofs.Ytghhdgalledajaa.markTells
