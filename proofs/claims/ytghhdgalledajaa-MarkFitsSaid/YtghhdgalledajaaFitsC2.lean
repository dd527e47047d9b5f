/- glosslaw1.MarkFits: its walk, one case. -/
import Derived.Test.YtghhdgalledajaaTellsBase
namespace Go.Proofs.Ytghhdgalledajaa.markFits
open Go.ChangeShapes Go.WideShapes Go.ChangeAt Go.RowKit
open markTells (within_bd order_eq order_lt order_gt grown_trans ret_bool)
set_option linter.unusedVariables false
set_option linter.unusedSimpArgs false

theorem size_x (t : ByteArray) : (t ++ ⟨#[120]⟩ : ByteArray).size = t.size + 1 := by rw [ByteArray.size_append]; rfl

set_option maxHeartbeats 4000000 in
theorem coreC2S (a0 a1 a2 a3 a4 a5 p q r s u v : Int) (t t' : ByteArray) (w : World)
    (p0 : 0 ≤ p) (p1 : p ≤ 50) (q0 : 0 ≤ q) (q1 : q ≤ 50) (r0 : 0 ≤ r) (r1 : r ≤ 50) (s0 : 0 ≤ s) (s1 : s ≤ 50) (u0 : 0 ≤ u) (u1 : u ≤ 50) (v0 : 0 ≤ v) (v1 : v ≤ 50)
    (W0 : Hid (∀ w, Calls Try.prog 14 #[.int .i64 a0, .int .i64 0, .int .i64 50] w fun e w' => e = .returned (.int .i64 p) ∧ w = w'))
    (W1 : Hid (∀ w, Calls Try.prog 14 #[.int .i64 a1, .int .i64 0, .int .i64 50] w fun e w' => e = .returned (.int .i64 q) ∧ w = w'))
    (W2 : Hid (∀ w, Calls Try.prog 14 #[.int .i64 a2, .int .i64 0, .int .i64 50] w fun e w' => e = .returned (.int .i64 r) ∧ w = w'))
    (W3 : Hid (∀ w, Calls Try.prog 14 #[.int .i64 a3, .int .i64 0, .int .i64 50] w fun e w' => e = .returned (.int .i64 s) ∧ w = w'))
    (W4 : Hid (∀ w, Calls Try.prog 14 #[.int .i64 a4, .int .i64 0, .int .i64 50] w fun e w' => e = .returned (.int .i64 u) ∧ w = w'))
    (W5 : Hid (∀ w, Calls Try.prog 14 #[.int .i64 a5, .int .i64 0, .int .i64 50] w fun e w' => e = .returned (.int .i64 v) ∧ w = w'))
    (ht : 20 < t.size) (ht' : t.size ≤ 9223372036854775807)
    (hyp : p = r ∧ q < s ∧ (r ≤ u ∧ s ≤ v)) :
    Calls Try.prog 7 #[.int .i64 a0, .int .i64 a1, .int .i64 a2, .int .i64 a3, .int .i64 a4, .int .i64 a5, .string t] w fun e w' => e = .returned (.bool true) ∧ Grown w w' := by
  have o1 := order_eq p (by omega) (by omega)
  have o2 := order_eq q (by omega) (by omega)
  have cxy := Lib.hid (fun w => fits_any p q r s (by omega) (by omega) (by omega) (by omega) w)
  have cyz := Lib.hid (fun w => fits_any r s u v (by omega) (by omega) (by omega) (by omega) w)
  have cxz := Lib.hid (fun w => fits_any p q u v (by omega) (by omega) (by omega) (by omega) w)
  have cyx := Lib.hid (fun w => fits_any r s p q (by omega) (by omega) (by omega) (by omega) w)
  have cxx := Lib.hid (fun w => fits_any p q p q (by omega) (by omega) (by omega) (by omega) w)
  rw [show (decide (p ≤ p) && decide (q ≤ q)) = true from by simp] at cxx
  obtain ⟨rfl, hyp⟩ := hyp
  rw [show (decide (p ≤ p) && decide (q ≤ s)) = true from by rw [decide_eq_true (by omega : p ≤ p), decide_eq_true (by omega : q ≤ s)]; rfl] at cxy
  rw [show (decide (p ≤ u) && decide (s ≤ v)) = true from by rw [decide_eq_true (by omega : p ≤ u), decide_eq_true (by omega : s ≤ v)]; rfl] at cyz
  rw [show (decide (p ≤ u) && decide (q ≤ v)) = true from by rw [decide_eq_true (by omega : p ≤ u), decide_eq_true (by omega : q ≤ v)]; rfl] at cxz
  rw [show (decide (p ≤ p) && decide (s ≤ q)) = false from by simp; omega] at cyx
  have f_qs := order_lt q s (by omega) (by omega) (by omega)
  have L1 : Hid (∀ w, Calls Try.prog 13 #[.string (t.extract 0 20)] w fun e w' => e = .returned (cx 1 21) ∧ w = w') := by
    have e : (t.extract 0 20).size = 20 := by simp; omega
    intro w; have := line_any (t.extract 0 20) (by omega) w; rw [e] at this; exact this
  have L2 : Hid (∀ w, Calls Try.prog 13 #[.string (t.extract 0 20 ++ ⟨#[120]⟩)] w fun e w' => e = .returned (cx 1 22) ∧ w = w') := by
    have e0 : (t.extract 0 20).size = 20 := by simp; omega
    have e : (t.extract 0 20 ++ ⟨#[120]⟩ : ByteArray).size = 21 := by rw [size_x, e0]
    intro w; have := line_any (t.extract 0 20 ++ ⟨#[120]⟩) (by omega) w; rw [e] at this; exact this
  have F1 : Hid (∀ w, Calls Try.prog 16 #[cx 1 21, cx 1 22] w fun e w' => e = .returned (.bool true) ∧ w = w') := fun w => fits_any 1 21 1 22 (by decide) (by decide) (by decide) (by decide) w
  have F2 : Hid (∀ w, Calls Try.prog 16 #[cx 1 22, cx 1 21] w fun e w' => e = .returned (.bool false) ∧ w = w') := fun w => fits_any 1 22 1 21 (by decide) (by decide) (by decide) (by decide) w
  go_enter Try.func7, Try.ntmps7
  go_wp2_with (first
    | (go_at_call 14; ((with_reducible refine (W0.out _).mono ?_); rintro e w' ⟨rfl, rfl⟩))
    | (go_at_call 14; ((with_reducible refine (W1.out _).mono ?_); rintro e w' ⟨rfl, rfl⟩))
    | (go_at_call 14; ((with_reducible refine (W2.out _).mono ?_); rintro e w' ⟨rfl, rfl⟩))
    | (go_at_call 14; ((with_reducible refine (W3.out _).mono ?_); rintro e w' ⟨rfl, rfl⟩))
    | (go_at_call 14; ((with_reducible refine (W4.out _).mono ?_); rintro e w' ⟨rfl, rfl⟩))
    | (go_at_call 14; ((with_reducible refine (W5.out _).mono ?_); rintro e w' ⟨rfl, rfl⟩))
    | (go_at_call 9; refine (of_any _ _ (by omega) (by omega) _).mono ?_; rintro e w' ⟨rfl, rfl⟩)
    | (go_at_call 16; ((with_reducible refine (cxy.out _).mono ?_); rintro e w' ⟨rfl, rfl⟩))
    | (go_at_call 16; ((with_reducible refine (cyz.out _).mono ?_); rintro e w' ⟨rfl, rfl⟩))
    | (go_at_call 16; ((with_reducible refine (cxz.out _).mono ?_); rintro e w' ⟨rfl, rfl⟩))
    | (go_at_call 16; ((with_reducible refine (cyx.out _).mono ?_); rintro e w' ⟨rfl, rfl⟩))
    | (go_at_call 16; ((with_reducible refine (cxx.out _).mono ?_); rintro e w' ⟨rfl, rfl⟩))
    | (go_at_call 13; ((with_reducible refine (L1.out _).mono ?_); rintro e w' ⟨rfl, rfl⟩))
    | (go_at_call 13; ((with_reducible refine (L2.out _).mono ?_); rintro e w' ⟨rfl, rfl⟩))
    | (go_at_call 16; ((with_reducible refine (F1.out _).mono ?_); rintro e w' ⟨rfl, rfl⟩))
    | (go_at_call 16; ((with_reducible refine (F2.out _).mono ?_); rintro e w' ⟨rfl, rfl⟩))
    | (go_at_call 11; refine (lines_any _ _ (by omega) (by omega) _).mono ?_; rintro e w' ⟨rfl, rfl⟩)
    | (go_at_call 12; refine (bytes_any _ _ (by omega) (by omega) _).mono ?_; rintro e w' ⟨rfl, rfl⟩)
    | (go_at_call 8; ((with_reducible refine (sum_three _ _ p q p s u v ?_ ?_ ?_ (by omega) (by omega) (by omega)).mono ?_); (· go_simp); (· go_simp); (· go_simp); rintro e w' ⟨rfl, rfl⟩))
    | (go_at_call 8; ((with_reducible refine (sum_two _ _ p s u v ?_ ?_ (by omega) (by omega) (by omega)).mono ?_); (· go_simp); (· go_simp); rintro e w' ⟨rfl, rfl⟩))
    | (go_at_call 15; refine (less_any (p + (p + u)) (q + (s + v)) (p + u) (s + v) (by omega) (by omega) (by omega) (by omega) _).mono ?_; rintro e w' ⟨rfl, rfl⟩)
    | (go_at_call 3; refine (runs_any _).mono ?_; rintro e w' ⟨rfl, hg⟩))
  all_goals (go_ret; exact ⟨ret_bool (by first | rfl | (simp; omega)), grown_trans (by repeat (first | exact Grown.refl _ | apply Grown.alloc)) hg⟩)

set_option maxHeartbeats 4000000 in
theorem coreC2T (a0 a1 a2 a3 a4 a5 p q r s u v : Int) (t t' : ByteArray) (w : World)
    (p0 : 0 ≤ p) (p1 : p ≤ 50) (q0 : 0 ≤ q) (q1 : q ≤ 50) (r0 : 0 ≤ r) (r1 : r ≤ 50) (s0 : 0 ≤ s) (s1 : s ≤ 50) (u0 : 0 ≤ u) (u1 : u ≤ 50) (v0 : 0 ≤ v) (v1 : v ≤ 50)
    (W0 : Hid (∀ w, Calls Try.prog 14 #[.int .i64 a0, .int .i64 0, .int .i64 50] w fun e w' => e = .returned (.int .i64 p) ∧ w = w'))
    (W1 : Hid (∀ w, Calls Try.prog 14 #[.int .i64 a1, .int .i64 0, .int .i64 50] w fun e w' => e = .returned (.int .i64 q) ∧ w = w'))
    (W2 : Hid (∀ w, Calls Try.prog 14 #[.int .i64 a2, .int .i64 0, .int .i64 50] w fun e w' => e = .returned (.int .i64 r) ∧ w = w'))
    (W3 : Hid (∀ w, Calls Try.prog 14 #[.int .i64 a3, .int .i64 0, .int .i64 50] w fun e w' => e = .returned (.int .i64 s) ∧ w = w'))
    (W4 : Hid (∀ w, Calls Try.prog 14 #[.int .i64 a4, .int .i64 0, .int .i64 50] w fun e w' => e = .returned (.int .i64 u) ∧ w = w'))
    (W5 : Hid (∀ w, Calls Try.prog 14 #[.int .i64 a5, .int .i64 0, .int .i64 50] w fun e w' => e = .returned (.int .i64 v) ∧ w = w'))
    (ht : t.size ≤ 20) (ht' : t.size ≤ 9223372036854775807)
    (hyp : p = r ∧ q < s ∧ (r ≤ u ∧ s ≤ v)) :
    Calls Try.prog 7 #[.int .i64 a0, .int .i64 a1, .int .i64 a2, .int .i64 a3, .int .i64 a4, .int .i64 a5, .string t] w fun e w' => e = .returned (.bool true) ∧ Grown w w' := by
  have o1 := order_eq p (by omega) (by omega)
  have o2 := order_eq q (by omega) (by omega)
  have cxy := Lib.hid (fun w => fits_any p q r s (by omega) (by omega) (by omega) (by omega) w)
  have cyz := Lib.hid (fun w => fits_any r s u v (by omega) (by omega) (by omega) (by omega) w)
  have cxz := Lib.hid (fun w => fits_any p q u v (by omega) (by omega) (by omega) (by omega) w)
  have cyx := Lib.hid (fun w => fits_any r s p q (by omega) (by omega) (by omega) (by omega) w)
  have cxx := Lib.hid (fun w => fits_any p q p q (by omega) (by omega) (by omega) (by omega) w)
  rw [show (decide (p ≤ p) && decide (q ≤ q)) = true from by simp] at cxx
  obtain ⟨rfl, hyp⟩ := hyp
  rw [show (decide (p ≤ p) && decide (q ≤ s)) = true from by rw [decide_eq_true (by omega : p ≤ p), decide_eq_true (by omega : q ≤ s)]; rfl] at cxy
  rw [show (decide (p ≤ u) && decide (s ≤ v)) = true from by rw [decide_eq_true (by omega : p ≤ u), decide_eq_true (by omega : s ≤ v)]; rfl] at cyz
  rw [show (decide (p ≤ u) && decide (q ≤ v)) = true from by rw [decide_eq_true (by omega : p ≤ u), decide_eq_true (by omega : q ≤ v)]; rfl] at cxz
  rw [show (decide (p ≤ p) && decide (s ≤ q)) = false from by simp; omega] at cyx
  have f_qs := order_lt q s (by omega) (by omega) (by omega)
  have L1 : Hid (∀ w, Calls Try.prog 13 #[.string t] w fun e w' => e = .returned (cx 1 (t.size + 1)) ∧ w = w') := fun w => line_any t (by omega) w
  have L2 : Hid (∀ w, Calls Try.prog 13 #[.string (t ++ ⟨#[120]⟩)] w fun e w' => e = .returned (cx 1 (t.size + 1 + 1)) ∧ w = w') := by
    have e := size_x t
    intro w; have := line_any (t ++ ⟨#[120]⟩) (by omega) w; rw [e] at this; exact this
  have F1 : Hid (∀ w, Calls Try.prog 16 #[cx 1 (t.size + 1), cx 1 (t.size + 1 + 1)] w fun e w' => e = .returned (.bool true) ∧ w = w') := by
    intro w; have := fits_any 1 (t.size + 1) 1 (t.size + 1 + 1) (by decide) (by omega) (by decide) (by omega) w
    rw [show (decide ((1 : Int) ≤ 1) && decide ((t.size : Int) + 1 ≤ t.size + 1 + 1)) = true from by rw [decide_eq_true (by omega : (t.size : Int) + 1 ≤ t.size + 1 + 1)]; rfl] at this
    exact this
  have F2 : Hid (∀ w, Calls Try.prog 16 #[cx 1 (t.size + 1 + 1), cx 1 (t.size + 1)] w fun e w' => e = .returned (.bool false) ∧ w = w') := by
    intro w; have := fits_any 1 (t.size + 1 + 1) 1 (t.size + 1) (by decide) (by omega) (by decide) (by omega) w
    rw [show (decide ((1 : Int) ≤ 1) && decide ((t.size : Int) + 1 + 1 ≤ t.size + 1)) = false from by rw [decide_eq_false (by omega : ¬ (t.size : Int) + 1 + 1 ≤ t.size + 1)]; rfl] at this
    exact this
  go_enter Try.func7, Try.ntmps7
  go_wp2_with (first
    | (go_at_call 14; ((with_reducible refine (W0.out _).mono ?_); rintro e w' ⟨rfl, rfl⟩))
    | (go_at_call 14; ((with_reducible refine (W1.out _).mono ?_); rintro e w' ⟨rfl, rfl⟩))
    | (go_at_call 14; ((with_reducible refine (W2.out _).mono ?_); rintro e w' ⟨rfl, rfl⟩))
    | (go_at_call 14; ((with_reducible refine (W3.out _).mono ?_); rintro e w' ⟨rfl, rfl⟩))
    | (go_at_call 14; ((with_reducible refine (W4.out _).mono ?_); rintro e w' ⟨rfl, rfl⟩))
    | (go_at_call 14; ((with_reducible refine (W5.out _).mono ?_); rintro e w' ⟨rfl, rfl⟩))
    | (go_at_call 9; refine (of_any _ _ (by omega) (by omega) _).mono ?_; rintro e w' ⟨rfl, rfl⟩)
    | (go_at_call 16; ((with_reducible refine (cxy.out _).mono ?_); rintro e w' ⟨rfl, rfl⟩))
    | (go_at_call 16; ((with_reducible refine (cyz.out _).mono ?_); rintro e w' ⟨rfl, rfl⟩))
    | (go_at_call 16; ((with_reducible refine (cxz.out _).mono ?_); rintro e w' ⟨rfl, rfl⟩))
    | (go_at_call 16; ((with_reducible refine (cyx.out _).mono ?_); rintro e w' ⟨rfl, rfl⟩))
    | (go_at_call 16; ((with_reducible refine (cxx.out _).mono ?_); rintro e w' ⟨rfl, rfl⟩))
    | (go_at_call 13; ((with_reducible refine (L1.out _).mono ?_); rintro e w' ⟨rfl, rfl⟩))
    | (go_at_call 13; ((with_reducible refine (L2.out _).mono ?_); rintro e w' ⟨rfl, rfl⟩))
    | (go_at_call 16; ((with_reducible refine (F1.out _).mono ?_); rintro e w' ⟨rfl, rfl⟩))
    | (go_at_call 16; ((with_reducible refine (F2.out _).mono ?_); rintro e w' ⟨rfl, rfl⟩))
    | (go_at_call 11; refine (lines_any _ _ (by omega) (by omega) _).mono ?_; rintro e w' ⟨rfl, rfl⟩)
    | (go_at_call 12; refine (bytes_any _ _ (by omega) (by omega) _).mono ?_; rintro e w' ⟨rfl, rfl⟩)
    | (go_at_call 8; ((with_reducible refine (sum_three _ _ p q p s u v ?_ ?_ ?_ (by omega) (by omega) (by omega)).mono ?_); (· go_simp); (· go_simp); (· go_simp); rintro e w' ⟨rfl, rfl⟩))
    | (go_at_call 8; ((with_reducible refine (sum_two _ _ p s u v ?_ ?_ (by omega) (by omega) (by omega)).mono ?_); (· go_simp); (· go_simp); rintro e w' ⟨rfl, rfl⟩))
    | (go_at_call 15; refine (less_any (p + (p + u)) (q + (s + v)) (p + u) (s + v) (by omega) (by omega) (by omega) (by omega) _).mono ?_; rintro e w' ⟨rfl, rfl⟩)
    | (go_at_call 3; refine (runs_any _).mono ?_; rintro e w' ⟨rfl, hg⟩))
  all_goals (go_ret; exact ⟨ret_bool (by first | rfl | (simp; omega)), grown_trans (by repeat (first | exact Grown.refl _ | apply Grown.alloc)) hg⟩)

end Go.Proofs.Ytghhdgalledajaa.markFits
