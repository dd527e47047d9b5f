/- glosslaw1.MarkRuns: for every memory and every order it returns true. -/
import Derived.Test.YtghhdgalledajaaText
import Derived.RowKit3
namespace Go.Proofs.Ytghhdgalledajaa
open Go.RowKit Go.Fl
set_option linter.unusedVariables false
set_option linter.unusedSimpArgs false

theorem sum_n (b off n : Nat) (l : List (Int × Int)) (cap : Nat) (w : World) (hn : l.length = n) (hl : n ≤ 140737488351232) (hf : Fine l) (hr : Row w b off l) (x y : Int) (hx : sumL l = x) (hy : sumB l = y) :
    Calls Try.prog 8 #[.slice (some ⟨b, off, none⟩) n cap] w fun e w' => e = .returned (cx x y) ∧ w = w' := by
  subst hn hx hy
  exact sum_any b off l cap w hl hf hr

theorem fine_two {a b c d : Int} (h : 0 ≤ a ∧ 0 ≤ b ∧ 0 ≤ c ∧ 0 ≤ d) (h1 : a + c < 9007199254740992) (h2 : b + d < 9007199254740992) : Fine [(a, b), (c, d)] := by
  refine ⟨?_, by simpa [sumL] using h1, by simpa [sumB] using h2⟩
  intro x hx
  simp at hx
  rcases hx with rfl | rfl
  · exact ⟨h.1, h.2.1⟩
  · exact ⟨h.2.2.1, h.2.2.2⟩

theorem fine_three {a b c d e f : Int} (h : 0 ≤ a ∧ 0 ≤ b ∧ 0 ≤ c ∧ 0 ≤ d ∧ 0 ≤ e ∧ 0 ≤ f) (h1 : a + (c + e) < 9007199254740992) (h2 : b + (d + f) < 9007199254740992) : Fine [(a, b), (c, d), (e, f)] := by
  refine ⟨?_, by simpa [sumL] using h1, by simpa [sumB] using h2⟩
  intro x hx
  simp at hx
  rcases hx with rfl | rfl | rfl
  · exact ⟨h.1, h.2.1⟩
  · exact ⟨h.2.2.1, h.2.2.2.1⟩
  · exact ⟨h.2.2.2.2.1, h.2.2.2.2.2⟩

/-- Sum of two, of three, that lie in a block. -/
theorem sum_two (w : World) (k : Nat) (a b c d : Int) (ha : w.cell? ⟨k, 0, none⟩ = some (cx a b)) (hb : w.cell? ⟨k, 1, none⟩ = some (cx c d)) (h : 0 ≤ a ∧ 0 ≤ b ∧ 0 ≤ c ∧ 0 ≤ d) (h1 : a + c < 9007199254740992) (h2 : b + d < 9007199254740992) :
    Calls Try.prog 8 #[.slice (some ⟨k, 0, none⟩) 2 2] w fun e w' => e = .returned (cx (a + c) (b + d)) ∧ w = w' :=
  sum_n _ 0 2 [(a, b), (c, d)] 2 _ rfl (by omega) (fine_two h h1 h2) (fun i hi => match i, hi with | 0, _ => ha | 1, _ => hb) _ _ (by simp [sumL]) (by simp [sumB])

theorem sum_three (w : World) (k : Nat) (a b c d e f : Int) (ha : w.cell? ⟨k, 0, none⟩ = some (cx a b)) (hb : w.cell? ⟨k, 1, none⟩ = some (cx c d)) (hc : w.cell? ⟨k, 2, none⟩ = some (cx e f)) (h : 0 ≤ a ∧ 0 ≤ b ∧ 0 ≤ c ∧ 0 ≤ d ∧ 0 ≤ e ∧ 0 ≤ f) (h1 : a + (c + e) < 9007199254740992) (h2 : b + (d + f) < 9007199254740992) :
    Calls Try.prog 8 #[.slice (some ⟨k, 0, none⟩) 3 3] w fun E w' => E = .returned (cx (a + (c + e)) (b + (d + f))) ∧ w = w' :=
  sum_n _ 0 3 [(a, b), (c, d), (e, f)] 3 _ rfl (by omega) (fine_three h h1 h2) (fun i hi => match i, hi with | 0, _ => ha | 1, _ => hb | 2, _ => hc) _ _ (by simp [sumL]) (by simp [sumB])

theorem sum_none (w : World) : Calls Try.prog 8 #[.slice none 0 0] w fun e w' => e = .returned (cx 0 0) ∧ w = w' := by
  go_enter Try.func8, Try.ntmps8
  go_wp2
  go_loop [3, 8] (fun s i => i = .int .i64 0 ∧ s = cx 0 0) (fun _ _ => 0)
  case atStart => exact ⟨rfl, rfl⟩
  case round =>
    obtain ⟨rfl, rfl⟩ := hrel
    go_wp2
    go_ret
    exact ⟨rfl, rfl⟩

set_option maxHeartbeats 1000000 in
theorem runs_any (w : World) : Calls Try.prog 3 #[] w fun e w' => e = .returned (.bool true) ∧ Grown w w' := by
  have k0 : ∀ t w, (binOp .eql t (cx 0 0) (.complex .f64 0 0)).run Try.prog w = .ok (.bool true) w := fun t w => by
    have := cx_eql 0 0 0 0 (by decide) (by decide) (by decide) (by decide) t w
    exact this
  have k1 : ∀ t w, (binOp .eql t (cx 1 3) (cx 1 3)).run Try.prog w = .ok (.bool true) w := fun t w => cx_eql 1 3 1 3 (by decide) (by decide) (by decide) (by decide) t w
  have t1 := fun w => text_any ⟨#[97, 10, 98]⟩ w (by decide)
  rw [show (lns ⟨#[97, 10, 98]⟩ : Int) = 2 from by decide +kernel, show ((ByteArray.size ⟨#[97, 10, 98]⟩ : Nat) : Int) = 3 from rfl] at t1
  have l1 := fun w => line_any ⟨#[97, 98]⟩ (by decide) w
  rw [show ((ByteArray.size ⟨#[97, 98]⟩ : Nat) : Int) + 1 = 3 from rfl] at l1
  have T1 := Lib.hid t1
  have L1 := Lib.hid l1
  clear t1 l1
  go_enter Try.func3, Try.ntmps3
  go_wp2_with (first
    | (go_at_call 9; refine (of_any _ _ (by omega) (by omega) _).mono ?_; rintro e w' ⟨rfl, rfl⟩)
    | (go_at_call 8; ((with_reducible refine (sum_two _ _ 1 5 2 7 (by go_simp) (by go_simp) (by decide) (by decide) (by decide)).mono ?_); rintro e w' ⟨rfl, rfl⟩))
    | (go_at_call 8; ((with_reducible refine (sum_none _).mono ?_); rintro e w' ⟨rfl, rfl⟩))
    | (go_at_call 10; refine (T1.out _).mono ?_; rintro e w' ⟨rfl, rfl⟩)
    | (go_at_call 13; refine (L1.out _).mono ?_; rintro e w' ⟨rfl, rfl⟩)
    | (go_at_call 11; refine (lines_any _ _ (by decide) (by decide) _).mono ?_; rintro e w' ⟨rfl, rfl⟩)
    | (go_at_call 12; refine (bytes_any _ _ (by decide) (by decide) _).mono ?_; rintro e w' ⟨rfl, rfl⟩))
  all_goals (go_ret; exact ⟨rfl, by repeat (first | exact Grown.refl _ | apply Grown.alloc)⟩)
end Go.Proofs.Ytghhdgalledajaa
