/- The contracts of package mark (complex numbers of whole numbers): Of, Lines, Bytes, Less, Fits, Sum, Line. -/
import Derived.Test.YtghhdgalledajaaChecked
import Derived.Test.YtghhdgalledajaaFl
import Derived.WalkKit
import Derived.Laws.ComplexArith
import Derived.Lib.Hide
namespace Go.Proofs.Ytghhdgalledajaa
open Go.RowKit Go.Fl
set_option linter.unusedVariables false
set_option linter.unusedSimpArgs false

def flo (a : Int) : Nat := fl a.toNat
abbrev cx (a b : Int) : Value := .complex .f64 (flo a) (flo b)

theorem floatOf (a : Int) (h : 0 ≤ a) : floatOfInt .f64 a = flo a := by
  unfold flo floatOfInt FloatKind.nearest FloatKind.encode Ieee.Format.write fl
  show (Ieee.double).nearest _ _ _ = _
  rw [decide_eq_false (by omega), show a.natAbs = a.toNat from by omega]

theorem of_any (a b : Int) (ha : 0 ≤ a) (hb : 0 ≤ b) (w : World) :
    Calls Try.prog 9 #[.int .i64 a, .int .i64 b] w fun e w' => e = .returned (cx a b) ∧ w = w' := by
  go_enter Try.func9, Try.ntmps9
  go_wp2
  go_ret
  exact ⟨by rw [floatOf a ha, floatOf b hb]; rfl, rfl⟩

theorem toInt_of (a : Int) (h0 : 0 ≤ a) (h : a < 9007199254740992) : floatToIntVal .f64 (flo a) .i64 = some a := by
  unfold flo floatToIntVal
  have : (FloatKind.f64.decode (fl a.toNat)).toInt .zero = some (a.toNat : Int) := toInt_fl a.toNat (by omega)
  rw [this]
  have e : ((a.toNat : Nat) : Int) = a := by omega
  simp only [e]
  rw [if_pos ⟨by rw [show IntKind.i64.min = -9223372036854775808 from rfl]; omega, by rw [show IntKind.i64.max = 9223372036854775807 from rfl]; omega⟩]

theorem lines_any (a b : Int) (h0 : 0 ≤ a) (h : a < 9007199254740992) (w : World) :
    Calls Try.prog 11 #[cx a b] w fun e w' => e = .returned (.int .i64 a) ∧ w = w' := by
  have hc := fun w => run_convert_float_int (P := Try.prog) w 38 3 .f64 .i64 (flo a) a (by rw [Try.underlying38]; rfl) Try.underlying3 (toInt_of a h0 h)
  clear h0 h
  go_enter Try.func11, Try.ntmps11
  go_wp2
  go_ret
  exact ⟨rfl, rfl⟩

theorem bytes_any (a b : Int) (h0 : 0 ≤ b) (h : b < 9007199254740992) (w : World) :
    Calls Try.prog 12 #[cx a b] w fun e w' => e = .returned (.int .i64 b) ∧ w = w' := by
  have hc := fun w => run_convert_float_int (P := Try.prog) w 38 3 .f64 .i64 (flo b) b (by rw [Try.underlying38]; rfl) Try.underlying3 (toInt_of b h0 h)
  clear h0 h
  go_enter Try.func12, Try.ntmps12
  go_wp2
  go_ret
  exact ⟨rfl, rfl⟩

theorem csub (a b c d : Int) (ha : a < 9007199254740992) (hb : b < 9007199254740992) (hc : 0 ≤ c ∧ c ≤ a) (hd : 0 ≤ d ∧ d ≤ b) :
    cSumBits .sub .f64 (flo a) (flo b) (flo c) (flo d) = some (flo (a - c), flo (b - d)) := by
  unfold flo cSumBits floatBits
  have h1 : FloatKind.f64.format.sub (fl a.toNat) (fl c.toNat) = some (fl (a.toNat - c.toNat)) := sub_fl _ _ (by omega) (by omega)
  have h2 : FloatKind.f64.format.sub (fl b.toNat) (fl d.toNat) = some (fl (b.toNat - d.toNat)) := sub_fl _ _ (by omega) (by omega)
  simp only [h1, h2, Option.bind_some, show (a - c).toNat = a.toNat - c.toNat from by omega, show (b - d).toNat = b.toNat - d.toNat from by omega]

theorem cadd (a b c d : Int) (h : 0 ≤ a ∧ 0 ≤ b ∧ 0 ≤ c ∧ 0 ≤ d) (h1 : a + c < 9007199254740992) (h2 : b + d < 9007199254740992) :
    cSumBits .add .f64 (flo a) (flo b) (flo c) (flo d) = some (flo (a + c), flo (b + d)) := by
  unfold flo cSumBits floatBits
  have h1 : FloatKind.f64.format.add (fl a.toNat) (fl c.toNat) = some (fl (a.toNat + c.toNat)) := add_fl _ _ (by omega)
  have h2 : FloatKind.f64.format.add (fl b.toNat) (fl d.toNat) = some (fl (b.toNat + d.toNat)) := add_fl _ _ (by omega)
  simp only [h1, h2, Option.bind_some, show (a + c).toNat = a.toNat + c.toNat from by omega, show (b + d).toNat = b.toNat + d.toNat from by omega]

theorem less_any (a b c d : Int) (ha : a < 9007199254740992) (hb : b < 9007199254740992) (hc : 0 ≤ c ∧ c ≤ a) (hd : 0 ≤ d ∧ d ≤ b) (w : World) :
    Calls Try.prog 15 #[cx a b, cx c d] w fun e w' => e = .returned (cx (a - c) (b - d)) ∧ w = w' := by
  have hop := fun t w => run_complex_sum (P := Try.prog) w .sub (Or.inr rfl) t .f64 _ _ _ _ _ _ (csub a b c d ha hb hc hd)
  clear ha hb hc hd
  go_enter Try.func15, Try.ntmps15
  go_wp2
  go_ret
  exact ⟨rfl, rfl⟩

/-- '==' of two marks. -/
theorem cx_eql (a b c d : Int) (ha : 0 ≤ a ∧ a < 9007199254740992) (hb : 0 ≤ b ∧ b < 9007199254740992) (hc : 0 ≤ c ∧ c < 9007199254740992) (hd : 0 ≤ d ∧ d < 9007199254740992) (t : TypeId) (w : World) :
    (binOp .eql t (cx a b) (cx c d)).run Try.prog w = .ok (.bool (a == c && b == d)) w := by
  have h1 : FloatKind.f64.format.order (fl a.toNat) (fl c.toNat) = some (compare a.toNat c.toNat) := order_fl _ _ (by omega) (by omega)
  have h2 : FloatKind.f64.format.order (fl b.toNat) (fl d.toNat) = some (compare b.toNat d.toNat) := order_fl _ _ (by omega) (by omega)
  have e (x y : Int) (hx : 0 ≤ x) (hy : 0 ≤ y) : (some (compare x.toNat y.toNat) == some Ordering.eq) = (x == y) := by
    rw [Bool.eq_iff_iff]; simp [Nat.compare_eq_eq]; omega
  simp only [cx, flo]
  simp only [binOp, Op.complexOp, Op.Complex.cmp, Op.floatCmp, h1, h2]
  rw [← e a c ha.1 hc.1, ← e b d hb.1 hd.1]
  cases hx : (some (compare a.toNat c.toNat) == some Ordering.eq) <;> simp [asBool, hx]

theorem leq_fl (x y : Int) (hx : 0 ≤ x ∧ x < 9007199254740992) (hy : 0 ≤ y ∧ y < 9007199254740992) :
    (FloatKind.f64.format.order (flo x) (flo y) == some .lt || FloatKind.f64.format.order (flo x) (flo y) == some .eq) = decide (x ≤ y) := by
  unfold flo
  have h1 : FloatKind.f64.format.order (fl x.toNat) (fl y.toNat) = some (compare x.toNat y.toNat) := order_fl _ _ (by omega) (by omega)
  rw [h1, Bool.eq_iff_iff]
  simp [Nat.compare_eq_lt, Nat.compare_eq_eq]; omega

theorem fits_any (a b c d : Int) (ha : 0 ≤ a ∧ a < 9007199254740992) (hb : 0 ≤ b ∧ b < 9007199254740992) (hc : 0 ≤ c ∧ c < 9007199254740992) (hd : 0 ≤ d ∧ d < 9007199254740992) (w : World) :
    Calls Try.prog 16 #[cx a b, cx c d] w fun e w' => e = .returned (.bool (decide (a ≤ c) && decide (b ≤ d))) ∧ w = w' := by
  have l1 := leq_fl a c ha hc
  have l2 := leq_fl b d hb hd
  have L1 := Lib.hid l1
  have L2 := Lib.hid l2
  clear ha hb hc hd l1 l2
  go_enter Try.func16, Try.ntmps16
  go_wp2
  · go_ret
    exact ⟨by rw [← L1.out, ← L2.out]; rfl, rfl⟩
  · rename_i h
    have hf : decide (a ≤ c) = false := by rw [← L1.out]; simpa using h
    rw [hf]
    go_ret
    exact ⟨rfl, rfl⟩

theorem line_any (s : ByteArray) (hs : s.size ≤ 140737488351232) (w : World) :
    Calls Try.prog 13 #[.string s] w fun e w' => e = .returned (cx 1 (s.size + 1)) ∧ w = w' := by
  go_enter Try.func13, Try.ntmps13
  go_wp2_with (go_at_call 9; refine (of_any _ _ (by omega) (by omega) _).mono ?_; rintro e w' ⟨rfl, rfl⟩)
  go_ret
  exact ⟨rfl, rfl⟩

def sumL : List (Int × Int) → Int := fun l => (l.map (·.1)).sum
def sumB : List (Int × Int) → Int := fun l => (l.map (·.2)).sum
theorem sumL_snoc (l : List (Int × Int)) (x : Int × Int) : sumL (l ++ [x]) = sumL l + x.1 := by simp [sumL]
theorem sumB_snoc (l : List (Int × Int)) (x : Int × Int) : sumB (l ++ [x]) = sumB l + x.2 := by simp [sumB]
theorem sum_pos (l : List Int) (h : ∀ x ∈ l, 0 ≤ x) : 0 ≤ l.sum := by
  induction l with
  | nil => simp
  | cons a l ih => simp only [List.sum_cons]; have := ih (fun x hx => h x (by simp [hx])); have := h a (by simp); omega
theorem sum_take (l : List Int) (h : ∀ x ∈ l, 0 ≤ x) (k : Nat) : (l.take k).sum ≤ l.sum := by
  have e : l.sum = (l.take k).sum + (l.drop k).sum := by rw [← List.sum_append, List.take_append_drop]
  have := sum_pos (l.drop k) (fun x hx => h x (List.mem_of_mem_drop hx))
  omega
structure Fine (l : List (Int × Int)) : Prop where
  pos : ∀ x ∈ l, 0 ≤ x.1 ∧ 0 ≤ x.2
  ll : sumL l < 9007199254740992
  lb : sumB l < 9007199254740992
theorem Fine.takes {l : List (Int × Int)} (h : Fine l) (k : Nat) : 0 ≤ sumL (l.take k) ∧ 0 ≤ sumB (l.take k) ∧ sumL (l.take k) < 9007199254740992 ∧ sumB (l.take k) < 9007199254740992 := by
  have p1 := sum_pos ((l.take k).map (·.1)) (by intro x hx; obtain ⟨y, hy, rfl⟩ := List.mem_map.1 hx; exact (h.pos y (List.mem_of_mem_take hy)).1)
  have p2 := sum_pos ((l.take k).map (·.2)) (by intro x hx; obtain ⟨y, hy, rfl⟩ := List.mem_map.1 hx; exact (h.pos y (List.mem_of_mem_take hy)).2)
  have q1 := sum_take (l.map (·.1)) (by intro x hx; obtain ⟨y, hy, rfl⟩ := List.mem_map.1 hx; exact (h.pos y hy).1) k
  have q2 := sum_take (l.map (·.2)) (by intro x hx; obtain ⟨y, hy, rfl⟩ := List.mem_map.1 hx; exact (h.pos y hy).2) k
  have := h.ll; have := h.lb
  simp only [sumL, sumB, List.map_take] at *
  omega

/-- The cells of a row of marks. -/
def Row (w : World) (b off : Nat) (l : List (Int × Int)) : Prop := ∀ i (h : i < l.length), w.cell? ⟨b, off + i, none⟩ = some (cx l[i].1 l[i].2)

theorem cadd' (a b c d : Int) (h : 0 ≤ a ∧ 0 ≤ b ∧ 0 ≤ c ∧ 0 ≤ d) (h1 : a + c < 9007199254740992) (h2 : b + d < 9007199254740992) (t : TypeId) (w : World) :
    (binOp .add t (cx a b) (cx c d)).run Try.prog w = .ok (cx (a + c) (b + d)) w :=
  run_complex_sum (P := Try.prog) w .add (Or.inl rfl) t .f64 _ _ _ _ _ _ (cadd a b c d h h1 h2)

set_option maxHeartbeats 400000 in
theorem sum_any (b off : Nat) (l : List (Int × Int)) (cap : Nat) (w : World) (hl : l.length ≤ 140737488351232) (hf : Fine l) (hr : Row w b off l) :
    Calls Try.prog 8 #[.slice (some ⟨b, off, none⟩) l.length cap] w fun e w' => e = .returned (cx (sumL l) (sumB l)) ∧ w = w' := by
  have HR := Lib.hid hr
  clear hr
  go_enter Try.func8, Try.ntmps8
  go_wp2
  go_loop [3, 8] (fun s i => ∃ k : Nat, k ≤ l.length ∧ i = .int .i64 k ∧ s = cx (sumL (l.take k)) (sumB (l.take k))) (fun _ i => l.length - (intOf i).toNat)
  case atStart => exact ⟨0, Nat.zero_le _, rfl, rfl⟩
  case round =>
    obtain ⟨k, hk, rfl, rfl⟩ := hrel
    by_cases hlt : k < l.length
    · have hc := HR.out k hlt
      have hsum := cadd' (sumL (l.take k)) (sumB (l.take k)) l[k].1 l[k].2 ⟨(hf.takes k).1, (hf.takes k).2.1, (hf.pos _ (List.getElem_mem hlt)).1, (hf.pos _ (List.getElem_mem hlt)).2⟩
        (by have := (hf.takes (k + 1)).2.2.1; rw [List.take_succ_eq_append_getElem hlt, sumL_snoc] at this; exact this)
        (by have := (hf.takes (k + 1)).2.2.2; rw [List.take_succ_eq_append_getElem hlt, sumB_snoc] at this; exact this)
      have e1 : sumL (l.take (k + 1)) = sumL (l.take k) + l[k].1 := by rw [List.take_succ_eq_append_getElem hlt, sumL_snoc]
      have e2 : sumB (l.take (k + 1)) = sumB (l.take k) + l[k].2 := by rw [List.take_succ_eq_append_getElem hlt, sumB_snoc]
      rw [← e1, ← e2] at hsum
      clear e1 e2
      generalize flo l[k].1 = c at *
      generalize flo l[k].2 = c' at *
      generalize flo (sumL (l.take k)) = s at *
      generalize flo (sumB (l.take k)) = s' at *
      go_wp2
      go_round
      case rel => exact ⟨k + 1, by omega, by go_num, rfl⟩
      case measure => simp [intOf]; omega
    · have hkl : k = l.length := by omega
      subst hkl
      have e1 : l.take l.length = l := List.take_length
      rw [e1]
      clear e1
      go_wp2
      go_ret
      exact ⟨rfl, rfl⟩
end Go.Proofs.Ytghhdgalledajaa
