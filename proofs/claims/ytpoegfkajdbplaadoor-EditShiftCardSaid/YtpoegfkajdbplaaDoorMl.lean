import Derived.Test.YtpoegfkajdbplaaDoorMk
import Derived.Test.YtpoegfkajdbplaaDoorMi

/- EditShift: it answers true. -/
namespace Go.Proofs.YtpoegfkajdbplaaDoor
open Go.Dm Go.Dm.Sx
set_option linter.unusedVariables false
set_option linter.unusedSimpArgs false
set_option pp.deepTerms true
set_option pp.maxSteps 100000

theorem keepLines_len (l : List (List Int)) : (keepLines l).length ≤ 12 := by unfold keepLines; simp; omega
theorem keepB_ne (n : Int) : keepB n ≠ 10 := by
  unfold keepB
  have hw := within_in (n := n) (lo := 0) (hi := 7) (by decide)
  generalize within n 0 7 = w at *
  have : w = 0 ∨ w = 1 ∨ w = 2 ∨ w = 3 ∨ w = 4 ∨ w = 5 ∨ w = 6 ∨ w = 7 := by omega
  rcases this with rfl | rfl | rfl | rfl | rfl | rfl | rfl | rfl <;> decide
theorem keepText_good (l : List Int) : badLine (keepText l 6) = false := by
  unfold badLine
  have h1 := keepText_len (l := l) (i := 6) (by decide)
  rw [decide_eq_false (by omega), decide_eq_false]; rfl
  unfold keepText
  rw [List.mem_map]
  rintro ⟨x, _, h⟩
  exact keepB_ne x h
theorem okLines_map {l : List (List Int)} (h : l.length ≤ 60) : okLines (l.map (keepText · 6)) = true := by
  unfold okLines
  rw [decide_eq_true (by simpa using h), Bool.true_and, List.all_eq_true]
  intro x hx
  obtain ⟨y, _, rfl⟩ := List.mem_map.1 hx
  rw [keepText_good]; rfl
theorem keepEdit_good (k : KEdit) {n : Nat} (hn : n ≤ 12) : ∃ a c : Nat, ∃ put, keepEdit k n = ⟨a, c, put⟩ ∧ a ≤ n ∧ c ≤ n - a ∧ c ≤ 3 ∧ put.length ≤ 3 ∧ okLines put = true := by
  rw [show keepEdit k n = ⟨within k.at_ 0 n, within k.cut 0 (min (n - within k.at_ 0 n) 3), if (n : Int) < 40 then (k.put.take 3).map (keepText · 6) else []⟩ from rfl]
  have ha := within_in (n := k.at_) (lo := 0) (hi := n) (by omega)
  have hc := within_in (n := k.cut) (lo := 0) (hi := min (n - within k.at_ 0 n) 3) (by omega)
  generalize within k.at_ 0 n = a at *
  generalize within k.cut 0 (min (n - a) 3) = c at *
  obtain ⟨a, rfl⟩ : ∃ m : Nat, a = m := ⟨a.toNat, by omega⟩
  obtain ⟨c, rfl⟩ : ∃ m : Nat, c = m := ⟨c.toNat, by omega⟩
  refine ⟨a, c, _, rfl, by omega, by omega, by omega, ?_, ?_⟩
  · split
    · simp; omega
    · simp
  · split
    · exact okLines_map (by simp; omega)
    · rfl
theorem right_of {a c : Nat} {put ls : List Str} (h1 : a + c ≤ ls.length) (h2 : okLines put = true) (h3 : ls.length - c + put.length ≤ 60) : rightEdit ⟨a, c, put⟩ ls = true := by
  unfold rightEdit
  simp only [h2, Bool.and_true, Bool.and_eq_true, decide_eq_true_eq]
  omega
theorem do_of {a c : Nat} {put ls : List Str} (h : rightEdit ⟨a, c, put⟩ ls = true) : doE ⟨a, c, put⟩ ls = 0 ∧ doL ⟨a, c, put⟩ ls = ls.take a ++ put ++ ls.drop (a + c) := by
  unfold doE doL editDo
  rw [if_pos h, if_pos h]
  refine ⟨rfl, ?_⟩
  simp only [Int.toNat_natCast]
  rw [show ((a : Int) + c).toNat = a + c by omega]
theorem zeros21 : ([0, 0, 0, 0, 0, 0, 0, 0, 0, 0, 0, 0, 0, 0, 0, 0, 0, 0, 0, 0, 0] : List Int) = List.map (fun (b : UInt8) => (b.toNat : Int)) (List.replicate 21 0) := by decide
theorem do_shift (n : Int) {ls : List Str} (h : ls.length ≤ 60) : doE ⟨within n 0 ls.length, 0, []⟩ ls = 0 ∧ doL ⟨within n 0 ls.length, 0, []⟩ ls = ls := by
  have hw := within_in (n := n) (lo := 0) (hi := ls.length) (by omega)
  generalize within n 0 ls.length = i at *
  obtain ⟨i, rfl⟩ : ∃ m : Nat, i = m := ⟨i.toNat, by omega⟩
  have h1 := do_of (right_of (a := i) (c := 0) (put := []) (ls := ls) (by omega) rfl (by simp; omega))
  refine ⟨h1.1, h1.2.trans ?_⟩
  simp
theorem do_all {ls : List Str} (h : ls.length ≤ 60) : doE ⟨0, ls.length, []⟩ ls = 0 ∧ doL ⟨0, ls.length, []⟩ ls = [] := by
  have h1 := do_of (right_of (a := 0) (c := ls.length) (put := []) (ls := ls) (by omega) rfl (by simp))
  refine ⟨h1.1, h1.2.trans ?_⟩
  simp
theorem bad_put {a c : Int} {put ls : List Str} (h : okLines put = false) : rightEdit ⟨a, c, put⟩ ls = false := by
  unfold rightEdit
  simp only [h, Bool.and_false, Bool.false_and]
theorem right_many {ls : List Str} (h : ls.length ≤ 60) : rightEdit ⟨0, 0, List.replicate (60 - (ls.length : Int) + 1).toNat []⟩ ls = false := by
  unfold rightEdit
  rw [decide_eq_false (p := (ls.length : Int) - 0 + _ ≤ 60), Bool.and_false]
  simp only [List.length_replicate]
  omega
theorem okLines_nils {n : Nat} (h : n ≤ 60) : okLines (List.replicate n []) = true := by
  unfold okLines
  rw [decide_eq_true (by simpa using h), Bool.true_and, List.all_eq_true]
  intro x hx
  rw [List.eq_of_mem_replicate hx]
  rfl
theorem right_full {ls : List Str} (h : ls.length ≤ 60) : rightEdit ⟨0, 0, List.replicate (60 - ls.length) []⟩ ls = true :=
  right_of (a := 0) (c := 0) (by omega) (okLines_nils (by omega)) (by simp; omega)
def s_Shift : FSpec Un := ⟨⟨f_glosslaw16_EditShift, [.ty (.list (.list oI)), .ty (.base 1), tI], [.bool]⟩, fun _ => True, fun _ => [DB true], fun _ => rfl⟩
set_option maxRecDepth 100000 in
theorem shift_ok (runs_ok : FGood Tryd.prog s_Runs) : FGood Tryd.prog s_Shift := by
  refine Wk.ok mixed tok (envOk (.cons lines_ok (.cons kedit_ok (.cons do_ok (.cons sameS_ok (.cons within_ok (.cons right_ok (.cons runs_ok .nil))))))) [] no_same) w_glosslaw16_EditShift k_Shift rfl rfl ?_
  rintro ⟨(l : List (List Int)), (k : KEdit), (n : Int), _⟩ hpre R hR Go hGo
  replace hR : R = [DB true] := hR
  show TDen _ _ _ _ [DL (.list oI) l, ⟨.base 1, k⟩, DI n]
  simp [k_Shift, TDen, Tm.den, nthD, s_Lines, s_KEdit, s_Do, s_SameS, s_Within, s_Right, s_Runs, in64]
  have hn := keepLines_len l
  generalize keepLines l = ls at *
  obtain ⟨a, c, put, he, h1, h2, h3, h4, h5⟩ := keepEdit_good k hn
  rw [he]
  have hr := right_of (ls := ls) (a := a) (c := c) (put := put) (by omega) h5 (by omega)
  obtain ⟨hE, hL⟩ := do_of hr
  rw [hE, hL]
  have hlen : (ls.take a ++ put ++ ls.drop (a + c)).length = ls.length - c + put.length := by simp; omega
  have ht : List.take a (ls.take a ++ put ++ ls.drop (a + c)) = ls.take a := by
    rw [List.append_assoc, List.take_append_of_le_length (by simp; omega), List.take_take, Nat.min_self]
  have hd : List.drop (a + put.length) (ls.take a ++ put ++ ls.drop (a + c)) = ls.drop (a + c) := by
    rw [List.drop_append_of_le_length (by simp; omega), List.drop_of_length_le (by simp; omega), List.nil_append]
  generalize (ls.take a ++ put ++ ls.drop (a + c)) = m at *
  have e1 : ((a : Int) + put.length).toNat = a + put.length := by omega
  have e2 : ((a : Int) + c).toNat = a + c := by omega
  simp only [e1, e2, Int.toNat_natCast]
  refine ⟨by omega, by omega, fun h => absurd trivial h, fun _ => ⟨by omega, by omega, fun h => absurd (by omega) h, fun _ => ⟨by omega, by omega, by omega, fun h => absurd ht h, fun _ => ⟨by omega, by omega, by omega, by omega, by omega, fun h => absurd ?_ h, fun _ => ?_⟩⟩⟩⟩
  · rw [hd, List.take_of_length_le (by simp; omega), List.take_of_length_le (by simp)]
  · refine ⟨by omega, fun x hx => ⟨by omega, fun x1 hx1 => ⟨by omega, List.replicate 21 0, zeros21, by omega, by omega, by omega, by omega, by omega, ?_⟩⟩⟩
    subst hx hx1
    have hx := do_shift n (ls := ls) (by omega)
    have hx1 := do_all (ls := ls) (by omega)
    refine ⟨fun _ => ⟨by rw [hx.2]; omega, fun _ => ⟨fun _ => ⟨fun _ => fun x hx => ⟨by omega, ?_⟩, fun h => absurd hx1.2 h⟩, fun h => absurd hx1.1 h⟩, fun h => absurd hx.2 h⟩, fun h => absurd hx.1 h⟩
    subst hx
    refine ⟨fun _ x hx => ⟨by omega, ?_⟩, fun h => ?_⟩
    · subst hx
      refine ⟨fun _ x hx => ⟨by omega, ?_⟩, fun h => ?_⟩
      · subst hx
        refine ⟨fun _ x hx => ⟨by omega, ?_⟩, fun h => ?_⟩
        · subst hx
          refine ⟨fun _ => hR.symm, fun h => ?_⟩
          rw [bad_put (by decide)] at h; cases h
        · rw [right_full (by omega)] at h; cases h
      · rw [right_many (by omega)] at h; cases h
    · rw [bad_put (by decide)] at h; cases h
end Go.Proofs.YtpoegfkajdbplaaDoor

/- EditRuns, as a contract; EditShift with it. -/
namespace Go.Proofs.YtpoegfkajdbplaaDoor
open Go.Dm Go.Dm.Sx
set_option linter.unusedVariables false
set_option linter.unusedSimpArgs false

theorem runs_ok : FGood Tryd.prog s_Runs := by
  intro x vs ha hp σ
  have h0 : vs = [] := ha.2
  subst h0
  have hc := (editRuns.yall_ok editRuns.mm _ _ _ _ _ editRuns.ran).mono (k' := fun r τ => ∃ u τ', hardV r τ = some (u, τ') ∧ u.free = true ∧ ResR Un [DB true] u) fun r σ' h => by
    rw [List.mem_singleton] at h
    cases h
    exact ⟨.c (.f (.bool true)), [], rfl, rfl, [.c (.f (.bool true))], ⟨_, [], rfl, ⟨.bool true, rfl, rfl⟩, rfl⟩, rfl⟩
  exact call_nil (σ := σ) rfl hc fun r τ hh => hh
theorem shift_all : FGood Tryd.prog s_Shift := shift_ok runs_ok
end Go.Proofs.YtpoegfkajdbplaaDoor
