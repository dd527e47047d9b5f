import Derived.Test.YtpoegfkajdbplaaDoorMk
import Derived.Test.YtpoegfkajdbplaaDoorMj
import Derived.Test.YtpoegfkajdbplaaDoorMi

/- EditTells: it answers true. -/
namespace Go.Proofs.YtpoegfkajdbplaaDoor
open Go.Dm Go.Dm.Sx
set_option linter.unusedVariables false
set_option linter.unusedSimpArgs false
set_option pp.deepTerms true
set_option pp.maxSteps 100000

theorem keepLines_good (l : List (List Int)) : ∀ s ∈ keepLines l, badLine s = false := by
  intro s hs
  unfold keepLines at hs
  obtain ⟨y, _, rfl⟩ := List.mem_map.1 hs
  exact keepText_good y
theorem do_true {e : Edit} {ls : List Str} (h : rightEdit e ls = true) : doE e ls = 0 ∧ doL e ls = editDo e ls := by
  unfold doE doL
  rw [if_pos h, if_pos h]; exact ⟨rfl, rfl⟩
theorem do_false {e : Edit} {ls : List Str} (h : rightEdit e ls = false) : doE e ls = 5 ∧ doL e ls = [] ∧ allR ls [e] = ([], 5) := by
  have h' : ¬ rightEdit e ls = true := by rw [h]; simp
  unfold doE doL
  rw [if_neg h', if_neg h', allR_cons, if_neg h']; exact ⟨rfl, rfl, rfl⟩
theorem back_law {e : Edit} {ls : List Str} (h : rightEdit e ls = true) (hl : ls.length ≤ 60) (hg : ∀ s ∈ ls, badLine s = false) : doE (backE e ls) (editDo e ls) = 0 ∧ doL (backE e ls) (editDo e ls) = ls ∧ (editDo e ls).length ≤ 60 := by
  obtain ⟨h1, h2, h3, h4, h5, h6⟩ := right_true h
  obtain ⟨a, c, p⟩ := e
  simp only at h1 h2 h3 h4 h5 h6
  obtain ⟨a, rfl⟩ : ∃ m : Nat, a = m := ⟨a.toNat, by omega⟩
  obtain ⟨c, rfl⟩ : ∃ m : Nat, c = m := ⟨c.toNat, by omega⟩
  have hE : editDo ⟨a, c, p⟩ ls = ls.take a ++ p ++ ls.drop (a + c) := by
    unfold editDo
    simp only [Int.toNat_natCast]
    rw [show ((a : Int) + c).toNat = a + c by omega]
  have hlen : (editDo ⟨a, c, p⟩ ls).length = ls.length - c + p.length := by rw [hE]; simp; omega
  have hb : backE ⟨a, c, p⟩ ls = ⟨a, (p.length : Nat), (ls.drop a).take c⟩ := by unfold backE; rw [if_pos h]; simp only [Int.toNat_natCast]
  have hok : okLines ((ls.drop a).take c) = true := by
    unfold okLines
    simp only [Bool.and_eq_true, List.all_eq_true, decide_eq_true_eq]
    refine ⟨by simp; omega, fun s hs => ?_⟩
    rw [hg s (List.mem_of_mem_drop (List.mem_of_mem_take hs))]; rfl
  have hr := right_of (ls := editDo ⟨a, c, p⟩ ls) (a := a) (c := p.length) (put := (ls.drop a).take c) (by omega) hok (by simp; omega)
  obtain ⟨q1, q2⟩ := do_of hr
  rw [hb]
  refine ⟨q1, q2.trans ?_, by omega⟩
  rw [hE]
  have t1 : List.take a (ls.take a ++ p ++ ls.drop (a + c)) = ls.take a := by
    rw [List.append_assoc, List.take_append_of_le_length (by simp; omega), List.take_take, Nat.min_self]
  have t2 : List.drop (a + p.length) (ls.take a ++ p ++ ls.drop (a + c)) = ls.drop (a + c) := by
    rw [List.drop_append_of_le_length (by simp; omega), List.drop_of_length_le (by simp; omega), List.nil_append]
  rw [t1, t2, List.append_assoc, ← List.drop_drop, List.take_append_drop, List.take_append_drop]
def s_Tells : FSpec Un := ⟨⟨f_glosslaw16_EditTells, [.ty (.list (.list oI)), .ty (.base 0), .ty (.base 1), tB], [.bool]⟩, fun _ => True, fun _ => [DB true], fun _ => rfl⟩
set_option maxRecDepth 100000 in
theorem tells_ok (runs_ok : FGood Tryd.prog s_Runs) : FGood Tryd.prog s_Tells := by
  refine Wk.ok mixed tok (envOk (.cons lines_ok (.cons kedit_ok (.cons do_ok (.cons right_ok (.cons refRight_ok (.cons sameS_ok (.cons editAll_ok (.cons back_ok (.cons refEdited_ok (.cons runs_ok .nil)))))))))) [] no_same) w_glosslaw16_EditTells k_Tells rfl rfl ?_
  rintro ⟨(l : List (List Int)), (raw : Edit), (k : KEdit), (own : Bool), _⟩ hpre R hR Go hGo
  replace hR : R = [DB true] := hR
  show TDen _ _ _ _ [DL (.list oI) l, ⟨.base 0, raw⟩, ⟨.base 1, k⟩, DB own]
  simp [k_Tells, TDen, Tm.den, nthD, s_Lines, s_KEdit, s_Do, s_Right, s_RefRight, s_SameS, s_All, s_Back, s_RefEdited, s_Runs, in64]
  have hn := keepLines_len l
  have hg := keepLines_good l
  generalize keepLines l = ls at *
  have all1 : ∀ e : Edit, [e].length ≤ 1000000 := fun e => Nat.le_of_ble_eq_true rfl
  refine ⟨by omega, by omega, by omega, fun _ => ?_, fun _ => ?_⟩
  · generalize keepEdit k ls.length = e
    have h1 := all1 e
    cases h : rightEdit e ls with
    | false =>
      obtain ⟨f1, f2, f3⟩ := do_false h
      have f4 : (allR ls [e]).snd = 5 := by rw [f3]
      simp [f1, f2, hR]
      repeat' apply And.intro
      all_goals first | omega | exact h1 | exact f4
    | true =>
      obtain ⟨f1, f2⟩ := do_true h
      obtain ⟨b1, b2, b3⟩ := back_law h (by omega) hg
      simp [f1, f2, b1, b2, hR]
      omega
  · generalize hE : (Edit.mk raw.at_ raw.cut (List.take (min (raw.put.length : Int) 5).toNat raw.put)) = e
    have h1 := all1 e
    clear hE
    cases h : rightEdit e ls with
    | false =>
      obtain ⟨f1, f2, f3⟩ := do_false h
      have f4 : (allR ls [e]).snd = 5 := by rw [f3]
      repeat' (first | apply And.intro | intro)
      all_goals subst_vars
      all_goals first | rfl | omega | exact h1 | exact absurd f4 (by assumption) | (exfalso; simp_all; done)
    | true =>
      obtain ⟨f1, f2⟩ := do_true h
      obtain ⟨b1, b2, b3⟩ := back_law h (by omega) hg
      repeat' (first | apply And.intro | intro)
      all_goals subst_vars
      all_goals first | rfl | omega | exact h1 | exact h | (rw [f2]; omega) | (rw [f2, b2]; omega) | (exfalso; simp_all; done)
end Go.Proofs.YtpoegfkajdbplaaDoor

/- EditRuns, as a contract; EditTells with it. -/
namespace Go.Proofs.YtpoegfkajdbplaaDoor
open Go.Dm Go.Dm.Sx
set_option linter.unusedVariables false
set_option linter.unusedSimpArgs false

theorem runs_ok : FGood Tryd.prog s_Runs := by
  intro x vs ha hp σ
  have h0 : vs = [] := ha.2
  subst h0
  have hc := (editRuns.yall_ok editRuns.mm _ _ _ _ _ editRuns.ran).mono (k' := fun r τ => ∃ u τ', hardV r τ = some (u, τ') ∧ u.free = true ∧ ResR Un [DB true] u) fun r σ' h => by
    rw [List.mem_singleton] at h
    cases h
    exact ⟨.c (.f (.bool true)), [], rfl, rfl, [.c (.f (.bool true))], ⟨_, [], rfl, ⟨.bool true, rfl, rfl⟩, rfl⟩, rfl⟩
  exact call_nil (σ := σ) rfl hc fun r τ hh => hh
theorem tells_all : FGood Tryd.prog s_Tells := tells_ok runs_ok
end Go.Proofs.YtpoegfkajdbplaaDoor
