import Derived.Test.YtpoegfkajdbplabDoorMk
import Derived.Test.YtpoegfkajdbplabDoorMj
import Derived.Test.YtpoegfkajdbplabDoorMi

/- EditApart: it answers true. -/
namespace Go.Proofs.YtpoegfkajdbplabDoor
open Go.Dm Go.Dm.Sx
set_option linter.unusedVariables false
set_option linter.unusedSimpArgs false
set_option pp.deepTerms true
set_option pp.maxSteps 100000

theorem all_two {ls : List Str} {e f : Edit} (he : rightEdit e ls = true) (hf : rightEdit f (editDo e ls) = true) : allR ls [e, f] = (editDo f (editDo e ls), 0) := by
  rw [allR_cons, if_pos he, allR_cons, if_pos hf]; rfl
theorem do_eq {a c : Nat} {put ls : List Str} : editDo ⟨a, c, put⟩ ls = ls.take a ++ put ++ ls.drop (a + c) := by
  unfold editDo
  simp only [Int.toNat_natCast]
  rw [show ((a : Int) + c).toNat = a + c by omega]
theorem apart_law {ls p q : List Str} {a c y d : Nat} (hn : ls.length ≤ 12) (h1 : a ≤ ls.length) (h2 : c ≤ ls.length - a) (h3 : c ≤ 3) (hp : p.length ≤ 3) (hpo : okLines p = true) (k1 : y ≤ ls.length - a - c) (k2 : d ≤ ls.length - a - c - y) (hq : q.length ≤ 3) (hqo : okLines q = true) :
    ∃ m : List Str, m.length ≤ 60 ∧ allR ls [⟨a, c, p⟩, ⟨(y + a + p.length : Nat), d, q⟩] = (m, 0) ∧ allR ls [⟨(y + a + c : Nat), d, q⟩, ⟨a, c, p⟩] = (m, 0) := by
  have e1 : editDo ⟨a, c, p⟩ ls = ls.take a ++ p ++ ls.drop (a + c) := do_eq
  have e2 : editDo ⟨(y + a + c : Nat), d, q⟩ ls = ls.take (y + a + c) ++ q ++ ls.drop (y + a + c + d) := do_eq
  have l1 : (editDo ⟨a, c, p⟩ ls).length = ls.length - c + p.length := by rw [e1]; simp; omega
  have l2 : (editDo ⟨(y + a + c : Nat), d, q⟩ ls).length = ls.length - d + q.length := by rw [e2]; simp; omega
  have r1 := right_of (ls := ls) (a := a) (c := c) (put := p) (by omega) hpo (by omega)
  have r2 := right_of (ls := ls) (a := y + a + c) (c := d) (put := q) (by omega) hqo (by omega)
  have r3 := right_of (ls := editDo ⟨a, c, p⟩ ls) (a := y + a + p.length) (c := d) (put := q) (by omega) hqo (by omega)
  have r4 := right_of (ls := editDo ⟨(y + a + c : Nat), d, q⟩ ls) (a := a) (c := c) (put := p) (by omega) hpo (by omega)
  refine ⟨_, ?_, all_two r1 r3, (all_two r2 r4).trans ?_⟩
  · rw [do_eq]; simp [l1]; omega
  · congr 1
    rw [e1, e2, do_eq, do_eq]
    have t1 : List.take a (ls.take (y + a + c) ++ q ++ ls.drop (y + a + c + d)) = ls.take a := by
      rw [List.append_assoc, List.take_append_of_le_length (by simp; omega), List.take_take, Nat.min_eq_left (by omega)]
    have t2 : List.drop (a + c) (ls.take (y + a + c) ++ q ++ ls.drop (y + a + c + d)) = (ls.drop (a + c)).take y ++ q ++ ls.drop (y + a + c + d) := by
      rw [List.append_assoc, List.drop_append_of_le_length (by simp; omega), List.drop_take, List.append_assoc, show y + a + c - (a + c) = y by omega]
    have t3 : List.take (y + a + p.length) (ls.take a ++ p ++ ls.drop (a + c)) = ls.take a ++ p ++ (ls.drop (a + c)).take y := by
      rw [List.take_append, List.take_of_length_le (by simp; omega)]
      congr 2
      simp; omega
    have t4 : List.drop (y + a + p.length + d) (ls.take a ++ p ++ ls.drop (a + c)) = ls.drop (y + a + c + d) := by
      rw [List.drop_append, List.drop_of_length_le (by simp; omega), List.nil_append, List.drop_drop]
      congr 1
      simp; omega
    rw [t1, t2, t3, t4]
    simp only [List.append_assoc]
def s_Apart : FSpec Un := ⟨⟨f_glosslaw16_EditApart, [.ty (.list (.list oI)), .ty (.base 1), .ty (.base 1)], [.bool]⟩, fun _ => True, fun _ => [DB true], fun _ => rfl⟩
set_option maxRecDepth 100000 in
theorem apart_ok (runs_ok : FGood Tryd.prog s_Runs) : FGood Tryd.prog s_Apart := by
  refine Wk.ok mixed tok (envOk (.cons lines_ok (.cons kedit_ok (.cons editAll_ok (.cons sameS_ok (.cons runs_ok .nil))))) [] no_same) w_glosslaw16_EditApart k_Apart rfl rfl ?_
  rintro ⟨(l : List (List Int)), (a : KEdit), (b : KEdit), _⟩ hpre R hR Go hGo
  replace hR : R = [DB true] := hR
  show TDen _ _ _ _ [DL (.list oI) l, ⟨.base 1, a⟩, ⟨.base 1, b⟩]
  simp [k_Apart, TDen, Tm.den, nthD, s_Lines, s_KEdit, s_All, s_SameS, s_Runs, in64]
  have hn := keepLines_len l
  generalize keepLines l = ls at *
  obtain ⟨a, c, p, he, h1, h2, h3, h4, h5⟩ := keepEdit_good a hn
  rw [he]
  simp only
  rw [show (ls.length : Int) - a - c = (ls.length - a - c : Nat) by omega]
  obtain ⟨y, d, q, hf, k1, k2, k3, k4, k5⟩ := keepEdit_good b (n := ls.length - a - c) (by omega)
  rw [hf]
  simp only
  obtain ⟨m, hm, q1, q2⟩ := apart_law hn h1 h2 h3 h4 h5 k1 k2 k4 k5
  rw [show (y : Int) + a + p.length = (y + a + p.length : Nat) by omega, show (y : Int) + a + c = (y + a + c : Nat) by omega]
  have key : ∀ A B : List Str × Int, A = (m, 0) → B = (m, 0) →
      ((A.snd = 0 → ((B.snd = 0 → A.fst.length ≤ 1000000 ∧ (A.fst = B.fst → [DB true] = R) ∧ (¬A.fst = B.fst → [(⟨.bool, false⟩ : Dyn Un.B)] = R)) ∧ (¬B.snd = 0 → [(⟨.bool, false⟩ : Dyn Un.B)] = R))) ∧ (¬A.snd = 0 → [(⟨.bool, false⟩ : Dyn Un.B)] = R)) := by
    rintro A B rfl rfl
    exact ⟨fun _ => ⟨fun _ => ⟨by simp only; omega, fun _ => hR.symm, fun h => absurd rfl h⟩, fun h => absurd rfl h⟩, fun h => absurd rfl h⟩
  refine ⟨by omega, by omega, by omega, by omega, by omega, by omega, by omega, by omega, fun x hx => ⟨⟨by omega, Nat.le_of_ble_eq_true rfl⟩, fun x1 hx1 => ⟨⟨by omega, Nat.le_of_ble_eq_true rfl⟩, ?_⟩⟩⟩
  subst hx hx1
  exact key _ _ q1 q2
end Go.Proofs.YtpoegfkajdbplabDoor

/- EditRuns, as a contract; EditApart with it. -/
namespace Go.Proofs.YtpoegfkajdbplabDoor
open Go.Dm Go.Dm.Sx
set_option linter.unusedVariables false
set_option linter.unusedSimpArgs false

theorem runs_ok : FGood Tryd.prog s_Runs := by
  intro x vs ha hp σ
  have h0 : vs = [] := ha.2
  subst h0
  have hc := (editRuns.yall_ok editRuns.mm _ _ _ _ _ editRuns.ran).mono (k' := fun r τ => ∃ u τ', hardV r τ = some (u, τ') ∧ u.free = true ∧ ResR Un [DB true] u) fun r σ' h => by
    rw [List.mem_singleton] at h
    cases h
    exact ⟨.c (.f (.bool true)), [], rfl, rfl, [.c (.f (.bool true))], ⟨_, [], rfl, ⟨.bool true, rfl, rfl⟩, rfl⟩, rfl⟩
  exact call_nil (σ := σ) rfl hc fun r τ hh => hh
theorem apart_all : FGood Tryd.prog s_Apart := apart_ok runs_ok
end Go.Proofs.YtpoegfkajdbplabDoor
