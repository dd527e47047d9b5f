/- Printed by merge.py: many texts in one. -/
import Derived.Test.YtpoegfkajdbplaaMk
import Derived.Test.YtpoegfkajdbplaaMi

namespace Go.Proofs.Ytpoegfkajdbplaa
open Go.Dm Go.Dm.Sx
set_option linter.unusedVariables false
set_option linter.unusedSimpArgs false
set_option pp.deepTerms true
set_option pp.maxSteps 100000
abbrev rqk (q : Int) : Req := ⟨q, [], ⟨false, false⟩, [], [], 0, 0, 0⟩
def kl : List (List Int) := [encR (rqk 1), encR (rqk 2), encR (rqk 3), encR (rqk 4), encR (rqk 5)]
abbrev DLL (l : List (List Int)) : Dyn Un.B := ⟨.list (.list oU), l⟩
theorem kl_eq : kl = [[1, 0, 0, 0, 0, 0, 0, 0, 0, 0, 0], [2, 0, 0, 0, 0], [3, 0, 0, 0, 0, 0, 0, 0, 0, 0, 0, 0, 0], [4], [5]] := by decide
theorem kl_len : kl.length = 5 := rfl
theorem kl_get {i : Nat} (h : i < 5) : kl[i]? = some (encR (rqk ((i : Int) + 1))) := by
  have : i = 0 ∨ i = 1 ∨ i = 2 ∨ i = 3 ∨ i = 4 := by omega
  rcases this with rfl | rfl | rfl | rfl | rfl <;> rfl
theorem rqk_few (q : Int) : fewR (rqk q) := ⟨by simp, by simp, by simp, by
  unfold bodyB restB
  split
  · simp [numB_len, bytesOf, textsB]
  · split
    · simp [numB_len, editsB]
    · split <;> simp [numB_len]⟩
theorem nott {b : Bool} {p : Prop} (h : b = false) (h2 : b = true) : p := by rw [h] at h2; cases h2
theorem enc_no {r : Req} (h : rightR r = false) : encR r = [] := by unfold encR; rw [h]; rfl
theorem rqk_no {q : Int} (h : q = 0 ∨ q = 6) : rightR (rqk q) = false := by rcases h with rfl | rfl <;> rfl
theorem kl_far {i j : Nat} {x y : List Int} (hx : kl[i]? = some x) (hy : kl[j]? = some y) (h : i ≠ j) : x ≠ y := by
  have hi := (List.getElem?_eq_some_iff.1 hx).1
  have hj := (List.getElem?_eq_some_iff.1 hy).1
  rw [kl_len] at hi hj
  have key : ∀ a b : Fin 5, a ≠ b → kl[a.1]? ≠ kl[b.1]? := by rw [kl_eq]; decide
  have := key ⟨i, hi⟩ ⟨j, hj⟩ (by simpa using h)
  rw [hx, hy] at this
  exact fun e => this (by rw [e])
theorem kl_pos {i : Nat} {x : List Int} (hx : kl[i]? = some x) : x ≠ [] ∧ x.length ≤ 1000000000 := by
  have key : ∀ l ∈ kl, l ≠ [] ∧ l.length ≤ 20 := by rw [kl_eq]; decide
  have := key x (List.mem_of_getElem? hx)
  exact ⟨this.1, by omega⟩
set_option maxRecDepth 100000 in
theorem kinds_ok (runs_ok : FGood Try.prog s_Runs) : FGood Try.prog s_Kinds := by
  refine Wk.ok mixed tok (envOk (.cons within_ok (.cons right_ok (.cons encode_ok (.cons decode_ok (.cons sameB_ok (.cons reqs_ok (.cons runs_ok .nil))))))) [] no_same) w_glosslaw23_ReqKinds k_Kinds rfl rfl ?_
  rintro ⟨(n : Int), (by_ : Int), _⟩ hpre R hR Go hGo
  replace hR : R = [DB true] := hR
  show TDen _ _ _ _ [DI n, DI by_]
  simp [k_Kinds, TDen, Tm.den, nthD, s_Within, s_Right, s_Encode, s_Decode, s_SameB, s_Reqs, s_Runs, in64]
  rintro (x : Req) hx
  have hw := within_in (n := n) (lo := -2147483648) (hi := 2147483647) (by decide)
  have hf := within_in (n := by_) (lo := 0) (hi := 1099511627776) (by decide)
  generalize within n (-2147483648) 2147483647 = w at *
  generalize within by_ 0 1099511627776 = f at *
  have hb : (oneR ⟨encR x, false⟩).2 = 3 ∧ decR (encR x) = (x, true) := by rw [hx]; exact rq3_back hw ⟨by decide, by decide⟩ ⟨by decide, by decide⟩
  have hfew : fewR x := by rw [hx]; exact rq3_few _ _ _
  rw [hb.2]
  have ra : rightR (rq3 w (-2147483648) (2147483647 + (1 + f))) = false := by
    rw [rq3_right]
    have : far (2147483647 + (1 + f)) = true := by unfold far; rw [decide_eq_true (p := (2147483647 : Int) < 2147483647 + (1 + f)) (by omega)]; simp
    rw [this]; simp
  have rb : rightR (rq3 w (-2147483648 - (1 + f)) 2147483647) = false := by
    rw [rq3_right]
    have : far (-2147483648 - (1 + f)) = true := by unfold far; rw [decide_eq_true (p := (-2147483648 - (1 + f) : Int) < -2147483648) (by omega)]; simp
    rw [this]; simp
  refine ⟨hfew, hb.1, by omega, ⟨by omega, by omega, ?_⟩, by omega, by omega, ?_⟩
  · subst hx
    refine hGo 0 _ rfl Nat (fun i => [DB true, DI ((i : Int) + 1), DI 3, DS [], DB false, DB false, DI w, DI (-2147483648), DI 2147483647, DI 3, DS [], DB false, DB false, DL .str [], DLE [], DI w, DI (-2147483648), DI 2147483647, DI 3, DS [], DB false, DB false, DI w, DI (-2147483648), DI (2147483647 + (1 + f)), DI 3, DS [], DB false, DB false, DI w, DI (-2147483648 - (1 + f)), DI 2147483647, DLL (kl.take i)]) (fun i => i ≤ 5) (fun i => 5 - i) (fun i hI ih => ?_) 0 (Nat.zero_le _)
    simp [TDen, Tm.den, nthD, s_Encode, in64, kl_len]
    refine ⟨fun hi => ?_, fun hi => ?_⟩
    · rintro (y : Req) rfl
      have h2 := ih (i + 1) (by omega) (by omega)
      rw [take_get (kl_get (i := i) (by omega))] at h2
      exact ⟨rqk_few _, by omega, by omega, by omega, h2⟩
    · have h5 : i = 5 := by omega
      subst h5
      clear ih
      refine hGo 1 _ rfl Nat (fun i => [DB true, DI 5, DI i, DI 3, DS [], DB false, DB false, DI w, DI (-2147483648), DI 2147483647, DI 3, DS [], DB false, DB false, DL .str [], DLE [], DI w, DI (-2147483648), DI 2147483647, DI 3, DS [], DB false, DB false, DI w, DI (-2147483648), DI (2147483647 + (1 + f)), DI 3, DS [], DB false, DB false, DI w, DI (-2147483648 - (1 + f)), DI 2147483647, DLL kl]) (fun i => i ≤ 5) (fun i => 5 - i) (fun i hI ih => ?_) 0 (Nat.zero_le _)
      simp [TDen, Tm.den, nthD, s_Encode, s_SameB, s_Reqs, s_Right, s_Runs, in64]
      refine ⟨fun hi => ?_, fun hi => ?_⟩
      · have hi : i < 5 := by omega
        have hnext := ih (i + 1) (by omega) (by omega)
        clear ih
        refine hGo 2 _ rfl Nat (fun j => [DB true, DI i, DI 5, DI 5, DI j, DI 3, DS [], DB false, DB false, DI w, DI (-2147483648), DI 2147483647, DI 3, DS [], DB false, DB false, DL .str [], DLE [], DI w, DI (-2147483648), DI 2147483647, DI 3, DS [], DB false, DB false, DI w, DI (-2147483648), DI (2147483647 + (1 + f)), DI 3, DS [], DB false, DB false, DI w, DI (-2147483648 - (1 + f)), DI 2147483647, DLL kl]) (fun j => j ≤ 5) (fun j => 5 - j) (fun j hJ ih => ?_) 0 (Nat.zero_le _)
        simp [TDen, Tm.den, nthD, s_Encode, s_SameB, s_Reqs, s_Right, s_Runs, in64, kl_len]
        refine ⟨fun hj => ⟨by omega, fun x hx => ⟨fun e => absurd e (kl_pos hx).1, fun _ => ⟨fun hne => ⟨by omega, fun x hx => ⟨hj, fun y hy => ⟨(kl_pos hx).2, fun e => absurd e (kl_far hx hy (by omega)), fun _ => ⟨by omega, ih (j + 1) (by omega) (by omega)⟩⟩⟩⟩, fun _ => ⟨by omega, ih (j + 1) (by omega) (by omega)⟩⟩⟩⟩, fun hj => ?_⟩
        first | exact hnext | exact ⟨by omega, hnext⟩
      · rintro (y1 : Req) rfl
        refine ⟨⟨rfl, rfl, rfl⟩, ?_⟩
        rintro (y2 : Req) rfl
        refine ⟨rq3_few _ _ _, fun _ => ?_, fun h => nott ra h⟩
        rintro (y3 : Req) rfl
        refine ⟨rq3_few _ _ _, fun _ => ?_, fun h => nott rb h⟩
        rintro (y4 : Req) rfl
        refine ⟨rq3_few _ _ _, fun _ => ?_, fun h => absurd (enc_no ra) h⟩
        rintro (y5 : Req) rfl
        refine ⟨rqk_few 0, fun _ => ?_, fun h => nott (rqk_no (q := 0) (.inl rfl)) h⟩
        rintro (y6 : Req) rfl
        exact ⟨rqk_few 6, fun _ => hR.symm, fun h => nott (rqk_no (q := 6) (.inr rfl)) h⟩
  · subst hx
    refine hGo 3 _ rfl Nat (fun i => [DB true, DI ((i : Int) + 1), DI 3, DS [], DB false, DB false, DI w, DI (-2147483648), DI 2147483647, DI 3, DS [], DB false, DB false, DL .str [], DLE [], DI w, DI (-2147483648), DI 2147483647, DI 3, DS [], DB false, DB false, DI w, DI (-2147483648 - (1 + f)), DI 2147483647, DI 3, DS [], DB false, DB false, DI w, DI (-2147483648), DI (2147483647 + (1 + f)), DLL (kl.take i)]) (fun i => i ≤ 5) (fun i => 5 - i) (fun i hI ih => ?_) 0 (Nat.zero_le _)
    simp [TDen, Tm.den, nthD, s_Encode, in64, kl_len]
    refine ⟨fun hi => ?_, fun hi => ?_⟩
    · rintro (y : Req) rfl
      have h2 := ih (i + 1) (by omega) (by omega)
      rw [take_get (kl_get (i := i) (by omega))] at h2
      exact ⟨rqk_few _, by omega, by omega, by omega, h2⟩
    · have h5 : i = 5 := by omega
      subst h5
      clear ih
      refine hGo 4 _ rfl Nat (fun i => [DB true, DI 5, DI i, DI 3, DS [], DB false, DB false, DI w, DI (-2147483648), DI 2147483647, DI 3, DS [], DB false, DB false, DL .str [], DLE [], DI w, DI (-2147483648), DI 2147483647, DI 3, DS [], DB false, DB false, DI w, DI (-2147483648 - (1 + f)), DI 2147483647, DI 3, DS [], DB false, DB false, DI w, DI (-2147483648), DI (2147483647 + (1 + f)), DLL kl]) (fun i => i ≤ 5) (fun i => 5 - i) (fun i hI ih => ?_) 0 (Nat.zero_le _)
      simp [TDen, Tm.den, nthD, s_Encode, s_SameB, s_Reqs, s_Right, s_Runs, in64]
      refine ⟨fun hi => ?_, fun hi => ?_⟩
      · have hi : i < 5 := by omega
        have hnext := ih (i + 1) (by omega) (by omega)
        clear ih
        refine hGo 5 _ rfl Nat (fun j => [DB true, DI i, DI 5, DI 5, DI j, DI 3, DS [], DB false, DB false, DI w, DI (-2147483648), DI 2147483647, DI 3, DS [], DB false, DB false, DL .str [], DLE [], DI w, DI (-2147483648), DI 2147483647, DI 3, DS [], DB false, DB false, DI w, DI (-2147483648 - (1 + f)), DI 2147483647, DI 3, DS [], DB false, DB false, DI w, DI (-2147483648), DI (2147483647 + (1 + f)), DLL kl]) (fun j => j ≤ 5) (fun j => 5 - j) (fun j hJ ih => ?_) 0 (Nat.zero_le _)
        simp [TDen, Tm.den, nthD, s_Encode, s_SameB, s_Reqs, s_Right, s_Runs, in64, kl_len]
        refine ⟨fun hj => ⟨by omega, fun x hx => ⟨fun e => absurd e (kl_pos hx).1, fun _ => ⟨fun hne => ⟨by omega, fun x hx => ⟨hj, fun y hy => ⟨(kl_pos hx).2, fun e => absurd e (kl_far hx hy (by omega)), fun _ => ⟨by omega, ih (j + 1) (by omega) (by omega)⟩⟩⟩⟩, fun _ => ⟨by omega, ih (j + 1) (by omega) (by omega)⟩⟩⟩⟩, fun hj => ?_⟩
        first | exact hnext | exact ⟨by omega, hnext⟩
      · rintro (y1 : Req) rfl
        refine ⟨⟨rfl, rfl, rfl⟩, ?_⟩
        rintro (y2 : Req) rfl
        refine ⟨rq3_few _ _ _, fun _ => ?_, fun h => nott ra h⟩
        rintro (y3 : Req) rfl
        refine ⟨rq3_few _ _ _, fun _ => ?_, fun h => nott rb h⟩
        rintro (y4 : Req) rfl
        refine ⟨rq3_few _ _ _, fun _ => ?_, fun h => absurd (enc_no ra) h⟩
        rintro (y5 : Req) rfl
        refine ⟨rqk_few 0, fun _ => ?_, fun h => nott (rqk_no (q := 0) (.inl rfl)) h⟩
        rintro (y6 : Req) rfl
        exact ⟨rqk_few 6, fun _ => hR.symm, fun h => nott (rqk_no (q := 6) (.inr rfl)) h⟩
end Go.Proofs.Ytpoegfkajdbplaa
namespace Go.Proofs.Ytpoegfkajdbplaa
open Go.Dm Go.Dm.Sx
set_option linter.unusedVariables false
set_option linter.unusedSimpArgs false
theorem runs_ok : FGood Try.prog s_Runs := by
  intro x vs ha hp σ
  have h0 : vs = [] := ha.2
  subst h0
  have hc := (reqRuns.yall_ok reqRuns.mm _ _ _ _ _ reqRuns.ran).mono (k' := fun r τ => ∃ u τ', hardV r τ = some (u, τ') ∧ u.free = true ∧ ResR Un [DB true] u) fun r σ' h => by
    rw [List.mem_singleton] at h
    cases h
    exact ⟨.c (.f (.bool true)), [], rfl, rfl, [.c (.f (.bool true))], ⟨_, [], rfl, ⟨.bool true, rfl, rfl⟩, rfl⟩, rfl⟩
  exact call_nil (σ := σ) rfl hc fun r τ hh => hh
theorem kinds_all : FGood Try.prog s_Kinds := kinds_ok runs_ok
end Go.Proofs.Ytpoegfkajdbplaa
