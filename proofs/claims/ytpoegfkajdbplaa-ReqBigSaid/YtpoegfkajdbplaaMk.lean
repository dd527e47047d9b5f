import Derived.Test.YtpoegfkajdbplaaMj
import Derived.Test.YtpoegfkajdbplaaMi

/- Contracts: ReqBig: its walk. -/
namespace Go.Proofs.Ytpoegfkajdbplaa
open Go.Dm Go.Dm.Sx
set_option linter.unusedVariables false
set_option linter.unusedSimpArgs false
set_option pp.deepTerms true
set_option pp.maxSteps 100000

def s_Runs : FSpec Un := ⟨⟨f_glosslaw23_ReqRuns, [], [.bool]⟩, fun _ => True, fun _ => [DB true], fun _ => rfl⟩
set_option maxRecDepth 100000 in
noncomputable def k_Big : Wk (X [s_Within, s_Right, s_Encode, s_Runs]) w_glosslaw23_ReqBig.F [tI] [.bool] := ⟨_, by cbv, _, by cbv, _, by cbv⟩
abbrev rq1 (s : Str) : Req := ⟨1, s, ⟨false, false⟩, [], [], 0, 0, 0⟩
abbrev rq2 (es : List Edit) : Req := ⟨2, [], ⟨false, false⟩, [], es, 0, 0, 0⟩
theorem rq1_len (s : Str) : (bodyB (rq1 s)).length = s.length + 11 := by simp [bodyB, restB, numB_len, bytesOf_len, textsB]; omega
theorem rq1_facts {s : Str} (h : s.length ≤ 100000000) : fewR (rq1 s) ∧ rightR (rq1 s) = decide ((s.length : Int) + 11 ≤ 20000) ∧ (0 < (encR (rq1 s)).length ↔ (s.length : Int) + 11 ≤ 20000) := by
  have hl := rq1_len s
  have hr : rightR (rq1 s) = decide ((s.length : Int) + 11 ≤ 20000) := by
    unfold rightR
    rw [hl]
    have : (numsR (plainR (rq1 s))).any far = false := by simp [plainR, numsR, edsN, far]
    rw [this]
    simp [plainR]
    omega
  refine ⟨⟨by simp, by simp, by simp, by omega⟩, hr, ?_⟩
  unfold encR
  rw [hr]
  by_cases hs : (s.length : Int) + 11 ≤ 20000
  · rw [decide_eq_true hs, if_pos rfl, hl]; simp [hs]
  · rw [decide_eq_false hs]; simp [hs]
abbrev e0 : Edit := ⟨0, 0, []⟩
theorem editsB_rep : ∀ m : Nat, (editsB (List.replicate m e0)).length = 12 * m
  | 0 => rfl
  | m + 1 => by simp [List.replicate_succ, editsB, editsB_rep m, numB_len, textsB]; omega
theorem edsN_rep : ∀ m : Nat, (edsN (List.replicate m e0)).any far = false
  | 0 => rfl
  | m + 1 => by simp only [List.replicate_succ, edsN, List.any_cons, edsN_rep m]; rfl
theorem rq2_facts {m : Nat} (h : m ≤ 11) : fewR (rq2 (List.replicate m e0)) ∧ rightR (rq2 (List.replicate m e0)) = decide (m ≤ 8) := by
  have hl : (bodyB (rq2 (List.replicate m e0))).length = 5 + 12 * m := by
    simp [bodyB, restB, numB_len, editsB_rep]; omega
  refine ⟨⟨by simp, by simp; omega, fun e he => by rw [List.eq_of_mem_replicate he]; simp, by omega⟩, ?_⟩
  unfold rightR
  rw [hl]
  have : (numsR (plainR (rq2 (List.replicate m e0)))).any far = false := by
    have := edsN_rep m
    have h0 : far 0 = false := rfl
    have hp : plainR (rq2 (List.replicate m e0)) = rq2 (List.replicate m e0) := by unfold plainR; rw [if_neg (show ¬ ((2 : Int) = 1) by decide), if_pos rfl]
    rw [hp]
    simp only [numsR, List.any_append, List.any_cons, List.any_nil, this, h0]; rfl
  rw [this]
  simp [plainR]
  omega
theorem zeros_str {n : Nat} {x : Str} (h : List.replicate n (0 : Int) = x.map fun b => (b.toNat : Int)) : x.length = n := by
  have := congrArg List.length h
  simpa using this.symm
def s_Big : FSpec Un := ⟨⟨f_glosslaw23_ReqBig, [tI], [.bool]⟩, fun _ => True, fun _ => [DB true], fun _ => rfl⟩
theorem big_ok (runs_ok : FGood Try.prog s_Runs) : FGood Try.prog s_Big := by
  refine Wk.ok mixed tok (envOk (.cons within_ok (.cons right_ok (.cons encode_ok (.cons runs_ok .nil)))) [] no_same) w_glosslaw23_ReqBig k_Big rfl rfl ?_
  rintro ⟨(n : Int), _⟩ hpre R hR Go hGo
  replace hR : R = [DB true] := hR
  show TDen _ _ _ _ [DI n]
  simp [k_Big, TDen, Tm.den, nthD, s_Within, s_Right, s_Encode, s_Runs, in64]
  have hw := within_in (n := n) (lo := 0) (hi := 40) (by decide)
  generalize within n 0 40 = w at *
  have ht := Int.tmod_eq_emod_of_nonneg (a := w) (b := 12) hw.1
  rw [ht]
  refine ⟨by omega, by omega, List.replicate (19969 + w).toNat 0, by simp, ?_⟩
  have hlen : (List.replicate (19969 + w).toNat (0 : UInt8)).length = (19969 + w).toNat := List.length_replicate
  obtain ⟨f1, f2, f3⟩ := rq1_facts (s := List.replicate (19969 + w).toNat 0) (by rw [hlen]; omega)
  refine ⟨by rw [hlen]; omega, ?_⟩
  rintro (y : Edit) rfl
  refine ⟨by omega, ?_⟩
  rintro (y1 : Req) rfl
  refine ⟨f1, fun _ => ?_, fun h => absurd f2 h⟩
  rintro (y2 : Req) rfl
  refine ⟨f1, fun _ => ?_, fun h => absurd f3 h⟩
  rintro (y3 : Req) rfl
  obtain ⟨g1, g2⟩ := rq2_facts (m := (w % 12).toNat) (by omega)
  refine ⟨g1, fun _ => hR.symm, fun h => absurd (g2.trans ?_) h⟩
  rw [decide_eq_decide]; omega
end Go.Proofs.Ytpoegfkajdbplaa

/- ReqRuns, as a contract; ReqBig with it. -/
namespace Go.Proofs.Ytpoegfkajdbplaa
open Go.Dm Go.Dm.Sx
set_option linter.unusedVariables false
set_option linter.unusedSimpArgs false

theorem runs_ok : FGood Try.prog s_Runs := by
  intro x vs ha hp σ
  have h0 : vs = [] := ha.2
  subst h0
  have hc := (reqRuns.yall_ok reqRuns.mm _ _ _ _ _ reqRuns.ran).mono (k' := fun r τ => ∃ u τ', hardV r τ = some (u, τ') ∧ u.free = true ∧ ResR Un [DB true] u) fun r σ' h => by
    rw [List.mem_singleton] at h
    cases h
    exact ⟨.c (.f (.bool true)), [], rfl, rfl, [.c (.f (.bool true))], ⟨_, [], rfl, ⟨.bool true, rfl, rfl⟩, rfl⟩, rfl⟩
  exact call_nil (σ := σ) rfl hc fun r τ hh => hh
theorem big_all : FGood Try.prog s_Big := big_ok runs_ok
end Go.Proofs.Ytpoegfkajdbplaa
