/- Printed by merge.py: many texts in one. -/
import Derived.Test.YtpoegfkajdbplaaMj
import Derived.Test.YtpoegfkajdbplaaMi

namespace Go.Proofs.Ytpoegfkajdbplaa
open Go.Dm Go.Dm.Sx
set_option linter.unusedVariables false
set_option linter.unusedSimpArgs false
theorem runs_ok : FGood Try.prog s_Runs := by
  intro x vs ha hp σ
  have h0 : vs = [] := ha.2
  subst h0
  have hc := (pickRuns.yall_ok pickRuns.mm _ _ _ _ _ pickRuns.ran).mono (k' := fun r τ => ∃ u τ', hardV r τ = some (u, τ') ∧ u.free = true ∧ ResR Un [DB true] u) fun r σ' h => by
    rw [List.mem_singleton] at h
    cases h
    exact ⟨.c (.f (.bool true)), [], rfl, rfl, [.c (.f (.bool true))], ⟨_, [], rfl, ⟨.bool true, rfl, rfl⟩, rfl⟩, rfl⟩
  exact call_nil (σ := σ) rfl hc fun r τ hh => hh
theorem plines_all : FGood Try.prog s_PLines := plines_ok runs_ok
end Go.Proofs.Ytpoegfkajdbplaa
