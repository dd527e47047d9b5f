/- The plain machine: the way out to the rows, the way in for contracts that are proved otherwise. -/
import Derived.Test.YtdioidceogjalaaGreatDoorDw
import Derived.Below
namespace Go.Dm
open Go.RowKit
set_option linter.unusedVariables false

section
variable {P : Program} {tb : Tab}

theorem turn_of_below {g : G} {w w' : World} {σ : St} (hr : Rep g w σ) (hb : Below w.heap.size w w') : Rep g w' σ ∧ Turn g w σ g w' σ := by
  have hcell : ∀ b o, b < w.heap.size → w'.cell? ⟨b, o, none⟩ = w.cell? ⟨b, o, none⟩ := fun b o h => by simp [World.cell?, hb.block b h]
  have ht : Turn g w σ g w' σ :=
    ⟨hb.os, hb.tape, hb.output, hb.size, fun b h _ => hb.block b h, fun b o hz => ⟨hz, hcell b o (hr.inside b o hz)⟩, fun _ _ _ h => .inl h, fun _ _ _ h => h,
      fun i ob h => ⟨ob, h, by cases ob <;> simp [ObTurn]⟩, fun _ _ _ _ => rfl⟩
  refine ⟨⟨fun i ob h => ?_, hr.inj, hr.apart, fun b o hz => Nat.lt_of_lt_of_le (hr.inside b o hz) hb.size⟩, ht⟩
  by_cases hl : live ob = true
  · exact (hr.ob i ob h).keep ht (fun b hbk => hb.block b ((hr.ob i ob h).inside hl hbk)) rfl rfl
  · cases ob <;> simp_all [live, ObRep]

theorem enter_run {f : FuncId} {fn : Func} {c : Code} (hf : P.funcs[f]? = some fn) (hb : fn.body = some c) (hname : (fn.name == "runtime.NumGoroutine") = false) (vs : Array Value) (w : World) :
    (callFunc f vs).run P w = .ok (.enter f vs) w := by
  have hname' : fn.name ≠ "runtime.NumGoroutine" := by simpa using hname
  simp [callFunc, program, Sem.run, hf, hb, hname']

/-- A contract that was proved over the model itself. -/
theorem pure_of_calls {f : FuncId} {fn : Func} {c : Code} (hf : P.funcs[f]? = some fn) (hb : fn.body = some c) (hname : (fn.name == "runtime.NumGoroutine") = false) {args : List V} {r : V}
    (h : ∀ g w σ vs, Rep g w σ → VReps g w σ args vs → ∃ v, VRep g w σ r v ∧ Calls P f vs.toArray w fun e w' => e = .returned v ∧ Below w.heap.size w w') : PureAt P f args r := by
  intro σ g w vs hr hv
  obtain ⟨v, h1, h2⟩ := h g w σ vs hr hv
  refine .inr ⟨enter_run hf hb hname _ w, h2.mono fun e w' ⟨he, hbel⟩ => ⟨v, he, ?_⟩⟩
  obtain ⟨h3, h4⟩ := turn_of_below hr hbel
  exact ⟨r, σ, g, ⟨rfl, rfl⟩, h3, h4, VRep.turn h4 _ _ h1⟩

/-- A function outside of Go. -/
theorem pure_of_value {f : FuncId} {args : List V} {r : V}
    (h : ∀ g w σ vs, Rep g w σ → VReps g w σ args vs → ∃ v w', VRep g w σ r v ∧ (callFunc f vs.toArray).run P w = .ok (.value v) w' ∧ Below w.heap.size w w') : PureAt P f args r := by
  intro σ g w vs hr hv
  obtain ⟨v, w', h1, h2, h3⟩ := h g w σ vs hr hv
  obtain ⟨h4, h5⟩ := turn_of_below hr h3
  exact .inl ⟨v, w', h2, r, σ, g, ⟨rfl, rfl⟩, h4, h5, VRep.turn h5 _ _ h1⟩

/-- The ghost of a call from outside: all that is there is never written. -/
def ghost0 (w : World) : G := ⟨fun b _ => b < w.heap.size, fun _ => none, fun _ => 0⟩

theorem rep0 (w : World) : Rep (ghost0 w) w [] :=
  ⟨fun i ob h => by simp at h, fun i j a b k h => by simp at h, fun b o _ ho => by obtain ⟨i, ob, h, _⟩ := own_iff.1 ho; simp at h, fun b o h => h⟩

/-- A law that returns true. -/
theorem law_true {f : FuncId} {fn : Func} {c : Code} (hf : P.funcs[f]? = some fn) (hb : fn.body = some c) (hname : (fn.name == "runtime.NumGoroutine") = false) {args : List V}
    (h : CallAt P f args [] fun r _ => r = .c (.f (.bool true))) {w : World} {vs : List Value} (hv : VReps (ghost0 w) w [] args vs) : Calls P f vs.toArray w fun e w' => e = .returned (.bool true) ∧ Below w.heap.size w w' := by
  rcases h (ghost0 w) w vs (rep0 w) hv with ⟨v, w', h1, _⟩ | ⟨_, h2⟩
  · rw [enter_run hf hb hname] at h1; cases h1
  · refine h2.mono ?_
    rintro e w' ⟨v, rfl, r, σ', g', rfl, h4, h5, h6⟩
    have hv' : v = .bool true := h6
    subst hv'
    refine ⟨rfl, h5.os, h5.tape, h5.output, h5.size, fun b hb => h5.whole b hb fun o ho => ?_⟩
    obtain ⟨i, ob, h7, _⟩ := own_iff.1 ho
    simp at h7
end
end Go.Dm
