/- The plain machine, run by the kernel: what leaves the store; open regions, run. -/
import Derived.Test.YtdioidceogjalaaGreatDoorFg
namespace Go.Dm
set_option linter.unusedVariables false
set_option linter.unusedSimpArgs false

section
variable {P : Program} {tb : Tab}

/-- Calls of these leave the store. -/
def CallStill (ps : FuncId → Bool) (call : Caller) : Prop := ∀ f, ps f = true → ∀ l σ o, call f l σ = some o → ∀ p ∈ o, p.2 = σ

theorem still_eq {x : Option V} {σ : St} {out : List (V × St)} (h : still x σ = some out) : ∀ p ∈ out, p.2 = σ := by
  unfold still at h
  split at h
  · cases h; intro p hp; rw [List.mem_singleton.1 hp]
  · cases h

theorem one_eq {x : Option (V × St)} {σ : St} {out : List (V × St)} (h : one x = some out) (hx : ∀ p, x = some p → p.2 = σ) : ∀ p ∈ out, p.2 = σ := by
  unfold one at h
  split at h
  · cases h; intro p hp; rw [List.mem_singleton.1 hp]; exact hx _ rfl
  · cases h

theorem single_eq {v : V} {σ : St} {out : List (V × St)} (h : some [(v, σ)] = some out) : ∀ p ∈ out, p.2 = σ := by
  cases h; intro p hp; rw [List.mem_singleton.1 hp]

theorem xslice_str {sz : Nat} {x : V} {lo hi : Option V} {σ : St} {r : V × St} (h : xslice .str sz x lo hi σ = some r) : r.2 = σ := by
  unfold xslice at h
  split at h <;> first
    | (rename_i hd; cases hd; done)
    | cases h
    | skip
  all_goals (repeat' (split at h)) <;> first
    | (cases h; rfl)
    | cases h
    | (rename_i hd; cases hd)

theorem xconv_still {s d : TypeId} {x : V} {σ : St} {r : V × St} (hd : (match (tb d).d with | .slice _ => false | _ => true) = true) (h : xconv tb s d x σ = some r) : r.2 = σ := by
  unfold xconv at h
  split at h
  · cases h; rfl
  · cases h; rfl
  · split at h
    · cases h; rfl
    · cases h
  · cases h; rfl
  · split at h
    · split at h
      · cases h; rfl
      · cases h
    · cases h
  · rename_i e; rw [e] at hd; cases hd
  · cases h

theorem xop_still {ps : FuncId → Bool} {call : Caller} (hc : CallStill ps call) {o : Op} (hs : stlOf tb ps o = true) {ρ : Operand → V} (hρ : ∀ f, ρ (.func f) = .c (.f (.fn f))) {σ : St} {out : List (V × St)} (h : xop call tb (comp tb o) ρ σ = some out) : ∀ p ∈ out, p.2 = σ := by
  cases hx : extraB tb o with
  | true =>
    cases o <;> first
      | (simp [extraB] at hx; done)
      | (simp [stlOf, hx] at hs; done)
      | skip
    · rename_i op t x y yt
      simp only [comp, hx, xop, xextra] at h
      simp only [stlOf] at hs
      split at h
      · repeat' (split at h)
        all_goals first
          | exact single_eq h
          | cases h
      · rename_i e hd; rw [hd] at hs; cases hs
      · split at h
        · exact single_eq h
        · cases h
      · split at h
        · exact single_eq h
        · cases h
      · cases h
    · rename_i c
      obtain ⟨cal, args, at'⟩ := c
      cases cal with
      | value x => simp [extraB] at hx
      | builtin b => simp [stlOf, hx] at hs
      | invoke r m => simp [extraB] at hx
  | false =>
  simp only [comp, hx] at h
  cases o with
  | move x => exact single_eq h
  | assign x => exact single_eq h
  | pick c a b =>
    simp only [comp0, xop] at h
    split at h
    · split at h <;> exact single_eq h
    · cases h
  | binOp op t x y p => exact still_eq h
  | unOp op t x => exact still_eq h
  | extract x i =>
    simp only [comp0, xop] at h
    split at h
    · exact still_eq h
    · cases h
  | nilCheck x => exact still_eq h
  | load t x =>
    simp only [comp0] at h
    split at h
    · simp [xop, hx] at h
    · exact still_eq h
  | fieldAddr t x i =>
    simp only [comp0] at h
    repeat' (split at h)
    all_goals first
      | exact still_eq h
      | (simp [xop, hx] at h; done)
  | field t x i =>
    simp only [comp0] at h
    repeat' (split at h)
    all_goals first
      | (simp [xop, hx] at h; done)
      | (simp only [xop] at h
         split at h
         · exact still_eq h
         · cases h)
  | indexAddr t x i =>
    simp only [comp0] at h
    repeat' (split at h)
    all_goals first
      | exact still_eq h
      | (simp [xop, hx] at h; done)
  | index t x i =>
    simp only [comp0] at h
    split at h
    · exact still_eq h
    · simp only [xop, hx] at h
      repeat' (split at h)
      all_goals first
        | exact still_eq h
        | cases h
  | makeFunc fn first captured =>
    simp only [comp0, xop, hx] at h
    cases fn <;> simp only at h <;> first
      | cases h
      | (split at h <;> first | exact single_eq h | cases h)
  | build t parts =>
    simp only [comp0] at h
    repeat' (split at h)
    all_goals first
      | (simp only [xop] at h
         split at h
         · exact single_eq h
         · cases h
         done)
      | (simp only [xop, hx] at h
         repeat' (split at h)
         all_goals first | exact single_eq h | cases h)
  | slice t x lo hi mx =>
    cases mx with
    | some m => simp [stlOf] at hs
    | none =>
      simp only [comp0] at h
      split at h
      · exact one_eq h fun p hp => xslice_str hp
      · rename_i e; simp [stlOf, e] at hs
      · rename_i e1 e2
        simp only [stlOf] at hs
        split at hs
        · rename_i e; exact (e1 e).elim
        · cases hs
  | convert s d x =>
    have hd : (match (tb d).d with | .slice _ => false | _ => true) = true := by
      simp only [stlOf, Bool.and_eq_true] at hs
      exact hs.2
    simp only [comp0, xop, hx] at h
    exact one_eq h fun p hp => xconv_still hd hp
  | call c =>
    obtain ⟨cal, args, at'⟩ := c
    cases cal with
    | value x =>
      simp only [comp0, xop] at h
      simp only [stlOf] at hs
      split at hs
      · rename_i f
        rw [hρ] at h
        simp only [callee] at h
        exact hc f hs _ _ _ h
      · cases hs
    | builtin b =>
      simp only [comp0] at h
      split at h
      · exact still_eq h
      · simp [stlOf, extraB, stillOp] at hs
      · refine one_eq h fun p hp => ?_
        unfold xbi at hp
        repeat' (split at hp)
        all_goals first
          | (cases hp; rfl)
          | cases hp
    | invoke r m => simp [comp0, xop, hx] at h
  | _ => first
    | (simp [stlOf, extraB, stillOp] at hs; done)
    | skip

theorem xitem_still {ps : FuncId → Bool} {call : Caller} (hc : CallStill ps call) {ops : Array Oper} {o : Oper} (hs : stlOf tb ps o.op = true) {t : FT} {σ : St} {out : List (V × St)} (h : xitem call tb (sitem tb ops o) t σ = some out) : ∀ p ∈ out, p.2 = σ := by
  unfold xitem at h
  split at h
  · cases h
  · exact xop_still hc hs (fun f => rfl) h
  · exact single_eq h
end
end Go.Dm
