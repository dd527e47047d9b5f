/- The plain machine: entries of the runtime that are known. -/
import Derived.Test.YtdioidceogjalaaGreatDoorFk
import Derived.Laws.Externs
import Derived.Lib.Builder
import Derived.Lib.Bytealg
namespace Go.Dm
set_option linter.unusedVariables false

abbrev Spec := List V → St → Rs (V × St)

/-- The argument as it is. -/
def spSame : Spec := fun l σ => match l with | [x] => some [(x, σ)] | _ => none

def idxFrom (c : Nat) : List UInt8 → Nat → Int
  | [], _ => -1
  | x :: r, i => match Nat.beq x.toNat c with | true => i | false => idxFrom c r (i + 1)

/-- The first place of a byte in a text. -/
def spIndex : Spec := fun l σ =>
  match l with
  | [.c (.f (.str s)), .c (.f (.int .u8 (.ofNat c)))] => (match Nat.blt c 256 with | true => some [(vint' .i64 (idxFrom c s 0), σ)] | false => none)
  | _ => none

def cntOf (c : Nat) : List UInt8 → Nat → Nat
  | [], n => n
  | x :: r, n => match Nat.beq x.toNat c with | true => cntOf c r (n + 1) | false => cntOf c r n

/-- How often a byte stands in a text. -/
def spCount : Spec := fun l σ =>
  match l with
  | [.c (.f (.str s)), .c (.f (.int .u8 (.ofNat c)))] => (match Nat.blt c 256 with | true => some [(vint' .i64 (cntOf c s 0), σ)] | false => none)
  | _ => none

theorem find_range {s : List UInt8} {c : UInt8} : ∀ (k n : Nat), k + n = s.length → ((match ((List.range' k n).find? fun i => (⟨s.toArray⟩ : ByteArray)[i]! == c) with | some i => (i : Int) | none => -1) = idxFrom c.toNat (s.drop k) k)
  | k, 0, h => by
    have : s.drop k = [] := List.drop_eq_nil_of_le (by omega)
    rw [this]
    rfl
  | k, n + 1, h => by
    have hk : k < s.length := by omega
    have hg : (⟨s.toArray⟩ : ByteArray)[k]! = s[k] := by
      rw [getElem!_pos _ _ (by simpa [ByteArray.size] using hk)]
      rfl
    rw [List.range'_succ, List.find?_cons, hg, List.drop_eq_getElem_cons hk]
    simp only [idxFrom]
    by_cases e : s[k] = c
    · subst e
      rw [Nat.beq_refl]
      simp
    · have h1 : (s[k] == c) = false := by simpa using e
      have h2 : Nat.beq s[k].toNat c.toNat = false := nbeq_false fun h => e (UInt8.toNat_inj.1 h)
      rw [h1, h2]
      exact find_range (k + 1) n (by omega)

theorem firstIdx_eq (s : List UInt8) (c : UInt8) : firstIdx ⟨s.toArray⟩ c = idxFrom c.toNat s 0 := by
  have := find_range (s := s) (c := c) 0 s.length (by omega)
  unfold firstIdx
  rw [List.range_eq_range']
  exact this

theorem count_eq (c : UInt8) : ∀ (s : List UInt8) (n : Nat), n + s.count c = cntOf c.toNat s n
  | [], n => rfl
  | x :: r, n => by
    simp only [List.count_cons, cntOf]
    by_cases e : x = c
    · subst e
      rw [Nat.beq_refl]
      have := count_eq x r (n + 1)
      simp only [beq_self_eq_true, if_true]
      omega
    · have h1 : (x == c) = false := by simpa using e
      have h2 : Nat.beq x.toNat c.toNat = false := nbeq_false fun h => e (UInt8.toNat_inj.1 h)
      rw [h1, h2]
      simpa using count_eq c r n

section
variable {P : Program}

/-- A function without a body, whose entry is known. -/
structure Ext (P : Program) (f : FuncId) (e : Array Value → Sem Value) : Prop where
  run : ∀ (args : Array Value) (w : World), (callFunc f args).run P w = ((e args).run P w).andThen fun v w' => .ok (.value v) w'

theorem ext_of {f : FuncId} {fn : Func} {e : Array Value → Sem Value} (hf : P.funcs[f]? = some fn) (hname : (fn.name == "runtime.NumGoroutine") = false)
    (hb : fn.body.isNone = true) (hn : Extern.findNext fn = none) (he : Extern.find fn = some e) : Ext P f e := ⟨fun args w => run_callFunc_extern hf hname hb hn he args w⟩

theorem ext_at {f : FuncId} {e : Array Value → Sem Value} (he : Ext P f e) {l : List V} {σ : St} {r : V} (h : ∀ g w vs, Rep g w σ → VReps g w σ l vs → ∃ v, (e vs.toArray).run P w = .ok v w ∧ VRep g w σ r v) {k : V → St → Prop} (hk : k r σ) : CallAt P f l σ k := by
  intro g w vs hr hv
  obtain ⟨v, h1, h2⟩ := h g w vs hr hv
  exact .inl ⟨v, w, by rw [he.run, h1]; rfl, r, σ, g, hk, hr, Turn.refl _ _ _, h2⟩

theorem same_ok {f : FuncId} (he : Ext P f Extern.AbiNoEscape.same) {l : List V} {σ : St} {o : List (V × St)} (h : spSame l σ = some o) : CallAt P f l σ fun r σ' => (r, σ') ∈ o := by
  unfold spSame at h
  split at h
  · rename_i x
    cases h
    refine ext_at he (r := x) (fun g w vs hr hv => ?_) (List.mem_singleton.2 rfl)
    obtain ⟨v, vr, rfl, h1, h2⟩ := hv
    simp only [VReps] at h2; subst h2
    exact ⟨v, rfl, h1⟩
  · cases h

theorem byte_back {c : Nat} (h : Nat.blt c 256 = true) : ((c : Int).toNat.toUInt8).toNat = c := by
  have := blt_nat h
  simp
  omega

theorem index_ok' {f : FuncId} (he : Ext P f Extern.BytealgIndexByte.indexByte) {l : List V} {σ : St} {o : List (V × St)} (h : spIndex l σ = some o) : CallAt P f l σ fun r σ' => (r, σ') ∈ o := by
  unfold spIndex at h
  split at h
  · rename_i s c
    split at h
    · rename_i hc
      cases h
      refine ext_at he (r := vint' .i64 (idxFrom c s 0)) (fun g w vs hr hv => ?_) (List.mem_singleton.2 rfl)
      obtain ⟨v, vr, rfl, h1, u, vr', rfl, h2, h3⟩ := hv
      simp only [VReps] at h3; subst h3
      have e1 : v = .string ⟨s.toArray⟩ := h1
      have e2 : u = .int .u8 (c : Nat) := h2
      subst e1 e2
      refine ⟨_, run_indexByte_string _ _ w, ?_⟩
      rw [firstIdx_eq, byte_back hc]
      rfl
    · cases h
  · cases h

theorem count_ok {f : FuncId} (he : Ext P f Extern.BytealgCount.count) {l : List V} {σ : St} {o : List (V × St)} (h : spCount l σ = some o) : CallAt P f l σ fun r σ' => (r, σ') ∈ o := by
  unfold spCount at h
  split at h
  · rename_i s c
    split at h
    · rename_i hc
      cases h
      refine ext_at he (r := vint' .i64 (cntOf c s 0)) (fun g w vs hr hv => ?_) (List.mem_singleton.2 rfl)
      obtain ⟨v, vr, rfl, h1, u, vr', rfl, h2, h3⟩ := hv
      simp only [VReps] at h3; subst h3
      have e1 : v = .string ⟨s.toArray⟩ := h1
      have e2 : u = .int .u8 (c : Nat) := h2
      subst e1 e2
      refine ⟨_, Lib.run_countString _ _ w, ?_⟩
      have := count_eq (c : Int).toNat.toUInt8 s 0
      rw [byte_back hc, Nat.zero_add] at this
      rw [← this]
      rfl
    · cases h
  · cases h

/-- What is known of some functions. -/
def specOf (l : List (Nat × Spec)) (f : FuncId) : Option Spec :=
  match l with
  | [] => none
  | (i, s) :: r => match Nat.beq i f with | true => some s | false => specOf r f

theorem specOf_ok {E : Env} {l : List (Nat × Spec)} (hE : E.spec = specOf l) (h : ∀ p ∈ l, ∀ a σ o, p.2 a σ = some o → CallAt P p.1 a σ fun r σ' => (r, σ') ∈ o) : SpecOk P E := by
  intro f s hs a σ o ho
  rw [hE] at hs
  clear hE
  induction l with
  | nil => simp [specOf] at hs
  | cons p r ih =>
    simp only [specOf] at hs
    split at hs
    · rename_i e
      have := beq_nat e
      cases hs
      rw [← this]
      exact h p (by simp) a σ o ho
    · exact ih (fun q hq => h q (List.mem_cons_of_mem _ hq)) hs

/-! ### Calls that are known -/
def Env.with (E : Env) (L : List (Nat × List V × St × List (V × St))) : Env := { E with memo := L }

theorem memo_nil {E : Env} : MemoOk P (E.with []) := fun c hc => by cases hc

theorem memo_cons (hm : P.follows .mixedOrders = true) {tb : Tab} (tok : TabOk P tb) {E : Env} (hE : E.stl = stlOf tb (psOf E)) (hs : SpecOk P E) {L : List (Nat × List V × St × List (V × St))} (hM : MemoOk P (E.with L))
    {n : Nat} {c : Nat × List V × St × List (V × St)} (h : xcall P tb (E.with L) n c.1 c.2.1 c.2.2.1 = some c.2.2.2) : MemoOk P (E.with (c :: L)) := by
  intro d hd
  rcases List.mem_cons.1 hd with rfl | hd
  · exact ⟨xcall_ok hm tok (E := E.with L) hE hs hM n _ _ _ _ h, fun hp p hpo => xcall_still (E := E.with L) hM n _ hp _ _ _ h p hpo⟩
  · exact hM d hd
end
end Go.Dm
