/- Printed by merge.py: many texts in one. -/
import Derived.Test.YtpoegfkajdbplaaMh
import Derived.Test.YtpoegfkajdbplaaMc

namespace Go.Proofs.Ytpoegfkajdbplaa
open Go.Dm Go.Dm.Sx
set_option linter.unusedVariables false
set_option linter.unusedSimpArgs false
abbrev DI (n : Int) : Dyn Un.B := ⟨.int .i64, n⟩
abbrev DK (k : IntKind) (n : Int) : Dyn Un.B := ⟨.int k, n⟩
abbrev DB (n : Bool) : Dyn Un.B := ⟨.bool, n⟩
abbrev DS (n : List UInt8) : Dyn Un.B := ⟨.str, n⟩
abbrev DL (t : Ty) (l : List (T Un.B t)) : Dyn Un.B := ⟨.list t, l⟩
abbrev Str := List UInt8
noncomputable abbrev X (Sp : List (FSpec Un)) (inl : List (Ent Try.prog tb (stlW tb)) := []) (sm : List Nat := []) : SEnv := XE Un tyO Sp inl sm
abbrev tI : In := .ty (.int .i64)
abbrev tU : In := .ty (.int .u8)
abbrev tB : In := .ty .bool
abbrev tS : In := .ty .str
abbrev tLS : In := .ty (.list .str)
abbrev tLI : In := .ty (.list (.int .i64))
abbrev oI : Ty := .int .i64
def within (n lo hi : Int) : Int := lo + n % (hi - lo + 1)
noncomputable def k_Within : Wk (X []) w_glossbook_Within.F [tI, tI, tI] [oI] := ⟨_, by cbv, _, by cbv, _, by cbv⟩
def s_Within : FSpec Un := ⟨⟨f_glossbook_Within, [tI, tI, tI], [oI]⟩, fun ((n : Int), (lo : Int), (hi : Int), _) => -1152921504606846976 ≤ lo ∧ lo ≤ hi ∧ hi ≤ 1152921504606846976, fun (n, lo, hi, _) => [DI (within n lo hi)], fun _ => rfl⟩
theorem tmod_emod {a m : Int} (hm : 0 < m) : (a.tmod m < 0 → a.tmod m + m = a % m) ∧ (0 ≤ a.tmod m → a.tmod m = a % m) ∧ -m < a.tmod m ∧ a.tmod m < m := by
  have h1 := Int.tmod_eq_emod (a := a) (b := m)
  have h2 := Int.emod_nonneg a (show m ≠ 0 by omega)
  have h3 := Int.emod_lt_of_pos a hm
  have h4 : (m.natAbs : Int) = m := by omega
  split at h1 <;> refine ⟨fun h => ?_, fun h => ?_, ?_, ?_⟩ <;> omega
theorem within_ok : FGood Try.prog s_Within := by
  refine Wk.ok mixed tok (envOk .nil [] no_same) w_glossbook_Within k_Within rfl rfl ?_
  rintro ⟨(n : Int), (lo : Int), (hi : Int), _⟩ hpre R hR Go hGo
  replace hR : R = [DI (within n lo hi)] := hR
  replace hpre : -1152921504606846976 ≤ lo ∧ lo ≤ hi ∧ hi ≤ 1152921504606846976 := hpre
  show TDen _ _ _ _ [DI n, DI lo, DI hi]
  simp [k_Within, TDen, Tm.den, nthD, in64, hR, within]
  obtain ⟨h1, h2, h3⟩ := hpre
  have hm : 0 < hi - lo + 1 := by omega
  obtain ⟨t1, t2, t3, t4⟩ := tmod_emod (a := n) hm
  refine ⟨by omega, by omega, by omega, fun h => ⟨?_, ?_, ?_, ?_, ?_⟩, fun h => ⟨?_, ?_⟩⟩ <;> omega
theorem within_in {n lo hi : Int} (h : lo ≤ hi) : lo ≤ within n lo hi ∧ within n lo hi ≤ hi := by
  have h2 := Int.emod_nonneg n (show hi - lo + 1 ≠ 0 by omega)
  have h3 := Int.emod_lt_of_pos n (show 0 < hi - lo + 1 by omega)
  unfold within
  omega
noncomputable def k_SameS : Wk (X []) w_glossbook_Same_string.F [tLS, tLS] [.bool] := ⟨_, by cbv, _, by cbv, _, by cbv⟩
def s_SameS : FSpec Un := ⟨⟨f_glossbook_Same_string, [tLS, tLS], [.bool]⟩, fun (a, b, _) => List.length a ≤ 1000000, fun (a, b, _) => [DB (decide (a = b))], fun _ => rfl⟩
theorem sameS_ok : FGood Try.prog s_SameS := by
  refine Wk.ok mixed tok (envOk .nil [] no_same) w_glossbook_Same_string k_SameS rfl rfl ?_
  rintro ⟨(a : List Str), (b : List Str), _⟩ hpre R hR Go hGo
  replace hR : R = [DB (decide (a = b))] := hR
  replace hpre : a.length ≤ 1000000 := hpre
  show TDen _ _ _ _ [DL .str a, DL .str b]
  simp [k_SameS, TDen, Tm.den, nthD]
  refine ⟨fun h => ?_, fun h => ?_⟩
  · rw [hR, decide_eq_false]; intro e; rw [e] at h; exact h rfl
  · refine hGo 0 _ rfl Nat (fun i => [DL .str a, DL .str b, DI i]) (fun i => i ≤ a.length ∧ ∀ j, j < i → a[j]? = b[j]?) (fun i => a.length - i) (fun i hI ih => ?_) 0 ⟨Nat.zero_le _, fun j hj => by omega⟩
    simp [TDen, Tm.den, nthD]
    obtain ⟨hi, hs⟩ := hI
    have hab : a.length = b.length := by omega
    refine ⟨fun h1 => ⟨h1, fun x hx => ⟨by omega, fun y hy => ⟨fun hne => ?_, fun he => ⟨by simp only [in64]; omega, ?_⟩⟩⟩⟩, fun h1 => ?_⟩
    · rw [hR, decide_eq_false]; rintro rfl; rw [hx] at hy; exact hne (Option.some.inj hy)
    · refine ih (i + 1) (by omega) ⟨by omega, fun j hj => ?_⟩
      rcases Nat.lt_succ_iff_lt_or_eq.1 hj with hj | rfl
      · exact hs j hj
      · rw [hx, hy, he]
    · rw [hR, decide_eq_true]
      apply List.ext_getElem?
      intro j
      by_cases hj : j < i
      · exact hs j hj
      · rw [List.getElem?_eq_none (by omega), List.getElem?_eq_none (by omega)]
end Go.Proofs.Ytpoegfkajdbplaa
namespace Go.Proofs.Ytpoegfkajdbplaa
open Go.Dm Go.Dm.Sx
set_option linter.unusedVariables false
set_option linter.unusedSimpArgs false
set_option pp.deepTerms true
set_option pp.maxSteps 100000
abbrev tAd : In := .ty (.base 1)
abbrev tCm : In := .ty (.base 3)
abbrev tEn : In := .ty (.base 4)
def hitR (a : PAddr) (e : PEnv) : Bool := if a.kind = 1 then decide (a.line = e.line) else if a.kind = 2 then e.last else false
noncomputable def k_Hit : Wk (X []) w_pick_Hit.F [tAd, tEn] [.bool] := ⟨_, by cbv, _, by cbv, _, by cbv⟩
def s_Hit : FSpec Un := ⟨⟨f_pick_Hit, [tAd, tEn], [.bool]⟩, fun ((a : PAddr), (e : PEnv), _) => a.kind ≠ 3, fun ((a : PAddr), (e : PEnv), _) => [DB (hitR a e)], fun _ => rfl⟩
theorem hit_ok : FGood Try.prog s_Hit := by
  refine Wk.ok mixed tok (envOk .nil [] no_same) w_pick_Hit k_Hit rfl rfl ?_
  rintro ⟨(a : PAddr), (e : PEnv), _⟩ hpre R hR Go hGo
  replace hR : R = [DB (hitR a e)] := hR
  replace hpre : a.kind ≠ 3 := hpre
  show TDen _ _ _ _ [(⟨.base 1, a⟩ : Dyn Un.B), (⟨.base 4, e⟩ : Dyn Un.B)]
  simp [k_Hit, TDen, Tm.den, nthD, hpre]
  refine ⟨fun h => ?_, fun h => ⟨fun h2 => ?_, fun h2 => ?_⟩⟩
  · rw [hR]; simp only [hitR, if_pos h]
  · rw [hR]; simp only [hitR, if_neg h, if_pos h2]
  · rw [hR]; simp only [hitR, if_neg h, if_neg h2]
def pastR (b : PAddr) (e : PEnv) : Bool := decide (b.kind = 1) && decide (b.line ≤ e.line)
noncomputable def k_past : Wk (X []) w_pick_past.F [tAd, tEn] [.bool] := ⟨_, by cbv, _, by cbv, _, by cbv⟩
def s_past : FSpec Un := ⟨⟨f_pick_past, [tAd, tEn], [.bool]⟩, fun _ => True, fun ((b : PAddr), (e : PEnv), _) => [DB (pastR b e)], fun _ => rfl⟩
theorem past_ok : FGood Try.prog s_past := by
  refine Wk.ok mixed tok (envOk .nil [] no_same) w_pick_past k_past rfl rfl ?_
  rintro ⟨(b : PAddr), (e : PEnv), _⟩ hpre R hR Go hGo
  replace hR : R = [DB (pastR b e)] := hR
  show TDen _ _ _ _ [(⟨.base 1, b⟩ : Dyn Un.B), (⟨.base 4, e⟩ : Dyn Un.B)]
  simp [k_past, TDen, Tm.den, nthD]
  refine ⟨fun h => ?_, fun h => ?_⟩
  · rw [hR]; simp only [pastR, decide_eq_true h, Bool.true_and]
  · rw [hR]; simp only [pastR, decide_eq_false h, Bool.false_and]
theorem eta_addr (a : PAddr) : (⟨a.kind, a.line, ⟨a.rx.kind, a.rx.min, a.rx.max, a.rx.n, a.rx.s0, a.rx.s1, a.rx.s2, a.rx.s3, a.rx.kids⟩⟩ : PAddr) = a := by
  cases a with
  | mk k l r => cases r; rfl
def pickR (c : PCmd) (on : Bool) (e : PEnv) : Bool × Bool × Bool :=
  if c.a.kind = 0 then (!c.not_, false, true) else
  if c.b.kind = 0 then (!(hitR c.a e == c.not_), false, true) else
  if on = true then
    (if pastR c.b e = true then (!c.not_, false, true) else if c.b.kind = 1 then (!c.not_, true, false) else (!c.not_, !hitR c.b e, hitR c.b e))
  else if hitR c.a e = true then
    (if pastR c.b e = true then (!(hitR c.a e == c.not_), false, true) else if c.b.kind = 2 then (!(hitR c.a e == c.not_), !e.last, e.last) else (!(hitR c.a e == c.not_), true, false))
  else (!(hitR c.a e == c.not_), false, false)
set_option maxRecDepth 100000 in
set_option cbv.maxSteps 10000000 in
noncomputable def k_Pick : Wk (X [s_Hit, s_past]) w_pick_Pick.F [tCm, tB, tEn] [.bool, .bool, .bool] := ⟨_, by cbv, _, by cbv, _, by cbv⟩
def s_Pick : FSpec Un := ⟨⟨f_pick_Pick, [tCm, tB, tEn], [.bool, .bool, .bool]⟩, fun ((c : PCmd), (on : Bool), (e : PEnv), _) => c.a.kind ≠ 3 ∧ c.b.kind ≠ 3, fun ((c : PCmd), (on : Bool), (e : PEnv), _) => [DB (pickR c on e).1, DB (pickR c on e).2.1, DB (pickR c on e).2.2], fun _ => rfl⟩
theorem pick_ok : FGood Try.prog s_Pick := by
  refine Wk.ok mixed tok (envOk (.cons hit_ok (.cons past_ok .nil)) [] no_same) w_pick_Pick k_Pick rfl rfl ?_
  rintro ⟨(c : PCmd), (on : Bool), (e : PEnv), _⟩ hpre R hR Go hGo
  replace hR : R = [DB (pickR c on e).1, DB (pickR c on e).2.1, DB (pickR c on e).2.2] := hR
  obtain ⟨p1, p2⟩ : c.a.kind ≠ 3 ∧ c.b.kind ≠ 3 := hpre
  show TDen _ _ _ _ [(⟨.base 3, c⟩ : Dyn Un.B), DB on, (⟨.base 4, e⟩ : Dyn Un.B)]
  simp [k_Pick, TDen, Tm.den, nthD, s_Hit, s_past]
  have nt : ∀ {b : Bool}, b = false → ¬ b = true := fun h h2 => by rw [h] at h2; cases h2
  refine ⟨fun h => ?_, fun h => ⟨fun h2 => ?_, fun h2 => ⟨fun h3 => ?_, fun h3 => ?_⟩⟩⟩
  · rw [hR]; simp only [pickR, if_pos h]
  · rintro (x : PAddr) hx
    replace hx : x = c.a := hx.trans (eta_addr _)
    subst hx
    exact ⟨p1, by rw [hR]; simp only [pickR, if_neg h, if_pos h2]⟩
  · rintro (x : PAddr) hx
    replace hx : x = c.b := hx.trans (eta_addr _)
    subst hx
    refine ⟨fun h4 => ?_, fun h4 => ⟨fun h5 => ?_, fun h5 => ?_⟩⟩
    · rw [hR]; simp only [pickR, if_neg h, if_neg h2, if_pos h3, if_pos h4]
    · rintro (x : PAddr) hx
      replace hx : x = c.b := hx.trans (eta_addr _)
      subst hx
      exact ⟨p2, by rw [hR]; simp only [pickR, if_neg h, if_neg h2, if_pos h3, if_neg (nt h4), if_neg h5]⟩
    · rw [hR]; simp only [pickR, if_neg h, if_neg h2, if_pos h3, if_neg (nt h4), if_pos h5]
  · rintro (x : PAddr) hx
    replace hx : x = c.a := hx.trans (eta_addr _)
    subst hx
    refine ⟨p1, fun h4 => ?_, fun h4 => ?_⟩
    · rintro (x : PAddr) hx
      replace hx : x = c.b := hx.trans (eta_addr _)
      subst hx
      refine ⟨fun h5 => ?_, fun h5 => ⟨fun h6 => ?_, fun h6 => ?_⟩⟩
      · rw [hR]; simp only [pickR, if_neg h, if_neg h2, if_neg (nt h3), if_pos h4, if_pos h5]
      · rw [hR]; simp only [pickR, if_neg h, if_neg h2, if_neg (nt h3), if_pos h4, if_neg (nt h5), if_pos h6]
      · rw [hR]; simp only [pickR, if_neg h, if_neg h2, if_neg (nt h3), if_pos h4, if_neg (nt h5), if_neg h6]
    · rw [hR]; simp only [pickR, if_neg h, if_neg h2, if_neg (nt h3), if_neg (nt h4)]
def s_Runs : FSpec Un := ⟨⟨f_glosslaw12_PickRuns, [], [.bool]⟩, fun _ => True, fun _ => [DB true], fun _ => rfl⟩
set_option maxRecDepth 100000 in
set_option cbv.maxSteps 10000000 in
noncomputable def k_Lines : Wk (X [s_Within, s_Pick, s_Runs]) w_glosslaw12_PickLines.F [tI, tI, tI, tB] [.bool] := ⟨_, by cbv, _, by cbv, _, by cbv⟩
end Go.Proofs.Ytpoegfkajdbplaa
namespace Go.Proofs.Ytpoegfkajdbplaa
open Go.Dm Go.Dm.Sx
set_option linter.unusedVariables false
set_option linter.unusedSimpArgs false
def onR (p q : Int) (i : Nat) : Bool := decide (p ≤ i ∧ (i : Int) < q)
theorem bneq {A B : Prop} [Decidable A] [Decidable B] {no : Bool} (h : (!(decide A == no)) = (decide B == no)) : A ↔ ¬ B := by
  by_cases a : A <;> by_cases b : B <;> cases no <;> simp_all
theorem bno {A : Prop} [Decidable A] {no : Bool} (h : (!(decide A == no)) = no) : ¬ A := by
  by_cases a : A <;> cases no <;> simp_all
theorem bnn {A : Prop} [Decidable A] {no : Bool} (h : (!(decide A == no)) = !no) : A := by
  by_cases a : A <;> cases no <;> simp_all
theorem range_law {no : Bool} {i : Nat} {x : PCmd} {e : PEnv} {p q : Int} (a1 : x.a.kind = 1) (a2 : x.a.line = p) (b1 : x.b.kind = 1) (b2 : x.b.line = q) (hn : x.not_ = no) (he : e.line = (i : Int) + 1) (hp : 1 ≤ p) :
    (pickR x (onR p q i) e).1 = (!(decide ((p ≤ (i : Int) + 1 ∧ (i : Int) + 1 ≤ q) ∨ (i : Int) + 1 = p) == no)) ∧ (pickR x (onR p q i) e).2.1 = onR p q (i + 1) := by
  have hh : hitR x.a e = decide (p = (i : Int) + 1) := by unfold hitR; rw [if_pos a1, a2, he]
  have hpast : pastR x.b e = decide (q ≤ (i : Int) + 1) := by unfold pastR; rw [b1, b2, he]; simp
  unfold pickR
  rw [hh, hpast, hn, if_neg (by rw [a1]; decide), if_neg (by rw [b1]; decide)]
  unfold onR
  by_cases c1 : p ≤ (i : Int) ∧ (i : Int) < q
  · rw [decide_eq_true c1, if_pos rfl]
    by_cases c2 : q ≤ (i : Int) + 1
    · rw [decide_eq_true c2, if_pos rfl, decide_eq_true (p := (p ≤ (i : Int) + 1 ∧ (i : Int) + 1 ≤ q) ∨ (i : Int) + 1 = p) (by omega), decide_eq_false (p := p ≤ ((i + 1 : Nat) : Int) ∧ ((i + 1 : Nat) : Int) < q) (by omega)]
      cases no <;> exact ⟨rfl, rfl⟩
    · rw [decide_eq_false c2, if_neg (by decide), if_pos b1, decide_eq_true (p := (p ≤ (i : Int) + 1 ∧ (i : Int) + 1 ≤ q) ∨ (i : Int) + 1 = p) (by omega), decide_eq_true (p := p ≤ ((i + 1 : Nat) : Int) ∧ ((i + 1 : Nat) : Int) < q) (by omega)]
      cases no <;> exact ⟨rfl, rfl⟩
  · rw [decide_eq_false c1, if_neg (by decide)]
    by_cases c3 : p = (i : Int) + 1
    · rw [decide_eq_true c3, if_pos rfl, decide_eq_true (p := (p ≤ (i : Int) + 1 ∧ (i : Int) + 1 ≤ q) ∨ (i : Int) + 1 = p) (by omega)]
      by_cases c2 : q ≤ (i : Int) + 1
      · rw [decide_eq_true c2, if_pos rfl, decide_eq_false (p := p ≤ ((i + 1 : Nat) : Int) ∧ ((i + 1 : Nat) : Int) < q) (by omega)]
        exact ⟨rfl, rfl⟩
      · rw [decide_eq_false c2, if_neg (by decide), if_neg (by rw [b1]; decide), decide_eq_true (p := p ≤ ((i + 1 : Nat) : Int) ∧ ((i + 1 : Nat) : Int) < q) (by omega)]
        exact ⟨rfl, rfl⟩
    · rw [decide_eq_false c3, if_neg (by decide), decide_eq_false (p := (p ≤ (i : Int) + 1 ∧ (i : Int) + 1 ≤ q) ∨ (i : Int) + 1 = p) (by omega), decide_eq_false (p := p ≤ ((i + 1 : Nat) : Int) ∧ ((i + 1 : Nat) : Int) < q) (by omega)]
      exact ⟨rfl, rfl⟩
theorem last_law {no : Bool} {i : Nat} {x : PCmd} {e : PEnv} {p k : Int} (a1 : x.a.kind = 1) (a2 : x.a.line = p) (b1 : x.b.kind = 2) (hn : x.not_ = no) (he : e.line = (i : Int) + 1) (hl : e.last = decide ((i : Int) + 1 = k)) (hk : (i : Int) + 1 ≤ k) (hp : 1 ≤ p) :
    (pickR x (onR p k i) e).1 = (!(decide (p ≤ (i : Int) + 1) == no)) ∧ (pickR x (onR p k i) e).2.1 = onR p k (i + 1) := by
  have hh : hitR x.a e = decide (p = (i : Int) + 1) := by unfold hitR; rw [if_pos a1, a2, he]
  have hb : hitR x.b e = decide ((i : Int) + 1 = k) := by unfold hitR; rw [if_neg (by rw [b1]; decide), if_pos b1, hl]
  have hpast : pastR x.b e = false := by unfold pastR; rw [b1]; rfl
  unfold pickR
  rw [hh, hb, hpast, hn, hl, if_neg (by rw [a1]; decide), if_neg (by rw [b1]; decide)]
  unfold onR
  by_cases c1 : p ≤ (i : Int) ∧ (i : Int) < k
  · rw [decide_eq_true c1, if_pos rfl, if_neg (by decide), if_neg (by rw [b1]; decide), decide_eq_true (p := p ≤ (i : Int) + 1) (by omega)]
    by_cases c2 : (i : Int) + 1 = k
    · rw [decide_eq_true c2, decide_eq_false (p := p ≤ ((i + 1 : Nat) : Int) ∧ ((i + 1 : Nat) : Int) < k) (by omega)]
      cases no <;> exact ⟨rfl, rfl⟩
    · rw [decide_eq_false c2, decide_eq_true (p := p ≤ ((i + 1 : Nat) : Int) ∧ ((i + 1 : Nat) : Int) < k) (by omega)]
      cases no <;> exact ⟨rfl, rfl⟩
  · rw [decide_eq_false c1, if_neg (by decide)]
    by_cases c3 : p = (i : Int) + 1
    · rw [decide_eq_true c3, if_pos rfl, if_neg (by decide), if_pos b1, decide_eq_true (p := p ≤ (i : Int) + 1) (by omega)]
      by_cases c2 : (i : Int) + 1 = k
      · rw [decide_eq_true c2, decide_eq_false (p := p ≤ ((i + 1 : Nat) : Int) ∧ ((i + 1 : Nat) : Int) < k) (by omega)]
        exact ⟨rfl, rfl⟩
      · rw [decide_eq_false c2, decide_eq_true (p := p ≤ ((i + 1 : Nat) : Int) ∧ ((i + 1 : Nat) : Int) < k) (by omega)]
        exact ⟨rfl, rfl⟩
    · rw [decide_eq_false c3, if_neg (by decide), decide_eq_false (p := p ≤ (i : Int) + 1) (by omega), decide_eq_false (p := p ≤ ((i + 1 : Nat) : Int) ∧ ((i + 1 : Nat) : Int) < k) (by omega)]
      exact ⟨rfl, rfl⟩
end Go.Proofs.Ytpoegfkajdbplaa
namespace Go.Proofs.Ytpoegfkajdbplaa
open Go.Dm Go.Dm.Sx
set_option linter.unusedVariables false
set_option linter.unusedSimpArgs false
set_option pp.deepTerms true
set_option pp.maxSteps 100000
def s_PLines : FSpec Un := ⟨⟨f_glosslaw12_PickLines, [tI, tI, tI, tB], [.bool]⟩, fun _ => True, fun _ => [DB true], fun _ => rfl⟩
set_option maxRecDepth 100000 in
set_option maxHeartbeats 4000000 in
theorem plines_ok (runs_ok : FGood Try.prog s_Runs) : FGood Try.prog s_PLines := by
  refine Wk.ok mixed tok (envOk (.cons within_ok (.cons pick_ok (.cons runs_ok .nil))) [] no_same) w_glosslaw12_PickLines k_Lines rfl rfl ?_
  rintro ⟨(a : Int), (b : Int), (n : Int), (no : Bool), _⟩ hpre R hR Go hGo
  replace hR : R = [DB true] := hR
  show TDen _ _ _ _ [DI a, DI b, DI n, DB no]
  simp [k_Lines, TDen, Tm.den, nthD, s_Within, s_Pick, s_Runs, in64]
  have h1 := within_in (n := a) (lo := 1) (hi := 9) (by decide)
  have h2 := within_in (n := b) (lo := 1) (hi := 9) (by decide)
  have h3 := within_in (n := n) (lo := 1) (hi := 12) (by decide)
  generalize within a 1 9 = p at *
  generalize within b 1 9 = q at *
  generalize within n 1 12 = k at *
  have z1 : onR p q 0 = false := by unfold onR; rw [decide_eq_false (by omega)]
  have z2 : onR p k 0 = false := by unfold onR; rw [decide_eq_false (by omega)]
  have key := hGo 0 _ rfl Nat (fun i => [DB no, DI p, DI q, DI k, DB (onR p q i), DB (onR p k i), DI ((i : Int) + 1), DI 1, DI p, DI 0, DI 0, DI 0, DI 0, DK .u64 0, DK .u64 0, DK .u64 0, DK .u64 0, DI 1, DI q, DI 0, DI 0, DI 0, DI 0, DK .u64 0, DK .u64 0, DK .u64 0, DK .u64 0, DB no, DK .u8 112, DS [], DI 0, DI 0, DI 0, DI 0, DK .u64 0, DK .u64 0, DK .u64 0, DK .u64 0, DB false, DB false, DI 0, DS [], DS [], DI 1, DI p, DI 0, DI 0, DI 0, DI 0, DK .u64 0, DK .u64 0, DK .u64 0, DK .u64 0, DI 2, DI 0, DI 0, DI 0, DI 0, DI 0, DK .u64 0, DK .u64 0, DK .u64 0, DK .u64 0, DB no, DK .u8 112, DS [], DI 0, DI 0, DI 0, DI 0, DK .u64 0, DK .u64 0, DK .u64 0, DK .u64 0, DB false, DB false, DI 0, DS [], DS []]) (fun i => (i : Int) ≤ k) (fun i => k.toNat - i) (fun i hI ih => ?_) 0 (by omega)
  · rw [z1, z2] at key; exact key
  · simp (config := { maxSteps := 10000000 }) [TDen, Tm.den, nthD, s_Pick, s_Runs, in64]
    refine ⟨fun hk => ?_, fun hk => hR.symm⟩
    have hnext := ih (i + 1) (by omega) (by omega)
    clear ih hGo
    rintro (x : PCmd) hx (x1 : PEnv) hx1
    refine ⟨by subst hx; exact ⟨(by decide : ¬ (1 : Int) = 3), (by decide : ¬ (1 : Int) = 3)⟩, ?_⟩
    rintro (x2 : PCmd) hx2 (x3 : PEnv) hx3
    refine ⟨by subst hx2; exact ⟨(by decide : ¬ (1 : Int) = 3), (by decide : ¬ (2 : Int) = 3)⟩, ?_⟩
    obtain ⟨e1, e2⟩ := range_law (no := no) (i := i) (x := x) (e := x1) (p := p) (q := q) (by subst hx; rfl) (by subst hx; rfl) (by subst hx; rfl) (by subst hx; rfl) (by subst hx; rfl) (by subst hx1; rfl) h1.1
    obtain ⟨e3, e4⟩ := last_law (no := no) (i := i) (x := x2) (e := x3) (p := p) (k := k) (by subst hx2; rfl) (by subst hx2; rfl) (by subst hx2; rfl) (by subst hx2; rfl) (by subst hx3; rfl) (by subst hx3; rfl) hk h1.1
    clear hx hx1 hx2 hx3
    simp only [e1, e2, e3, e4]
    clear e1 e2 e3 e4
    repeat' (first | apply And.intro | intro)
    all_goals first | exact hnext | omega | (exfalso; clear hnext; first | (have h' := bneq (by assumption); omega) | (have h' := bno (by assumption); omega) | (have h' := bnn (by assumption); omega) | (unfold onR at *; simp at *; omega) | (unfold onR at *; cases no <;> simp at * <;> omega)) | skip
end Go.Proofs.Ytpoegfkajdbplaa
