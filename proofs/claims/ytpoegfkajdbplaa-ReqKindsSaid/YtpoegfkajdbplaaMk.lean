/- Printed by merge.py: many texts in one. -/
import Derived.Test.YtpoegfkajdbplaaMj

namespace Go.Proofs.Ytpoegfkajdbplaa
open Go.Dm Go.Dm.Sx
set_option linter.unusedVariables false
set_option linter.unusedSimpArgs false
set_option pp.deepTerms true
set_option pp.maxSteps 100000
abbrev oRd : List IO := [.cells [.d 0, .d 1]]
abbrev tRd : In := .st 3 oRd
abbrev pRd : In := .ptr 0 0
def takeR (r : Rd) (n : Int) : Rd × List Int := if r.bad = true ∨ n < 0 ∨ (r.b.length : Int) < n then (⟨r.b, true⟩, []) else (⟨r.b.drop n.toNat, r.bad⟩, r.b.take n.toNat)
abbrev DRd (r : Rd) : Dyn Un.B := ⟨.base 3, r⟩
noncomputable def k_take : WkS (X []) w_req_reader_take.F [tRd, pRd, tI] [.base 3, .list oU] 3 oRd := ⟨_, by cbv, _, by cbv, _, by cbv⟩
def s_take : FSpec Un := ⟨⟨f_req_reader_take, [tRd, pRd, tI], [.base 3, .list oU]⟩, fun _ => True, fun ((r : Rd), (n : Int), _) => [DRd (takeR r n).1, DU (takeR r n).2], fun _ => rfl⟩
theorem take_ok : FGood Try.prog s_take := by
  refine WkS.ok mixed tok (envOk .nil [] no_same) w_req_reader_take k_take rfl rfl ?_
  rintro ⟨(r : Rd), (n : Int), _⟩ hpre R hR Go hGo
  replace hR : R = [DRd (takeR r n).1, DU (takeR r n).2] := hR
  show TDen _ _ _ _ [DRd r, DI n]
  simp [k_take, TDen, Tm.den, nthD]
  refine ⟨fun h1 => ?_, fun h1 => ⟨fun h2 => ?_, fun h2 => ⟨fun h3 => ?_, fun h3 => ⟨⟨h2, h3⟩, ?_⟩⟩⟩⟩
  · rintro (y : Rd) rfl; rw [hR]; simp only [takeR, if_pos (show r.bad = true ∨ n < 0 ∨ (r.b.length : Int) < n from .inl h1)]
  · rintro (y : Rd) rfl; rw [hR]; simp only [takeR, if_pos (show r.bad = true ∨ n < 0 ∨ (r.b.length : Int) < n from .inr (.inl h2))]
  · rintro (y : Rd) rfl; rw [hR]; simp only [takeR, if_pos (show r.bad = true ∨ n < 0 ∨ (r.b.length : Int) < n from .inr (.inr h3))]
  · rintro (y : Rd) rfl; rw [hR]; simp only [takeR, if_neg (show ¬ (r.bad = true ∨ n < 0 ∨ (r.b.length : Int) < n) by rw [h1]; simp; omega)]
    have h4 : List.take (r.b.length - n.toNat) (List.drop n.toNat r.b) = List.drop n.toNat r.b := List.take_of_length_le (by rw [List.length_drop]; omega)
    rw [h4]
def orB (u x : Int) : Int := barith .or .u32 (barith .shl .u32 u 8) (IntKind.u32.wrap x)
def foldU (l : List Int) : Int := l.foldl orB 0
theorem foldU_succ {l : List Int} {i : Nat} {x : Int} (h : l[i]? = some x) : foldU (l.take (i + 1)) = orB (foldU (l.take i)) x := by
  rw [take_get h]; simp [foldU]
def numR (r : Rd) : Rd × Int := ((takeR r 4).1, IntKind.i64.wrap (IntKind.i32.wrap (foldU (takeR r 4).2)))
noncomputable def k_rnum : WkS (X [s_take]) w_req_reader_number.F [tRd, pRd] [.base 3, oI] 3 oRd := ⟨_, by cbv, _, by cbv, _, by cbv⟩
def s_rnum : FSpec Un := ⟨⟨f_req_reader_number, [tRd, pRd], [.base 3, oI]⟩, fun _ => True, fun ((r : Rd), _) => [DRd (numR r).1, DI (numR r).2], fun _ => rfl⟩
theorem rnum_ok : FGood Try.prog s_rnum := by
  refine WkS.ok mixed tok (envOk (.cons take_ok .nil) [] no_same) w_req_reader_number k_rnum rfl rfl ?_
  rintro ⟨(r : Rd), _⟩ hpre R hR Go hGo
  replace hR : R = [DRd (numR r).1, DI (numR r).2] := hR
  show TDen _ _ _ _ [DRd r]
  simp [k_rnum, TDen, Tm.den, nthD, s_take]
  refine hGo 0 _ rfl Nat (fun i => [DK .u32 (foldU ((takeR r 4).2.take i)), DU (takeR r 4).2, DI (takeR r 4).2.length, DI i, DU (takeR r 4).1.b, DB (takeR r 4).1.bad]) (fun i => i ≤ (takeR r 4).2.length) (fun i => (takeR r 4).2.length - i) (fun i hI ih => ?_) 0 (Nat.zero_le _)
  have hl : (takeR r 4).2.length ≤ 4 := by
    unfold takeR; split
    · exact Nat.zero_le _
    · simp; omega
  simp [TDen, Tm.den, nthD, in64]
  refine ⟨fun hi => ⟨hi, fun (x : Int) hx => ⟨by omega, ?_⟩⟩, fun hi => ?_⟩
  · have h2 := ih (i + 1) (by omega) (by omega)
    rw [foldU_succ hx] at h2
    exact h2
  · rintro (y : Rd) rfl
    rw [hR, List.take_of_length_le hi]
    rfl
def oneR (r : Rd) : Rd × Int := ((takeR r 1).1, match (takeR r 1).2 with | [] => 0 | x :: _ => IntKind.i64.wrap x)
noncomputable def k_one : WkS (X [s_take]) w_req_reader_one.F [tRd, pRd] [.base 3, oI] 3 oRd := ⟨_, by cbv, _, by cbv, _, by cbv⟩
def s_one : FSpec Un := ⟨⟨f_req_reader_one, [tRd, pRd], [.base 3, oI]⟩, fun ((r : Rd), _) => True, fun ((r : Rd), _) => [DRd (oneR r).1, DI (oneR r).2], fun _ => rfl⟩
theorem one_ok : FGood Try.prog s_one := by
  refine WkS.ok mixed tok (envOk (.cons take_ok .nil) [] no_same) w_req_reader_one k_one rfl rfl ?_
  rintro ⟨(r : Rd), _⟩ hpre R hR Go hGo
  replace hR : R = [DRd (oneR r).1, DI (oneR r).2] := hR
  show TDen _ _ _ _ [DRd r]
  simp [k_one, TDen, Tm.den, nthD, s_take]
  refine ⟨fun h => ?_, fun h => ?_⟩
  · rw [hR]; unfold oneR; rw [h]
  · cases hl : (takeR r 1).2 with
    | nil => exact absurd hl h
    | cons x l =>
      refine ⟨Nat.succ_pos _, fun y hy => ?_⟩
      cases hy
      rw [hR]; unfold oneR; rw [hl]
noncomputable def k_EqualB : Wk (X []) w_slices_Equal_byte_byte.F [.ty (.list oU), .ty (.list oU)] [.bool] := ⟨_, by cbv, _, by cbv, _, by cbv⟩
def s_EqualB : FSpec Un := ⟨⟨f_slices_Equal_byte_byte, [.ty (.list oU), .ty (.list oU)], [.bool]⟩, fun (a, b, _) => List.length a ≤ 1000000000, fun ((a : List Int), (b : List Int), _) => [DB (decide (a = b))], fun _ => rfl⟩
theorem equalB_ok : FGood Try.prog s_EqualB := by
  refine Wk.ok mixed tok (envOk .nil [] no_same) w_slices_Equal_byte_byte k_EqualB rfl rfl ?_
  rintro ⟨(a : List Int), (b : List Int), _⟩ hpre R hR Go hGo
  replace hR : R = [DB (decide (a = b))] := hR
  replace hpre : a.length ≤ 1000000000 := hpre
  show TDen _ _ _ _ [DU a, DU b]
  simp [k_EqualB, TDen, Tm.den, nthD]
  refine ⟨fun h => ?_, fun h => ?_⟩
  · rw [hR, decide_eq_false]; intro e; rw [e] at h; exact h rfl
  · refine hGo 0 _ rfl Nat (fun i => [DU a, DU b, DI a.length, DI i]) (fun i => i ≤ a.length ∧ ∀ j, j < i → a[j]? = b[j]?) (fun i => a.length - i) (fun i hI ih => ?_) 0 ⟨Nat.zero_le _, fun j hj => by omega⟩
    simp [TDen, Tm.den, nthD]
    obtain ⟨hi, hs⟩ := hI
    have hab : a.length = b.length := by omega
    refine ⟨fun h1 => ⟨h1, fun x hx => ⟨by omega, fun y hy => ⟨fun hne => ?_, fun he => ⟨by simp only [in64]; omega, ?_⟩⟩⟩⟩, fun h1 => ?_⟩
    · rw [hR, decide_eq_false]; rintro rfl; rw [hx] at hy; exact hne (Option.some.inj hy)
    · refine ih (i + 1) (by omega) ⟨by omega, fun j hj => ?_⟩
      rcases Nat.lt_succ_iff_lt_or_eq.1 hj with hj | rfl
      · exact hs j hj
      · rw [hx, hy, he]
    · rw [hR, decide_eq_true]
      apply List.ext_getElem?
      intro j
      by_cases hj : j < i
      · exact hs j hj
      · rw [List.getElem?_eq_none (by omega), List.getElem?_eq_none (by omega)]
end Go.Proofs.Ytpoegfkajdbplaa
namespace Go.Proofs.Ytpoegfkajdbplaa
open Go.Dm Go.Dm.Sx
set_option linter.unusedVariables false
set_option linter.unusedSimpArgs false
set_option pp.deepTerms true
set_option pp.maxSteps 100000
abbrev rq3 (t o n : Int) : Req := ⟨3, [], ⟨false, false⟩, [], [], t, o, n⟩
abbrev rq0 : Req := ⟨0, [], ⟨false, false⟩, [], [], 0, 0, 0⟩
set_option maxRecDepth 100000 in
noncomputable def k_Decode : Wk (X [s_one, s_rnum, s_Encode, s_EqualB]) w_req_Decode.F [.ty (.list oU)] [.base 2, .bool] := ⟨_, by cbv, _, by cbv, _, by cbv⟩
theorem rq3_body (t o n : Int) : bodyB (rq3 t o n) = 3 :: (numB t ++ numB o ++ numB n) := by
  unfold bodyB restB
  rw [if_neg (show ¬ ((3 : Int) = 1) by decide), if_neg (show ¬ ((3 : Int) = 2) by decide), if_pos rfl]; rfl
theorem rq3_few (t o n : Int) : fewR (rq3 t o n) := ⟨by simp, by simp, by simp, by rw [rq3_body]; simp [numB_len]⟩
theorem rq3_enc (t o n : Int) : (encR (rq3 t o n)).length ≤ 1000000000 := by
  unfold encR
  split
  · rw [rq3_body]; simp [numB_len]
  · simp
def rd3 (l : List Int) : Rd × Int × Int × Int :=
  let a := numR (oneR ⟨l, false⟩).1
  let b := numR a.1
  let c := numR b.1
  (c.1, a.2, b.2, c.2)
def decR (l : List Int) : Req × Bool :=
  let x := rq3 (rd3 l).2.1 (rd3 l).2.2.1 (rd3 l).2.2.2
  if (rd3 l).1.bad = true ∨ encR x ≠ l ∨ l = [] then (rq0, false) else (x, true)
def s_Decode : FSpec Un := ⟨⟨f_req_Decode, [.ty (.list oU)], [.base 2, .bool]⟩, fun ((l : List Int), _) => (oneR ⟨l, false⟩).2 = 3, fun ((l : List Int), _) => [DR (decR l).1, DB (decR l).2], fun _ => rfl⟩
set_option maxRecDepth 100000 in
theorem decode_ok : FGood Try.prog s_Decode := by
  refine Wk.ok mixed tok (envOk (.cons one_ok (.cons rnum_ok (.cons encode_ok (.cons equalB_ok .nil)))) [] no_same) w_req_Decode k_Decode rfl rfl ?_
  rintro ⟨(l : List Int), _⟩ hpre R hR Go hGo
  replace hR : R = [DR (decR l).1, DB (decR l).2] := hR
  replace hpre : (oneR ⟨l, false⟩).2 = 3 := hpre
  show TDen _ _ _ _ [DU l]
  simp [k_Decode, TDen, Tm.den, nthD, s_one, s_rnum, s_Encode, s_EqualB, hpre]
  rintro (x : Rd) rfl
  rw [hpre]
  refine ⟨by decide, fun _ => ⟨by decide, fun _ => ⟨fun _ => ⟨fun hb => ?_, fun hb => ?_⟩, fun h => absurd rfl h⟩⟩⟩
  · rintro (y : Req) rfl
    rw [hR]; unfold decR
    rw [if_pos (.inl hb)]; rfl
  · rintro (y : Req) rfl
    refine ⟨rq3_few _ _ _, rq3_enc _ _ _, fun he => ?_, fun he => ⟨fun hl => ?_, fun hl => ?_⟩⟩
    · rintro (y : Req) rfl
      rw [hR]; unfold decR
      rw [if_pos (.inr (.inl he))]; rfl
    · rintro (y : Req) rfl
      rw [hR]; unfold decR
      rw [if_pos (.inr (.inr hl))]; rfl
    · rintro (y : Req) rfl
      rw [hR]; unfold decR
      rw [if_neg (show ¬ ((rd3 l).1.bad = true ∨ encR (rq3 (rd3 l).2.1 (rd3 l).2.2.1 (rd3 l).2.2.2) ≠ l ∨ l = []) from fun h => by
        rcases h with h | h | h
        · have hb' : (rd3 l).1.bad = false := hb
          rw [hb'] at h; cases h
        · exact h he
        · exact hl h)]
      rfl
end Go.Proofs.Ytpoegfkajdbplaa
namespace Go.Proofs.Ytpoegfkajdbplaa
open Go.Dm Go.Dm.Sx
set_option linter.unusedVariables false
set_option linter.unusedSimpArgs false
set_option pp.deepTerms true
set_option pp.maxSteps 100000
noncomputable def k_SameB : Wk (X []) w_glossbook_Same_byte.F [.ty (.list oU), .ty (.list oU)] [.bool] := ⟨_, by cbv, _, by cbv, _, by cbv⟩
def s_SameB : FSpec Un := ⟨⟨f_glossbook_Same_byte, [.ty (.list oU), .ty (.list oU)], [.bool]⟩, fun (a, b, _) => List.length a ≤ 1000000000, fun ((a : List Int), (b : List Int), _) => [DB (decide (a = b))], fun _ => rfl⟩
theorem sameB_ok : FGood Try.prog s_SameB := by
  refine Wk.ok mixed tok (envOk .nil [] no_same) w_glossbook_Same_byte k_SameB rfl rfl ?_
  rintro ⟨(a : List Int), (b : List Int), _⟩ hpre R hR Go hGo
  replace hR : R = [DB (decide (a = b))] := hR
  replace hpre : a.length ≤ 1000000000 := hpre
  show TDen _ _ _ _ [DU a, DU b]
  simp [k_SameB, TDen, Tm.den, nthD]
  refine ⟨fun h => ?_, fun h => ?_⟩
  · rw [hR, decide_eq_false]; intro e; rw [e] at h; exact h rfl
  · refine hGo 0 _ rfl Nat (fun i => [DU a, DU b, DI i]) (fun i => i ≤ a.length ∧ ∀ j, j < i → a[j]? = b[j]?) (fun i => a.length - i) (fun i hI ih => ?_) 0 ⟨Nat.zero_le _, fun j hj => by omega⟩
    simp [TDen, Tm.den, nthD]
    obtain ⟨hi, hs⟩ := hI
    have hab : a.length = b.length := by omega
    refine ⟨fun h1 => ⟨h1, fun x hx => ⟨by omega, fun y hy => ⟨fun hne => ?_, fun he => ⟨by simp only [in64]; omega, ?_⟩⟩⟩⟩, fun h1 => ?_⟩
    · rw [hR, decide_eq_false]; rintro rfl; rw [hx] at hy; exact hne (Option.some.inj hy)
    · refine ih (i + 1) (by omega) ⟨by omega, fun j hj => ?_⟩
      rcases Nat.lt_succ_iff_lt_or_eq.1 hj with hj | rfl
      · exact hs j hj
      · rw [hx, hy, he]
    · rw [hR, decide_eq_true]
      apply List.ext_getElem?
      intro j
      by_cases hj : j < i
      · exact hs j hj
      · rw [List.getElem?_eq_none (by omega), List.getElem?_eq_none (by omega)]
noncomputable def k_Edits : Wk (X [s_SameS]) w_glosskeep_Edits.F [.ty (.base 0), .ty (.base 0)] [.bool] := ⟨_, by cbv, _, by cbv, _, by cbv⟩
def s_Edits : FSpec Un := ⟨⟨f_glosskeep_Edits, [.ty (.base 0), .ty (.base 0)], [.bool]⟩, fun ((a : Edit), (b : Edit), _) => a.put.length ≤ 1000000, fun ((a : Edit), (b : Edit), _) => [DB (decide (a.at_ = b.at_) && decide (a.cut = b.cut) && decide (a.put = b.put))], fun _ => rfl⟩
theorem edits_ok : FGood Try.prog s_Edits := by
  refine Wk.ok mixed tok (envOk (.cons sameS_ok .nil) [] no_same) w_glosskeep_Edits k_Edits rfl rfl ?_
  rintro ⟨(a : Edit), (b : Edit), _⟩ hpre R hR Go hGo
  replace hR : R = [DB (decide (a.at_ = b.at_) && decide (a.cut = b.cut) && decide (a.put = b.put))] := hR
  replace hpre : a.put.length ≤ 1000000 := hpre
  show TDen _ _ _ _ [(⟨.base 0, a⟩ : Dyn Un.B), (⟨.base 0, b⟩ : Dyn Un.B)]
  simp [k_Edits, TDen, Tm.den, nthD, s_SameS]
  refine ⟨fun h1 => ⟨fun h2 => ⟨hpre, ?_⟩, fun h2 => ?_⟩, fun h1 => ?_⟩
  · rw [hR, decide_eq_true h1, decide_eq_true h2]; rfl
  · rw [hR, decide_eq_true h1, decide_eq_false h2]; rfl
  · rw [hR, decide_eq_false h1]; rfl
set_option maxRecDepth 100000 in
noncomputable def k_Reqs : Wk (X [s_SameS, s_Edits]) w_glosskeep_Reqs.F [.ty (.base 2), .ty (.base 2)] [.bool] := ⟨_, by cbv, _, by cbv, _, by cbv⟩
def s_Reqs : FSpec Un := ⟨⟨f_glosskeep_Reqs, [.ty (.base 2), .ty (.base 2)], [.bool]⟩, fun ((a : Req), (b : Req), _) => a = b ∧ a.lines = [] ∧ a.edits = [], fun _ => [DB true], fun _ => rfl⟩
set_option maxRecDepth 100000 in
theorem reqs_ok : FGood Try.prog s_Reqs := by
  refine Wk.ok mixed tok (envOk (.cons sameS_ok (.cons edits_ok .nil)) [] no_same) w_glosskeep_Reqs k_Reqs rfl rfl ?_
  rintro ⟨(a : Req), (b : Req), _⟩ hpre R hR Go hGo
  replace hpre : a = b ∧ a.lines = [] ∧ a.edits = [] := hpre
  replace hR : R = [DB true] := hR
  obtain ⟨rfl, h1, h2⟩ := hpre
  show TDen _ _ _ _ [DR a, DR a]
  simp [k_Reqs, TDen, Tm.den, nthD, s_SameS, h1, h2]
  refine hGo 0 _ rfl Unit (fun _ => [DI 0, DI 0, DI a.kind, DS a.script, DB a.opts.quiet, DB a.opts.ere, DL .str [], DL (.base 0) [], DI a.to, DI a.off, DI a.n, DI a.kind, DS a.script, DB a.opts.quiet, DB a.opts.ere, DL .str [], DL (.base 0) [], DI a.to, DI a.off, DI a.n]) (fun _ => True) (fun _ => 0) (fun _ _ _ => ?_) () trivial
  simp [TDen, Tm.den, nthD, hR]
end Go.Proofs.Ytpoegfkajdbplaa
namespace Go.Proofs.Ytpoegfkajdbplaa
open Go.Dm Go.Dm.Sx
set_option linter.unusedVariables false
set_option linter.unusedSimpArgs false
theorem orB_eq {u x : Int} (h0 : 0 ≤ u) (h1 : u < 16777216) (h2 : 0 ≤ x) (h3 : x < 256) : orB u x = u * 256 + x := by
  obtain ⟨u, rfl⟩ : ∃ k : Nat, u = k := ⟨u.toNat, by omega⟩
  obtain ⟨x, rfl⟩ : ∃ k : Nat, x = k := ⟨x.toNat, by omega⟩
  have hu : u < 16777216 := by omega
  have hx : x < 256 := by omega
  have e1 : barith .shl .u32 (u : Int) 8 = ((u * 256 : Nat) : Int) := by
    show IntKind.u32.wrap ((u : Int) * 2 ^ (min (8 : Int).toNat IntKind.u32.bits)) = _
    have p : (2 : Int) ^ (min (8 : Int).toNat IntKind.u32.bits) = 256 := by decide
    rw [p, wrap32]; omega
  have e2 : IntKind.u32.wrap (x : Int) = (x : Int) := by rw [wrap32]; omega
  unfold orB
  rw [e1, e2]
  show IntKind.u32.wrap (((BitVec.ofInt 32 ((u * 256 : Nat) : Int) ||| BitVec.ofInt 32 (x : Int)).toNat : Nat) : Int) = _
  have e3 : (BitVec.ofInt 32 ((u * 256 : Nat) : Int) ||| BitVec.ofInt 32 (x : Int)).toNat = u * 256 + x := by
    rw [BitVec.toNat_or, BitVec.ofInt_natCast, BitVec.ofInt_natCast, BitVec.toNat_ofNat, BitVec.toNat_ofNat, Nat.mod_eq_of_lt (by omega), Nat.mod_eq_of_lt (by omega)]
    have := Nat.shiftLeft_add_eq_or_of_lt (b := x) (i := 8) (by omega) u
    rw [Nat.shiftLeft_eq] at this
    exact this.symm
  rw [e3, wrap32]
  omega
def fits (t : Int) : Prop := -2147483648 ≤ t ∧ t ≤ 2147483647
theorem foldU_num {t : Int} : foldU (numB t) = t % 4294967296 := by
  show orB (orB (orB (orB 0 (t / 16777216 % 256)) (t / 65536 % 256)) (t / 256 % 256)) (t % 256) = _
  have key : ∀ a b c d : Int, 0 ≤ a → a < 256 → 0 ≤ b → b < 256 → 0 ≤ c → c < 256 → 0 ≤ d → d < 256 → orB (orB (orB (orB 0 a) b) c) d = ((a * 256 + b) * 256 + c) * 256 + d := fun a b c d a0 a1 b0 b1 c0 c1 d0 d1 => by
    rw [orB_eq (u := 0) (x := a) (by omega) (by omega) a0 a1, orB_eq (u := 0 * 256 + a) (x := b) (by omega) (by omega) b0 b1, orB_eq (u := (0 * 256 + a) * 256 + b) (x := c) (by omega) (by omega) c0 c1, orB_eq (u := ((0 * 256 + a) * 256 + b) * 256 + c) (x := d) (by omega) (by omega) d0 d1]
    omega
  rw [key _ _ _ _ (by omega) (by omega) (by omega) (by omega) (by omega) (by omega) (by omega) (by omega)]
  omega
theorem wrapI32 {t : Int} (h : fits t) : IntKind.i64.wrap (IntKind.i32.wrap (t % 4294967296)) = t := by
  obtain ⟨h1, h2⟩ := h
  have e1 : IntKind.i32.wrap (t % 4294967296) = t := by
    show (if (true && decide (t % 4294967296 % 4294967296 ≥ 2147483648)) = true then t % 4294967296 % 4294967296 - 4294967296 else t % 4294967296 % 4294967296) = t
    rw [Bool.true_and]
    split
    · rename_i h; have := of_decide_eq_true h; omega
    · rename_i h; rw [decide_eq_true_eq] at h; omega
  rw [e1]
  show (if (true && decide (t % 18446744073709551616 ≥ 9223372036854775808)) = true then t % 18446744073709551616 - 18446744073709551616 else t % 18446744073709551616) = t
  rw [Bool.true_and]
  split
  · rename_i h; have := of_decide_eq_true h; omega
  · rename_i h; rw [decide_eq_true_eq] at h; omega
theorem num_back {t : Int} (h : fits t) (l : List Int) : numR ⟨numB t ++ l, false⟩ = (⟨l, false⟩, t) := by
  have ht : takeR ⟨numB t ++ l, false⟩ 4 = (⟨l, false⟩, numB t) := by
    unfold takeR
    rw [if_neg (by simp [numB_len]; omega)]
    rfl
  unfold numR
  rw [ht]
  simp only [foldU_num, wrapI32 h]
theorem one_back (x : Int) (l : List Int) : oneR ⟨x :: l, false⟩ = (⟨l, false⟩, IntKind.i64.wrap x) := by
  have ht : takeR ⟨x :: l, false⟩ 1 = (⟨l, false⟩, [x]) := by
    unfold takeR
    rw [if_neg (by simp; omega)]
    rfl
  unfold oneR
  rw [ht]
theorem far_fits {t : Int} (h : fits t) : far t = false := by
  obtain ⟨h1, h2⟩ := h
  unfold far
  rw [decide_eq_false (by omega), decide_eq_false (by omega)]; rfl
theorem rq3_plain (t o n : Int) : plainR (rq3 t o n) = rq3 t o n := by
  unfold plainR
  rw [if_neg (show ¬ ((3 : Int) = 1) by decide), if_neg (show ¬ ((3 : Int) = 2) by decide), if_pos rfl]
theorem rq3_right (t o n : Int) : rightR (rq3 t o n) = (!(far t || (far o || far n))) := by
  unfold rightR
  rw [rq3_plain, rq3_body]
  simp [numsR, edsN, numB_len]
theorem rq3_encR {t o n : Int} (h1 : fits t) (h2 : fits o) (h3 : fits n) : encR (rq3 t o n) = 3 :: (numB t ++ numB o ++ numB n) := by
  unfold encR
  rw [rq3_right, far_fits h1, far_fits h2, far_fits h3, rq3_body]; rfl
theorem rq3_back {t o n : Int} (h1 : fits t) (h2 : fits o) (h3 : fits n) : (oneR ⟨encR (rq3 t o n), false⟩).2 = 3 ∧ decR (encR (rq3 t o n)) = (rq3 t o n, true) := by
  have e := rq3_encR h1 h2 h3
  have ea : oneR ⟨3 :: (numB t ++ numB o ++ numB n), false⟩ = (⟨numB t ++ (numB o ++ (numB n ++ [])), false⟩, 3) := by
    rw [one_back, List.append_nil, List.append_assoc]; rfl
  rw [e, ea]
  refine ⟨rfl, ?_⟩
  unfold decR rd3
  simp only [ea, num_back h1, num_back h2, num_back h3]
  rw [if_neg (show ¬ (false = true ∨ encR (rq3 t o n) ≠ 3 :: (numB t ++ numB o ++ numB n) ∨ 3 :: (numB t ++ numB o ++ numB n) = []) by
    rintro (h | h | h)
    · cases h
    · exact h e
    · cases h)]
end Go.Proofs.Ytpoegfkajdbplaa
namespace Go.Proofs.Ytpoegfkajdbplaa
open Go.Dm Go.Dm.Sx
set_option linter.unusedVariables false
set_option linter.unusedSimpArgs false
set_option pp.deepTerms true
set_option pp.maxSteps 100000
set_option maxRecDepth 100000 in
set_option cbv.maxSteps 10000000 in
noncomputable def k_Kinds : Wk (X [s_Within, s_Right, s_Encode, s_Decode, s_SameB, s_Reqs, s_Runs]) w_glosslaw23_ReqKinds.F [tI, tI] [.bool] 3 := ⟨_, by cbv, _, by cbv, _, by cbv⟩
def s_Kinds : FSpec Un := ⟨⟨f_glosslaw23_ReqKinds, [tI, tI], [.bool]⟩, fun _ => True, fun _ => [DB true], fun _ => rfl⟩
end Go.Proofs.Ytpoegfkajdbplaa
