/- Printed by merge.py: many texts in one. -/
import Derived.Test.YtpoegfkajdbplaaMh
import Derived.Test.YtpoegfkajdbplaaMc

namespace Go.Proofs.Ytpoegfkajdbplaa
open Go.Dm Go.Dm.Sx
set_option linter.unusedVariables false
set_option linter.unusedSimpArgs false
abbrev DI (n : Int) : Dyn Un.B := ⟨.int .i64, n⟩
abbrev DK (k : IntKind) (n : Int) : Dyn Un.B := ⟨.int k, n⟩
abbrev DB (n : Bool) : Dyn Un.B := ⟨.bool, n⟩
abbrev DS (n : List UInt8) : Dyn Un.B := ⟨.str, n⟩
abbrev DL (t : Ty) (l : List (T Un.B t)) : Dyn Un.B := ⟨.list t, l⟩
abbrev Str := List UInt8
noncomputable abbrev X (Sp : List (FSpec Un)) (inl : List (Ent Try.prog tb (stlW tb)) := []) (sm : List Nat := []) : SEnv := XE Un tyO Sp inl sm
abbrev tI : In := .ty (.int .i64)
abbrev tU : In := .ty (.int .u8)
abbrev tB : In := .ty .bool
abbrev tS : In := .ty .str
abbrev tLS : In := .ty (.list .str)
abbrev tLI : In := .ty (.list (.int .i64))
abbrev oI : Ty := .int .i64
def within (n lo hi : Int) : Int := lo + n % (hi - lo + 1)
noncomputable def k_Within : Wk (X []) w_glossbook_Within.F [tI, tI, tI] [oI] := ⟨_, by cbv, _, by cbv, _, by cbv⟩
def s_Within : FSpec Un := ⟨⟨f_glossbook_Within, [tI, tI, tI], [oI]⟩, fun ((n : Int), (lo : Int), (hi : Int), _) => -1152921504606846976 ≤ lo ∧ lo ≤ hi ∧ hi ≤ 1152921504606846976, fun (n, lo, hi, _) => [DI (within n lo hi)], fun _ => rfl⟩
theorem tmod_emod {a m : Int} (hm : 0 < m) : (a.tmod m < 0 → a.tmod m + m = a % m) ∧ (0 ≤ a.tmod m → a.tmod m = a % m) ∧ -m < a.tmod m ∧ a.tmod m < m := by
  have h1 := Int.tmod_eq_emod (a := a) (b := m)
  have h2 := Int.emod_nonneg a (show m ≠ 0 by omega)
  have h3 := Int.emod_lt_of_pos a hm
  have h4 : (m.natAbs : Int) = m := by omega
  split at h1 <;> refine ⟨fun h => ?_, fun h => ?_, ?_, ?_⟩ <;> omega
theorem within_ok : FGood Try.prog s_Within := by
  refine Wk.ok mixed tok (envOk .nil [] no_same) w_glossbook_Within k_Within rfl rfl ?_
  rintro ⟨(n : Int), (lo : Int), (hi : Int), _⟩ hpre R hR Go hGo
  replace hR : R = [DI (within n lo hi)] := hR
  replace hpre : -1152921504606846976 ≤ lo ∧ lo ≤ hi ∧ hi ≤ 1152921504606846976 := hpre
  show TDen _ _ _ _ [DI n, DI lo, DI hi]
  simp [k_Within, TDen, Tm.den, nthD, in64, hR, within]
  obtain ⟨h1, h2, h3⟩ := hpre
  have hm : 0 < hi - lo + 1 := by omega
  obtain ⟨t1, t2, t3, t4⟩ := tmod_emod (a := n) hm
  refine ⟨by omega, by omega, by omega, fun h => ⟨?_, ?_, ?_, ?_, ?_⟩, fun h => ⟨?_, ?_⟩⟩ <;> omega
theorem within_in {n lo hi : Int} (h : lo ≤ hi) : lo ≤ within n lo hi ∧ within n lo hi ≤ hi := by
  have h2 := Int.emod_nonneg n (show hi - lo + 1 ≠ 0 by omega)
  have h3 := Int.emod_lt_of_pos n (show 0 < hi - lo + 1 by omega)
  unfold within
  omega
noncomputable def k_SameS : Wk (X []) w_glossbook_Same_string.F [tLS, tLS] [.bool] := ⟨_, by cbv, _, by cbv, _, by cbv⟩
def s_SameS : FSpec Un := ⟨⟨f_glossbook_Same_string, [tLS, tLS], [.bool]⟩, fun (a, b, _) => List.length a ≤ 1000000, fun (a, b, _) => [DB (decide (a = b))], fun _ => rfl⟩
theorem sameS_ok : FGood Try.prog s_SameS := by
  refine Wk.ok mixed tok (envOk .nil [] no_same) w_glossbook_Same_string k_SameS rfl rfl ?_
  rintro ⟨(a : List Str), (b : List Str), _⟩ hpre R hR Go hGo
  replace hR : R = [DB (decide (a = b))] := hR
  replace hpre : a.length ≤ 1000000 := hpre
  show TDen _ _ _ _ [DL .str a, DL .str b]
  simp [k_SameS, TDen, Tm.den, nthD]
  refine ⟨fun h => ?_, fun h => ?_⟩
  · rw [hR, decide_eq_false]; intro e; rw [e] at h; exact h rfl
  · refine hGo 0 _ rfl Nat (fun i => [DL .str a, DL .str b, DI i]) (fun i => i ≤ a.length ∧ ∀ j, j < i → a[j]? = b[j]?) (fun i => a.length - i) (fun i hI ih => ?_) 0 ⟨Nat.zero_le _, fun j hj => by omega⟩
    simp [TDen, Tm.den, nthD]
    obtain ⟨hi, hs⟩ := hI
    have hab : a.length = b.length := by omega
    refine ⟨fun h1 => ⟨h1, fun x hx => ⟨by omega, fun y hy => ⟨fun hne => ?_, fun he => ⟨by simp only [in64]; omega, ?_⟩⟩⟩⟩, fun h1 => ?_⟩
    · rw [hR, decide_eq_false]; rintro rfl; rw [hx] at hy; exact hne (Option.some.inj hy)
    · refine ih (i + 1) (by omega) ⟨by omega, fun j hj => ?_⟩
      rcases Nat.lt_succ_iff_lt_or_eq.1 hj with hj | rfl
      · exact hs j hj
      · rw [hx, hy, he]
    · rw [hR, decide_eq_true]
      apply List.ext_getElem?
      intro j
      by_cases hj : j < i
      · exact hs j hj
      · rw [List.getElem?_eq_none (by omega), List.getElem?_eq_none (by omega)]
end Go.Proofs.Ytpoegfkajdbplaa
namespace Go.Proofs.Ytpoegfkajdbplaa
open Go.Dm Go.Dm.Sx
set_option linter.unusedVariables false
set_option linter.unusedSimpArgs false
set_option pp.deepTerms true
set_option pp.maxSteps 100000
abbrev oU : Ty := .int .u8
abbrev DU (l : List Int) : Dyn Un.B := ⟨.list (.int .u8), l⟩
def numB (n : Int) : List Int := [n / 16777216 % 256, n / 65536 % 256, n / 256 % 256, n % 256]
def bytesOf (s : List UInt8) : List Int := s.map fun b => (b.toNat : Int)
noncomputable def k_number : Wk (X []) w_req_number.F [tI] [.list oU] := ⟨_, by cbv, _, by cbv, _, by cbv⟩
def s_number : FSpec Un := ⟨⟨f_req_number, [tI], [.list oU]⟩, fun _ => True, fun (n, _) => [DU (numB n)], fun _ => rfl⟩
theorem wrap8 (n : Int) : IntKind.u8.wrap n = n % 256 := rfl
theorem wrap32 (n : Int) : IntKind.u32.wrap n = n % 4294967296 := rfl
theorem numB_eq (n : Int) : [IntKind.u8.wrap (barith BinOp.shr IntKind.u32 (IntKind.u32.wrap n) 24), IntKind.u8.wrap (barith BinOp.shr IntKind.u32 (IntKind.u32.wrap n) 16), IntKind.u8.wrap (barith BinOp.shr IntKind.u32 (IntKind.u32.wrap n) 8), IntKind.u8.wrap (IntKind.u32.wrap n)] = numB n := by
  have h1 : ∀ a : Int, barith .shr .u32 a 24 = a.fdiv 16777216 := fun a => rfl
  have h2 : ∀ a : Int, barith .shr .u32 a 16 = a.fdiv 65536 := fun a => rfl
  have h3 : ∀ a : Int, barith .shr .u32 a 8 = a.fdiv 256 := fun a => rfl
  rw [h1, h2, h3, Int.fdiv_eq_ediv_of_nonneg _ (by decide), Int.fdiv_eq_ediv_of_nonneg _ (by decide), Int.fdiv_eq_ediv_of_nonneg _ (by decide)]
  simp only [wrap8, wrap32, numB]
  congr 1
  · omega
  · congr 1
    · omega
    · congr 1
      · omega
      · congr 1; omega
theorem number_ok : FGood Try.prog s_number := by
  refine Wk.ok mixed tok (envOk .nil [] no_same) w_req_number k_number rfl rfl ?_
  rintro ⟨(n : Int), _⟩ hpre R hR Go hGo
  replace hR : R = [DU (numB n)] := hR
  show TDen _ _ _ _ [DI n]
  rw [← numB_eq] at hR
  simp [k_number, TDen, Tm.den, nthD, hR]
theorem numB_cons (n : Int) (l : List Int) : IntKind.u8.wrap (barith BinOp.shr IntKind.u32 (IntKind.u32.wrap n) 24) :: IntKind.u8.wrap (barith BinOp.shr IntKind.u32 (IntKind.u32.wrap n) 16) :: IntKind.u8.wrap (barith BinOp.shr IntKind.u32 (IntKind.u32.wrap n) 8) :: IntKind.u8.wrap (IntKind.u32.wrap n) :: l = numB n ++ l := by
  rw [← numB_eq]; rfl
theorem numB_len (n : Int) : (numB n).length = 4 := rfl
noncomputable def k_text : Wk (X [] [w_req_number]) w_req_text.F [tS] [.list oU] := ⟨_, by cbv, _, by cbv, _, by cbv⟩
def s_text : FSpec Un := ⟨⟨f_req_text, [tS], [.list oU]⟩, fun (s, _) => List.length s ≤ 1000000000, fun (s, _) => [DU (numB (List.length s) ++ bytesOf s)], fun _ => rfl⟩
theorem text_ok : FGood Try.prog s_text := by
  refine Wk.ok mixed tok (envOk .nil [w_req_number] no_same) w_req_text k_text rfl rfl ?_
  rintro ⟨(s : List UInt8), _⟩ hpre R hR Go hGo
  replace hpre : s.length ≤ 1000000000 := hpre
  replace hR : R = [DU (numB (List.length s) ++ bytesOf s)] := hR
  show TDen _ _ _ _ [DS s]
  simp [k_text, TDen, Tm.den, nthD, hR]
  exact ⟨by omega, by omega, numB_cons _ _⟩
noncomputable def k_texts : Wk (X [s_text] [w_req_number]) w_req_texts.F [tLS] [.list oU] := ⟨_, by cbv, _, by cbv, _, by cbv⟩
def textsB : List Str → List Int
  | [] => []
  | s :: r => numB s.length ++ bytesOf s ++ textsB r
def s_texts : FSpec Un := ⟨⟨f_req_texts, [tLS], [.list oU]⟩, fun (l, _) => (textsB l).length ≤ 1000000000, fun (l, _) => [DU (numB (List.length l) ++ textsB l)], fun _ => rfl⟩
theorem textsB_app : ∀ a b : List Str, textsB (a ++ b) = textsB a ++ textsB b
  | [], b => rfl
  | s :: r, b => by simp [textsB, textsB_app r b]
theorem textsB_len : ∀ l : List Str, 4 * l.length ≤ (textsB l).length
  | [] => by simp [textsB]
  | s :: r => by
    have := textsB_len r
    simp only [textsB, List.length_append, numB_len, List.length_cons]; omega
theorem drop_get {α : Type} {l : List α} {i : Nat} {x : α} (h : l[i]? = some x) : l.drop i = x :: l.drop (i + 1) := by
  obtain ⟨h1, h2⟩ := List.getElem?_eq_some_iff.1 h
  rw [List.drop_eq_getElem_cons h1, h2]
theorem take_get {α : Type} {l : List α} {i : Nat} {x : α} (h : l[i]? = some x) : l.take (i + 1) = l.take i ++ [x] := by
  rw [List.take_add_one, h]; rfl
theorem textsB_take {l : List Str} {i : Nat} {x : Str} (h : l[i]? = some x) : (textsB l).length = (textsB (l.take i)).length + (4 + x.length) + (textsB (l.drop (i + 1))).length := by
  conv => lhs; rw [← List.take_append_drop i l, drop_get h, textsB_app]
  simp [textsB, numB_len, bytesOf]; omega
theorem texts_ok : FGood Try.prog s_texts := by
  refine Wk.ok mixed tok (envOk (.cons text_ok .nil) [w_req_number] no_same) w_req_texts k_texts rfl rfl ?_
  rintro ⟨(l : List Str), _⟩ hpre R hR Go hGo
  replace hR : R = [DU (numB (List.length l) ++ textsB l)] := hR
  replace hpre : (textsB l).length ≤ 1000000000 := hpre
  have hl := textsB_len l
  show TDen _ _ _ _ [DL .str l]
  simp [k_texts, TDen, Tm.den, nthD, s_text]
  rw [numB_eq]
  refine hGo 0 _ rfl Nat (fun i => [DL .str l, DI l.length, DI i, DU (numB l.length ++ textsB (l.take i))]) (fun i => i ≤ l.length) (fun i => l.length - i) (fun i hI ih => ?_) 0 (Nat.zero_le _)
  simp [TDen, Tm.den, nthD, s_text, in64]
  refine ⟨fun hi => ⟨hi, fun (x : Str) hx => ?_⟩, fun hi => by rw [hR, List.take_of_length_le hi]⟩
  have h1 := textsB_take hx
  have h2 := ih (i + 1) (by omega) (by omega)
  rw [take_get hx, textsB_app] at h2
  have h3 : (bytesOf x).length = x.length := by simp [bytesOf]
  simp only [numB_len, h3]
  exact ⟨by omega, by omega, by omega, by omega, by simpa [textsB] using h2⟩
noncomputable def k_flag : Wk (X []) w_req_flag.F [tB] [oU] := ⟨_, by cbv, _, by cbv, _, by cbv⟩
def s_flag : FSpec Un := ⟨⟨f_req_flag, [tB], [oU]⟩, fun _ => True, fun (b, _) => [DK .u8 (if b = true then 1 else 0)], fun _ => rfl⟩
theorem flag_ok : FGood Try.prog s_flag := by
  refine Wk.ok mixed tok (envOk .nil [] no_same) w_req_flag k_flag rfl rfl ?_
  rintro ⟨(b : Bool), _⟩ hpre R hR Go hGo
  replace hR : R = [DK .u8 (if b = true then 1 else 0)] := hR
  show TDen _ _ _ _ [DB b]
  simp [k_flag, TDen, Tm.den, nthD, hR]
end Go.Proofs.Ytpoegfkajdbplaa
namespace Go.Proofs.Ytpoegfkajdbplaa
open Go.Dm Go.Dm.Sx
set_option linter.unusedVariables false
set_option linter.unusedSimpArgs false
set_option pp.deepTerms true
set_option pp.maxSteps 100000
abbrev DR (r : Req) : Dyn Un.B := ⟨.base 2, r⟩
def far (n : Int) : Bool := decide (n < -2147483648) || decide (2147483647 < n)
noncomputable def k_far : Wk (X []) w_req_numbers_1.F [tI] [.bool] := ⟨_, by cbv, _, by cbv, _, by cbv⟩
def s_far : FSpec Un := ⟨⟨f_req_numbers_1, [tI], [.bool]⟩, fun _ => True, fun (n, _) => [DB (far n)], fun _ => rfl⟩
theorem far_ok : FGood Try.prog s_far := by
  refine Wk.ok mixed tok (envOk .nil [] no_same) w_req_numbers_1 k_far rfl rfl ?_
  rintro ⟨(n : Int), _⟩ hpre R hR Go hGo
  replace hR : R = [DB (far n)] := hR
  show TDen _ _ _ _ [DI n]
  simp [k_far, TDen, Tm.den, nthD, hR, far]
  omega
def firstIx {α : Type} (p : α → Bool) : List α → Int → Int
  | [], _ => -1
  | x :: r, i => if p x = true then i else firstIx p r (i + 1)
theorem firstIx_any {α : Type} (p : α → Bool) : ∀ (l : List α) (i : Int), 0 ≤ i → decide (0 ≤ firstIx p l i) = l.any p
  | [], i, h => rfl
  | x :: r, i, h => by
    unfold firstIx
    cases hx : p x
    · simp only [Bool.false_eq_true, if_false]; rw [firstIx_any p r (i + 1) (by omega)]; simp [hx]
    · simp [hx, h]
noncomputable def k_IndexFunc : Wk (X [s_far]) w_slices_IndexFunc_int_int.F [tLI, .fnc f_req_numbers_1] [oI] := ⟨_, by cbv, _, by cbv, _, by cbv⟩
def s_IndexFunc : FSpec Un := ⟨⟨f_slices_IndexFunc_int_int, [tLI, .fnc f_req_numbers_1], [oI]⟩, fun (l, _) => List.length l ≤ 1000000000, fun ((l : List Int), _) => [DI (firstIx far l 0)], fun _ => rfl⟩
theorem indexFunc_ok : FGood Try.prog s_IndexFunc := by
  refine Wk.ok mixed tok (envOk (.cons far_ok .nil) [] no_same) w_slices_IndexFunc_int_int k_IndexFunc rfl rfl ?_
  rintro ⟨(l : List Int), _⟩ hpre R hR Go hGo
  replace hR : R = [DI (firstIx far l 0)] := hR
  replace hpre : l.length ≤ 1000000000 := hpre
  show TDen _ _ _ _ [DL oI l]
  simp [k_IndexFunc, TDen, Tm.den, nthD]
  refine hGo 0 _ rfl Nat (fun i => [DL oI l, DI l.length, DI i]) (fun i => i ≤ l.length ∧ firstIx far l 0 = firstIx far (l.drop i) i) (fun i => l.length - i) (fun i hI ih => ?_) 0 ⟨Nat.zero_le _, rfl⟩
  simp [TDen, Tm.den, nthD, s_far, in64]
  obtain ⟨h1, h2⟩ := hI
  refine ⟨fun hi => ⟨hi, fun x hx => ?_⟩, fun hi => ?_⟩
  · rw [drop_get hx] at h2
    refine ⟨fun hb => ?_, fun hb => ⟨by omega, ih (i + 1) (by omega) ⟨by omega, ?_⟩⟩⟩
    · rw [hR, h2]; simp [firstIx, hb]
    · rw [h2]; simp [firstIx, hb]
  · rw [hR, h2, List.drop_of_length_le hi]; rfl
noncomputable def k_ContainsFunc : Wk (X [s_IndexFunc]) w_slices_ContainsFunc_int_int.F [tLI, .fnc f_req_numbers_1] [.bool] := ⟨_, by cbv, _, by cbv, _, by cbv⟩
def s_ContainsFunc : FSpec Un := ⟨⟨f_slices_ContainsFunc_int_int, [tLI, .fnc f_req_numbers_1], [.bool]⟩, fun (l, _) => List.length l ≤ 1000000000, fun ((l : List Int), _) => [DB (l.any far)], fun _ => rfl⟩
theorem containsFunc_ok : FGood Try.prog s_ContainsFunc := by
  refine Wk.ok mixed tok (envOk (.cons indexFunc_ok .nil) [] no_same) w_slices_ContainsFunc_int_int k_ContainsFunc rfl rfl ?_
  rintro ⟨(l : List Int), _⟩ hpre R hR Go hGo
  replace hR : R = [DB (l.any far)] := hR
  show TDen _ _ _ _ [DL oI l]
  simp [k_ContainsFunc, TDen, Tm.den, nthD, s_IndexFunc]
  exact ⟨hpre, by rw [hR, ← firstIx_any far l 0 (Int.le_refl _)]⟩
def edsN : List Edit → List Int
  | [] => []
  | e :: r => e.at_ :: e.cut :: edsN r
theorem edsN_app : ∀ a b : List Edit, edsN (a ++ b) = edsN a ++ edsN b
  | [], b => rfl
  | s :: r, b => by simp [edsN, edsN_app r b]
theorem edsN_len : ∀ l : List Edit, (edsN l).length = 2 * l.length
  | [] => rfl
  | s :: r => by simp [edsN, edsN_len r]; omega
def numsR (r : Req) : List Int := [r.to, r.off, r.n] ++ edsN r.edits
noncomputable def k_numbers : Wk (X [s_ContainsFunc]) w_req_numbers.F [.ty (.base 2)] [.bool] := ⟨_, by cbv, _, by cbv, _, by cbv⟩
def s_numbers : FSpec Un := ⟨⟨f_req_numbers, [.ty (.base 2)], [.bool]⟩, fun ((r : Req), _) => r.edits.length ≤ 100000000, fun ((r : Req), _) => [DB (!(numsR r).any far)], fun _ => rfl⟩
theorem numbers_ok : FGood Try.prog s_numbers := by
  refine Wk.ok mixed tok (envOk (.cons containsFunc_ok .nil) [] no_same) w_req_numbers k_numbers rfl rfl ?_
  rintro ⟨(r : Req), _⟩ hpre R hR Go hGo
  replace hR : R = [DB (!(numsR r).any far)] := hR
  replace hpre : r.edits.length ≤ 100000000 := hpre
  show TDen _ _ _ _ [DR r]
  simp [k_numbers, TDen, Tm.den, nthD]
  refine hGo 0 _ rfl Nat (fun i => [DL (.base 0) r.edits, DI r.edits.length, DI i, DI r.kind, DS r.script, DB r.opts.quiet, DB r.opts.ere, DL .str r.lines, DL (.base 0) r.edits, DI r.to, DI r.off, DI r.n, DL oI ([r.to, r.off, r.n] ++ edsN (r.edits.take i))]) (fun i => i ≤ r.edits.length) (fun i => r.edits.length - i) (fun i hI ih => ?_) 0 (Nat.zero_le _)
  simp [TDen, Tm.den, nthD, s_ContainsFunc, in64]
  have hl := edsN_len (r.edits.take i)
  rw [List.length_take] at hl
  refine ⟨fun hi => ⟨hi, fun (x : Edit) hx => ?_⟩, fun hi => ⟨by omega, ?_⟩⟩
  · have h2 := ih (i + 1) (by omega) (by omega)
    rw [take_get (α := Edit) hx, edsN_app] at h2
    exact ⟨by omega, by omega, by omega, by simpa [edsN] using h2⟩
  · rw [hR, List.take_of_length_le hi]
    simp [numsR]
noncomputable def k_Clone : Wk (X []) w_slices_Clone_string_string.F [tLS] [.list .str] := ⟨_, by cbv, _, by cbv, _, by cbv⟩
def s_Clone : FSpec Un := ⟨⟨f_slices_Clone_string_string, [tLS], [.list .str]⟩, fun ((ls : List Str), _) => ls.length ≤ 1000000000, fun ((ls : List Str), _) => [DL .str ls], fun _ => rfl⟩
theorem clone_ok : FGood Try.prog s_Clone := by
  refine Wk.ok mixed tok (envOk .nil [] no_same) w_slices_Clone_string_string k_Clone rfl rfl ?_
  rintro ⟨(ls : List Str), _⟩ hpre R hR Go hGo
  replace hR : R = [DL .str ls] := hR
  replace hpre : ls.length ≤ 1000000000 := hpre
  show TDen _ _ _ _ [DL .str ls]
  simp [k_Clone, TDen, Tm.den, nthD, in64]
  exact ⟨fun h => ⟨by rw [hR, h], by omega, by omega, hR.symm⟩, fun h => ⟨by omega, by omega, hR.symm⟩⟩
def takeE (l : List Edit) (i : Nat) : List Edit := l.take i
theorem takeE_succ {l : List Edit} {i : Nat} {x : Edit} (h : l[i]? = some x) : takeE l (i + 1) = takeE l i ++ [x] := take_get h
theorem takeE_len (l : List Edit) (i : Nat) : (takeE l i).length = min i l.length := by simp [takeE]
theorem takeE_all {l : List Edit} {i : Nat} (h : l.length ≤ i) : takeE l i = l := List.take_of_length_le h
abbrev DLE (l : List Edit) : Dyn Un.B := ⟨.list (.base 0), l⟩
def plainR (r : Req) : Req :=
  if r.kind = 1 then ⟨r.kind, r.script, r.opts, r.lines, [], 0, 0, 0⟩ else
  if r.kind = 2 then ⟨r.kind, [], ⟨false, false⟩, [], r.edits, 0, 0, 0⟩ else
  if r.kind = 3 then ⟨r.kind, [], ⟨false, false⟩, [], [], r.to, r.off, r.n⟩ else ⟨r.kind, [], ⟨false, false⟩, [], [], 0, 0, 0⟩
noncomputable def k_Plain : Wk (X [s_Clone]) w_req_Plain.F [.ty (.base 2)] [.base 2] := ⟨_, by cbv, _, by cbv, _, by cbv⟩
def s_Plain : FSpec Un := ⟨⟨f_req_Plain, [.ty (.base 2)], [.base 2]⟩, fun ((r : Req), _) => r.lines.length ≤ 100000000 ∧ r.edits.length ≤ 100000000 ∧ ∀ e : Edit, e ∈ r.edits → e.put.length ≤ 100000000, fun ((r : Req), _) => [DR (plainR r)], fun _ => rfl⟩
theorem plain_ok : FGood Try.prog s_Plain := by
  refine Wk.ok mixed tok (envOk (.cons clone_ok .nil) [] no_same) w_req_Plain k_Plain rfl rfl ?_
  rintro ⟨(r : Req), _⟩ hpre R hR Go hGo
  replace hR : R = [DR (plainR r)] := hR
  replace hpre : r.lines.length ≤ 100000000 ∧ r.edits.length ≤ 100000000 ∧ ∀ e : Edit, e ∈ r.edits → e.put.length ≤ 100000000 := hpre
  show TDen _ _ _ _ [DR r]
  obtain ⟨p1, p2, p3⟩ := hpre
  simp [k_Plain, TDen, Tm.den, nthD, s_Clone]
  refine ⟨fun h1 => ⟨by omega, ?_⟩, fun h1 => ⟨fun h2 => ?_, fun h2 => ⟨fun h3 => ?_, fun h3 => ?_⟩⟩⟩
  · rw [hR]; simp only [plainR, if_pos h1]; first | rfl | (intro y hy; subst hy; rfl)
  · refine hGo 0 _ rfl Nat (fun i => [DL (.base 0) r.edits, DI r.edits.length, DI i, DI r.kind, DS r.script, DB r.opts.quiet, DB r.opts.ere, DL .str r.lines, DL (.base 0) r.edits, DI r.to, DI r.off, DI r.n, DI 0, DS [], DB false, DB false, DI 0, DI 0, DI 0, DI r.kind, DS [], DB false, DB false, DI 0, DI 0, DI 0, DLE (takeE r.edits i)]) (fun i => i ≤ r.edits.length) (fun i => r.edits.length - i) (fun i hI ih => ?_) 0 (Nat.zero_le _)
    simp [TDen, Tm.den, nthD, s_Clone, in64]
    refine ⟨fun hi => ⟨hi, fun (x : Edit) hx => ⟨?_, ?_⟩⟩, fun hi => ?_⟩
    · have := p3 x (List.mem_of_getElem? (α := Edit) hx); omega
    · rintro (y : Edit) rfl
      have h2 := ih (i + 1) (by omega) (by omega)
      rw [takeE_succ hx] at h2
      have hl : (takeE r.edits i ++ [(⟨x.at_, x.cut, x.put⟩ : Edit)]).length = min i r.edits.length + 1 := by simp [takeE_len]
      exact ⟨Nat.le_trans (Nat.mul_le_mul_right _ (Nat.le_of_eq hl)) (by omega), Nat.le_trans (Nat.le_of_eq hl) (by omega), by omega, h2⟩
    · rw [hR, takeE_all hi]
      simp only [plainR, if_neg h1, if_pos h2]
      first | rfl | (intro y hy; subst hy; rfl)
  · rw [hR]; simp only [plainR, if_neg h1, if_neg h2, if_pos h3]; first | rfl | (intro y hy; subst hy; rfl)
  · rw [hR]; simp only [plainR, if_neg h1, if_neg h2, if_neg h3]; first | rfl | (intro y hy; subst hy; rfl)
end Go.Proofs.Ytpoegfkajdbplaa
namespace Go.Proofs.Ytpoegfkajdbplaa
open Go.Dm Go.Dm.Sx
set_option linter.unusedVariables false
set_option linter.unusedSimpArgs false
set_option pp.deepTerms true
set_option pp.maxSteps 100000
def flB (b : Bool) : Int := if b = true then 1 else 0
def editsB : List Edit → List Int
  | [] => []
  | e :: r => numB e.at_ ++ numB e.cut ++ numB e.put.length ++ textsB e.put ++ editsB r
def restB (r : Req) : List Int :=
  if r.kind = 1 then numB r.script.length ++ bytesOf r.script ++ [flB r.opts.quiet, flB r.opts.ere] ++ numB r.lines.length ++ textsB r.lines else
  if r.kind = 2 then numB r.edits.length ++ editsB r.edits else
  if r.kind = 3 then numB r.to ++ numB r.off ++ numB r.n else []
def bodyB (r : Req) : List Int := r.kind % 256 :: restB r
theorem editsB_app : ∀ a b : List Edit, editsB (a ++ b) = editsB a ++ editsB b
  | [], b => rfl
  | s :: r, b => by simp [editsB, editsB_app r b]
def numsB : List Int → List Int
  | [] => []
  | n :: r => numB n ++ numsB r
theorem numsB_app : ∀ a b : List Int, numsB (a ++ b) = numsB a ++ numsB b
  | [], b => rfl
  | s :: r, b => by simp [numsB, numsB_app r b]
theorem numsB_len : ∀ l : List Int, (numsB l).length = 4 * l.length
  | [] => rfl
  | s :: r => by simp [numsB, numsB_len r, numB_len]; omega
theorem editsB_take {l : List Edit} {i : Nat} {x : Edit} (h : l[i]? = some x) : (editsB l).length = (editsB (takeE l i)).length + (12 + (textsB x.put).length) + (editsB (l.drop (i + 1))).length := by
  conv => lhs; rw [← List.take_append_drop i l, drop_get h, editsB_app]
  simp [editsB, numB_len, takeE]; omega
theorem bytesOf_len (s : Str) : (bytesOf s).length = s.length := by simp [bytesOf]
theorem editsB_len : ∀ l : List Edit, 12 * l.length ≤ (editsB l).length
  | [] => by simp [editsB]
  | s :: r => by have := editsB_len r; simp [editsB, numB_len]; omega
noncomputable def k_body : Wk (X [s_number, s_text, s_flag, s_texts]) w_req_body.F [.ty (.base 2)] [.list oU] := ⟨_, by cbv, _, by cbv, _, by cbv⟩
def s_body : FSpec Un := ⟨⟨f_req_body, [.ty (.base 2)], [.list oU]⟩, fun ((r : Req), _) => (bodyB r).length ≤ 1000000000, fun ((r : Req), _) => [DU (bodyB r)], fun _ => rfl⟩
theorem body_ok : FGood Try.prog s_body := by
  refine Wk.ok mixed tok (envOk (.cons number_ok (.cons text_ok (.cons flag_ok (.cons texts_ok .nil)))) [] no_same) w_req_body k_body rfl rfl ?_
  rintro ⟨(r : Req), _⟩ hpre R hR Go hGo
  replace hR : R = [DU (bodyB r)] := hR
  replace hpre : (bodyB r).length ≤ 1000000000 := hpre
  show TDen _ _ _ _ [DR r]
  simp [k_body, TDen, Tm.den, nthD, s_number, s_text, s_flag, s_texts]
  simp only [numB_len, bytesOf_len]
  have hk : IntKind.u8.wrap r.kind = r.kind % 256 := rfl
  rw [hk]
  unfold bodyB restB at hpre hR
  refine ⟨fun h1 => ?_, fun h1 => ⟨fun h2 => ⟨by omega, by omega, ?_⟩, fun h2 => ⟨fun h3 => ?_, fun h3 => ?_⟩⟩⟩
  · rw [if_pos h1] at hpre hR
    simp [numB_len, bytesOf_len] at hpre
    refine ⟨by omega, by omega, by omega, by omega, by omega, by omega, by omega, by omega, ?_⟩
    rw [hR]; simp [flB]
  · rw [if_neg h1, if_pos h2] at hpre hR
    simp only [List.length_cons, List.length_append, numB_len] at hpre
    have hel := editsB_len r.edits
    refine hGo 0 _ rfl Nat (fun i => [DLE r.edits, DI r.edits.length, DI i, DI r.kind, DS r.script, DB r.opts.quiet, DB r.opts.ere, DL .str r.lines, DLE r.edits, DI r.to, DI r.off, DI r.n, DU (r.kind % 256 :: (numB r.edits.length ++ editsB (takeE r.edits i)))]) (fun i => i ≤ r.edits.length) (fun i => r.edits.length - i) (fun i hI ih => ?_) 0 (Nat.zero_le _)
    simp [TDen, Tm.den, nthD, s_number, s_texts, in64]
    simp only [numB_len]
    refine ⟨fun hi => ⟨hi, fun (x : Edit) hx => ?_⟩, fun hi => ?_⟩
    · have h4 := ih (i + 1) (by omega) (by omega)
      rw [takeE_succ hx, editsB_app] at h4
      have h5 := editsB_take hx
      refine ⟨by omega, by omega, by omega, by omega, by omega, by omega, by omega, by omega, ?_⟩
      simpa [editsB] using h4
    · rw [hR, takeE_all hi]
  · rw [if_neg h1, if_neg h2, if_pos h3] at hpre hR
    refine hGo 1 _ rfl Nat (fun i => [DI 3, DI i, DI r.kind, DS r.script, DB r.opts.quiet, DB r.opts.ere, DL .str r.lines, DLE r.edits, DI r.to, DI r.off, DI r.n, DU (r.kind % 256 :: numsB (([r.to, r.off, r.n] : List Int).take i)), DL oI [r.to, r.off, r.n]]) (fun i => i ≤ 3) (fun i => 3 - i) (fun i hI ih => ?_) 0 (Nat.zero_le _)
    have hn := numsB_len (([r.to, r.off, r.n] : List Int).take i)
    have hl : (([r.to, r.off, r.n] : List Int).take i).length ≤ 3 := by simp; omega
    generalize hL : ([r.to, r.off, r.n] : List Int) = L at *
    have hL3 : L.length = 3 := by rw [← hL]; rfl
    simp [TDen, Tm.den, nthD, s_number, in64]
    simp only [numB_len]
    refine ⟨fun hi => ⟨by omega, fun (x : Int) hx => ⟨by omega, by omega, by omega, ?_⟩⟩, fun hi => ?_⟩
    · have h4 := ih (i + 1) (by omega) (by omega)
      rw [take_get hx, numsB_app] at h4
      simpa [numsB] using h4
    · rw [hR, List.take_of_length_le (by omega), ← hL]; simp [numsB]
  · rw [if_neg h1, if_neg h2, if_neg h3] at hR
    rw [hR]
theorem plain_kind (r : Req) : (plainR r).kind = r.kind := by
  unfold plainR
  split
  · rfl
  · split
    · rfl
    · split <;> rfl
theorem plain_edits (r : Req) : (plainR r).edits.length ≤ r.edits.length := by
  unfold plainR
  split
  · exact Nat.zero_le _
  · split
    · exact Nat.le_refl _
    · split <;> exact Nat.zero_le _
theorem plain_body (r : Req) : bodyB (plainR r) = bodyB r := by
  unfold bodyB restB
  rw [plain_kind]
  unfold plainR
  split
  · rfl
  · split
    · rfl
    · split <;> rfl
def fewR (r : Req) : Prop := r.lines.length ≤ 100000000 ∧ r.edits.length ≤ 100000000 ∧ (∀ e : Edit, e ∈ r.edits → e.put.length ≤ 100000000) ∧ (bodyB r).length ≤ 1000000000
def rightR (r : Req) : Bool := decide (1 ≤ r.kind) && decide (r.kind ≤ 5) && !(numsR (plainR r)).any far && decide ((plainR r).edits.length ≤ 8) && decide ((bodyB r).length ≤ 20000)
noncomputable def k_Right : Wk (X [s_Plain, s_numbers, s_body]) w_req_Right.F [.ty (.base 2)] [.bool] := ⟨_, by cbv, _, by cbv, _, by cbv⟩
def s_Right : FSpec Un := ⟨⟨f_req_Right, [.ty (.base 2)], [.bool]⟩, fun ((r : Req), _) => fewR r, fun ((r : Req), _) => [DB (rightR r)], fun _ => rfl⟩
theorem right_ok : FGood Try.prog s_Right := by
  refine Wk.ok mixed tok (envOk (.cons plain_ok (.cons numbers_ok (.cons body_ok .nil))) [] no_same) w_req_Right k_Right rfl rfl ?_
  rintro ⟨(r : Req), _⟩ hpre R hR Go hGo
  replace hR : R = [DB (rightR r)] := hR
  replace hpre : fewR r := hpre
  show TDen _ _ _ _ [DR r]
  simp [k_Right, TDen, Tm.den, nthD, s_Plain, s_numbers, s_body]
  obtain ⟨f1, f2, f3, f4⟩ := hpre
  have hk := plain_kind r
  have he := plain_edits r
  have hb := plain_body r
  rw [hk, hb]
  refine ⟨⟨f1, f2, f3⟩, fun k1 => ⟨fun k2 => ⟨by omega, fun h1 => ⟨fun (h2 : (((plainR r).edits.length : Nat) : Int) ≤ 8) => ⟨f4, ?_⟩, fun (h2 : 8 < (((plainR r).edits.length : Nat) : Int)) => ?_⟩, fun x h1 h2 => ?_⟩, fun k2 => ?_⟩, fun k1 => ?_⟩
  all_goals rw [hR]
  all_goals unfold rightR
  · have : (numsR (plainR r)).any far = false := by rw [List.any_eq_false]; intro x hx; rw [h1 x hx]; simp
    rw [this, decide_eq_true k1, decide_eq_true k2, decide_eq_true (show (plainR r).edits.length ≤ 8 by omega)]
    simp
    omega
  · rw [decide_eq_false (p := (plainR r).edits.length ≤ 8) (by omega)]; simp
  · have : (numsR (plainR r)).any far = true := by rw [List.any_eq_true]; exact ⟨x, h1, h2⟩
    rw [this]; simp
  · rw [decide_eq_false (p := r.kind ≤ 5) (by omega)]; simp
  · rw [decide_eq_false (p := 1 ≤ r.kind) (by omega)]; simp
noncomputable def k_Encode : Wk (X [s_Plain, s_Right, s_body]) w_req_Encode.F [.ty (.base 2)] [.list oU] := ⟨_, by cbv, _, by cbv, _, by cbv⟩
def encR (r : Req) : List Int := if rightR r = true then bodyB r else []
def s_Encode : FSpec Un := ⟨⟨f_req_Encode, [.ty (.base 2)], [.list oU]⟩, fun ((r : Req), _) => fewR r, fun ((r : Req), _) => [DU (encR r)], fun _ => rfl⟩
theorem encode_ok : FGood Try.prog s_Encode := by
  refine Wk.ok mixed tok (envOk (.cons plain_ok (.cons right_ok (.cons body_ok .nil))) [] no_same) w_req_Encode k_Encode rfl rfl ?_
  rintro ⟨(r : Req), _⟩ hpre R hR Go hGo
  replace hR : R = [DU (encR r)] := hR
  replace hpre : fewR r := hpre
  show TDen _ _ _ _ [DR r]
  simp [k_Encode, TDen, Tm.den, nthD, s_Plain, s_Right, s_body]
  unfold encR at hR
  refine ⟨hpre, fun h => ?_, fun h => ⟨⟨hpre.1, hpre.2.1, hpre.2.2.1⟩, ?_, ?_⟩⟩
  · rw [hR, h]; rfl
  · rw [plain_body]; exact hpre.2.2.2
  · rw [hR, if_pos h, plain_body]
end Go.Proofs.Ytpoegfkajdbplaa
namespace Go.Proofs.Ytpoegfkajdbplaa
open Go.Dm Go.Dm.Sx
set_option linter.unusedVariables false
set_option linter.unusedSimpArgs false
set_option pp.deepTerms true
set_option pp.maxSteps 100000
def s_Runs : FSpec Un := ⟨⟨f_glosslaw23_ReqRuns, [], [.bool]⟩, fun _ => True, fun _ => [DB true], fun _ => rfl⟩
set_option maxRecDepth 100000 in
noncomputable def k_Big : Wk (X [s_Within, s_Right, s_Encode, s_Runs]) w_glosslaw23_ReqBig.F [tI] [.bool] := ⟨_, by cbv, _, by cbv, _, by cbv⟩
abbrev rq1 (s : Str) : Req := ⟨1, s, ⟨false, false⟩, [], [], 0, 0, 0⟩
abbrev rq2 (es : List Edit) : Req := ⟨2, [], ⟨false, false⟩, [], es, 0, 0, 0⟩
theorem rq1_len (s : Str) : (bodyB (rq1 s)).length = s.length + 11 := by simp [bodyB, restB, numB_len, bytesOf_len, textsB]; omega
theorem rq1_facts {s : Str} (h : s.length ≤ 100000000) : fewR (rq1 s) ∧ rightR (rq1 s) = decide ((s.length : Int) + 11 ≤ 20000) ∧ (0 < (encR (rq1 s)).length ↔ (s.length : Int) + 11 ≤ 20000) := by
  have hl := rq1_len s
  have hr : rightR (rq1 s) = decide ((s.length : Int) + 11 ≤ 20000) := by
    unfold rightR
    rw [hl]
    have : (numsR (plainR (rq1 s))).any far = false := by simp [plainR, numsR, edsN, far]
    rw [this]
    simp [plainR]
    omega
  refine ⟨⟨by simp, by simp, by simp, by omega⟩, hr, ?_⟩
  unfold encR
  rw [hr]
  by_cases hs : (s.length : Int) + 11 ≤ 20000
  · rw [decide_eq_true hs, if_pos rfl, hl]; simp [hs]
  · rw [decide_eq_false hs]; simp [hs]
abbrev e0 : Edit := ⟨0, 0, []⟩
theorem editsB_rep : ∀ m : Nat, (editsB (List.replicate m e0)).length = 12 * m
  | 0 => rfl
  | m + 1 => by simp [List.replicate_succ, editsB, editsB_rep m, numB_len, textsB]; omega
theorem edsN_rep : ∀ m : Nat, (edsN (List.replicate m e0)).any far = false
  | 0 => rfl
  | m + 1 => by simp only [List.replicate_succ, edsN, List.any_cons, edsN_rep m]; rfl
theorem rq2_facts {m : Nat} (h : m ≤ 11) : fewR (rq2 (List.replicate m e0)) ∧ rightR (rq2 (List.replicate m e0)) = decide (m ≤ 8) := by
  have hl : (bodyB (rq2 (List.replicate m e0))).length = 5 + 12 * m := by
    simp [bodyB, restB, numB_len, editsB_rep]; omega
  refine ⟨⟨by simp, by simp; omega, fun e he => by rw [List.eq_of_mem_replicate he]; simp, by omega⟩, ?_⟩
  unfold rightR
  rw [hl]
  have : (numsR (plainR (rq2 (List.replicate m e0)))).any far = false := by
    have := edsN_rep m
    have h0 : far 0 = false := rfl
    have hp : plainR (rq2 (List.replicate m e0)) = rq2 (List.replicate m e0) := by unfold plainR; rw [if_neg (show ¬ ((2 : Int) = 1) by decide), if_pos rfl]
    rw [hp]
    simp only [numsR, List.any_append, List.any_cons, List.any_nil, this, h0]; rfl
  rw [this]
  simp [plainR]
  omega
theorem zeros_str {n : Nat} {x : Str} (h : List.replicate n (0 : Int) = x.map fun b => (b.toNat : Int)) : x.length = n := by
  have := congrArg List.length h
  simpa using this.symm
def s_Big : FSpec Un := ⟨⟨f_glosslaw23_ReqBig, [tI], [.bool]⟩, fun _ => True, fun _ => [DB true], fun _ => rfl⟩
theorem big_ok (runs_ok : FGood Try.prog s_Runs) : FGood Try.prog s_Big := by
  refine Wk.ok mixed tok (envOk (.cons within_ok (.cons right_ok (.cons encode_ok (.cons runs_ok .nil)))) [] no_same) w_glosslaw23_ReqBig k_Big rfl rfl ?_
  rintro ⟨(n : Int), _⟩ hpre R hR Go hGo
  replace hR : R = [DB true] := hR
  show TDen _ _ _ _ [DI n]
  simp [k_Big, TDen, Tm.den, nthD, s_Within, s_Right, s_Encode, s_Runs, in64]
  have hw := within_in (n := n) (lo := 0) (hi := 40) (by decide)
  generalize within n 0 40 = w at *
  have ht := Int.tmod_eq_emod_of_nonneg (a := w) (b := 12) hw.1
  rw [ht]
  refine ⟨by omega, by omega, List.replicate (19969 + w).toNat 0, by simp, ?_⟩
  have hlen : (List.replicate (19969 + w).toNat (0 : UInt8)).length = (19969 + w).toNat := List.length_replicate
  obtain ⟨f1, f2, f3⟩ := rq1_facts (s := List.replicate (19969 + w).toNat 0) (by rw [hlen]; omega)
  refine ⟨by rw [hlen]; omega, ?_⟩
  rintro (y : Edit) rfl
  refine ⟨by omega, ?_⟩
  rintro (y1 : Req) rfl
  refine ⟨f1, fun _ => ?_, fun h => absurd f2 h⟩
  rintro (y2 : Req) rfl
  refine ⟨f1, fun _ => ?_, fun h => absurd f3 h⟩
  rintro (y3 : Req) rfl
  obtain ⟨g1, g2⟩ := rq2_facts (m := (w % 12).toNat) (by omega)
  refine ⟨g1, fun _ => hR.symm, fun h => absurd (g2.trans ?_) h⟩
  rw [decide_eq_decide]; omega
end Go.Proofs.Ytpoegfkajdbplaa
