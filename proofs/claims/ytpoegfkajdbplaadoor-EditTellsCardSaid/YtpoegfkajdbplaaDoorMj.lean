import Derived.Test.YtpoegfkajdbplaaDoorMh
import Derived.Test.YtpoegfkajdbplaaDoorMc

/- Contracts: short names; entries of the runtime; Within; rows of texts that are the same. -/
namespace Go.Proofs.YtpoegfkajdbplaaDoor
open Go.Dm Go.Dm.Sx
set_option linter.unusedVariables false
set_option linter.unusedSimpArgs false
abbrev DI (n : Int) : Dyn Un.B := ⟨.int .i64, n⟩
abbrev DK (k : IntKind) (n : Int) : Dyn Un.B := ⟨.int k, n⟩
abbrev DB (n : Bool) : Dyn Un.B := ⟨.bool, n⟩
abbrev DS (n : List UInt8) : Dyn Un.B := ⟨.str, n⟩
abbrev DL (t : Ty) (l : List (T Un.B t)) : Dyn Un.B := ⟨.list t, l⟩
abbrev Str := List UInt8
noncomputable abbrev X (Sp : List (FSpec Un)) (inl : List (Ent Tryd.prog tb (stlW tb)) := []) (sm : List Nat := []) : SEnv := XE Un tyO Sp inl sm
abbrev tI : In := .ty (.int .i64)
abbrev tU : In := .ty (.int .u8)
abbrev tB : In := .ty .bool
abbrev tS : In := .ty .str
abbrev tLS : In := .ty (.list .str)
abbrev tLI : In := .ty (.list (.int .i64))
abbrev oI : Ty := .int .i64

def within (n lo hi : Int) : Int := lo + n % (hi - lo + 1)
noncomputable def k_Within : Wk (X []) w_glossbook_Within.F [tI, tI, tI] [oI] := ⟨_, by cbv, _, by cbv, _, by cbv⟩
def s_Within : FSpec Un := ⟨⟨f_glossbook_Within, [tI, tI, tI], [oI]⟩, fun ((n : Int), (lo : Int), (hi : Int), _) => -1152921504606846976 ≤ lo ∧ lo ≤ hi ∧ hi ≤ 1152921504606846976, fun (n, lo, hi, _) => [DI (within n lo hi)], fun _ => rfl⟩
theorem tmod_emod {a m : Int} (hm : 0 < m) : (a.tmod m < 0 → a.tmod m + m = a % m) ∧ (0 ≤ a.tmod m → a.tmod m = a % m) ∧ -m < a.tmod m ∧ a.tmod m < m := by
  have h1 := Int.tmod_eq_emod (a := a) (b := m)
  have h2 := Int.emod_nonneg a (show m ≠ 0 by omega)
  have h3 := Int.emod_lt_of_pos a hm
  have h4 : (m.natAbs : Int) = m := by omega
  split at h1 <;> refine ⟨fun h => ?_, fun h => ?_, ?_, ?_⟩ <;> omega
theorem within_ok : FGood Tryd.prog s_Within := by
  refine Wk.ok mixed tok (envOk .nil [] no_same) w_glossbook_Within k_Within rfl rfl ?_
  rintro ⟨(n : Int), (lo : Int), (hi : Int), _⟩ hpre R hR Go hGo
  replace hR : R = [DI (within n lo hi)] := hR
  replace hpre : -1152921504606846976 ≤ lo ∧ lo ≤ hi ∧ hi ≤ 1152921504606846976 := hpre
  show TDen _ _ _ _ [DI n, DI lo, DI hi]
  simp [k_Within, TDen, Tm.den, nthD, in64, hR, within]
  obtain ⟨h1, h2, h3⟩ := hpre
  have hm : 0 < hi - lo + 1 := by omega
  obtain ⟨t1, t2, t3, t4⟩ := tmod_emod (a := n) hm
  refine ⟨by omega, by omega, by omega, fun h => ⟨?_, ?_, ?_, ?_, ?_⟩, fun h => ⟨?_, ?_⟩⟩ <;> omega
theorem within_in {n lo hi : Int} (h : lo ≤ hi) : lo ≤ within n lo hi ∧ within n lo hi ≤ hi := by
  have h2 := Int.emod_nonneg n (show hi - lo + 1 ≠ 0 by omega)
  have h3 := Int.emod_lt_of_pos n (show 0 < hi - lo + 1 by omega)
  unfold within
  omega

noncomputable def k_SameS : Wk (X []) w_glossbook_Same_string.F [tLS, tLS] [.bool] := ⟨_, by cbv, _, by cbv, _, by cbv⟩
def s_SameS : FSpec Un := ⟨⟨f_glossbook_Same_string, [tLS, tLS], [.bool]⟩, fun (a, b, _) => List.length a ≤ 1000000, fun (a, b, _) => [DB (decide (a = b))], fun _ => rfl⟩
theorem sameS_ok : FGood Tryd.prog s_SameS := by
  refine Wk.ok mixed tok (envOk .nil [] no_same) w_glossbook_Same_string k_SameS rfl rfl ?_
  rintro ⟨(a : List Str), (b : List Str), _⟩ hpre R hR Go hGo
  replace hR : R = [DB (decide (a = b))] := hR
  replace hpre : a.length ≤ 1000000 := hpre
  show TDen _ _ _ _ [DL .str a, DL .str b]
  simp [k_SameS, TDen, Tm.den, nthD]
  refine ⟨fun h => ?_, fun h => ?_⟩
  · rw [hR, decide_eq_false]; intro e; rw [e] at h; exact h rfl
  · refine hGo 0 _ rfl Nat (fun i => [DL .str a, DL .str b, DI i]) (fun i => i ≤ a.length ∧ ∀ j, j < i → a[j]? = b[j]?) (fun i => a.length - i) (fun i hI ih => ?_) 0 ⟨Nat.zero_le _, fun j hj => by omega⟩
    simp [TDen, Tm.den, nthD]
    obtain ⟨hi, hs⟩ := hI
    have hab : a.length = b.length := by omega
    refine ⟨fun h1 => ⟨h1, fun x hx => ⟨by omega, fun y hy => ⟨fun hne => ?_, fun he => ⟨by simp only [in64]; omega, ?_⟩⟩⟩⟩, fun h1 => ?_⟩
    · rw [hR, decide_eq_false]; rintro rfl; rw [hx] at hy; exact hne (Option.some.inj hy)
    · refine ih (i + 1) (by omega) ⟨by omega, fun j hj => ?_⟩
      rcases Nat.lt_succ_iff_lt_or_eq.1 hj with hj | rfl
      · exact hs j hj
      · rw [hx, hy, he]
    · rw [hR, decide_eq_true]
      apply List.ext_getElem?
      intro j
      by_cases hj : j < i
      · exact hs j hj
      · rw [List.getElem?_eq_none (by omega), List.getElem?_eq_none (by omega)]
end Go.Proofs.YtpoegfkajdbplaaDoor

/- Contracts: texts, lines and edits that statements make of numbers. -/
namespace Go.Proofs.YtpoegfkajdbplaaDoor
open Go.Dm Go.Dm.Sx
set_option linter.unusedVariables false
set_option linter.unusedSimpArgs false

def keepB (n : Int) : UInt8 := ([97, 98, 97, 99, 98, 46, 97, 32] : List UInt8).getD (within n 0 7).toNat 0
def keepText (l : List Int) (most : Int) : Str := (l.take most.toNat).map keepB
theorem keepText_succ {l : List Int} {i : Nat} {x : Int} (h : l[i]? = some x) : keepText l (i + 1 : Nat) = keepText l i ++ [keepB x] := by
  unfold keepText
  rw [Int.toNat_natCast, Int.toNat_natCast, List.take_add_one, h]; simp
theorem keepText_all {l : List Int} {i : Nat} {most : Int} (h : l.length ≤ i) (hm : (i : Int) ≤ most) : keepText l i = keepText l most := by
  unfold keepText
  rw [List.take_of_length_le (by omega), List.take_of_length_le (by omega)]
theorem keepText_len {l : List Int} {i : Int} (h : 0 ≤ i) : (keepText l i).length ≤ i := by
  unfold keepText; rw [List.length_map, List.length_take]; omega
noncomputable def k_Text : Wk (X [s_Within]) w_glosskeep_Text.F [tLI, tI] [.str] := ⟨_, by cbv, _, by cbv, _, by cbv⟩
def s_Text : FSpec Un := ⟨⟨f_glosskeep_Text, [tLI, tI], [.str]⟩, fun (l, (most : Int), _) => 0 ≤ most ∧ most ≤ 1000000, fun (l, most, _) => [DS (keepText l most)], fun _ => rfl⟩
theorem keepB_of {x y : Int} (h : ([97, 98, 97, 99, 98, 46, 97, 32] : List Int)[(within x 0 7).toNat]? = some y) : [y] = List.map (fun (b : UInt8) => (b.toNat : Int)) [keepB x] := by
  unfold keepB
  have hw := within_in (n := x) (lo := 0) (hi := 7) (by decide)
  generalize within x 0 7 = w at *
  obtain ⟨w, rfl⟩ : ∃ k : Nat, w = k := ⟨w.toNat, by omega⟩
  rw [Int.toNat_natCast] at *
  have : w = 0 ∨ w = 1 ∨ w = 2 ∨ w = 3 ∨ w = 4 ∨ w = 5 ∨ w = 6 ∨ w = 7 := by omega
  rcases this with rfl | rfl | rfl | rfl | rfl | rfl | rfl | rfl <;> (simp at h; subst h; rfl)
theorem text_ok : FGood Tryd.prog s_Text := by
  refine Wk.ok mixed tok (envOk (.cons within_ok .nil) [] no_same) w_glosskeep_Text k_Text rfl rfl ?_
  rintro ⟨(l : List Int), (most : Int), _⟩ hpre R hR Go hGo
  replace hR : R = [DS (keepText l most)] := hR
  replace hpre : 0 ≤ most ∧ most ≤ 1000000 := hpre
  show TDen _ _ _ _ [DL oI l, DI most]
  simp [k_Text, TDen, Tm.den, nthD]
  refine hGo 0 _ rfl Nat (fun i => [DL oI l, DI most, DS (keepText l i), DI i]) (fun i => (i : Int) ≤ most ∧ i ≤ l.length) (fun i => l.length - i) (fun i hI ih => ?_) 0 ⟨by omega, by omega⟩
  simp [TDen, Tm.den, nthD, s_Within, in64]
  obtain ⟨h1, h2⟩ := hI
  have hl := keepText_len (l := l) (i := i) (by omega)
  refine ⟨fun hi => ⟨fun hm => ⟨hi, fun x hx => ⟨?_, fun y hy => ⟨[keepB x], keepB_of hy, by simp; omega, by omega, ?_⟩⟩⟩, fun hm => ?_⟩, fun hi => ?_⟩
  · have := within_in (n := x) (lo := 0) (hi := 7) (by decide); omega
  · have := ih (i + 1) (by omega) ⟨by omega, by omega⟩
    rw [← keepText_succ hx]; exact this
  · rw [hR, show most = i by omega]
  · rw [hR, keepText_all hi h1]

def keepLines (l : List (List Int)) : List Str := (l.take 12).map (keepText · 6)
theorem keepLines_succ {l : List (List Int)} {i : Nat} {x : List Int} (h : l[i]? = some x) (hi : i < 12) : keepLines (l.take (i + 1)) = keepLines (l.take i) ++ [keepText x 6] := by
  unfold keepLines
  rw [List.take_take, List.take_take, show min 12 (i + 1) = i + 1 by omega, show min 12 i = i by omega, List.take_add_one, h]; simp
noncomputable def k_Lines : Wk (X [s_Text]) w_glosskeep_Lines.F [.ty (.list (.list oI))] [.list .str] := ⟨_, by cbv, _, by cbv, _, by cbv⟩
def s_Lines : FSpec Un := ⟨⟨f_glosskeep_Lines, [.ty (.list (.list oI))], [.list .str]⟩, fun (l, _) => True, fun (l, _) => [DL .str (keepLines l)], fun _ => rfl⟩
theorem lines_ok : FGood Tryd.prog s_Lines := by
  refine Wk.ok mixed tok (envOk (.cons text_ok .nil) [] no_same) w_glosskeep_Lines k_Lines rfl rfl ?_
  rintro ⟨(l : List (List Int)), _⟩ hpre R hR Go hGo
  replace hR : R = [DL .str (keepLines l)] := hR
  clear hpre
  show TDen _ _ _ _ [DL (.list oI) l]
  simp [k_Lines, TDen, Tm.den, nthD]
  refine hGo 0 _ rfl Nat (fun i => [DL (.list oI) l, DI i, DL .str (keepLines (l.take i))]) (fun i => i ≤ 12 ∧ i ≤ l.length) (fun i => l.length - i) (fun i hI ih => ?_) 0 ⟨by omega, by omega⟩
  simp [TDen, Tm.den, nthD, s_Text, in64]
  obtain ⟨h1, h2⟩ := hI
  have hl : (keepLines (l.take i)).length ≤ 12 := by unfold keepLines; simp; omega
  refine ⟨fun hi => ⟨fun hm => ⟨hi, fun x hx => ⟨by omega, by omega, by omega, ?_⟩⟩, fun hm => ?_⟩, fun hi => ?_⟩
  · have := ih (i + 1) (by omega) ⟨by omega, by omega⟩
    rw [keepLines_succ hx (by omega)] at this; exact this
  · rw [hR]; unfold keepLines; rw [List.take_take, show min 12 i = 12 by omega]
  · rw [hR, List.take_of_length_le hi]
noncomputable def k_KEdit : Wk (X [s_Text, s_Within]) w_glosskeep_Edit_Edit.F [.ty (.base 1), tI] [.base 0] := ⟨_, by cbv, _, by cbv, _, by cbv⟩
def keepEdit (k : KEdit) (n : Int) : Edit :=
  let a := within k.at_ 0 n
  ⟨a, within k.cut 0 (min (n - a) 3), if n < 40 then (k.put.take 3).map (keepText · 6) else []⟩
def s_KEdit : FSpec Un := ⟨⟨f_glosskeep_Edit_Edit, [.ty (.base 1), tI], [.base 0]⟩, fun (k, (n : Int), _) => 0 ≤ n ∧ n ≤ 1000000, fun (k, n, _) => [⟨.base 0, keepEdit k n⟩], fun _ => rfl⟩
theorem kedit_ok : FGood Tryd.prog s_KEdit := by
  refine Wk.ok mixed tok (envOk (.cons text_ok (.cons within_ok .nil)) [] no_same) w_glosskeep_Edit_Edit k_KEdit rfl rfl ?_
  rintro ⟨(k : KEdit), (n : Int), _⟩ hpre R hR Go hGo
  replace hR : R = [⟨.base 0, keepEdit k n⟩] := hR
  replace hpre : 0 ≤ n ∧ n ≤ 1000000 := hpre
  show TDen _ _ _ _ [⟨.base 1, k⟩, DI n]
  simp [k_KEdit, TDen, Tm.den, nthD, s_Within, in64]
  have ha := within_in (n := k.at_) (lo := 0) (hi := n) hpre.1
  have hc := within_in (n := k.cut) (lo := 0) (hi := min (n - within k.at_ 0 n) 3) (by omega)
  generalize ha' : within k.at_ 0 n = a at *
  have hmn : min (n - a) 3 ≤ n - a ∧ min (n - a) 3 ≤ 3 ∧ 0 ≤ min (n - a) 3 := by omega
  generalize hc' : within k.cut 0 (min (n - a) 3) = b at *
  refine ⟨?_, ?_, ?_, ?_⟩
  iterate 3 omega
  refine hGo 0 _ rfl Nat (fun i => [DI n, DI i, DI k.at_, DI k.cut, DL (.list oI) k.put, DI 0, DI 0, DI a, DI b, DL .str ((k.put.take i).map (keepText · 6))]) (fun i => i ≤ 3 ∧ i ≤ k.put.length ∧ (n < 40 ∨ i = 0)) (fun i => k.put.length - i) (fun i hI ih => ?_) 0 ⟨by omega, by omega, by omega⟩
  simp [TDen, Tm.den, nthD, s_Text, in64]
  obtain ⟨h1, h2, h3⟩ := hI
  have hfin : (i = 3 ∨ i = k.put.length ∨ 40 ≤ n) → [(⟨.base 0, Edit.mk a b (List.take i (List.map (fun x => keepText x 6) k.put))⟩ : Dyn Un.B)] = R := fun h => by
    rw [hR]
    unfold keepEdit
    simp only [ha', hc', List.map_take]
    by_cases hn : n < 40
    · rw [if_pos hn]
      rcases h with rfl | rfl | h
      · rfl
      · rw [List.take_of_length_le (by simp), List.take_of_length_le (by simp; omega)]
      · omega
    · rw [if_neg hn]
      rcases h3 with h3 | rfl
      · omega
      · rfl
  refine ⟨fun hi => ⟨fun hm => ⟨fun hn => ⟨hi, fun x hx => ⟨by omega, by omega, by omega, ?_⟩⟩, fun hn x e => by subst e; exact hfin (by omega)⟩, fun hm x e => by subst e; exact hfin (by omega)⟩, fun hi x e => by subst e; exact hfin (by omega)⟩
  have := ih (i + 1) (by omega) ⟨by omega, by omega, by omega⟩
  rw [List.take_add_one, hx] at this
  simpa using this
end Go.Proofs.YtpoegfkajdbplaaDoor

/- Contracts: is a byte in a text; rows that may be an input. -/
namespace Go.Proofs.YtpoegfkajdbplaaDoor
open Go.Dm Go.Dm.Sx
set_option linter.unusedVariables false
set_option linter.unusedSimpArgs false

theorem extIdx : Ext Tryd.prog f_internal_bytealg_IndexByteString Extern.BytealgIndexByte.indexByte := ext_of Tryd.func49 (by kernel_rfl) (by kernel_rfl) (by kernel_rfl) (by kernel_rfl)
def s_IndexByteString : FSpec Un := sIndexByte f_internal_bytealg_IndexByteString
theorem indexByteString_ok : FGood Tryd.prog s_IndexByteString := indexByte_ok extIdx
noncomputable def k_IndexByte : Wk (X [s_IndexByteString]) w_internal_stringslite_IndexByte.F [tS, tU] [oI] := ⟨_, by cbv, _, by cbv, _, by cbv⟩
def s_IndexByte : FSpec Un := ⟨⟨f_internal_stringslite_IndexByte, [tS, tU], [oI]⟩, fun (s, (c : Int), _) => 0 ≤ c ∧ c < 256, fun (s, c, _) => [DI (idxFrom (Int.toNat c) s 0)], fun _ => rfl⟩
theorem indexByte_ok' : FGood Tryd.prog s_IndexByte := by
  refine Wk.ok mixed tok (envOk (.cons indexByteString_ok .nil) [] no_same) w_internal_stringslite_IndexByte k_IndexByte rfl rfl ?_
  rintro ⟨(s : Str), (c : Int), _⟩ hpre R hR Go hGo
  replace hR : R = [DI (idxFrom c.toNat s 0)] := hR
  replace hpre : 0 ≤ c ∧ c < 256 := hpre
  show TDen _ _ _ _ [DS s, DK .u8 c]
  simp [k_IndexByte, TDen, Tm.den, nthD, s_IndexByteString, sIndexByte]
  exact ⟨hpre, hR.symm⟩
noncomputable def k_SIndex : Wk (X [s_IndexByte]) w_internal_stringslite_Index.F [tS, tS] [oI] := ⟨_, by cbv, _, by cbv, _, by cbv⟩
def idx1 (s sub : Str) : Int := idxFrom (sub.headD 0).toNat s 0
def s_SIndex : FSpec Un := ⟨⟨f_internal_stringslite_Index, [tS, tS], [oI]⟩, fun (s, (sub : Str), _) => sub.length = 1, fun (s, sub, _) => [DI (idx1 s sub)], fun _ => rfl⟩
theorem sIndex_ok : FGood Tryd.prog s_SIndex := by
  refine Wk.ok mixed tok (envOk (.cons indexByte_ok' .nil) [] no_same) w_internal_stringslite_Index k_SIndex rfl rfl ?_
  rintro ⟨(s : Str), (sub : Str), _⟩ hpre R hR Go hGo
  replace hR : R = [DI (idx1 s sub)] := hR
  replace hpre : sub.length = 1 := hpre
  obtain ⟨c, rfl⟩ := List.length_eq_one_iff.1 hpre
  show TDen _ _ _ _ [DS s, DS [c]]
  simp [k_SIndex, TDen, Tm.den, nthD, s_IndexByte]
  refine ⟨fun h => ?_, fun h => ⟨by have := c.toNat_lt; omega, hR.symm⟩⟩
  subst h
  rw [hR]
  simp [idx1, idxFrom]
noncomputable def k_Index : Wk (X [s_SIndex]) w_strings_Index.F [tS, tS] [oI] := ⟨_, by cbv, _, by cbv, _, by cbv⟩
def s_Index : FSpec Un := ⟨⟨f_strings_Index, [tS, tS], [oI]⟩, fun (s, (sub : Str), _) => sub.length = 1, fun (s, sub, _) => [DI (idx1 s sub)], fun _ => rfl⟩
theorem index_ok : FGood Tryd.prog s_Index := by
  refine Wk.ok mixed tok (envOk (.cons sIndex_ok .nil) [] no_same) w_strings_Index k_Index rfl rfl ?_
  rintro ⟨(s : Str), (sub : Str), _⟩ hpre R hR Go hGo
  replace hR : R = [DI (idx1 s sub)] := hR
  replace hpre : sub.length = 1 := hpre
  show TDen _ _ _ _ [DS s, DS sub]
  simp [k_Index, TDen, Tm.den, nthD, s_SIndex]
  exact ⟨hpre, hR.symm⟩
noncomputable def k_Contains : Wk (X [s_Index]) w_strings_Contains.F [tS, tS] [.bool] := ⟨_, by cbv, _, by cbv, _, by cbv⟩
def s_Contains : FSpec Un := ⟨⟨f_strings_Contains, [tS, tS], [.bool]⟩, fun (s, (sub : Str), _) => sub.length = 1, fun (s, sub, _) => [DB (decide (0 ≤ idx1 s sub))], fun _ => rfl⟩
theorem contains_ok : FGood Tryd.prog s_Contains := by
  refine Wk.ok mixed tok (envOk (.cons index_ok .nil) [] no_same) w_strings_Contains k_Contains rfl rfl ?_
  rintro ⟨(s : Str), (sub : Str), _⟩ hpre R hR Go hGo
  replace hR : R = [DB (decide (0 ≤ idx1 s sub))] := hR
  replace hpre : sub.length = 1 := hpre
  show TDen _ _ _ _ [DS s, DS sub]
  simp [k_Contains, TDen, Tm.den, nthD, s_Index]
  exact ⟨hpre, hR.symm⟩
theorem idxFrom_nonneg {c : Nat} : ∀ {s : Str} {i : Nat}, 0 ≤ idxFrom c s i ↔ ∃ x ∈ s, x.toNat = c
  | [], i => by simp [idxFrom]
  | x :: r, i => by
    simp only [idxFrom]
    split
    · rename_i h
      have h := beq_nat h
      simp [h]
    · rename_i h
      have h : x.toNat ≠ c := fun e => by subst e; rw [Nat.beq_refl] at h; cases h
      rw [idxFrom_nonneg]
      simp [h]
def badLine (l : Str) : Bool := decide (20 < l.length) || decide ((10 : UInt8) ∈ l)
theorem idx1_mem {s : Str} : (0 ≤ idx1 s [10]) ↔ (10 : UInt8) ∈ s := by
  unfold idx1
  rw [idxFrom_nonneg]
  constructor
  · rintro ⟨x, hx, h⟩
    have : x = 10 := UInt8.toNat_inj.1 h
    exact this ▸ hx
  · exact fun h => ⟨10, h, rfl⟩
noncomputable def k_Bad : Wk (X [s_Contains]) w_run_Lines_1.F [tS] [.bool] := ⟨_, by cbv, _, by cbv, _, by cbv⟩
def s_Bad : FSpec Un := ⟨⟨f_run_Lines_1, [tS], [.bool]⟩, fun _ => True, fun (s, _) => [DB (badLine s)], fun _ => rfl⟩
theorem bad_ok : FGood Tryd.prog s_Bad := by
  refine Wk.ok mixed tok (envOk (.cons contains_ok .nil) [] no_same) w_run_Lines_1 k_Bad rfl rfl ?_
  rintro ⟨(s : Str), _⟩ hpre R hR Go hGo
  replace hR : R = [DB (badLine s)] := hR
  show TDen _ _ _ _ [DS s]
  simp [k_Bad, TDen, Tm.den, nthD, s_Contains]
  refine ⟨fun h => ?_, fun h => ?_⟩
  · rw [hR]; simp only [badLine, decide_eq_true (show 20 < s.length by omega), Bool.true_or]
  · rw [hR]; simp only [badLine, decide_eq_false (show ¬ 20 < s.length by omega), Bool.false_or]; rw [decide_eq_decide.2 idx1_mem]
def badIdx (l : List Str) : Int := match l.findIdx? badLine with | some i => i | none => -1
theorem badIdx_some {l : List Str} {i : Nat} (hi : i < l.length) (hb : badLine l[i] = true) (h : ∀ j (h : j < l.length), j < i → badLine l[j] = false) : badIdx l = i := by
  unfold badIdx
  rw [List.findIdx?_eq_some_iff_getElem.2 ⟨hi, hb, fun j hj => by rw [h j (by omega) hj]; simp⟩]
theorem badIdx_none {l : List Str} (h : ∀ j (h : j < l.length), badLine l[j] = false) : badIdx l = -1 := by
  unfold badIdx
  rw [List.findIdx?_eq_none_iff.2 fun x hx => by
    obtain ⟨j, hj, rfl⟩ := List.getElem_of_mem hx
    exact h j hj]
theorem badIdx_any {l : List Str} : decide (0 ≤ badIdx l) = l.any badLine := by
  unfold badIdx
  cases h : l.findIdx? badLine with
  | none =>
    have := List.findIdx?_eq_none_iff.1 h
    have h2 : l.any badLine = false := by rw [List.any_eq_false]; intro x hx; rw [this x hx]; simp
    rw [h2]; rfl
  | some i =>
    obtain ⟨hi, hb, _⟩ := List.findIdx?_eq_some_iff_getElem.1 h
    have h2 : l.any badLine = true := by rw [List.any_eq_true]; exact ⟨_, List.getElem_mem hi, hb⟩
    rw [h2]; simp
noncomputable def k_IndexFunc : Wk (X [s_Bad]) w_slices_IndexFunc_string_string.F [tLS, .fnc f_run_Lines_1] [oI] := ⟨_, by cbv, _, by cbv, _, by cbv⟩
def s_IndexFunc : FSpec Un := ⟨⟨f_slices_IndexFunc_string_string, [tLS, .fnc f_run_Lines_1], [oI]⟩, fun ((l : List Str), _) => l.length ≤ 1000000, fun (l, _) => [DI (badIdx l)], fun _ => rfl⟩
theorem indexFunc_ok : FGood Tryd.prog s_IndexFunc := by
  refine Wk.ok mixed tok (envOk (.cons bad_ok .nil) [] no_same) w_slices_IndexFunc_string_string k_IndexFunc rfl rfl ?_
  rintro ⟨(l : List Str), _⟩ hpre R hR Go hGo
  replace hR : R = [DI (badIdx l)] := hR
  replace hpre : l.length ≤ 1000000 := hpre
  show TDen _ _ _ _ [DL .str l]
  simp [k_IndexFunc, TDen, Tm.den, nthD]
  refine hGo 0 _ rfl Nat (fun i => [DL .str l, DI l.length, DI i]) (fun i => i ≤ l.length ∧ ∀ j (h : j < l.length), j < i → badLine l[j] = false) (fun i => l.length - i) (fun i hI ih => ?_) 0 ⟨by omega, fun j h hj => by omega⟩
  simp [TDen, Tm.den, nthD, s_Bad, in64]
  obtain ⟨h1, h2⟩ := hI
  refine ⟨fun hi => ⟨hi, fun x hx => ?_⟩, fun hi => ?_⟩
  · have hxi : l[i] = x := (List.getElem?_eq_some_iff.1 hx).2
    refine ⟨fun hb => ?_, fun hb => ?_⟩
    · rw [hR, badIdx_some hi (hxi ▸ hb) h2]
    · refine ⟨by omega, ih (i + 1) (by omega) ⟨by omega, fun j h hj => ?_⟩⟩
      rcases Nat.lt_succ_iff_lt_or_eq.1 hj with hj | rfl
      · exact h2 j h hj
      · rw [hxi]; exact hb
  · rw [hR, badIdx_none fun j h => h2 j h (by omega)]
def okLines (l : List Str) : Bool := decide (l.length ≤ 60) && l.all fun x => !badLine x
noncomputable def k_ContainsFunc : Wk (X [s_IndexFunc]) w_slices_ContainsFunc_string_string.F [tLS, .fnc f_run_Lines_1] [.bool] := ⟨_, by cbv, _, by cbv, _, by cbv⟩
def s_ContainsFunc : FSpec Un := ⟨⟨f_slices_ContainsFunc_string_string, [tLS, .fnc f_run_Lines_1], [.bool]⟩, fun ((l : List Str), _) => l.length ≤ 1000000, fun ((l : List Str), _) => [DB (l.any badLine)], fun _ => rfl⟩
theorem containsFunc_ok : FGood Tryd.prog s_ContainsFunc := by
  refine Wk.ok mixed tok (envOk (.cons indexFunc_ok .nil) [] no_same) w_slices_ContainsFunc_string_string k_ContainsFunc rfl rfl ?_
  rintro ⟨(l : List Str), _⟩ hpre R hR Go hGo
  replace hR : R = [DB (l.any badLine)] := hR
  show TDen _ _ _ _ [DL .str l]
  simp [k_ContainsFunc, TDen, Tm.den, nthD, s_IndexFunc]
  exact ⟨hpre, by rw [hR, badIdx_any]⟩
noncomputable def k_RunLines : Wk (X [s_ContainsFunc]) w_run_Lines.F [tLS] [.bool] := ⟨_, by cbv, _, by cbv, _, by cbv⟩
def s_RunLines : FSpec Un := ⟨⟨f_run_Lines, [tLS], [.bool]⟩, fun ((l : List Str), _) => True, fun ((l : List Str), _) => [DB (okLines l)], fun _ => rfl⟩
theorem runLines_ok : FGood Tryd.prog s_RunLines := by
  refine Wk.ok mixed tok (envOk (.cons containsFunc_ok .nil) [] no_same) w_run_Lines k_RunLines rfl rfl ?_
  rintro ⟨(l : List Str), _⟩ hpre R hR Go hGo
  replace hR : R = [DB (okLines l)] := hR
  show TDen _ _ _ _ [DL .str l]
  simp [k_RunLines, TDen, Tm.den, nthD, s_ContainsFunc]
  unfold okLines at hR
  have he : l.any badLine = !l.all fun x => !badLine x := by rw [List.not_all_eq_any_not]; simp
  refine ⟨fun h => ?_, fun h => ?_⟩
  · exact ⟨by omega, by rw [hR, he, decide_eq_true (by omega)]; simp⟩
  · rw [hR, decide_eq_false (by omega)]; rfl
end Go.Proofs.YtpoegfkajdbplaaDoor

/- Contracts: edits. -/
namespace Go.Proofs.YtpoegfkajdbplaaDoor
open Go.Dm Go.Dm.Sx
set_option linter.unusedVariables false
set_option linter.unusedSimpArgs false

theorem flat_le (l : List (List Str)) (i : Nat) : (l.take i).flatten.length ≤ l.flatten.length := by
  conv => rhs; rw [← List.take_append_drop i l, List.flatten_append, List.length_append]
  omega
theorem flat_succ {l : List (List Str)} {i : Nat} {x : List Str} (h : l[i]? = some x) : (l.take (i + 1)).flatten = (l.take i).flatten ++ x := by
  rw [List.take_add_one, h]; simp
noncomputable def k_Concat : Wk (X [] [w_slices_Grow_string_string]) w_slices_Concat_string_string.F [.ty (.list (.list .str))] [.list .str] := ⟨_, by cbv, _, by cbv, _, by cbv⟩
def s_Concat : FSpec Un := ⟨⟨f_slices_Concat_string_string, [.ty (.list (.list .str))], [.list .str]⟩, fun ((l : List (List Str)), _) => l.flatten.length ≤ 1000000 ∧ l.length ≤ 1000000, fun ((l : List (List Str)), _) => [DL .str l.flatten], fun _ => rfl⟩
theorem concat_ok : FGood Tryd.prog s_Concat := by
  refine Wk.ok mixed tok (envOk .nil [w_slices_Grow_string_string] no_same) w_slices_Concat_string_string k_Concat rfl rfl ?_
  rintro ⟨(l : List (List Str)), _⟩ hpre R hR Go hGo
  replace hR : R = [DL .str l.flatten] := hR
  replace hpre : l.flatten.length ≤ 1000000 ∧ l.length ≤ 1000000 := hpre
  obtain ⟨hpre, hpl⟩ := hpre
  show TDen _ _ _ _ [DL (.list .str) l]
  simp [k_Concat, TDen, Tm.den, nthD]
  refine hGo 0 _ rfl Nat (fun i => [DL (.list .str) l, DI (l.take i).flatten.length, DI l.length, DI i]) (fun i => i ≤ l.length) (fun i => l.length - i) (fun i hI ih => ?_) 0 (by omega)
  have h1 : ∀ i, (l.take i).flatten.length ≤ 1000000 := fun i => Nat.le_trans (flat_le l i) hpre
  have hgo : Go 1 [DL (.list .str) l, DI l.length, DI 0, DL .str []] := by
    refine hGo 1 _ rfl Nat (fun i => [DL (.list .str) l, DI l.length, DI i, DL .str (l.take i).flatten]) (fun i => i ≤ l.length) (fun i => l.length - i) (fun i hI ih => ?_) 0 (by omega)
    have h2 := h1 i
    have h3 := h1 (i + 1)
    generalize hf : (l.take i).flatten = f at *
    simp [TDen, Tm.den, nthD, in64]
    refine ⟨fun hi => ⟨hi, fun x hx => ?_⟩, fun hi => ?_⟩
    · rw [flat_succ hx, hf, List.length_append] at h3
      have := ih (i + 1) (by omega) (by omega)
      rw [flat_succ hx, hf] at this
      exact ⟨by omega, by omega, by omega, this⟩
    · rw [hR, ← hf, List.take_of_length_le hi]
  have h2 := h1 i
  have h3 := h1 (i + 1)
  generalize hn : (l.take i).flatten.length = n at *
  simp [TDen, Tm.den, nthD, in64]
  refine ⟨fun hi => ⟨hi, fun x hx => ?_⟩, fun hi => ?_⟩
  · rw [flat_succ hx, List.length_append, hn] at h3
    have := ih (i + 1) (by omega) (by omega)
    rw [flat_succ hx, List.length_append, hn] at this
    exact ⟨by omega, by omega, fun _ => ⟨by omega, by simpa using this⟩⟩
  · exact ⟨by omega, fun h => ⟨by omega, ⟨by omega, by omega⟩, hgo⟩, fun h => hgo⟩

theorem okLines_len {l : List Str} (h : okLines l = true) : l.length ≤ 60 := by
  unfold okLines at h
  simp at h
  exact h.1
def rightEdit (e : Edit) (ls : List Str) : Bool := decide (0 ≤ e.at_ ∧ e.at_ ≤ ls.length ∧ 0 ≤ e.cut ∧ e.cut ≤ ls.length - e.at_) && okLines e.put && decide ((ls.length : Int) - e.cut + e.put.length ≤ 60)
noncomputable def k_Right : Wk (X [s_RunLines]) w_edit_Right.F [.ty (.base 0), tLS] [.bool] := ⟨_, by cbv, _, by cbv, _, by cbv⟩
def s_Right : FSpec Un := ⟨⟨f_edit_Right, [.ty (.base 0), tLS], [.bool]⟩, fun (_, (ls : List Str), _) => ls.length ≤ 1000000, fun ((e : Edit), (ls : List Str), _) => [DB (rightEdit e ls)], fun _ => rfl⟩
theorem right_ok : FGood Tryd.prog s_Right := by
  refine Wk.ok mixed tok (envOk (.cons runLines_ok .nil) [] no_same) w_edit_Right k_Right rfl rfl ?_
  rintro ⟨(e : Edit), (ls : List Str), _⟩ hpre R hR Go hGo
  replace hR : R = [DB (rightEdit e ls)] := hR
  replace hpre : ls.length ≤ 1000000 := hpre
  show TDen _ _ _ _ [⟨.base 0, e⟩, DL .str ls]
  simp [k_Right, TDen, Tm.den, nthD, s_RunLines, in64]
  have hfalse : ¬ (0 ≤ e.at_ ∧ e.at_ ≤ ls.length ∧ 0 ≤ e.cut ∧ e.cut ≤ ls.length - e.at_) → rightEdit e ls = false := fun h => by unfold rightEdit; rw [decide_eq_false h]; rfl
  have htrue : (0 ≤ e.at_ ∧ e.at_ ≤ ls.length ∧ 0 ≤ e.cut ∧ e.cut ≤ ls.length - e.at_) → rightEdit e ls = (okLines e.put && decide ((ls.length : Int) - e.cut + e.put.length ≤ 60)) := fun h => by unfold rightEdit; rw [decide_eq_true h]; rfl
  refine ⟨fun h1 => ?_, fun h1 => ⟨fun h2 => ?_, fun h2 => ⟨fun h3 => ?_, fun h3 => ⟨by omega, fun h4 => ?_, fun h4 => ⟨fun h5 => ?_, fun h5 => ?_⟩⟩⟩⟩⟩
  · rw [hR, hfalse (by omega)]
  · rw [hR, hfalse (by omega)]
  · rw [hR, hfalse (by omega)]
  · rw [hR, hfalse (by omega)]
  · have h6 := okLines_len h5
    refine ⟨by omega, by omega, ?_⟩
    rw [hR, htrue (by omega), h5]; rfl
  · rw [hR, htrue (by omega), h5]; rfl

theorem right_true {e : Edit} {ls : List Str} (h : rightEdit e ls = true) : 0 ≤ e.at_ ∧ e.at_ ≤ ls.length ∧ 0 ≤ e.cut ∧ e.cut ≤ ls.length - e.at_ ∧ okLines e.put = true ∧ (ls.length : Int) - e.cut + e.put.length ≤ 60 := by
  unfold rightEdit at h
  simp only [Bool.and_eq_true, decide_eq_true_eq] at h
  obtain ⟨⟨⟨h1, h2, h3, h4⟩, h5⟩, h6⟩ := h
  exact ⟨h1, h2, h3, h4, h5, h6⟩
def editDo (e : Edit) (ls : List Str) : List Str := ls.take e.at_.toNat ++ e.put ++ ls.drop (e.at_ + e.cut).toNat
def doL (e : Edit) (ls : List Str) : List Str := if rightEdit e ls = true then editDo e ls else []
def doE (e : Edit) (ls : List Str) : Int := if rightEdit e ls = true then 0 else 5
noncomputable def k_Do : Wk (X [s_Right, s_Concat]) w_edit_Do.F [.ty (.base 0), tLS] [.list .str, oI] := ⟨_, by cbv, _, by cbv, _, by cbv⟩
def s_Do : FSpec Un := ⟨⟨f_edit_Do, [.ty (.base 0), tLS], [.list .str, oI]⟩, fun (_, (ls : List Str), _) => ls.length ≤ 1000000, fun ((e : Edit), (ls : List Str), _) => [DL .str (doL e ls), DI (doE e ls)], fun _ => rfl⟩
theorem do_ok : FGood Tryd.prog s_Do := by
  refine Wk.ok mixed tok (envOk (.cons right_ok (.cons concat_ok .nil)) [] no_same) w_edit_Do k_Do rfl rfl ?_
  rintro ⟨(e : Edit), (ls : List Str), _⟩ hpre R hR Go hGo
  replace hR : R = [DL .str (doL e ls), DI (doE e ls)] := hR
  replace hpre : ls.length ≤ 1000000 := hpre
  show TDen _ _ _ _ [⟨.base 0, e⟩, DL .str ls]
  simp [k_Do, TDen, Tm.den, nthD, s_Right, s_Concat, in64]
  refine ⟨hpre, fun h => ?_, fun h => ?_⟩
  · rw [hR]; simp only [doL, doE, h]; rfl
  · obtain ⟨h1, h2, h3, h4, h5, h6⟩ := right_true h
    have h7 := okLines_len h5
    have hr : [DL .str (ls.take e.at_.toNat ++ (e.put ++ (ls.drop (e.at_ + e.cut).toNat).take (ls.length - (e.at_ + e.cut).toNat))), DI 0] = R := by
      rw [hR]; simp only [doL, doE, h, if_true, editDo]
      rw [List.take_of_length_le (l := ls.drop (e.at_ + e.cut).toNat) (by rw [List.length_drop]; omega), List.append_assoc]
    have hl : min e.at_.toNat ls.length + (e.put.length + (ls.length - (e.at_ + e.cut).toNat)) ≤ 1000000 := by omega
    exact ⟨⟨by omega, by omega⟩, by omega, by omega, hl, hr⟩

noncomputable def k_Clone : Wk (X []) w_slices_Clone_string_string.F [tLS] [.list .str] := ⟨_, by cbv, _, by cbv, _, by cbv⟩
def s_Clone : FSpec Un := ⟨⟨f_slices_Clone_string_string, [tLS], [.list .str]⟩, fun ((ls : List Str), _) => ls.length ≤ 1000000, fun ((ls : List Str), _) => [DL .str ls], fun _ => rfl⟩
theorem clone_ok : FGood Tryd.prog s_Clone := by
  refine Wk.ok mixed tok (envOk .nil [] no_same) w_slices_Clone_string_string k_Clone rfl rfl ?_
  rintro ⟨(ls : List Str), _⟩ hpre R hR Go hGo
  replace hR : R = [DL .str ls] := hR
  replace hpre : ls.length ≤ 1000000 := hpre
  show TDen _ _ _ _ [DL .str ls]
  simp [k_Clone, TDen, Tm.den, nthD, in64]
  exact ⟨fun h => ⟨by rw [hR, h], by omega, by omega, hR.symm⟩, fun h => ⟨by omega, by omega, hR.symm⟩⟩
end Go.Proofs.YtpoegfkajdbplaaDoor

/- Contracts: edits one behind the other. -/
namespace Go.Proofs.YtpoegfkajdbplaaDoor
open Go.Dm Go.Dm.Sx
set_option linter.unusedVariables false
set_option linter.unusedSimpArgs false

def allR : List Str → List Edit → List Str × Int
  | ls, [] => (ls, 0)
  | ls, e :: es => if rightEdit e ls = true then allR (editDo e ls) es else ([], 5)
theorem allR_cons (ls : List Str) (e : Edit) (es : List Edit) : allR ls (e :: es) = if rightEdit e ls = true then allR (editDo e ls) es else ([], 5) := rfl
theorem drop_get {α : Type} {l : List α} {i : Nat} {x : α} (h : l[i]? = some x) : l.drop i = x :: l.drop (i + 1) := by
  obtain ⟨h1, h2⟩ := List.getElem?_eq_some_iff.1 h
  rw [List.drop_eq_getElem_cons h1, h2]
theorem editDo_len {e : Edit} {ls : List Str} (h : rightEdit e ls = true) : (editDo e ls).length ≤ 60 := by
  obtain ⟨h1, h2, h3, h4, h5, h6⟩ := right_true h
  unfold editDo
  simp only [List.length_append, List.length_take, List.length_drop]
  omega
noncomputable def k_All : Wk (X [s_Clone, s_Do]) w_edit_All.F [tLS, .ty (.list (.base 0))] [.list .str, oI] := ⟨_, by cbv, _, by cbv, _, by cbv⟩
def s_All : FSpec Un := ⟨⟨f_edit_All, [tLS, .ty (.list (.base 0))], [.list .str, oI]⟩, fun ((ls : List Str), (es : List Edit), _) => ls.length ≤ 60 ∧ es.length ≤ 1000000, fun ((ls : List Str), (es : List Edit), _) => [DL .str (allR ls es).1, DI (allR ls es).2], fun _ => rfl⟩
theorem editAll_ok : FGood Tryd.prog s_All := by
  refine Wk.ok mixed tok (envOk (.cons clone_ok (.cons do_ok .nil)) [] no_same) w_edit_All k_All rfl rfl ?_
  rintro ⟨(ls : List Str), (es : List Edit), _⟩ hpre R hR Go hGo
  replace hR : R = [DL .str (allR ls es).1, DI (allR ls es).2] := hR
  replace hpre : ls.length ≤ 60 ∧ es.length ≤ 1000000 := hpre
  show TDen _ _ _ _ [DL .str ls, DL (.base 0) es]
  simp [k_All, TDen, Tm.den, nthD, s_Clone, in64]
  refine ⟨by omega, ?_⟩
  refine hGo 0 _ rfl (List Str × Nat) (fun y => [DL .str y.1, DL (.base 0) es, DI es.length, DI y.2]) (fun y => allR y.1 (es.drop y.2) = allR ls es ∧ y.1.length ≤ 60 ∧ y.2 ≤ es.length) (fun y => es.length - y.2) (fun y hI ih => ?_) (ls, 0) ⟨rfl, hpre.1, Nat.zero_le _⟩
  obtain ⟨m, i⟩ := y
  obtain ⟨h1, h2, h3⟩ := hI
  simp only at h1 h2 h3 ih ⊢
  simp [TDen, Tm.den, nthD, s_Do, in64]
  refine ⟨fun hi => ⟨hi, fun (x : Edit) hx => ⟨by omega, fun hE => ?_, fun hE => ?_⟩⟩, fun hi => ?_⟩
  all_goals try replace hx : (es : List Edit)[i]? = some x := hx
  all_goals try have hdg : es.drop i = x :: es.drop (i + 1) := drop_get hx
  · rw [hR, ← h1, hdg, allR_cons]
    by_cases hr : rightEdit x m = true
    · exact absurd (by unfold doE; rw [if_pos hr]) hE
    · rw [if_neg hr]; unfold doE; rw [if_neg hr]
  · have hr : rightEdit x m = true := by
      by_cases hr : rightEdit x m = true
      · exact hr
      · unfold doE at hE; rw [if_neg hr] at hE; cases hE
    refine ⟨by omega, ih (doL x m, i + 1) (by simp only; omega) ⟨?_, ?_, by simp only; omega⟩⟩
    · rw [← h1, hdg, allR_cons, if_pos hr]; simp only [doL, if_pos hr]
    · simp only [doL, if_pos hr]; exact editDo_len hr
  · rw [hR, ← h1, List.drop_of_length_le hi]; rfl
end Go.Proofs.YtpoegfkajdbplaaDoor

/- Plain facts about lines and edits that statements make of numbers. -/
namespace Go.Proofs.YtpoegfkajdbplaaDoor
open Go.Dm Go.Dm.Sx
set_option linter.unusedVariables false
set_option linter.unusedSimpArgs false

theorem keepLines_len (l : List (List Int)) : (keepLines l).length ≤ 12 := by unfold keepLines; simp; omega
theorem keepB_ne (n : Int) : keepB n ≠ 10 := by
  unfold keepB
  have hw := within_in (n := n) (lo := 0) (hi := 7) (by decide)
  generalize within n 0 7 = w at *
  have : w = 0 ∨ w = 1 ∨ w = 2 ∨ w = 3 ∨ w = 4 ∨ w = 5 ∨ w = 6 ∨ w = 7 := by omega
  rcases this with rfl | rfl | rfl | rfl | rfl | rfl | rfl | rfl <;> decide
theorem keepText_good (l : List Int) : badLine (keepText l 6) = false := by
  unfold badLine
  have h1 := keepText_len (l := l) (i := 6) (by decide)
  rw [decide_eq_false (by omega), decide_eq_false]; rfl
  unfold keepText
  rw [List.mem_map]
  rintro ⟨x, _, h⟩
  exact keepB_ne x h
theorem okLines_map {l : List (List Int)} (h : l.length ≤ 60) : okLines (l.map (keepText · 6)) = true := by
  unfold okLines
  rw [decide_eq_true (by simpa using h), Bool.true_and, List.all_eq_true]
  intro x hx
  obtain ⟨y, _, rfl⟩ := List.mem_map.1 hx
  rw [keepText_good]; rfl
theorem keepEdit_good (k : KEdit) {n : Nat} (hn : n ≤ 12) : ∃ a c : Nat, ∃ put, keepEdit k n = ⟨a, c, put⟩ ∧ a ≤ n ∧ c ≤ n - a ∧ c ≤ 3 ∧ put.length ≤ 3 ∧ okLines put = true := by
  rw [show keepEdit k n = ⟨within k.at_ 0 n, within k.cut 0 (min (n - within k.at_ 0 n) 3), if (n : Int) < 40 then (k.put.take 3).map (keepText · 6) else []⟩ from rfl]
  have ha := within_in (n := k.at_) (lo := 0) (hi := n) (by omega)
  have hc := within_in (n := k.cut) (lo := 0) (hi := min (n - within k.at_ 0 n) 3) (by omega)
  generalize within k.at_ 0 n = a at *
  generalize within k.cut 0 (min (n - a) 3) = c at *
  obtain ⟨a, rfl⟩ : ∃ m : Nat, a = m := ⟨a.toNat, by omega⟩
  obtain ⟨c, rfl⟩ : ∃ m : Nat, c = m := ⟨c.toNat, by omega⟩
  refine ⟨a, c, _, rfl, by omega, by omega, by omega, ?_, ?_⟩
  · split
    · simp; omega
    · simp
  · split
    · exact okLines_map (by simp; omega)
    · rfl
theorem right_of {a c : Nat} {put ls : List Str} (h1 : a + c ≤ ls.length) (h2 : okLines put = true) (h3 : ls.length - c + put.length ≤ 60) : rightEdit ⟨a, c, put⟩ ls = true := by
  unfold rightEdit
  simp only [h2, Bool.and_true, Bool.and_eq_true, decide_eq_true_eq]
  omega
theorem do_of {a c : Nat} {put ls : List Str} (h : rightEdit ⟨a, c, put⟩ ls = true) : doE ⟨a, c, put⟩ ls = 0 ∧ doL ⟨a, c, put⟩ ls = ls.take a ++ put ++ ls.drop (a + c) := by
  unfold doE doL editDo
  rw [if_pos h, if_pos h]
  refine ⟨rfl, ?_⟩
  simp only [Int.toNat_natCast]
  rw [show ((a : Int) + c).toNat = a + c by omega]
end Go.Proofs.YtpoegfkajdbplaaDoor
