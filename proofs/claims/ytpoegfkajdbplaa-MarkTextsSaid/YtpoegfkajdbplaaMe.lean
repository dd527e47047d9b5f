/- Printed by merge2.py: many texts in one. -/
import Derived.Test.YtpoegfkajdbplaaMd
import Derived.Test.YtpoegfkajdbplaaMb
import Derived.ChangeArms
import Derived.OpenShut
import Derived.Carry
import Derived.ChangeSame

namespace Go.Proofs.Ytpoegfkajdbplaa
open Go.Dm Go.Dm.Sx Go.Fl
set_option linter.unusedVariables false
set_option linter.unusedSimpArgs false
set_option pp.deepTerms true
set_option pp.maxSteps 100000
def s_CountString : FSpec Un := ⟨⟨f_internal_bytealg_CountString, [tS, tU], [oI]⟩, fun (s, (c : Int), _) => 0 ≤ c ∧ c < 256, fun (s, c, _) => [DI (cntOf (Int.toNat c) s 0)], fun _ => rfl⟩
theorem extCnt : Ext Try.prog f_internal_bytealg_CountString Extern.BytealgCount.count := ext_of Try.func64 (by kernel_rfl) (by kernel_rfl) (by kernel_rfl) (by kernel_rfl)
theorem countString_ok : FGood Try.prog s_CountString := by
  rintro ⟨(s : List UInt8), (c : Int), _⟩ vs ha ⟨h1, h2⟩ σ
  obtain ⟨d, ds, v, vs', e1, rfl, e2, hv, d2, ds2, v2, vs2, e3, rfl, e4, hv2, e5, rfl⟩ := ha
  cases e1; cases e3
  obtain ⟨x, rfl, hx⟩ := hv
  obtain ⟨y, rfl, hy⟩ := hv2
  have q1 := FD.str hx
  have q2 := FD.int hy
  subst q1 q2
  have hs : spCount [.c (.f (.str s)), .c (.f (.int .u8 c))] σ = some [(vint' .i64 (cntOf c.toNat s 0), σ)] := by
    obtain ⟨n, rfl⟩ : ∃ n : Nat, c = n := ⟨c.toNat, by have : (0 : Int) ≤ c := h1; omega⟩
    have : n < 256 := by have : ((n : Int)) < 256 := h2; omega
    show (match Nat.blt n 256 with | true => _ | false => _) = _
    rw [blt_true this]
    rfl
  refine (count_ok extCnt hs).mono fun r σ' hm => ?_
  rw [List.mem_singleton] at hm
  cases hm
  exact ⟨⟨[vint' .i64 (cntOf c.toNat s 0)], ⟨_, [], rfl, ⟨_, rfl, rfl⟩, rfl⟩, rfl⟩, rfl⟩
noncomputable def k_Count : Wk (X [s_CountString]) w_strings_Count.F [tS, tS] [oI] := ⟨_, by cbv, _, by cbv, _, by cbv⟩
def s_Count : FSpec Un := ⟨⟨f_strings_Count, [tS, tS], [oI]⟩, fun ((s : Str), (t : Str), _) => t.length = 1, fun ((s : Str), (t : Str), _) => [DI (cntOf (t.getD 0 0).toNat s 0)], fun _ => rfl⟩
theorem count_ok' : FGood Try.prog s_Count := by
  refine Wk.ok mixed tok (envOk (.cons countString_ok .nil) [] no_same) w_strings_Count k_Count rfl rfl ?_
  rintro ⟨(s : Str), (t : Str), _⟩ hpre R hR Go hGo
  replace hR : R = [DI (cntOf (t.getD 0 0).toNat s 0)] := hR
  replace hpre : t.length = 1 := hpre
  show TDen _ _ _ _ [DS s, DS t]
  simp [k_Count, TDen, Tm.den, nthD, s_CountString, hpre, hR]
  obtain ⟨c, rfl⟩ := List.length_eq_one_iff.1 hpre
  have := c.toNat_lt
  simp
  omega
def hasSuf (s t : Str) : Bool := decide (t.length ≤ s.length) && decide (s.drop (s.length - t.length) = t)
noncomputable def k_LSuf : Wk (X []) w_internal_stringslite_HasSuffix.F [tS, tS] [.bool] := ⟨_, by cbv, _, by cbv, _, by cbv⟩
def s_LSuf : FSpec Un := ⟨⟨f_internal_stringslite_HasSuffix, [tS, tS], [.bool]⟩, fun ((s : Str), _) => s.length ≤ 1000000, fun ((s : Str), (t : Str), _) => [DB (hasSuf s t)], fun _ => rfl⟩
theorem lsuf_ok : FGood Try.prog s_LSuf := by
  refine Wk.ok mixed tok (envOk .nil [] no_same) w_internal_stringslite_HasSuffix k_LSuf rfl rfl ?_
  rintro ⟨(s : Str), (t : Str), _⟩ hpre R hR Go hGo
  replace hR : R = [DB (hasSuf s t)] := hR
  replace hpre : s.length ≤ 1000000 := hpre
  show TDen _ _ _ _ [DS s, DS t]
  simp [k_LSuf, TDen, Tm.den, nthD, in64, hR]
  refine ⟨fun h => ⟨by omega, by omega, ?_⟩, fun h => ?_⟩
  · unfold hasSuf
    have e : List.take (List.length s - (List.length s - List.length t)) (List.drop (List.length s - List.length t) s) = List.drop (List.length s - List.length t) s := List.take_of_length_le (by simp)
    simp only [e, decide_eq_true h, Bool.true_and]
  · unfold hasSuf
    rw [decide_eq_false (by omega), Bool.false_and]
noncomputable def k_Suf : Wk (X [s_LSuf]) w_strings_HasSuffix.F [tS, tS] [.bool] := ⟨_, by cbv, _, by cbv, _, by cbv⟩
def s_Suf : FSpec Un := ⟨⟨f_strings_HasSuffix, [tS, tS], [.bool]⟩, fun ((s : Str), _) => s.length ≤ 1000000, fun ((s : Str), (t : Str), _) => [DB (hasSuf s t)], fun _ => rfl⟩
theorem suf_ok : FGood Try.prog s_Suf := by
  refine Wk.ok mixed tok (envOk (.cons lsuf_ok .nil) [] no_same) w_strings_HasSuffix k_Suf rfl rfl ?_
  rintro ⟨(s : Str), (t : Str), _⟩ hpre R hR Go hGo
  replace hR : R = [DB (hasSuf s t)] := hR
  replace hpre : s.length ≤ 1000000 := hpre
  show TDen _ _ _ _ [DS s, DS t]
  simp [k_Suf, TDen, Tm.den, nthD, s_LSuf, hR, hpre]
def linesOf (s : Str) : Int := cntOf 10 s 0 + (if s = [] then 0 else if hasSuf s [10] = true then 0 else 1)
noncomputable def k_MText : Wk (X [s_Count, s_Suf, s_Of]) w_mark_Text.F [tS] [.cpl] := ⟨_, by cbv, _, by cbv, _, by cbv⟩
def s_MText : FSpec Un := ⟨⟨f_mark_Text, [tS], [.cpl]⟩, fun ((s : Str), _) => s.length ≤ 1000000, fun ((s : Str), _) => [DC (mkM (linesOf s, s.length))], fun _ => rfl⟩
theorem cnt_le (c : Nat) : ∀ (s : Str) (n : Nat), n ≤ cntOf c s n ∧ cntOf c s n ≤ n + s.length
  | [], n => by simp [cntOf]
  | x :: r, n => by
    have h1 := cnt_le c r n
    have h2 := cnt_le c r (n + 1)
    simp only [cntOf, List.length_cons]
    split <;> omega
theorem mtext_ok : FGood Try.prog s_MText := by
  refine Wk.ok mixed tok (envOk (.cons count_ok' (.cons suf_ok (.cons of_ok .nil))) [] no_same) w_mark_Text k_MText rfl rfl ?_
  rintro ⟨(s : Str), _⟩ hpre R hR Go hGo
  replace hR : R = [DC (mkM (linesOf s, s.length))] := hR
  replace hpre : s.length ≤ 1000000 := hpre
  have hc := cnt_le 10 s 0
  show TDen _ _ _ _ [DS s]
  simp [k_MText, TDen, Tm.den, nthD, s_Count, s_Suf, s_Of, in64, hpre, hR, linesOf]
  refine ⟨fun h => ⟨fun h2 => ⟨by omega, by omega, ?_⟩, fun h2 => ?_⟩, fun h => ?_⟩
  · simp [h, h2]
  · simp [h, h2]
  · simp [h]
noncomputable def k_MLine : Wk (X [s_Of]) w_mark_Line.F [tS] [.cpl] := ⟨_, by cbv, _, by cbv, _, by cbv⟩
def s_MLine : FSpec Un := ⟨⟨f_mark_Line, [tS], [.cpl]⟩, fun ((s : Str), _) => s.length ≤ 1000000, fun ((s : Str), _) => [DC (mkM (1, s.length + 1))], fun _ => rfl⟩
theorem mline_ok : FGood Try.prog s_MLine := by
  refine Wk.ok mixed tok (envOk (.cons of_ok .nil) [] no_same) w_mark_Line k_MLine rfl rfl ?_
  rintro ⟨(s : Str), _⟩ hpre R hR Go hGo
  replace hR : R = [DC (mkM (1, s.length + 1))] := hR
  replace hpre : s.length ≤ 1000000 := hpre
  show TDen _ _ _ _ [DS s]
  simp [k_MLine, TDen, Tm.den, nthD, s_Of, in64, hR]
  omega
theorem feq_self {p : Int × Int} (h : Ok1 p) : bfcmp .eql (mkM p).1 (mkM p).1 = true ∧ bfcmp .eql (mkM p).2 (mkM p).2 = true := by
  unfold mkM
  rw [feq_flo ⟨h.1, h.2.1⟩ ⟨h.1, h.2.1⟩, feq_flo ⟨h.2.2.1, h.2.2.2⟩ ⟨h.2.2.1, h.2.2.2⟩]; simp
def s_MRuns : FSpec Un := ⟨⟨f_glosslaw1_MarkRuns, [], [.bool]⟩, fun _ => True, fun _ => [DB true], fun _ => rfl⟩
set_option maxRecDepth 100000 in
set_option cbv.maxSteps 10000000 in
noncomputable def k_MRuns : Wk (X [s_Of, s_Sum, s_MText, s_MLines, s_MBytes, s_MLine]) w_glosslaw1_MarkRuns.F [] [.bool] := ⟨_, by cbv, _, by cbv, _, by cbv⟩
theorem mruns_ok : FGood Try.prog s_MRuns := by
  refine Wk.ok mixed tok (envOk (.cons of_ok (.cons sum_ok (.cons mtext_ok (.cons mlines_ok (.cons mbytes_ok (.cons mline_ok .nil)))))) [] no_same) w_glosslaw1_MarkRuns k_MRuns rfl rfl ?_
  rintro _ hpre R hR Go hGo
  replace hR : R = [DB true] := hR
  show TDen _ _ _ _ []
  simp [k_MRuns, TDen, Tm.den, nthD, s_Of, s_Sum, s_MText, s_MLines, s_MBytes, s_MLine, in64, hR]
  have z : (0, 0) = mkM (0, 0) := by rfl
  have o1 : ∀ p ∈ [((1 : Int), (5 : Int)), (2, 7)], Ok1 p := by simp [Ok1]
  have o0 : ∀ p ∈ ([] : List (Int × Int)), Ok1 p := by simp
  have a1 : sumM [mkM (1, 5), mkM (2, 7)] = mkM (3, 12) := sum_mk o1
  have a2 : sumM [] = mkM (0, 0) := sum_mk o0
  have k1 : Ok1 (3, 12) := by simp [Ok1]
  have k2 : Ok1 (2, 3) := by simp [Ok1]
  have k3 : Ok1 (0, 0) := by simp [Ok1]
  have k4 : Ok1 (1, 3) := by simp [Ok1]
  have p1 : SPre [mkM (1, 5), mkM (2, 7)] := ⟨[((1 : Int), (5 : Int)), (2, 7)], rfl, by simp [nonP], k1, o1, by simp⟩
  have p2 : SPre [] := ⟨[], rfl, by simp [nonP], k3, o0, by simp⟩
  have p3 : MPre (mkM (3, 12)) := ⟨_, k1, rfl⟩
  have p4 : MPre (mkM (2, 3)) := ⟨_, k2, rfl⟩
  have e1 : linesOf [97, 10, 98] = 2 := by decide
  have z1 : (mkM (0, 0)).1 = 0 := rfl
  have z2 : (mkM (0, 0)).2 = 0 := rfl
  have f1 := feq_self k3
  rw [z1, z2] at f1
  rw [a1, a2, e1, lines_mk k1, bytes_mk k1, lines_mk k2, bytes_mk k2, z1, z2]
  simp [p1, p2, p3, p4, f1, feq_self k4]
end Go.Proofs.Ytpoegfkajdbplaa
namespace Go.Proofs.Ytpoegfkajdbplaa
open Go.Dm Go.Dm.Sx Go.Fl
set_option linter.unusedVariables false
set_option linter.unusedSimpArgs false
set_option pp.deepTerms true
set_option pp.maxSteps 100000
set_option maxRecDepth 100000 in
set_option cbv.maxSteps 10000000 in
noncomputable def k_MTexts : Wk (X [s_Of, s_Sum, s_MText, s_MLines, s_MBytes, s_MLine, s_MRuns]) w_glosslaw1_MarkTexts.F [tLS, tS] [.bool] := ⟨_, by cbv, _, by cbv, _, by cbv⟩
theorem cnt_app (c : Nat) : ∀ (a b : Str) (n : Nat), cntOf c (a ++ b) n = cntOf c b (cntOf c a n)
  | [], b, n => rfl
  | x :: r, b, n => by simp only [List.cons_append, cntOf]; split <;> exact cnt_app c r b _
theorem cnt_from (c : Nat) : ∀ (a : Str) (n : Nat), cntOf c a n = n + cntOf c a 0
  | [], n => rfl
  | x :: r, n => by
    simp only [cntOf]
    split
    · rw [cnt_from c r (n + 1), cnt_from c r (0 + 1)]; omega
    · exact cnt_from c r n
theorem suf_iff {s : Str} : hasSuf s [10] = true ↔ ∃ p, s = p ++ [10] := by
  unfold hasSuf
  simp only [Bool.and_eq_true, decide_eq_true_eq, List.length_singleton]
  refine ⟨fun ⟨h1, h2⟩ => ⟨s.take (s.length - 1), by conv => lhs; rw [← List.take_append_drop (s.length - 1) s, h2]⟩, ?_⟩
  rintro ⟨p, rfl⟩
  simp
def TInv (s : Str) (i : Nat) : Prop := cntOf 10 s 0 = i ∧ (s = [] ∨ hasSuf s [10] = true) ∧ s.length ≤ 21 * i ∧ i ≤ 12
theorem tinv0 : TInv [] 0 := ⟨rfl, .inl rfl, by simp, by omega⟩
theorem lines_app {s t : Str} (h : s = [] ∨ hasSuf s [10] = true) : linesOf (s ++ t) = (cntOf 10 s 0 : Int) + linesOf t := by
  have hc : (cntOf 10 (s ++ t) 0 : Int) = cntOf 10 s 0 + cntOf 10 t 0 := by rw [cnt_app, cnt_from 10 t]; omega
  by_cases ht : t = []
  · subst ht
    rw [List.append_nil]
    unfold linesOf
    rcases h with rfl | h
    · rfl
    · simp [h, cntOf]
  · have hs : hasSuf (s ++ t) [10] = hasSuf t [10] := by
      rw [Bool.eq_iff_iff, suf_iff, suf_iff]
      constructor
      · rintro ⟨p, hp⟩
        rcases List.append_eq_append_iff.1 hp with ⟨a, h1, h2⟩ | ⟨a, h1, h2⟩
        · exact ⟨a, h2⟩
        · cases a with
          | nil => exact ⟨[], by simpa using h2.symm⟩
          | cons x a => cases a <;> simp_all
      · rintro ⟨p, rfl⟩; exact ⟨s ++ p, by simp⟩
    unfold linesOf
    rw [hc, hs]
    simp only [List.append_eq_nil_iff, ht, and_false, if_false]
    omega
theorem lines_inv {s : Str} {i : Nat} (h : TInv s i) : linesOf s = i := by
  have := lines_app (s := s) (t := []) h.2.1
  rw [List.append_nil, h.1] at this
  rw [this]; simp [linesOf, cntOf]
theorem lines_le (t : Str) : 0 ≤ linesOf t ∧ linesOf t ≤ t.length := by
  have h := cnt_le 10 t 0
  unfold linesOf
  split
  · rename_i h; subst h; simp [cntOf]
  · rename_i h
    split
    · omega
    · rename_i h2
      refine ⟨by omega, ?_⟩
      have h3 := List.dropLast_concat_getLast h
      generalize t.dropLast = p at h3
      generalize t.getLast h = x at h3
      subst h3
      rw [cnt_app]
      have h3 := cnt_le 10 p 0
      have hx : x ≠ 10 := by rintro rfl; exact h2 (suf_iff.2 ⟨p, rfl⟩)
      have : (Nat.beq x.toNat 10) = false := nbeq_false fun e => hx (UInt8.toNat_inj.1 e)
      simp only [cntOf, this, List.length_append, List.length_singleton]
      omega
theorem tfacts {s : Str} {i : Nat} (h : TInv s i) {t : Str} (ht : t.length ≤ 30) :
    linesOf s = i ∧ linesM (mkM ((i : Int), (s.length : Int))) = i ∧ bytesM (mkM ((i : Int), (s.length : Int))) = s.length ∧ MPre (mkM ((i : Int), (s.length : Int))) ∧
    linesOf (s ++ t) = i + linesOf t ∧ sumM [mkM ((i : Int), (s.length : Int)), mkM (linesOf t, (t.length : Int))] = mkM (i + linesOf t, (s.length : Int) + t.length) ∧ SPre [mkM ((i : Int), (s.length : Int)), mkM (linesOf t, (t.length : Int))] ∧
    (bfcmp .eql (mkM ((i : Int), (s.length : Int))).1 (mkM ((i : Int), (s.length : Int))).1 = true ∧ bfcmp .eql (mkM ((i : Int), (s.length : Int))).2 (mkM ((i : Int), (s.length : Int))).2 = true) ∧
    (bfcmp .eql (mkM (i + linesOf t, (s.length : Int) + t.length)).1 (mkM (i + linesOf t, (s.length : Int) + t.length)).1 = true ∧ bfcmp .eql (mkM (i + linesOf t, (s.length : Int) + t.length)).2 (mkM (i + linesOf t, (s.length : Int) + t.length)).2 = true) ∧
    linesOf [] = 0 ∧ (bfcmp .eql (mkM (0, 0)).1 0 = true ∧ bfcmp .eql (mkM (0, 0)).2 0 = true) ∧ s.length ≤ 300 := by
  have h1 := lines_inv h
  have h2 := lines_app (t := t) h.2.1
  have h3 := lines_le t
  obtain ⟨g1, g2, g3, g4⟩ := h
  rw [g1] at h2
  have k1 : Ok1 ((i : Int), (s.length : Int)) := ⟨by simp, by simp; omega, by simp, by simp; omega⟩
  have k2 : Ok1 (linesOf t, (t.length : Int)) := ⟨by simp; omega, by simp; omega, by simp, by simp; omega⟩
  have k3 : Ok1 (i + linesOf t, (s.length : Int) + t.length) := ⟨by simp; omega, by simp; omega, by simp; omega, by simp; omega⟩
  have two : ∀ p ∈ [((i : Int), (s.length : Int)), (linesOf t, (t.length : Int))], Ok1 p := fun p hp => by simp at hp; rcases hp with rfl | rfl; exact k1; exact k2
  have tw : sumP [((i : Int), (s.length : Int)), (linesOf t, (t.length : Int))] = (i + linesOf t, (s.length : Int) + t.length) := by simp [sumP]
  have k0 : Ok1 (0, 0) := by simp [Ok1]
  refine ⟨h1, lines_mk k1, bytes_mk k1, ⟨_, k1, rfl⟩, h2, ?_, ⟨_, rfl, fun p hp => ⟨(two p hp).1, (two p hp).2.2.1⟩, by rw [tw]; exact k3, two, by simp⟩, feq_self k1, feq_self k3, by decide, feq_self k0, by omega⟩
  have := sum_mk two; rw [tw] at this; exact this
theorem tnext {s l : Str} {i : Nat} (h : TInv s i) (hl : cntOf 10 l 0 = 0) (h2 : l.length ≤ 20) (h3 : i < 12) :
    SPre [mkM ((i : Int), (s.length : Int)), mkM (1, (l.length : Int) + 1)] ∧ sumM [mkM ((i : Int), (s.length : Int)), mkM (1, (l.length : Int) + 1)] = mkM (((i + 1 : Nat) : Int), ((s ++ (l ++ [10])).length : Int)) ∧ TInv (s ++ (l ++ [10])) (i + 1) := by
  obtain ⟨g1, g2, g3, g4⟩ := h
  have k1 : Ok1 ((i : Int), (s.length : Int)) := ⟨by simp, by simp; omega, by simp, by simp; omega⟩
  have k2 : Ok1 (1, (l.length : Int) + 1) := ⟨by simp, by simp, by simp; omega, by simp; omega⟩
  have two : ∀ p ∈ [((i : Int), (s.length : Int)), (1, (l.length : Int) + 1)], Ok1 p := fun p hp => by simp at hp; rcases hp with rfl | rfl; exact k1; exact k2
  have tw : sumP [((i : Int), (s.length : Int)), (1, (l.length : Int) + 1)] = (((i + 1 : Nat) : Int), ((s ++ (l ++ [10])).length : Int)) := by simp [sumP]
  have k3 : Ok1 (((i + 1 : Nat) : Int), ((s ++ (l ++ [10])).length : Int)) := ⟨by simp; omega, by simp; omega, by simp; omega, by simp; omega⟩
  refine ⟨⟨_, rfl, fun p hp => ⟨(two p hp).1, (two p hp).2.2.1⟩, by rw [tw]; exact k3, two, by simp⟩, by have := sum_mk two; rw [tw] at this; exact this, ?_, .inr (suf_iff.2 ⟨s ++ l, by simp⟩), by simp; omega, by omega⟩
  rw [cnt_app, g1, cnt_app, cnt_from 10 l, hl]; rfl
def s_MTexts : FSpec Un := ⟨⟨f_glosslaw1_MarkTexts, [tLS, tS], [.bool]⟩, fun _ => True, fun _ => [DB true], fun _ => rfl⟩
theorem mtexts_ok : FGood Try.prog s_MTexts := by
  refine Wk.ok mixed tok (envOk (.cons of_ok (.cons sum_ok (.cons mtext_ok (.cons mlines_ok (.cons mbytes_ok (.cons mline_ok (.cons mruns_ok .nil))))))) [] no_same) w_glosslaw1_MarkTexts k_MTexts rfl rfl ?_
  rintro ⟨(ls : List Str), (last : Str), _⟩ hpre R hR Go hGo
  replace hR : R = [DB true] := hR
  have h0 := hGo 0 _ rfl
  have h1 := hGo 1 _ rfl
  clear hGo
  show TDen _ _ _ _ [DL .str ls, DS last]
  simp [k_MTexts, TDen, Tm.den, nthD, s_Of, s_Sum, s_MText, s_MLines, s_MBytes, s_MLine, s_MRuns, in64]
  refine h0 (Str × Nat) (fun y => [DL .str ls, DS last, DS y.1, DC (mkM ((y.2 : Int), (y.1.length : Int))), DI y.2, DI y.2]) (fun y => TInv y.1 y.2 ∧ y.2 ≤ ls.length) (fun y => 12 - y.2) (fun ⟨s, i⟩ hI ih => ?_) ([], 0) ⟨tinv0, Nat.zero_le _⟩
  obtain ⟨hT, hi⟩ := hI
  dsimp only at hT hi ih ⊢
  have hlen : (last.take 30).length ≤ 30 := by simp; omega
  obtain ⟨f1, f2, f3, f4, f5, f6, f7, f8, f9, f10, f11, f12⟩ := tfacts hT hlen
  have ht : List.take (min (last.length : Int) 30).toNat last = last.take 30 := by rw [List.take_eq_take_iff]; omega
  generalize hlt : last.take 30 = t at *
  simp [TDen, Tm.den, nthD, s_Of, s_Sum, s_MText, s_MLines, s_MBytes, s_MLine, s_MRuns, in64, f1, f2, f3, f4, f5, f6, f7, f8, f9, f10, f11, hR, mnxI, ht, -List.length_take]
  clear h0
  refine ⟨fun a1 => ⟨fun a2 => ?_, fun _ => ?_⟩, fun _ => ?_⟩
  · refine h1 (Str × Nat) (fun y => [DL .str ls, DS last, DS s, DC (mkM ((i : Int), (s.length : Int))), DI i, DI i, DS y.1, DI y.2, DB (decide ((i : Int) < 12))]) (fun y => cntOf 10 y.1 0 = 0 ∧ y.1.length ≤ y.2 ∧ y.2 ≤ 20) (fun y => 20 - y.2) (fun ⟨l, k⟩ hI ih1 => ?_) ([], 0) ⟨rfl, by simp, by simp⟩
    clear h1
    simp only at hI ih1 ⊢
    obtain ⟨b1, b2, b3⟩ := hI
    simp [TDen, Tm.den, nthD, s_Of, s_Sum, s_MText, s_MLines, s_MBytes, s_MLine, s_MRuns, in64, hR, mnxI]
    have hnext : l.length ≤ 20 → List.length s + List.length l ≤ 9223372036854775807 ∧ List.length s + List.length l ≤ 9223372036854775806 ∧ List.length l ≤ 1000000 ∧ SPre [mkM (↑i, ↑(List.length s)), mkM (1, ↑(List.length l) + 1)] ∧ (-9223372036854775808 ≤ (i : Int) + 1 ∧ (i : Int) + 1 ≤ 9223372036854775807) ∧
        Go 0 [DL Ty.str ls, DS last, { t := Ty.str, v := s ++ (l ++ [10]) }, DC (sumM [mkM (↑i, ↑(List.length s)), mkM (1, ↑(List.length l) + 1)]), { t := Ty.int IntKind.i64, v := (i : Int) + 1 }, { t := Ty.int IntKind.i64, v := (i : Int) + 1 }] := fun hl => by
      obtain ⟨n1, n2, n3⟩ := tnext hT b1 hl (by omega)
      have key := ih (s ++ (l ++ [10]), i + 1) (by simp only; omega) ⟨n3, by simp only; omega⟩
      rw [n2]
      exact ⟨by omega, by omega, by omega, n1, by omega, key⟩
    refine ⟨a1, fun (x : Str) hx => ⟨fun c1 => ⟨fun c2 => ⟨a1, fun (x' : Str) hx' => ?_⟩, fun _ => hnext (by omega)⟩, fun _ => hnext (by omega)⟩⟩
    obtain rfl : x = x' := by rw [hx] at hx'; exact Option.some.inj hx'
    refine ⟨c1, fun d1 => ⟨a1, fun (x' : Str) hx' => ?_⟩, fun d1 => ⟨by omega, ?_⟩⟩
    · obtain rfl : x = x' := by rw [hx] at hx'; exact Option.some.inj hx'
      refine ⟨by omega, by omega, by omega, by omega, ?_⟩
      refine ih1 (l ++ List.take 1 (List.drop k x), k + 1) (by simp only; omega) ⟨?_, ?_, ?_⟩
      · have : List.take 1 (List.drop k x) = [x.getD k 0] := by
          rw [List.drop_eq_getElem_cons c1, List.getD_eq_getElem?_getD, List.getElem?_eq_getElem c1]; rfl
        rw [this, cnt_app, b1]
        have : (Nat.beq (x.getD k 0).toNat 10) = false := nbeq_false fun e => d1 (by simp only [List.getD] at e; rw [e]; rfl)
        simp only [cntOf, this]
      · simp; omega
      · simp only; omega
    · exact ih1 (l, k + 1) (by simp only; omega) ⟨b1, by simp only; omega, by simp only; omega⟩
  all_goals omega
end Go.Proofs.Ytpoegfkajdbplaa
namespace Go.Dm
open Go.RowKit
set_option linter.unusedVariables false
set_option linter.unusedSimpArgs false
def FReps (g : G) (w : World) : List F → List Value → Prop
  | [], vs => vs = []
  | x :: r, vs => ∃ v vr, vs = v :: vr ∧ FRep g w x v ∧ FReps g w r vr
def rowFields (P : Program) : List Field → Nat → Nat → Bool
  | [], i, n => Nat.beq i n
  | f :: r, i, n => Nat.beq f.offset i && rowFields P r (i + P.cellsOf f.type) n
def tyOk (P : Program) : Nat → TypeId → Bool
  | 0, _ => false
  | n + 1, t =>
    match P.underlying t with
    | some .bool => true
    | some (.int _) => true
    | some .string => true
    | some (.slice e) => Nat.blt 0 (P.cellsOf e) && tyOk P n e
    | some (.struct fs) => rowFields P fs.toList 0 (P.cellsOf t) && fs.toList.all fun f => tyOk P n f.type
    | some (.array m e) => Nat.beq (m * P.cellsOf e) (P.cellsOf t) && tyOk P n e
    | _ => false
def TyF (P : Program) : Nat → TypeId → List F → Prop
  | 0, _, _ => False
  | n + 1, t, fs =>
    match P.underlying t with
    | some .bool => ∃ b, fs = [.bool b]
    | some (.int k) => ∃ v, fs = [.int k v] ∧ (Lit.int k v).wf = true
    | some .string => ∃ s, fs = [.str s] ∧ s.length ≤ maxLen
    | some (.slice e) => fs = [.nils] ∨ ∃ m cs, fs = [.sl m cs] ∧ m ≤ maxLen ∧ cs.length = m * P.cellsOf e ∧ ∀ i, i < m → TyF P n e ((cs.drop (i * P.cellsOf e)).take (P.cellsOf e))
    | some (.struct fields) => fs.length = P.cellsOf t ∧ ∀ f ∈ fields.toList, TyF P n f.type ((fs.drop f.offset).take (P.cellsOf f.type))
    | some (.array m e) => fs.length = P.cellsOf t ∧ ∀ i, i < m → TyF P n e ((fs.drop (i * P.cellsOf e)).take (P.cellsOf e))
    | _ => False
section
variable {g : G} {w : World} {P : Program}
theorem FReps.len : ∀ {fs : List F} {vs : List Value}, FReps g w fs vs → fs.length = vs.length
  | [], vs, h => by simp only [FReps] at h; subst h; rfl
  | x :: r, vs, h => by obtain ⟨v, vr, rfl, _, h2⟩ := h; simp [h2.len]
theorem FReps.app : ∀ {fs gs : List F} {vs us : List Value}, FReps g w fs vs → FReps g w gs us → FReps g w (fs ++ gs) (vs ++ us)
  | [], gs, vs, us, h, k => by simp only [FReps] at h; subst h; exact k
  | x :: r, gs, vs, us, h, k => by obtain ⟨v, vr, rfl, h1, h2⟩ := h; exact ⟨v, vr ++ us, rfl, h1, h2.app k⟩
theorem FReps.c {σ : St} : ∀ {fs : List F} {vs : List Value}, FReps g w fs vs → CReps g w σ (fs.map .f) vs
  | [], vs, h => h
  | x :: r, vs, h => by obtain ⟨v, vr, rfl, h1, h2⟩ := h; exact ⟨v, vr, rfl, h1, h2.c⟩
theorem pieces {Q : List F → Prop} (sz : Nat) : ∀ (n i : Nat) (vs : List Value), vs.length = n * sz →
    (∀ j, j < n → ∃ fs, FReps g w fs ((vs.drop (j * sz)).take sz) ∧ fs.length = sz ∧ Q fs) → ∃ fs, FReps g w fs vs ∧ fs.length = n * sz ∧ ∀ j, j < n → Q ((fs.drop (j * sz)).take sz)
  | 0, i, vs, hl, h => by
    have : vs = [] := List.eq_nil_of_length_eq_zero (by simpa using hl)
    subst this
    exact ⟨[], rfl, by simp, fun j hj => by omega⟩
  | n + 1, i, vs, hl, h => by
    obtain ⟨f0, h0, l0, q0⟩ := h 0 (by omega)
    simp only [Nat.zero_mul, List.drop_zero] at h0
    obtain ⟨fr, h1, l1, q1⟩ := pieces (Q := Q) sz n (i + 1) (vs.drop sz) (by rw [List.length_drop, hl, Nat.add_mul]; omega) fun j hj => by
      obtain ⟨fs, a, b, c⟩ := h (j + 1) (by omega)
      refine ⟨fs, ?_, b, c⟩
      rw [List.drop_drop]
      rw [show sz + j * sz = (j + 1) * sz from by rw [Nat.add_mul]; omega]
      exact a
    refine ⟨f0 ++ fr, ?_, by rw [List.length_append, l0, l1, Nat.add_mul]; omega, fun j hj => ?_⟩
    · have := h0.app h1
      rwa [List.take_append_drop] at this
    · cases j with
      | zero =>
        simp only [Nat.zero_mul, List.drop_zero]
        rw [List.take_append_of_le_length (by omega), List.take_of_length_le (by omega)]
        exact q0
      | succ j =>
        have e : (j + 1) * sz = f0.length + j * sz := by rw [l0, Nat.add_mul]; omega
        rw [e, List.drop_length_add_append]
        exact q1 j (by omega)
theorem fields_go {Q : Field → List F → Prop} {vs : List Value} : ∀ (l : List Field) (i : Nat), rowFields P l i vs.length = true →
    (∀ f ∈ l, ∃ fs, FReps g w fs ((vs.drop f.offset).take (P.cellsOf f.type)) ∧ fs.length = P.cellsOf f.type ∧ Q f fs) →
    ∃ fs, FReps g w fs (vs.drop i) ∧ ∀ f ∈ l, i ≤ f.offset ∧ Q f ((fs.drop (f.offset - i)).take (P.cellsOf f.type))
  | [], i, hr, h => by
    have hi := Nat.eq_of_beq_eq_true hr
    refine ⟨[], ?_, fun f hf => by cases hf⟩
    rw [List.drop_of_length_le (by omega)]
    rfl
  | f :: r, i, hr, h => by
    simp only [rowFields, Bool.and_eq_true] at hr
    have ho := Nat.eq_of_beq_eq_true hr.1
    obtain ⟨f0, h0, l0, q0⟩ := h f (by simp)
    obtain ⟨fr, h1, q1⟩ := fields_go r (i + P.cellsOf f.type) hr.2 fun f' hf' => h f' (List.mem_cons_of_mem _ hf')
    rw [ho] at h0
    refine ⟨f0 ++ fr, ?_, fun f' hf' => ?_⟩
    · have := h0.app h1
      rw [← List.drop_drop, List.take_append_drop] at this
      exact this
    · rcases List.mem_cons.1 hf' with rfl | hf'
      · refine ⟨by omega, ?_⟩
        rw [ho, Nat.sub_self, List.drop_zero, List.take_append_of_le_length (by omega), List.take_of_length_le (by omega)]
        exact q0
      · obtain ⟨hle, hq⟩ := q1 f' hf'
        refine ⟨by omega, ?_⟩
        rw [show f'.offset - i = f0.length + (f'.offset - (i + P.cellsOf f.type)) from by omega, List.drop_length_add_append]
        exact hq
theorem rowFields_le : ∀ (l : List Field) (i : Nat) {n : Nat}, rowFields P l i n = true → i ≤ n
  | [], i, n, h => Nat.le_of_eq (Nat.eq_of_beq_eq_true h)
  | f :: r, i, n, h => by
    simp only [rowFields, Bool.and_eq_true] at h
    have := rowFields_le r _ h.2
    omega
theorem rowFields_in : ∀ (l : List Field) (i : Nat) {n : Nat}, rowFields P l i n = true → ∀ f ∈ l, f.offset + P.cellsOf f.type ≤ n
  | [], i, n, h, f, hf => by cases hf
  | f0 :: r, i, n, h, f, hf => by
    simp only [rowFields, Bool.and_eq_true] at h
    have h0 := Nat.eq_of_beq_eq_true h.1
    rcases List.mem_cons.1 hf with rfl | hf
    · have := rowFields_le r _ h.2
      omega
    · exact rowFields_in r _ h.2 f hf
theorem cells_get {w : World} {base n : Nat} {a : Addr} {cs : List Value} (h : w.cells? base a n = some cs) : cs.length = n ∧ ∀ i, i < n → w.cell? (a.add i) = cs[i]? := by
  unfold World.cells? at h
  split at h
  · refine ⟨by simpa using mapM_some_length h, fun i hi => ?_⟩
    exact mapM_some_get h i i (by simp [hi])
  · cases h
theorem cell_in {w : World} {a : Addr} {v : Value} (h : w.cell? a = some v) : a.block < w.heap.size ∧ a.spot = none := by
  unfold World.cell? at h
  split at h
  · rename_i c T fz hb
    split at h
    · cases h
    · rename_i hs
      exact ⟨(Array.getElem?_eq_some_iff.1 hb).1, by cases hh : a.spot with | none => rfl | some x => simp [hh] at hs⟩
  · cases h
theorem frow_of {b : Nat} : ∀ {fs : List F} {vs : List Value} (o : Nat), FReps (ghost0 w) w fs vs → (∀ i, i < vs.length → w.cell? ⟨b, o + i, none⟩ = vs[i]?) → FRow (ghost0 w) w b o fs
  | [], vs, o, h, hc => trivial
  | x :: r, vs, o, h, hc => by
    obtain ⟨v, vr, rfl, h1, h2⟩ := h
    have h0 := hc 0 (by simp)
    simp at h0
    refine ⟨(cell_in h0).1, ⟨v, h0, h1⟩, frow_of (o + 1) h2 fun i hi => ?_⟩
    have := hc (i + 1) (by simp; omega)
    rw [show o + (i + 1) = o + 1 + i from by omega] at this
    simpa using this
theorem gather {w : World} {a : Addr} (sz : Nat) : ∀ (len : Nat), (∀ i, i < len → ∃ cs, w.cells? 0 (a.add (i * sz)) sz = some cs) → ∃ vs : List Value, vs.length = len * sz ∧ ∀ i, i < len → w.cells? 0 (a.add (i * sz)) sz = some ((vs.drop (i * sz)).take sz)
  | 0, _ => ⟨[], by simp, fun i hi => by omega⟩
  | k + 1, each => by
    obtain ⟨vs, h1, h2⟩ := gather sz k fun i hi => each i (by omega)
    obtain ⟨cs', h3⟩ := each k (by omega)
    refine ⟨vs ++ cs', by rw [List.length_append, h1, (cells_get h3).1, Nat.add_mul]; omega, fun i hi => ?_⟩
    by_cases hik : i < k
    · rw [h2 i hik]
      have hb : (i + 1) * sz ≤ k * sz := Nat.mul_le_mul_right _ hik
      rw [Nat.add_mul] at hb
      rw [List.drop_append_of_le_length (by omega), List.take_append_of_le_length (by rw [List.length_drop]; omega)]
    · have : i = k := by omega
      subst this
      rw [h3, ← h1, List.drop_left, List.take_of_length_le (by rw [(cells_get h3).1]; exact Nat.le_refl _)]
theorem trod_plain {H : Type} {enc : TypeId × Value → H} {spare : Nat → Bool} (hspare : ∀ b, spare b = true) {held : Bool} : ∀ (n : Nat) {t : TypeId} {fuel : Nat} {cs : List Value} {x : DataW H × List MemPlace}, tyOk P n t = true → cs.length = P.cellsOf t →
    DataW.trod enc P w 0 spare held fuel t cs = some x → ∃ fs, FReps (ghost0 w) w fs cs ∧ fs.length = P.cellsOf t ∧ TyF P n t fs
  | 0, t, fuel, cs, x, h, _, _ => by simp [tyOk] at h
  | n + 1, t, fuel, cs, x, h, hlen, ht => by
    simp only [tyOk] at h
    split at h
    · rename_i hu
      obtain ⟨b, rfl, _⟩ := DataW.trod_bool hu ht
      exact ⟨[.bool b], ⟨_, [], rfl, rfl, rfl⟩, hlen, by simp only [TyF, hu]; exact ⟨b, rfl⟩⟩
    · rename_i k hu
      obtain ⟨v, rfl, _, hw⟩ := DataW.trod_int hu ht
      exact ⟨[.int k v], ⟨_, [], rfl, rfl, rfl⟩, hlen, by simp only [TyF, hu]; exact ⟨v, rfl, hw⟩⟩
    · rename_i hu
      obtain ⟨s, rfl, _, hs⟩ := DataW.trod_string hu ht
      refine ⟨[.str s.data.toList], ⟨_, [], rfl, ?_, rfl⟩, hlen, by simp only [TyF, hu]; exact ⟨_, rfl, by simpa using hs⟩⟩
      simp [FRep]
    · rename_i e hu
      simp only [Bool.and_eq_true] at h
      rcases DataW.trod_slice hu ht with ⟨rfl, _⟩ | ⟨a, len, cap, elems, rest, m, _, rfl, _, _, hl, hm, hle, hel, hsp, _⟩
      · exact ⟨[.nils], ⟨_, [], rfl, rfl, rfl⟩, hlen, by simp only [TyF, hu]; exact .inl trivial⟩
      · have he : P.cellsOf e = P.cellsOf e := rfl
        -- the elements' cells
        have each : ∀ i, i < len → ∃ cs', w.cells? 0 (a.add (i * P.cellsOf e)) (P.cellsOf e) = some cs' ∧ ∃ fs, FReps (ghost0 w) w fs cs' ∧ fs.length = P.cellsOf e ∧ TyF P n e fs := by
          intro i hi
          have h1 := hel i hi
          rw [List.getElem?_eq_getElem (by omega), Option.bind_eq_some_iff] at h1
          obtain ⟨cs', h2, h3⟩ := h1
          exact ⟨cs', h2, trod_plain hspare n h.2 (cells_get h2).1 h3⟩
        have all := gather (w := w) (a := a) (P.cellsOf e) len fun i hi => let ⟨cs', h, _⟩ := each i hi; ⟨cs', h⟩
        obtain ⟨vs, h1, h2⟩ := all
        obtain ⟨fs, q1, q2, q3⟩ := pieces (g := ghost0 w) (w := w) (Q := TyF P n e) (P.cellsOf e) len 0 vs h1 fun j hj => by
          obtain ⟨cs', h3, fs, h4, h5, h6⟩ := each j hj
          rw [h2 j hj] at h3
          cases h3
          exact ⟨fs, h4, h5, h6⟩
        refine ⟨[.sl len fs], ⟨_, [], rfl, ?_, rfl⟩, hlen, by simp only [TyF, hu]; exact .inr ⟨len, fs, rfl, by omega, q2, q3⟩⟩
        refine ⟨some a, cap, rfl, hl, hm, ?_⟩
        by_cases hz : 0 < vs.length
        · right
          have hsz : 0 < P.cellsOf e := by
            rcases Nat.eq_zero_or_pos (P.cellsOf e) with hh | hh
            · rw [h1, hh] at hz; omega
            · exact hh
          have hlen0 : 0 < len := by
            rcases Nat.eq_zero_or_pos len with hh | hh
            · rw [h1, hh] at hz; omega
            · exact hh
          obtain ⟨b, o, s⟩ := a
          have hs : s = none := by
            have e1 := (cells_get (h2 0 hlen0)).2 0 hsz
            have hl0 : (List.take (P.cellsOf e) (List.drop (0 * P.cellsOf e) vs))[0]? = some vs[0] := by
              rw [List.getElem?_take, if_pos hsz]; simp [hz]
            rw [hl0] at e1
            have := (cell_in e1).2
            simpa [Addr.add] using this
          subst hs
          have hcell : ∀ k, k < vs.length → w.cell? (Addr.add ⟨b, o, none⟩ k) = vs[k]? := by
            intro k hk
            have hd : k / P.cellsOf e < len := (Nat.div_lt_iff_lt_mul hsz).2 (by rw [← h1]; exact hk)
            have hmod := Nat.mod_lt k hsz
            have e1 := (cells_get (h2 _ hd)).2 (k % P.cellsOf e) hmod
            have e2 : k / P.cellsOf e * P.cellsOf e + k % P.cellsOf e = k := by rw [Nat.mul_comm]; exact Nat.div_add_mod k _
            rw [List.getElem?_take, if_pos hmod, List.getElem?_drop, e2, add_addr, add_addr, Nat.add_assoc, e2] at e1
            rw [← e1, add_addr]
          refine ⟨b, o, rfl, frow_of o q1 fun i hi => ?_⟩
          have := hcell i hi
          rwa [add_addr] at this
        · have hv : vs = [] := List.eq_nil_of_length_eq_zero (by omega)
          have hf : fs = [] := List.eq_nil_of_length_eq_zero (by rw [q2, ← h1, hv]; rfl)
          subst hf
          have hsz : 0 < P.cellsOf e := blt_nat h.1
          have hl0 : len = 0 := by
            rw [hv] at h1
            rcases Nat.eq_zero_or_pos len with hh | hh
            · exact hh
            · have := Nat.mul_pos hh hsz
              simp at h1
              omega
          subst hl0
          by_cases hc : cap = 0
          · exact .inl ⟨.inr hc, rfl, rfl⟩
          · right
            obtain ⟨hr, hj⟩ := hsp (hspare _)
            have h0 := hj 0 (by omega)
            rw [List.getElem?_eq_getElem (by omega), Option.bind_eq_some_iff] at h0
            obtain ⟨cs', e1, _⟩ := h0
            have e2 := (cells_get e1).2 0 hsz
            rw [List.getElem?_eq_getElem (by rw [(cells_get e1).1]; exact hsz)] at e2
            have := (cell_in e2).2
            simp [Addr.add] at this
            obtain ⟨b, o, s⟩ := a
            simp only at this
            subst this
            exact ⟨b, o, rfl, trivial⟩
    · rename_i fields hu
      simp only [Bool.and_eq_true, List.all_eq_true] at h
      obtain ⟨xs, m, rfl, _, hl, hx, hf⟩ := DataW.trod_struct hu ht
      have hr := h.1
      rw [← hl] at hr
      obtain ⟨fs, q1, q2⟩ := fields_go (g := ghost0 w) (w := w) (Q := fun f fs => TyF P n f.type fs) fields.toList 0 hr fun f hf' => by
        obtain ⟨i, hi⟩ := List.mem_iff_getElem?.1 hf'
        have h3 := hf i f (by simpa using hi)
        have hi' : i < xs.length := by rw [hx]; simpa using (List.getElem?_eq_some_iff.1 hi).1
        rw [List.getElem?_eq_getElem hi'] at h3
        have hlen' : ((cs.drop f.offset).take (P.cellsOf f.type)).length = P.cellsOf f.type := by
          have := rowFields_in fields.toList 0 hr f hf'
          rw [List.length_take, List.length_drop]
          omega
        exact trod_plain hspare n (h.2 f hf') hlen' h3
      rw [List.drop_zero] at q1
      refine ⟨fs, q1, by rw [q1.len, hl], ?_⟩
      simp only [TyF, hu]
      refine ⟨by rw [q1.len, hl], fun f hf' => ?_⟩
      have := (q2 f hf').2
      simpa using this
    · rename_i m e hu
      simp only [Bool.and_eq_true] at h
      have hme := Nat.eq_of_beq_eq_true h.1
      obtain ⟨xs, k, _, hx, hl, hlx, hf⟩ := DataW.trod_array hu ht
      obtain ⟨fs, q1, q2, q3⟩ := pieces (g := ghost0 w) (w := w) (Q := TyF P n e) (P.cellsOf e) m 0 cs (by rw [hlen, hme]) fun j hj => by
        have h3 := hf j hj
        rw [List.getElem?_eq_getElem (by omega)] at h3
        have hb : (j + 1) * P.cellsOf e ≤ m * P.cellsOf e := Nat.mul_le_mul_right _ hj
        rw [Nat.add_mul] at hb
        exact trod_plain hspare n h.2 (by rw [List.length_take, List.length_drop, hlen]; omega) h3
      refine ⟨fs, q1, by rw [q1.len, hlen], ?_⟩
      simp only [TyF, hu]
      exact ⟨by rw [q1.len, hlen], q3⟩
    · cases h
end
end Go.Dm
namespace Go.Dm
open Go.RowKit Go.ChangeShapes
set_option linter.unusedVariables false
set_option linter.unusedSimpArgs false
def aggT (P : Program) (t : TypeId) : Bool := match P.underlying t with | some (.struct _) | some (.array _ _) => true | _ => false
def argOk (P : Program) (n : Nat) (t : TypeId) : Bool := tyOk P n t && (aggT P t || Nat.beq (P.cellsOf t) 1)
def ArgF (P : Program) (n : Nat) (t : TypeId) (x : V) : Prop :=
  match aggT P t with
  | true => ∃ fs, x = .a (fs.map .f) ∧ TyF P n t fs
  | false => ∃ f, x = .c (.f f) ∧ TyF P n t [f]
def ArgsF (P : Program) (n : Nat) : List TypeId → List V → Prop
  | [], xs => xs = []
  | t :: ts, xs => ∃ x xr, xs = x :: xr ∧ ArgF P n t x ∧ ArgsF P n ts xr
section
variable {P : Program} {W : World} {H : Type} {enc : TypeId × Value → H}
theorem agg_cells {t : TypeId} (h : aggT P t = true) {base : Nat} {v : Value} (hv : Value.okWide P W .any base t v) : ∃ cs, v = .agg cs ∧ cs.size = P.cellsOf t := by
  unfold aggT at h
  unfold Value.okWide at hv
  split at h
  · rename_i fs hu
    rw [hu] at hv
    obtain ⟨cs, h1, h2, _⟩ := hv
    exact ⟨cs, h1, h2⟩
  · rename_i m e hu
    rw [hu] at hv
    obtain ⟨cs, h1, h2, _⟩ := hv
    exact ⟨cs, h1, h2⟩
  · cases h
theorem one_cells {n : Nat} {t : TypeId} (h : aggT P t = false) (ht : tyOk P n t = true) {base : Nat} {v : Value} (hv : Value.okWide P W .any base t v) : v.cells.toList = [v] := by
  unfold aggT at h
  unfold Value.okWide at hv
  cases n with
  | zero => simp [tyOk] at ht
  | succ n =>
  simp only [tyOk] at ht
  split at ht
  all_goals first
    | (rename_i hu; rw [hu] at h hv; simp only [Cell.okWide, hu] at hv; cases v <;> first | rfl | (simp [Cell.ok, hu] at hv; done))
    | (rename_i k hu; rw [hu] at h hv; simp only [Cell.okWide, hu] at hv; cases v <;> first | rfl | (simp [Cell.ok, hu] at hv; done))
    | (rename_i k hu; rw [hu] at h; cases h; done)
    | (rename_i k k' hu; rw [hu] at h; cases h; done)
    | cases ht
theorem arg_in {n : Nat} {t : TypeId} (ht : argOk P n t = true) {base : Nat} {v : Value} (hv : Value.okWide P W .any base t v) {d : DataW H} {ps : List MemPlace} (h : DataW.Trod enc P W 0 (fun _ => true) true t v d ps) :
    ∃ x, VRep (ghost0 W) W [] x v ∧ ArgF P n t x := by
  obtain ⟨fuel, hf⟩ := h
  simp only [argOk, Bool.and_eq_true, Bool.or_eq_true] at ht
  obtain ⟨ht, hc⟩ := ht
  unfold ArgF
  cases ha : aggT P t with
  | true =>
    obtain ⟨cs, rfl, hs⟩ := agg_cells ha hv
    obtain ⟨fs, h1, h2, h3⟩ := trod_plain (fun _ => rfl) n ht (by simpa [Value.cells] using hs) hf
    exact ⟨.a (fs.map .f), ⟨cs.toList, by simp, h1.c⟩, fs, rfl, h3⟩
  | false =>
    have h0 := one_cells ha ht hv
    rw [ha] at hc
    have h1 : P.cellsOf t = 1 := by
      rcases hc with hc | hc
      · cases hc
      · exact Nat.eq_of_beq_eq_true hc
    rw [h0] at hf
    obtain ⟨fs, k1, k2, k3⟩ := trod_plain (fun _ => rfl) n ht (by simp [h1]) hf
    rw [h1] at k2
    match fs, k1, k2, k3 with
    | [f], k1, _, k3 =>
      obtain ⟨u, ur, e1, e2, _⟩ := k1
      cases e1
      exact ⟨.c (.f f), e2, f, rfl, k3⟩
theorem args_in {n : Nat} {base : Nat} : ∀ {ts : List TypeId} {vs : List Value} {ds : List (DataW H)} {ps : List MemPlace}, ts.all (argOk P n) = true → (∀ (j : Nat) t v, ts[j]? = some t → vs[j]? = some v → Value.okWide P W .any base t v) →
    DataW.TrodAll enc P W 0 (fun _ => true) true ts vs ds ps → ∃ xs, VReps (ghost0 W) W [] xs vs ∧ ArgsF P n ts xs
  | [], vs, ds, ps, _, _, h => by
    obtain ⟨rfl, _, _⟩ := trodAll_nil h
    exact ⟨[], rfl, rfl⟩
  | t :: ts, vs, ds, ps, ht, hv, h => by
    obtain ⟨v, vr, d, dr, p, q, rfl, rfl, rfl, h1, h2⟩ := trodAll_cons h
    simp only [List.all_cons, Bool.and_eq_true] at ht
    obtain ⟨x, a1, a2⟩ := arg_in ht.1 (hv 0 t v rfl rfl) h1
    obtain ⟨xr, b1, b2⟩ := args_in ht.2 (fun j t' v' h3 h4 => hv (j + 1) t' v' h3 h4) h2
    exact ⟨x :: xr, ⟨v, vr, rfl, a1, b1⟩, x, xr, rfl, a2, b2⟩
theorem args_out (hl : laidOutB P = true) {W' : World} (hb : Below W.heap.size W W') : ∀ {ts : List TypeId} {vs : List Value} {ds : List (DataW H)} {ps : List MemPlace}, ts.all (fun t => P.readableRec t && Nat.blt t P.types.size) = true →
    DataW.TrodAll enc P W 0 (fun _ => true) true ts vs ds ps → (∀ x ∈ ps, x.block < W.heap.size) → DataW.TrodAll enc P W' 0 (fun b => decide (b < W.heap.size)) true ts vs ds ps
  | [], vs, ds, ps, _, h, _ => by
    obtain ⟨rfl, rfl, rfl⟩ := trodAll_nil h
    exact trodAll_mk0
  | t :: ts, vs, ds, ps, ht, h, hlt => by
    obtain ⟨v, vr, d, dr, p, q, rfl, rfl, rfl, h1, h2⟩ := trodAll_cons h
    simp only [List.all_cons, Bool.and_eq_true] at ht
    exact ⟨p, q, Below.trod hl ht.1.1 (blt_nat ht.1.2) h1 hb (fun x hx => hlt x (List.mem_append_left _ hx)), args_out hl hb ht.2 h2 fun x hx => hlt x (List.mem_append_right _ hx), rfl⟩
end
end Go.Dm
namespace Go.Dm.Sx
open Go.Dm
set_option linter.unusedVariables false
set_option linter.unusedSimpArgs false
variable {U : Uni} {P : Program}
def ctys (lay : Nat → List Ty) : Ty → List Ty
  | .base n => lay n
  | t => [t]
def Cw (U : Uni) (fs : List F) (l : List Ty) : Prop := fs.length = l.length ∧ ∀ (j : Nat) (f : F) (t : Ty), fs[j]? = some f → l[j]? = some t → ∃ d : Dyn U.B, FD U f d ∧ d.t = t
theorem Cw.list : ∀ {fs : List F} {l : List Ty}, Cw U fs l → ∃ ds : List (Dyn U.B), FDs U fs ds ∧ ds.map Dyn.t = l
  | [], [], h => ⟨[], rfl, rfl⟩
  | [], t :: l, h => by have := h.1; simp at this
  | f :: r, [], h => by have := h.1; simp at this
  | f :: r, t :: l, h => by
    obtain ⟨d, h1, h2⟩ := h.2 0 f t rfl rfl
    obtain ⟨ds, h3, h4⟩ := Cw.list (fs := r) (l := l) ⟨by have := h.1; simpa using this, fun j f' t' hf ht => h.2 (j + 1) f' t' (by simpa using hf) (by simpa using ht)⟩
    exact ⟨d :: ds, ⟨d, ds, rfl, h1, h3⟩, by simp [h2, h4]⟩
theorem Cw.data {fs : List F} {u : Ty} (h : Cw U fs (ctys U.lay u)) : ∃ x : T U.B u, FDs U fs (cells U ⟨u, x⟩) := by
  obtain ⟨ds, h1, h2⟩ := h.list
  by_cases hb : ∃ n, u = .base n
  · obtain ⟨n, rfl⟩ := hb
    refine ⟨U.bd n ds, ?_⟩
    have : cells U (⟨.base n, U.bd n ds⟩ : Dyn U.B) = ds := by
      have hl : ds.length = (U.lay n).length := by rw [← List.length_map (f := Dyn.t), h2]; rfl
      apply List.ext_getElem?
      intro j
      by_cases hj : j < (U.lay n).length
      · have hd : ds[j]? = some ds[j] := List.getElem?_eq_getElem (by omega)
        rw [hd]
        simp only [cells, List.getElem?_map, List.getElem?_range hj, Option.map_some]
        rw [U.bd_acc n ds h2 j _ hd]
      · rw [List.getElem?_eq_none (by simp [cells]; omega), List.getElem?_eq_none (by omega)]
    rw [this]
    exact h1
  · have hc : ctys U.lay u = [u] := by cases u <;> first | rfl | exact absurd ⟨_, rfl⟩ hb
    rw [hc] at h2
    match ds, h2 with
    | [⟨t, v⟩], h2 =>
      simp only [List.map_cons, List.map_nil, List.cons.injEq, and_true] at h2
      subst h2
      refine ⟨v, ?_⟩
      have : cells U (⟨t, v⟩ : Dyn U.B) = [⟨t, v⟩] := by cases t <;> first | rfl | exact absurd ⟨_, rfl⟩ hb
      rw [this]
      exact h1
theorem FDs.appd : ∀ {fs gs : List F} {l m : List (Dyn U.B)}, FDs U fs l → FDs U gs m → FDs U (fs ++ gs) (l ++ m)
  | [], gs, l, m, h, k => by simp only [FDs] at h; subst h; exact k
  | f :: r, gs, l, m, h, k => by
    simp only [FDs] at h
    obtain ⟨d, l', rfl, h1, h2⟩ := h
    exact ⟨d, l' ++ m, rfl, h1, FDs.appd h2 k⟩
theorem rows_data {u : Ty} {sz : Nat} : ∀ (m : Nat) {cs : List F}, cs.length = m * sz → (∀ i, i < m → ∃ x : T U.B u, FDs U ((cs.drop (i * sz)).take sz) (cells U ⟨u, x⟩)) → ∃ xs : List (T U.B u), xs.length = m ∧ FDs U cs (flat U xs)
  | 0, cs, hl, h => ⟨[], rfl, by
    have : cs = [] := List.eq_nil_of_length_eq_zero (by simpa using hl)
    subst this; rfl⟩
  | m + 1, cs, hl, h => by
    rw [Nat.succ_mul] at hl
    obtain ⟨x, hx⟩ := h 0 (by omega)
    rw [Nat.zero_mul, List.drop_zero] at hx
    obtain ⟨xs, h1, h2⟩ := rows_data (u := u) (sz := sz) m (cs := cs.drop sz) (by rw [List.length_drop]; omega) fun i hi => by
      have := h (i + 1) (by omega)
      rw [Nat.succ_mul] at this
      rw [List.drop_drop, Nat.add_comm sz]
      exact this
    refine ⟨x :: xs, by simp [h1], ?_⟩
    rw [flat_cons]
    have := hx.appd h2
    rwa [List.take_append_drop] at this
def tyM (P : Program) (lay : Nat → List Ty) : Nat → TypeId → List Ty → Bool
  | 0, _, _ => false
  | n + 1, t, l =>
    match P.underlying t with
    | some .bool => (match l with | [.bool] => true | _ => false)
    | some (.int k) => (match l with | [.int k'] => decide (k = k') | _ => false)
    | some .string => (match l with | [.str] => true | _ => false)
    | some (.slice e) => (match l with | [.list u] => tyM P lay n e (ctys lay u) && Nat.beq (P.cellsOf e) (ctys lay u).length | _ => false)
    | some (.struct fields) => Nat.beq l.length (P.cellsOf t) && (fields.toList.all (fun f => tyM P lay n f.type ((l.drop f.offset).take (P.cellsOf f.type))) &&
        (List.range (P.cellsOf t)).all fun j => fields.toList.any fun f => Nat.ble f.offset j && Nat.blt j (f.offset + P.cellsOf f.type))
    | _ => false
theorem tyM_ok : ∀ (n : Nat) {t : TypeId} {l : List Ty} {fs : List F}, tyM P U.lay n t l = true → TyF P n t fs → Cw U fs l
  | 0, t, l, fs, h, _ => by cases h
  | n + 1, t, l, fs, h, hf => by
    simp only [tyM] at h
    simp only [TyF] at hf
    have one : ∀ {f : F} {d : Dyn U.B}, FD U f d → Cw U [f] [d.t] := fun {f d} hd => ⟨rfl, fun j f' t' h1 h2 => by
      cases j with
      | zero => simp at h1 h2; subst h1 h2; exact ⟨d, hd, rfl⟩
      | succ j => simp at h1⟩
    split at h
    · rename_i hu
      rw [hu] at hf
      split at h
      · obtain ⟨b, rfl⟩ := hf; exact one (d := ⟨.bool, b⟩) rfl
      · cases h
    · rename_i k hu
      rw [hu] at hf
      split at h
      · obtain ⟨v, rfl, _⟩ := hf
        have := of_decide_eq_true h
        subst this
        exact one (d := ⟨.int k, v⟩) rfl
      · cases h
    · rename_i hu
      rw [hu] at hf
      split at h
      · obtain ⟨s, rfl, _⟩ := hf; exact one (d := ⟨.str, s⟩) rfl
      · cases h
    · rename_i e hu
      rw [hu] at hf
      split at h
      · rename_i u
        simp only [Bool.and_eq_true] at h
        obtain ⟨h1, h2⟩ := h
        have h2 := Nat.eq_of_beq_eq_true h2
        rcases hf with rfl | ⟨m, cs, rfl, _, h3, h4⟩
        · exact one (d := ⟨.list u, []⟩) ⟨u, rfl⟩
        · obtain ⟨xs, h5, h6⟩ := rows_data (U := U) (u := u) m h3 fun i hi => (tyM_ok n h1 (h4 i hi)).data
          exact one (d := ⟨.list u, xs⟩) ⟨u, xs, rfl, h5.symm, h6⟩
      · cases h
    · rename_i fields hu
      rw [hu] at hf
      simp only [Bool.and_eq_true, List.all_eq_true, List.any_eq_true, List.mem_range] at h
      obtain ⟨h1, h2, h3⟩ := h
      have h1 := Nat.eq_of_beq_eq_true h1
      obtain ⟨h4, h5⟩ := hf
      refine ⟨by omega, fun j f t' hj ht => ?_⟩
      have hlt := (List.getElem?_eq_some_iff.1 hj).1
      obtain ⟨fd, hfd, h6, h7⟩ := h3 j (by omega)
      have h6 := Nat.le_of_ble_eq_true h6
      have h7 : j < fd.offset + P.cellsOf fd.type := Nat.le_of_ble_eq_true h7
      refine (tyM_ok n (h2 fd hfd) (h5 fd hfd)).2 (j - fd.offset) f t' ?_ ?_
      · rw [List.getElem?_take_of_lt (by omega), List.getElem?_drop, show fd.offset + (j - fd.offset) = j by omega]; exact hj
      · rw [List.getElem?_take_of_lt (by omega), List.getElem?_drop, show fd.offset + (j - fd.offset) = j by omega]; exact ht
    · cases h
def baseT : Ty → Bool
  | .base _ => true
  | _ => false
def argsM (P : Program) (lay : Nat → List Ty) (n : Nat) : List TypeId → List In → Bool
  | [], [] => true
  | t :: ts, .ty u :: r => tyM P lay n t (ctys lay u) && ((aggT P t == baseT u) && argsM P lay n ts r)
  | _, _ => false
theorem argsM_ok {n : Nat} : ∀ {ts : List TypeId} {ins : List In} {xs : List V}, argsM P U.lay n ts ins = true → ArgsF P n ts xs → ∃ x : HL U (insTys ins), ArgsR U ins (HL.dyn _ x) xs
  | [], [], xs, h, hx => ⟨(), rfl, hx⟩
  | [], _ :: _, xs, h, hx => by cases h
  | _ :: _, [], xs, h, hx => by cases h
  | _ :: _, .fnc _ :: _, xs, h, hx => by cases h
  | _ :: _, .clo _ _ :: _, xs, h, hx => by cases h
  | t :: ts, .ty u :: r, xs, h, hx => by
    simp only [argsM, Bool.and_eq_true] at h
    obtain ⟨h1, h2, h3⟩ := h
    obtain ⟨x, xr, rfl, ha, hr⟩ := hx
    obtain ⟨y, hy⟩ := argsM_ok h3 hr
    have hag := eq_of_beq h2
    unfold ArgF at ha
    split at ha
    · rename_i hb
      obtain ⟨fs, rfl, hf⟩ := ha
      obtain ⟨v, hv⟩ := (tyM_ok (U := U) n h1 hf).data
      rw [hb] at hag
      cases u with
      | base k => exact ⟨(v, y), _, _, _, _, rfl, rfl, rfl, ⟨fs, rfl, hv⟩, hy⟩
      | _ => cases hag
    · rename_i hb
      obtain ⟨f, rfl, hf⟩ := ha
      obtain ⟨v, hv⟩ := (tyM_ok (U := U) n h1 hf).data
      rw [hb] at hag
      have hc : cells U (⟨u, v⟩ : Dyn U.B) = [⟨u, v⟩] := by cases u <;> first | rfl | cases hag
      rw [hc] at hv
      simp only [FDs] at hv
      obtain ⟨d, l', h4, h5, _⟩ := hv
      cases h4
      refine ⟨(v, y), _, _, _, _, rfl, rfl, rfl, ?_, hy⟩
      cases u with
      | base k => cases hag
      | _ => exact ⟨f, rfl, h5⟩
end Go.Dm.Sx
