/- The plain machine, run by the kernel: one operation is what it is said to be. -/
import Derived.Test.YtdioidceogjalaaGreatDoorFb
namespace Go.Dm
set_option linter.unusedVariables false
set_option linter.unusedSimpArgs false

theorem ile_eq (a b : Int) : ile a b = decide (a ≤ b) := by
  cases a <;> cases b <;> simp only [ile]
  · rename_i a b
    by_cases h : a ≤ b
    · rw [Nat.ble_eq_true_of_le h]; exact (decide_eq_true (by simpa using h)).symm
    · have : Nat.ble a b = false := by
        cases hb : Nat.ble a b with
        | true => exact absurd (ble_nat hb) h
        | false => rfl
      rw [this]; exact (decide_eq_false (by simpa using h)).symm
  · exact (decide_eq_false (by simp only [Int.ofNat_eq_natCast]; omega)).symm
  · exact (decide_eq_true (by simp only [Int.ofNat_eq_natCast]; omega)).symm
  · rename_i a b
    by_cases h : b ≤ a
    · rw [Nat.ble_eq_true_of_le h]; exact (decide_eq_true (by omega)).symm
    · have : Nat.ble b a = false := by
        cases hb : Nat.ble b a with
        | true => exact absurd (ble_nat hb) h
        | false => rfl
      rw [this]; exact (decide_eq_false (by omega)).symm

theorem sameK_same {j j' : IntKind} {p : Prop} (h : sameK j j' = true) (hp : p) : same j j' p := by
  cases j <;> cases j' <;> first | exact hp | (simp [sameK] at h)

theorem xcmp_eq {op : BinOp} {a b : Int} {t : Bool} (h : xcmp op a b = some t) : bcmp op a b = t ∧ (op = .eql ∨ op = .neq ∨ op = .lss ∨ op = .leq ∨ op = .gtr ∨ op = .geq) := by
  cases op <;> simp only [xcmp, reduceCtorEq] at h <;> cases h <;> simp only [bcmp, ieq_eq, ile_eq]
  · simp
  · exact ⟨rfl, by simp⟩
  · simp only [← decide_not, Int.not_le]; simp
  · simp
  · simp only [← decide_not, Int.not_le]; simp
  · simp

theorem xscmp_eq {op : BinOp} {a b : List UInt8} {t : Bool} (h : xscmp op a b = some t) : bscmp op a b = t ∧ (op = .eql ∨ op = .neq ∨ op = .lss ∨ op = .leq ∨ op = .gtr ∨ op = .geq) := by
  cases op <;> simp only [xscmp, reduceCtorEq] at h <;> cases h <;> simp [bscmp, beqS_eq]

section
variable {P : Program} {tb : Tab} {σ : St} {k : V → Prop} {kk : V → St → Prop}

theorem xint_ok {op : BinOp} {j : IntKind} {a b : Int} {r : V} (h : xint op j a b = some r) (hk : k r) : vint prims op j a b k := by
  cases op <;> simp only [xint] at h <;> simp only [vint, prims]
  all_goals first
    | (cases h; exact hk)
    | (split at h <;> first
        | (cases h; done)
        | (rename_i hb; cases h; refine ⟨?_, hk⟩; rw [ieq_eq] at hb; simpa using hb; done))
    | (split at h <;> first
        | (rename_i t ht; cases h; have := (xcmp_eq ht); rw [this.1]; exact hk)
        | (cases h; done))
    | (split at h <;> first
        | (rename_i t ht; have := (xcmp_eq ht).2; simp at this; done)
        | (cases h; done))

theorem xbin_ok {d : TD} {op : BinOp} {x y : V} {r : V} (h : xbin d op x y = some r) (hk : k r) : vbin prims d op x y k := by
  unfold xbin at h
  unfold vbin
  split at h
  · rename_i j a j' b
    by_cases hs : op = .shl ∨ op = .shr
    · rcases hs with rfl | rfl <;> simp only at h ⊢ <;> (split at h <;> first
        | (rename_i hb; cases h; refine ⟨?_, hk⟩; rw [ile_eq] at hb; show 0 ≤ b; exact of_decide_eq_true hb)
        | (cases h; done))
    · have h' : (match sameK j j' with | true => xint op j a b | false => none) = some r := by revert h; cases op <;> first | exact id | (simp at hs; done)
      have g : same j j' (vint prims op j a b k) := by
        split at h'
        · rename_i e; exact sameK_same e (xint_ok h' hk)
        · cases h'
      revert g; cases op <;> simp_all
  · split at h <;> first
      | (cases h; exact hk)
      | cases h
  · rename_i a b
    cases op <;> simp only at h ⊢ <;> first
      | (split at h <;> first
          | (rename_i hb; cases h; exact ⟨ble_nat hb, hk⟩)
          | cases h; done)
      | (split at h <;> first
          | (rename_i t ht; cases h; have := (xscmp_eq ht).1; simp only [prims]; rw [this]; exact hk)
          | cases h; done)
      | (split at h <;> first
          | (rename_i t ht; have := (xscmp_eq ht).2; simp at this; done)
          | cases h)
  · rename_i a b
    cases op <;> simp only [reduceCtorEq] at h ⊢ <;> first
      | (cases h; exact hk)
      | (split at h <;> first
          | (rename_i t ht; cases h; simp only [ht]; exact hk)
          | cases h)
  · rename_i a b c e
    cases op <;> simp only [reduceCtorEq] at h ⊢ <;> first
      | (cases h; exact hk)
      | (split at h <;> first
          | (rename_i t u ht hu; cases h; simp only [ht, hu]; exact hk)
          | cases h)
  · cases h

theorem xun_ok {op : UnOp} {x r : V} (h : xun op x = some r) (hk : k r) : vun prims op x k := by
  unfold xun at h
  unfold vun
  split at h
  · cases h; exact hk
  · cases h; exact hk
  · cases h

theorem cutC_ok {l r : List C} {off n : Nat} (h : cutC l off n = some r) : cut l off n = some r := by
  unfold cutC at h
  unfold cut
  split at h
  · rename_i e; rw [if_pos (ble_nat e)]; exact h
  · cases h

theorem cutF_ok {l r : List F} {off n : Nat} {K : List F → Prop} (h : cutF l off n = some r) (hk : K r) : prims.cutK l off n K := by
  unfold cutF at h
  split at h
  · rename_i e; cases h; exact ⟨ble_nat e, hk⟩
  · cases h

theorem spliceC_ok {l r l' : List C} {off : Nat} (h : spliceC l off r = some l') : splice l off r = some l' := by
  unfold spliceC at h
  unfold splice
  split at h
  · rename_i e; rw [if_pos (ble_nat e)]; exact h
  · cases h

theorem xload_ok {agg : Bool} {n : Nat} {x r : V} (h : xload agg n x σ = some r) (hk : k r) : vload prims agg n x σ k := by
  unfold xload at h
  unfold vload
  split at h
  · simp only [nth_eq] at h
    split at h
    · rename_i l ho
      simp only [ho]
      split at h
      · split at h
        · rename_i r' hc; cases h; simp only [cutC_ok hc]; exact hk
        · cases h
      · split at h
        · rename_i c hc; cases h; simp only [hc]; exact hk
        · cases h
    · rename_i ho
      simp only [ho]
      split at h
      · cases h; exact hk
      · cases h; exact hk
      · cases h
    · cases h
  · rename_i cs off
    simp only [nth_eq] at h
    split at h
    · split at h
      · rename_i r' hc; cases h; exact cutF_ok hc hk
      · cases h
    · split at h
      · rename_i c hc; cases h; simp only [prims, hc]; exact hk
      · cases h
  · simp only [nth_eq] at h
    split at h
    · rename_i l ho
      simp only [ho]
      split at h
      · rename_i e
        refine ⟨beq_nat e, ?_⟩
        split at h
        · split at h
          · rename_i r' hc; cases h; exact cutF_ok hc hk
          · cases h
        · split at h
          · rename_i c hc; cases h; simp only [prims, hc]; exact hk
          · cases h
      · cases h
    · cases h
  · cases h

theorem xfrzs_ok : ∀ (l : List C) {σ : St} {fs : List F} {σ' : St} {K : List F → St → Prop}, xfrzs l σ = some (fs, σ') → K fs σ' → vfrzs prims l σ K
  | [], σ, fs, σ', K, h, hk => by simp only [xfrzs] at h; cases h; exact hk
  | .f x :: r, σ, fs, σ', K, h, hk => by
    simp only [xfrzs] at h
    split at h
    · rename_i l τ e; cases h; simp only [vfrzs]; exact xfrzs_ok r e hk
    · cases h
  | .rs o e n :: r, σ, fs, σ', K, h, hk => by
    simp only [xfrzs, nth_eq, put_eq] at h
    split at h
    · rename_i w e0 sz l ho
      split at h
      · rename_i he
        split at h
        · rename_i l' τ e'; cases h; simp only [vfrzs, ho]; exact ⟨beq_nat he, xfrzs_ok r e' hk⟩
        · cases h
      · cases h
    · cases h
  | .ptr o off :: r, σ, fs, σ', K, h, hk => by
    simp only [xfrzs, nth_eq, put_eq] at h
    split at h
    · split at h
      · rename_i cs ho
        split at h
        · rename_i fs' hf
          split at h
          · rename_i l' τ e'; cases h; simp only [vfrzs, ho, hf]; exact xfrzs_ok r e' hk
          · cases h
        · cases h
      · cases h
    · cases h
  | .pa .. :: r, σ, fs, σ', K, h, hk => by simp [xfrzs] at h
  | .ep .. :: r, σ, fs, σ', K, h, hk => by simp [xfrzs] at h
  | .mp .. :: r, σ, fs, σ', K, h, hk => by simp [xfrzs] at h
  | .clo .. :: r, σ, fs, σ', K, h, hk => by simp [xfrzs] at h
  | .un :: r, σ, fs, σ', K, h, hk => by simp [xfrzs] at h

theorem xstore_ok {x v : V} {n : Nat} {σ' : St} {K : St → Prop} (h : xstore x v n σ = some σ') (hk : K σ') : vstore prims x v n σ K := by
  unfold xstore at h
  unfold vstore
  split at h
  · rename_i r hr
    simp only [hr]
    split at h
    · rename_i hc
      simp only [Bool.and_eq_true] at hc
      rw [if_pos ⟨beq_nat hc.1, hc.2⟩]
      split at h
      · simp only [nth_eq, put_eq] at h
        split at h
        · rename_i l ho
          simp only [ho]
          split at h
          · rename_i l' hs; cases h; simp only [spliceC_ok hs]; exact hk
          · cases h
        · rename_i ho
          simp only [ho]
          split at h
          · split at h
            · rename_i hb; cases h; simp only [hb]; exact hk
            · cases h
          · cases h; exact hk
          · cases h
        · cases h
      · split at h
        · rename_i fs τ hf
          refine xfrzs_ok _ hf ?_
          simp only [nth_eq, put_eq] at h
          split at h
          · rename_i e0 sz l ho
            simp only [ho]
            split at h
            · rename_i hc2
              simp only [Bool.and_eq_true] at hc2
              cases h
              exact ⟨beq_nat hc2.1, ble_nat hc2.2, hk⟩
            · cases h
          · cases h
        · cases h
      · cases h
    · cases h
  · cases h

theorem vmore_add (off fo : Nat) : vmore prims off fo = off + fo := by
  cases fo <;> rfl

theorem xfield_ok {x r : V} {fo : Nat} (h : xfield x fo σ = some r) (hk : k r) : vfield prims x fo σ k := by
  unfold xfield at h
  unfold vfield
  split at h
  · cases h; exact hk
  · cases h; simp only [vmore_add]; exact hk
  · simp only [nth_eq] at h
    split at h
    · rename_i ho
      simp only [ho, vmore_add]
      split at h
      · rename_i e; cases h; exact ⟨beq_nat e, hk⟩
      · cases h
    · cases h
  · cases h

theorem xpart_ok {agg : Bool} {l : List C} {off n : Nat} {r : V} (h : xpart agg l off n = some r) (hk : k r) : vpart agg l off n k := by
  unfold xpart at h
  unfold vpart
  simp only [nth_eq] at h
  split at h
  · split at h
    · rename_i r' hc; cases h; simp only [cutC_ok hc]; exact hk
    · cases h
  · split at h
    · rename_i c hc; cases h; simp only [hc]; exact hk
    · cases h

theorem inB_ok {j : Int} {n : Nat} (h : inB j n = true) : 0 ≤ j ∧ j < n := by
  unfold inB at h
  split at h
  · have := blt_nat h
    exact ⟨by simp, by simpa using this⟩
  · cases h

theorem xixrow_ok {sz : Nat} {x i r : V} (h : xixrow sz x i σ = some r) (hk : k r) : ixrow prims sz x i σ k := by
  unfold xixrow at h
  unfold ixrow
  split at h
  · split at h
    · rename_i e; cases h; exact ⟨inB_ok e, hk⟩
    · cases h
  · simp only [nth_eq] at h
    split at h
    · rename_i ho
      simp only [ho]
      split at h
      · rename_i e; simp only [Bool.and_eq_true] at e; cases h; exact ⟨beq_nat e.1, inB_ok e.2, hk⟩
      · cases h
    · cases h
  · cases h

theorem xixarr_ok {n sz : Nat} {x i r : V} (h : xixarr n sz x i σ = some r) (hk : k r) : ixarr prims n sz x i σ k := by
  unfold xixarr at h
  unfold ixarr
  split at h
  · split at h
    · rename_i e; cases h; exact ⟨(inB_ok e).1, (inB_ok e).2, hk⟩
    · cases h
  · split at h
    · rename_i e; cases h; exact ⟨(inB_ok e).1, (inB_ok e).2, by show k (.c (.ep _ (vmore prims _ _))); rw [vmore_add]; exact hk⟩
    · cases h
  · simp only [nth_eq] at h
    split at h
    · rename_i ho
      simp only [ho]
      split at h
      · rename_i e; simp only [Bool.and_eq_true] at e; cases h; exact ⟨beq_nat e.1, (inB_ok e.2).1, (inB_ok e.2).2, by show k (.c (.pa _ _ (vmore prims _ _))); rw [vmore_add]; exact hk⟩
      · cases h
    · cases h
  · cases h

theorem xchr_ok {x i r : V} (h : xchr x i = some r) (hk : k r) : ixchr prims x i k := by
  unfold xchr at h
  unfold ixchr
  split at h
  · rename_i s _ j
    split at h
    · rename_i n
      simp only [nth_eq] at h
      split at h
      · rename_i b hb
        cases h
        have hlt := (List.getElem?_eq_some_iff.1 hb).1
        refine ⟨⟨by simp, by simpa [prims] using hlt⟩, ?_⟩
        have e : prims.sget s (Int.ofNat n) = (b.toNat : Int) := by
          show ((s.getD (Int.ofNat n).toNat 0).toNat : Int) = _
          simp [List.getD_eq_getElem?_getD, hb]
        rw [e]
        exact hk
      · cases h
    · cases h
  · cases h

theorem xlen_ok {d : TD} {x r : V} (h : xlen d x σ = some r) (hk : k r) : vlen prims d x σ k := by
  unfold xlen at h
  unfold vlen
  split at h
  · cases h; exact hk
  · cases h; exact hk
  · cases h; exact hk
  · simp only [nth_eq] at h
    split at h
    · rename_i ho
      simp only [ho]
      split at h
      · rename_i e; cases h; exact ⟨beq_nat e, hk⟩
      · cases h
    · cases h
  · cases h

theorem xsrc_ok {d : TD} {sz : Nat} {x : V} {m : Nat} {l : List F} {K : Nat → List F → Prop} (h : xsrc d sz x σ = some (m, l)) (hk : K m l) : vsrc prims d sz x σ K := by
  unfold xsrc at h
  unfold vsrc
  split at h
  · cases h; exact hk
  · split at h
    · rename_i e; cases h; exact ⟨beq_nat e, hk⟩
    · cases h
  · simp only [nth_eq] at h
    split at h
    · rename_i ho
      simp only [ho]
      split at h
      · rename_i e; simp only [Bool.and_eq_true] at e; cases h; exact ⟨beq_nat e.1, beq_nat e.2, hk⟩
      · cases h
    · cases h
  · split at h
    · rename_i e; cases h; exact ⟨beq_nat e, hk⟩
    · cases h
  · cases h

theorem xappend_ok {d : TD} {ty sz bytes : Nat} {x y : V} {r : V × St} (h : xappend d ty sz bytes x y σ = some r) (hk : kk r.1 r.2) : vappend prims d ty sz bytes x y σ kk := by
  unfold xappend at h
  unfold vappend
  split at h
  · cases h
  · rename_i m new hs
    refine xsrc_ok hs ?_
    split at h
    · split at h
      · cases h; exact hk
      · rename_i hno
        split at h
        · rename_i e
          simp only [Bool.and_eq_true] at e
          cases h
          have hh : prims.le (prims.atp (Int.ofNat m) bytes) 140737488355328 ∧ prims.le m 9223372036854775807 ∧ prims.le ty 4294967295 ∧ kk (.c (.rs σ.length ty m)) (σ ++ [.arr true ty sz new]) := ⟨ble_nat e.1.1, ble_nat e.1.2, ble_nat e.2, hk⟩
          revert hh hno
          cases m with
          | zero => exact fun hno _ => (hno rfl).elim
          | succ m => exact fun _ hh => hh
        · cases h
    · simp only [nth_eq, put_eq] at h
      split at h
      · rename_i ho
        simp only [ho]
        split at h
        · rename_i e; simp only [Bool.and_eq_true] at e; cases h; exact ⟨beq_nat e.1.1.1.1, beq_nat e.1.1.1.2, ble_nat e.1.1.2, ble_nat e.1.2, beq_nat e.2, hk⟩
        · cases h
      · cases h
    · cases h

theorem rngB_ok {a b : Int} {c : Nat} (h : rngB a b c = true) : 0 ≤ a ∧ a ≤ b ∧ b ≤ c := by
  unfold rngB at h
  split at h
  · simp only [Bool.and_eq_true] at h
    have h1 := ble_nat h.1
    have h2 := ble_nat h.2
    exact ⟨by simp, by simpa using h1, by simpa using h2⟩
  · cases h

theorem xslice_ok {d : TD} {sz : Nat} {x : V} {lo hi : Option V} {r : V × St} (h : xslice d sz x lo hi σ = some r) (hk : kk r.1 r.2) : sslice prims d sz x lo hi σ kk := by
  unfold xslice at h
  unfold sslice
  split at h
  · rename_i s
    split at h
    · cases h; exact hk
    · split at h
      · rename_i e
        have e' := rngB_ok e
        cases h
        refine ⟨⟨by omega, by omega, by show _ ≤ (s.length : Int); omega⟩, ?_⟩
        rename_i a _
        have : prims.ssub s a (prims.slen s) = s.drop a.toNat := by
          show (s.drop a.toNat).take ((s.length : Int).toNat - a.toNat) = _
          exact List.take_of_length_le (by simp)
        rw [this]; exact hk
      · cases h
    · split at h
      · rename_i e
        have e' := rngB_ok e
        cases h
        refine ⟨⟨by omega, by omega, by show _ ≤ (s.length : Int); omega⟩, ?_⟩
        rename_i b _
        have : prims.ssub s 0 b = s.take b.toNat := by
          show (s.drop (0 : Int).toNat).take (b.toNat - (0 : Int).toNat) = _
          simp
        rw [this]; exact hk
      · cases h
    · split at h
      · rename_i e
        have e' := rngB_ok e
        cases h
        exact ⟨⟨by omega, by omega, by show _ ≤ (s.length : Int); omega⟩, ⟨by omega, by omega, by omega⟩, hk⟩
      · cases h
    · cases h
  · split at h
    · split at h
      · rename_i e
        have e' := rngB_ok e
        cases h
        exact ⟨⟨by omega, by omega, by simpa using e'.2.2⟩, hk⟩
      · cases h
    · split at h
      · rename_i e
        have e' := rngB_ok e
        cases h
        exact ⟨⟨by omega, by omega, by simpa using e'.2.2⟩, hk⟩
      · cases h
    · split at h
      · rename_i e
        have e' := rngB_ok e
        cases h
        exact ⟨⟨by omega, by omega, by simpa using e'.2.2⟩, ⟨by omega, by omega, by omega⟩, hk⟩
      · cases h
    · cases h; exact hk
    · cases h
  · rename_i e0 n cs
    split at h
    · split at h
      · rename_i e
        have e' := rngB_ok e
        cases h
        rename_i a _
        refine ⟨⟨by omega, by omega, by simpa using e'.2.2⟩, ?_⟩
        exact hk
      · cases h
    · split at h
      · rename_i e
        have e' := rngB_ok e
        cases h
        refine ⟨⟨by omega, by omega, by simpa using e'.2.2⟩, ?_⟩
        exact hk
      · cases h
    · split at h
      · rename_i e
        have e' := rngB_ok e
        cases h
        rename_i a _ b _
        refine ⟨⟨by omega, by omega, by simpa using e'.2.2⟩, ⟨by omega, by omega, by omega⟩, ?_⟩
        exact hk
      · cases h
    · cases h; exact hk
    · cases h
  · simp only [nth_eq, put_eq] at h
    split at h
    · rename_i ho
      simp only [ho]
      split at h
      · rename_i e
        simp only [Bool.and_eq_true] at e
        have e' := rngB_ok e.2
        cases h
        refine ⟨beq_nat e.1, ⟨by omega, by omega, by simpa using e'.2.2⟩, ?_⟩
        exact hk
      · cases h
    · cases h
  · cases h

theorem xbytesL_ok : ∀ {l : List F} {s : List UInt8}, xbytesL l = some s → l = s.map fun b => F.int .u8 b.toNat
  | [], s, h => by simp only [xbytesL] at h; cases h; rfl
  | x :: r, s, h => by
    unfold xbytesL at h
    split at h
    · rename_i e; cases e
    · rename_i n r' e
      cases e
      split at h
      · rename_i l h1 h2
        cases h
        have := blt_nat h1
        simp only [List.map_cons, ← xbytesL_ok h2]
        congr 2
        simp
        omega
      · cases h
    · cases h

theorem xbytes_ok {x r : V} (h : xbytes x σ = some r) (hk : k r) : vbytes prims x σ k := by
  have key : ∀ {cs : List F} {n : Nat} {s : List UInt8}, cs.length = n → xbytesL cs = some s → k (.c (.f (.str s))) → prims.bytesK cs n fun s => k (.c (.f (.str s))) := by
    intro cs n s h1 h2 h3
    have e := xbytesL_ok h2
    exact ⟨s, e, by rw [e] at h1; simpa using h1, h3⟩
  unfold xbytes at h
  unfold vbytes
  split at h
  · cases h; exact hk
  · split at h
    · rename_i s h1 h2; cases h; exact key (beq_nat h1) h2 hk
    · cases h
  · simp only [nth_eq] at h
    split at h
    · rename_i ho
      simp only [ho]
      split at h
      · rename_i s h1 h2
        simp only [Bool.and_eq_true] at h1
        cases h
        exact ⟨beq_nat h1.1, key (beq_nat h1.2) h2 hk⟩
      · cases h
    · cases h
  · cases h

theorem xconv_ok {s d : TypeId} {x : V} {r : V × St} (h : xconv tb s d x σ = some r) (hk : kk r.1 r.2) : vconv prims tb s d x σ kk := by
  unfold xconv at h
  unfold vconv
  split at h
  · rename_i h1 h2; cases h; simp only [h1, h2]; exact hk
  · rename_i h1 h2; cases h; simp only [h1, h2]; exact hk
  · rename_i h1 h2
    simp only [h1, h2]
    split at h
    · rename_i n hn; cases h; simp only [hn]; exact hk
    · cases h
  · rename_i h1 h2; cases h; simp only [h1, h2]; exact hk
  · rename_i e h1 h2
    simp only [h1, h2]
    split at h
    · rename_i h3
      split at h
      · rename_i v hv; cases h; simp only [h3]; exact xbytes_ok hv hk
      · cases h
    · cases h
  · rename_i h1 h2
    simp only [h1, h2]
    split at h
    · rename_i h3
      split at h
      · rename_i e; simp only [Bool.and_eq_true] at e; cases h; simp only [h3]; exact ⟨ble_nat e.1, ble_nat e.2, hk⟩
      · cases h
    · cases h
  · cases h

theorem xbi_ok {b : Builtin} {ts : Array TypeId} {vals : List V} {r : V × St} (h : xbi b vals σ = some r) (hk : kk r.1 r.2) : vbi prims tb b ts vals σ kk := by
  unfold xbi at h
  unfold vbi
  split at h
  · split at h
    · rename_i l hl; cases h; simp only [hl]; exact hk
    · cases h
  · split at h
    · rename_i l hl; cases h; simp only [hl]; exact hk
    · cases h
  · cases h; exact hk
  · cases h; exact hk
  · cases h; exact hk
  · cases h

theorem xfill_ok {ρ : Operand → V} : ∀ (l : List (Nat × Nat × Operand)) {cs cs' : List C}, xfill ρ l cs = some cs' → sfill ρ l cs = some cs'
  | [], cs, cs', h => h
  | (off, n, x) :: r, cs, cs', h => by
    simp only [xfill] at h
    simp only [sfill]
    split at h
    · rename_i l hl
      simp only [hl]
      split at h
      · rename_i e
        rw [if_pos (beq_nat e)]
        split at h
        · rename_i c hc; simp only [spliceC_ok hc]; exact xfill_ok r h
        · cases h
      · cases h
    · cases h

theorem xfillRow_ok {sz : Nat} {ρ : Operand → V} : ∀ (l : List (Nat × Operand)) {cs cs' : List C}, xfillRow sz ρ l cs = some cs' → sfillRow sz ρ l cs = some cs'
  | [], cs, cs', h => h
  | (i, x) :: r, cs, cs', h => by
    simp only [xfillRow] at h
    simp only [sfillRow]
    split at h
    · rename_i l hl
      simp only [hl]
      split at h
      · rename_i e
        rw [if_pos (beq_nat e)]
        split at h
        · rename_i c hc; simp only [spliceC_ok hc]; exact xfillRow_ok r h
        · cases h
      · cases h
    · cases h

/-- One operation. -/
theorem xop_ok {call : Caller} (hcall : ∀ f l σ o, call f l σ = some o → CallAt P f l σ fun r σ' => (r, σ') ∈ o) {s : SOp} {A : AF} {m : Nat} (hA : inA m A) {ρ : Operand → V} (hρ : opA A = ρ) {σ : St} {o : List (V × St)} (h : xop call tb s ρ σ = some o) {kk : V → St → Prop} (hkk : ∀ p ∈ o, kk p.1 p.2) :
    vopA (mx P) (fun _ => false) tb m s A σ kk := by
  have st : ∀ {x : Option V} {τ : St}, still x τ = some o → ∃ v, x = some v ∧ kk v τ := fun {x τ} h => by
    unfold still at h
    split at h
    · cases h; exact ⟨_, rfl, hkk _ (List.mem_singleton.2 rfl)⟩
    · cases h
  have on : ∀ {x : Option (V × St)}, one x = some o → ∃ r, x = some r ∧ kk r.1 r.2 := fun {x} h => by
    unfold one at h
    split at h
    · cases h; exact ⟨_, rfl, hkk _ (List.mem_singleton.2 rfl)⟩
    · cases h
  subst hρ
  cases s with
  | mv x => cases h; exact hkk _ (List.mem_singleton.2 rfl)
  | pick c a b =>
    simp only [xop] at h
    simp only [vopA, vpick]
    split at h
    · rename_i t hc
      simp only [hc]
      split at h <;> (cases h; exact hkk _ (List.mem_singleton.2 rfl))
    · cases h
  | bin d op x y => obtain ⟨v, h1, h2⟩ := st h; exact xbin_ok (k := fun v => kk v σ) h1 h2
  | un op x => obtain ⟨v, h1, h2⟩ := st h; exact xun_ok (k := fun v => kk v σ) h1 h2
  | alloc z => cases h; exact hkk _ (List.mem_singleton.2 rfl)
  | box x =>
    simp only [xop] at h
    simp only [vopA]
    split at h
    · rename_i l hl; cases h; simp only [hl]; exact hkk _ (List.mem_singleton.2 rfl)
    · cases h
  | load agg n x => obtain ⟨v, h1, h2⟩ := st h; exact xload_ok (k := fun v => kk v σ) h1 h2
  | store n a x =>
    simp only [xop] at h
    simp only [vopA]
    split at h
    · rename_i σ' hs; cases h; exact xstore_ok hs (hkk _ (List.mem_singleton.2 rfl))
    · cases h
  | call x args =>
    simp only [xop] at h
    simp only [vopA]
    split at h
    · rename_i f l hc; simp only [hc]; exact (hcall _ _ _ _ h).mono fun r σ' hm => hkk _ hm
    · cases h
  | fa off x => obtain ⟨v, h1, h2⟩ := st h; exact xfield_ok (k := fun v => kk v σ) h1 h2
  | fld agg off n x =>
    simp only [xop] at h
    simp only [vopA]
    split at h
    · rename_i l hl
      obtain ⟨v, h1, h2⟩ := st h
      simp only [hl]
      exact xpart_ok (k := fun v => kk v σ) h1 h2
    · cases h
  | ixr sz x i => obtain ⟨v, h1, h2⟩ := st h; exact xixrow_ok (k := fun v => kk v σ) h1 h2
  | ixa n sz x i => obtain ⟨v, h1, h2⟩ := st h; exact xixarr_ok (k := fun v => kk v σ) h1 h2
  | chr x i => obtain ⟨v, h1, h2⟩ := st h; exact xchr_ok (k := fun v => kk v σ) h1 h2
  | len d x => obtain ⟨v, h1, h2⟩ := st h; exact xlen_ok (k := fun v => kk v σ) h1 h2
  | app d ty sz bytes x y => obtain ⟨r, h1, h2⟩ := on h; exact xappend_ok h1 h2
  | slc d sz x lo hi => obtain ⟨r, h1, h2⟩ := on h; exact xslice_ok h1 h2
  | ext x i =>
    simp only [xop, nth_eq] at h
    simp only [vopA]
    split at h
    · rename_i l hl
      obtain ⟨v, h1, h2⟩ := st h
      simp only [hl, h1]
      exact h2
    · cases h
  | nilc x =>
    obtain ⟨v, h1, h2⟩ := st h
    unfold xnil at h1
    simp only [vopA]
    split at h1
    · rename_i e; cases h1; simp only [e]; exact h2
    · rename_i e; cases h1; simp only [e]; exact h2
    · rename_i e; cases h1; simp only [e]; exact h2
    · rename_i e
      simp only [e]
      simp only [nth_eq] at h1
      split at h1
      · rename_i ho
        simp only [ho]
        split at h1
        · rename_i eb; cases h1; exact ⟨beq_nat eb, h2⟩
        · cases h1
      · cases h1
    · cases h1
  | bi b ts args => obtain ⟨r, h1, h2⟩ := on h; exact xbi_ok h1 h2
  | bld z parts =>
    simp only [xop] at h
    simp only [vopA]
    split at h
    · rename_i l hl; cases h; simp only [xfill_ok _ hl]; exact hkk _ (List.mem_singleton.2 rfl)
    · cases h
  | bsl n ty sz z parts =>
    simp only [xop] at h
    simp only [vopA]
    split at h
    · rename_i l hl
      simp only [xfillRow_ok _ hl]
      split at h
      · rename_i fs σ' hf; cases h; exact xfrzs_ok _ hf (hkk _ (List.mem_singleton.2 rfl))
      · cases h
    · cases h
  | raw op =>
    have e : opd (toFr m A) = opA A := funext (toFr_opd hA)
    simp only [xop] at h
    simp only [vopA]
    split at h
    · rename_i hx
      have hex : vextra tb op (toFr m A) σ kk := ⟨o, by rw [e]; exact h, hkk⟩
      cases op <;> first
        | (simp [extraB] at hx; done)
        | (simp only [vdo, vop2, hx]; exact hex)
        | skip
      rename_i c
      obtain ⟨cal, args, at'⟩ := c
      cases cal with
      | builtin b =>
        show vop2 prims tb _ _ σ kk
        unfold vop2
        rw [hx]
        exact hex
      | _ => simp [extraB] at hx
    rename_i hx
    split at h
    · obtain ⟨r, h1, h2⟩ := on h
      simp only [vdo, vop2, hx, vop, e]
      exact xconv_ok h1 h2
    · split at h
      · rename_i hf; cases h; simp only [vdo, vop2, extraB, vop, e, hf]; exact hkk _ (List.mem_singleton.2 rfl)
      · cases h
    · split at h
      · rename_i n ty l kd j hd hx hi
        split at h
        · rename_i h1 h2
          obtain ⟨v, h3, h4⟩ := st h
          simp only [vdo, vop2, extraB, vop, vindex, e, hd, hx, hi]
          refine not_isNo h1 ⟨(inB_ok h2).1, (inB_ok h2).2, ?_⟩
          exact xpart_ok (k := fun v => kk v σ) h3 h4
        · cases h
      · cases h
    · split at h
      · rename_i n ty hd
        split at h
        · rename_i l h1 h2
          cases h
          simp only [vdo, vop2, extraB, vop, e, hd, sfillRow_eq e, xfillRow_ok _ h2]
          exact not_isNo h1 (hkk _ (List.mem_singleton.2 rfl))
        · cases h
      · cases h
    · cases h
end
end Go.Dm
