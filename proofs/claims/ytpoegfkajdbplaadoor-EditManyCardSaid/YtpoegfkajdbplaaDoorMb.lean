/- Printed by merge2.py: many texts in one. -/
import Derived.Test.YtpoegfkajdbplaaDoorMa
import Derived.Lib.Builder
import Derived.Laws.MakeOwn
import Derived.Laws.Cover3
import Derived.Laws.Pointers
import Derived.LaidEql

namespace Go.Dm
set_option linter.unusedVariables false
set_option linter.unusedSimpArgs false
section
variable {P : Program} {tb : Tab} {g : G} {w : World} {σ : St}
theorem guard_ptr {op : BinOp} {t : TypeId} {x y : Operand} {p : Option Addr} {v : Value} : (eqGuard op t x y (.pointer p) v).run P w = .ok () w := by unfold eqGuard; simp
theorem guard_sl {op : BinOp} {t : TypeId} {x y : Operand} {a : Option Addr} {n c : Nat} {v : Value} : (eqGuard op t x y (.slice a n c) v).run P w = .ok () w := by unfold eqGuard; simp
theorem run_ptr_eq {t e : TypeId} (h : P.underlying t = some (.pointer e)) {p q : Option Addr} (hq : p = none ∨ q = none) : (Op.equal t (.pointer p) (.pointer q)).run P w = .ok (p.isNone && q.isNone) w := by
  unfold Op.equal Op.maxDepth
  rw [show (10000 : Nat) = 9999 + 1 from rfl]
  unfold Op.equalIn
  simp only [Sem.run_bind, run_underlying h, Result.andThen]
  cases p with
  | none => cases q <;> rfl
  | some a =>
    cases q with
    | none => rfl
    | some b => rcases hq with h | h <;> cases h
theorem run_ptr_same {t e : TypeId} {j : TypeInfo} (h : P.underlying t = some (.pointer e)) (hj : P.info? e = some j) (hs : j.size ≠ 0) (a : Addr) : (Op.equal t (.pointer (some a)) (.pointer (some a))).run P w = .ok true w := by
  have key : ∀ d : Nat, (Op.equalIn (d + 1) t (.pointer (some a)) (.pointer (some a))).run P w = .ok true w := fun d => by
    simp [Op.equalIn, run_underlying h, sizeOf, typeInfo, hj, hs, run_sameAddr_same]
  exact key 9999
theorem ptr_vals {x y : V} {u v : Value} {b : Bool} (h : xptrEq x y = some b) (hx : VRep g w σ x u) (hy : VRep g w σ y v) :
    ∃ p q, u = .pointer p ∧ v = .pointer q ∧ (((p = none ∨ q = none) ∧ b = (p.isNone && q.isNone)) ∨ ∃ a, p = some a ∧ q = some a ∧ b = true) := by
  have so : ∀ {x : V} {u : Value}, (∃ l, x = .c (.f (.obj l))) ∨ (∃ o f, x = .c (.ptr o f)) ∨ (∃ l o, x = .c (.ep l o)) → VRep g w σ x u → ∃ a, u = .pointer (some a) := by
    intro x u h hx
    rcases h with ⟨l, rfl⟩ | ⟨o, f, rfl⟩ | ⟨l, o, rfl⟩
    · obtain ⟨b, h1, _⟩ := hx; exact ⟨_, h1⟩
    · obtain ⟨b, ob, _, h1, _⟩ := hx; exact ⟨_, h1⟩
    · obtain ⟨b, o', h1, _⟩ := hx; exact ⟨_, h1⟩
  have sn : ∀ {u : Value}, VRep g w σ (.c (.f .nilp)) u → u = .pointer none := fun h => h
  unfold xptrEq at h
  split at h
  case h_8 =>
    rename_i o f o' f'
    split at h
    · rename_i hc
      simp only [Bool.and_eq_true] at hc
      have e1 := Nat.eq_of_beq_eq_true hc.1
      have e2 := Nat.eq_of_beq_eq_true hc.2
      subst e1 e2
      cases h
      obtain ⟨b1, ob1, q1, q2, _⟩ := hx
      obtain ⟨b2, ob2, q3, q4, _⟩ := hy
      rw [q1] at q3
      cases q3
      exact ⟨_, _, q2, q4, .inr ⟨_, rfl, rfl, rfl⟩⟩
    · cases h
  all_goals first
    | (cases h; have e1 := sn hx; have e2 := sn hy; exact ⟨none, none, e1, e2, .inl ⟨.inl rfl, rfl⟩⟩)
    | (cases h; have e1 := sn hx; obtain ⟨a, e2⟩ := so (by first | exact .inl ⟨_, rfl⟩ | exact .inr (.inl ⟨_, _, rfl⟩) | exact .inr (.inr ⟨_, _, rfl⟩)) hy; exact ⟨none, some a, e1, e2, .inl ⟨.inl rfl, rfl⟩⟩)
    | (cases h; have e2 := sn hy; obtain ⟨a, e1⟩ := so (by first | exact .inl ⟨_, rfl⟩ | exact .inr (.inl ⟨_, _, rfl⟩) | exact .inr (.inr ⟨_, _, rfl⟩)) hx; exact ⟨some a, none, e1, e2, .inl ⟨.inr rfl, rfl⟩⟩)
    | cases h
theorem row_nil {x : V} {u : Value} {r : Option Bool} (h : xrowNil x σ = some r) (hr : Rep g w σ) (hx : VRep g w σ x u) : ∃ a n c, u = .slice a n c ∧ (r = none ∨ r = some a.isNone) := by
  unfold xrowNil at h
  split at h
  · cases h
    have : u = .slice none 0 0 := hx
    exact ⟨none, 0, 0, this, .inr rfl⟩
  · cases h
    obtain ⟨a, cap, h1, _⟩ := hx
    exact ⟨a, _, cap, h1, .inl rfl⟩
  · cases h
    obtain ⟨a, cap, h1, _, _, h2⟩ := hx
    rcases h2 with ⟨_, _, h3⟩ | ⟨b, o, h3, _⟩
    · cases h3
    · subst h3; exact ⟨_, _, cap, h1, .inr rfl⟩
  · rename_i o e n
    simp only [nth_eq] at h
    split at h
    · rename_i wr e0 sz l ho
      split at h
      · rename_i he
        have he' : e = e0 := Nat.eq_of_beq_eq_true he
        obtain ⟨h1, ob, h2, h3⟩ := hx
        rw [ho] at h2
        cases h2
        obtain ⟨hv, h4, h5⟩ := h3.2 he'
        split at h
        · cases h; exact ⟨_, _, _, hv, .inl rfl⟩
        · cases h
          refine ⟨_, _, _, hv, .inr ?_⟩
          have hob := hr.ob o _ ho
          rcases hob with ⟨_, hl, _⟩ | ⟨b, vs, T, fz, rest, hb, _⟩
          · cases hl
          · rw [hb]; rfl
      · cases h
    · cases h
  · cases h
theorem makeSlice_ok (tok : TabOk P tb) {t e : TypeId} (hd : (tb t).d = .slice e) (he : (tb e).d ≠ .no) (hr : Rep g w σ) {n : Nat} {k k' : IntKind} (h1 : n ≤ 16777216) (h2 : n * (tb e).bytes ≤ 16777216) (h3 : 0 < (tb e).size) (hee : e ≤ 4294967295) :
    ∃ σ' g' w' v, (Instr.makeSlice t (.int k n) (.int k' n)).run P w = .ok v w' ∧ σ' = σ ++ [.arr true (e + 4294967296) (tb e).size (repF n (tb e).zero)] ∧ Rep g' w' σ' ∧ Turn g w σ g' w' σ' ∧ VRep g' w' σ' (.c (.rs σ.length (e + 4294967296) n)) v := by
  have h := (tok t).fits
  rw [hd] at h
  obtain ⟨j, z, q1, q2, q3, q4, q5⟩ := run_info (tok e) he
  obtain ⟨z', q6, q7⟩ := run_zero (P := P) (tok e) he w
  have ez : z' = z := by
    have hh : (zeroValue e).run P w = .ok z w := by simp [zeroValue, typeInfo, q1, q4]
    rw [hh] at q6
    cases q6
    rfl
  subst ez
  have hm := run_make (P := P) w t e j z' h q1 q4 k k' (n : Int) (n : Int) (by omega) (Int.le_refl _) (by
      rw [q3]
      have : (((tb e).bytes * n : Nat) : Int) ≤ 281474976710656 := by rw [Nat.mul_comm]; omega
      rwa [Int.natCast_mul] at this) (by omega)
  simp only [Int.toNat_natCast, q2] at hm
  have hc : CReps g w σ ((tb e).zero.map .f) z'.cells.toList := by rw [q7]; exact zero_reps (zero_plain (tok e) he)
  have hmade : madeCells z'.cells (n * (tb e).size) = (((List.range (n * (tb e).size)).map fun i => z'.cells.toList[i % (tb e).size]!)).toArray := by
    unfold madeCells
    apply Array.ext'
    simp only [Array.toList_map, Array.toList_range, q5]
    apply List.map_congr_left
    intro i _
    rw [getElem!_def, getElem!_def, Array.getElem?_toList]
  have hrow := rep_rep hc n
  simp only [Array.length_toList, q5] at hrow
  rw [rep_repF] at hrow
  have hlen := hrow.length
  simp at hlen
  have hzl := zero_len (tok e) he
  have hfl : (repF n (tb e).zero).length = n * (tb e).size := by rw [repF_len, hzl]
  obtain ⟨g2, p1, p2, p3, p4⟩ := new_arr hr e (tb e).size n (l := repF n (tb e).zero) (vs := (List.range (n * (tb e).size)).map fun i => z'.cells.toList[i % (tb e).size]!) (0, 0) (e + 4294967296) (flag_mod hee) (flag_odd hee) (.inl rfl) (by simp) (by simp only [maxLen]; omega) (by simp [hfl])
    (fun j a b => by
      obtain ⟨v, r1, r2⟩ := hrow.get (i := j) (c := .f (repF n (tb e).zero)[j]) (by simp [a])
      rw [List.getElem?_eq_getElem b] at r1
      cases r1
      exact r2)
  rw [← hmade] at p1 p2
  refine ⟨_, g2, _, _, hm, rfl, p1, p2, ?_⟩
  refine ⟨rfl, .arr true (e + 4294967296) (tb e).size (repF n (tb e).zero), by simp, Nat.le_refl _, fun _ => ?_⟩
  refine ⟨?_, by rw [hfl], by rw [p4]; exact Nat.le_refl _⟩
  rw [p3, p4]
  rfl
theorem extra_ok (tok : TabOk P tb) (hr : Rep g w σ) {o : Oper} {a : Act} {fr : Fr} (hf : FrRep g w σ fr a.tmps) {k : V → St → Prop} (hk : vextra tb o.op fr σ k) : Good P o a g w σ k := by
  obtain ⟨l, hl, hk⟩ := hk
  have opr := fun x => opd_rep hf x
  generalize hop : o.op = op at hl
  unfold xextra at hl
  split at hl
  · rename_i bop t x y ty
    split at hl
    · rename_i e hd
      have ht := (tok t).fits
      rw [hd] at ht
      split at hl
      · rename_i b hb hen hsz
        split at hl
        · rename_i v hv
          cases hl
          obtain ⟨p, q, e1, e2, e3⟩ := ptr_vals hb (opr x) (opr y)
          have hv' := hk (v, σ) (by simp)
          obtain ⟨j, z, q1, q2, _⟩ := run_info (tok e) (not_no hen)
          have hs0 : j.size ≠ 0 := by
            have : 0 < (tb e).size := by unfold Nat.blt at hsz; rw [Nat.ble_eq] at hsz; exact hsz
            omega
          have hrun : (Op.equal t (.pointer p) (.pointer q)).run P w = .ok b w := by
            rcases e3 with ⟨e3, rfl⟩ | ⟨ad, rfl, rfl, rfl⟩
            · exact run_ptr_eq ht e3
            · exact run_ptr_same ht q1 hs0 ad
          refine good_still hr (s := do eqGuard bop t x y (a.eval x) (a.eval y); binOp bop t (a.eval x) (a.eval y)) (by simp only [execOp, hop]) ⟨v, .bool (negB bop b), ?_, hv', ?_⟩
          · rw [e1, e2]
            simp only [Sem.run_bind, guard_ptr, Result.andThen]
            rcases zneg hv with ⟨rfl, rfl⟩ | ⟨rfl, rfl⟩
            · simp only [binOp, Sem.run_bind, hrun, Result.andThen, Sem.run_pure, negB]
            · simp only [binOp, Sem.run_bind, hrun, Result.andThen, Sem.run_pure, negB]
          · rcases zneg hv with ⟨rfl, rfl⟩ | ⟨rfl, rfl⟩ <;> rfl
        · cases hl
      · cases hl
    · rename_i e hd
      have ht := (tok t).fits
      rw [hd] at ht
      split at hl
      · rename_i hy
        have hyv : a.eval y = .slice none 0 0 := by have := opr y; rw [hy] at this; exact this
        have run : ∀ {r : Option Bool}, xrowNil (opd fr x) σ = some r → ∃ b : Bool, (r = none ∨ r = some b) ∧ ∀ v, xneg bop b = some v → k v σ → Good P o a g w σ k := fun {r} hrn => by
          obtain ⟨ad, n, c, e1, e2⟩ := row_nil hrn hr (opr x)
          refine ⟨ad.isNone, e2, fun v hv hkv => good_still hr (s := do eqGuard bop t x y (a.eval x) (a.eval y); binOp bop t (a.eval x) (a.eval y)) (by simp only [execOp, hop]) ⟨v, .bool (negB bop ad.isNone), ?_, hkv, ?_⟩⟩
          · rw [e1, hyv]
            simp only [Sem.run_bind, guard_sl, Result.andThen]
            rcases zneg hv with ⟨rfl, rfl⟩ | ⟨rfl, rfl⟩
            · simp only [binOp, Sem.run_bind, run_equal_slice_nil w t e ad n c ht, Result.andThen, Sem.run_pure, negB]
            · simp only [binOp, Sem.run_bind, run_equal_slice_nil w t e ad n c ht, Result.andThen, Sem.run_pure, negB]
          · rcases zneg hv with ⟨rfl, rfl⟩ | ⟨rfl, rfl⟩ <;> rfl
        split at hl
        · rename_i b hrn
          obtain ⟨b', h1, h2⟩ := run hrn
          have hb : b' = b := by rcases h1 with h1 | h1 <;> cases h1; rfl
          subst hb
          split at hl
          · rename_i v hv
            cases hl
            exact h2 v hv (hk (v, σ) (by simp))
          · cases hl
        · rename_i hrn
          obtain ⟨b', h1, h2⟩ := run hrn
          split at hl
          · rename_i v u hv hu
            cases hl
            cases b' with
            | true => exact h2 v hv (hk (v, σ) (by simp))
            | false => exact h2 u hu (hk (u, σ) (by simp))
          · cases hl
        · cases hl
      · cases hl
    · rename_i fs hd
      split at hl
      · rename_i v hv
        cases hl
        have ht := (tok t).fits
        rw [hd] at ht
        obtain ⟨fields, f1, _⟩ := ht
        exact agg_eq tok hr opr hop (by unfold wideB; rw [f1]) hv (hk (v, σ) (by simp))
      · cases hl
    · rename_i n e hd
      split at hl
      · rename_i v hv
        cases hl
        have ht := (tok t).fits
        rw [hd] at ht
        have f1 : P.underlying t = some (.array n e) := ht
        exact agg_eq tok hr opr hop (by unfold wideB; rw [f1]) hv (hk (v, σ) (by simp))
      · cases hl
    · cases hl
  · rename_i t x y
    split at hl
    · rename_i e _ n _ m hd hx hy
      split at hl
      · rename_i he hc
        cases hl
        simp only [Bool.and_eq_true] at hc
        obtain ⟨⟨⟨⟨c1, c2⟩, c3⟩, c4⟩, c5⟩ := hc
        have c1 := Nat.eq_of_beq_eq_true c1
        subst c1
        rw [Nat.ble_eq] at c2 c3 c5
        have c4 : 0 < (tb e).size := by unfold Nat.blt at c4; rw [Nat.ble_eq] at c4; exact c4
        have ex := opr x
        rw [hx] at ex
        have ey := opr y
        rw [hy] at ey
        obtain ⟨σ', g', w', v, r1, r2, r3, r4, r5⟩ := makeSlice_ok tok hd (not_no he) hr c2 c3 c4 c5
        subst r2
        refine good_turn (s := Instr.makeSlice t (a.eval x) (a.eval y)) (by simp only [execOp, hop]) ⟨_, _, g', w', v, ?_, hk _ (List.mem_singleton.2 rfl), r3, r4, r5⟩
        rw [rep_int ex, rep_int ey]
        exact r1
      · cases hl
    · cases hl
  · -- maps
    rename_i t r
    split at hl
    · cases hl
      obtain ⟨g', r1, r2, r3⟩ := new_map hr
      exact good_turn (s := Instr.makeMap t none) (by simp only [execOp, hop]; rfl) ⟨_, _, g', _, _, rfl, hk _ (List.mem_singleton.2 rfl), r1, r2, r3⟩
    · cases hl
  · -- a Builder
    rename_i t
    split at hl
    · rename_i pa sa hd hz
      split at hl
      rotate_left
      · cases hl
      rename_i el hel
      cases hl
      obtain ⟨g', w', v, r0, r1, r2, r3⟩ := new_bld tok hr el hd hz
      exact good_turn (s := Instr.alloc t true (.tuple #[])) (by simp only [execOp, hop]) ⟨_, _, g', w', v, r0, hk _ (List.mem_singleton.2 rfl), r1, r2, r3⟩
    · cases hl
  · rename_i t x i
    split at hl
    · rename_i pa sa o hd hx
      have ht := (tok t).fits
      rw [hd] at ht
      obtain ⟨fields, f1, f2, _⟩ := ht
      have ex := opr x
      rw [hx] at ex
      obtain ⟨b, ob, e1, e2, e3, e4⟩ := ex
      have at_ : ∀ (j : Nat) (u : TypeId), fields[j]?.map (fun f => (f.offset, f.type)) = some (j, u) → (tb u).d.isNo = false → 0 < (tb u).size → (Instr.fieldAt t (a.eval x) j).run P w = .ok (.pointer (some ⟨b, j, none⟩)) w := by
        intro j u hj hn hz
        rw [e2]
        cases hf : fields[j]? with
        | none => rw [hf] at hj; cases hj
        | some f =>
          rw [hf] at hj
          simp only [Option.map_some, Option.some.injEq, Prod.mk.injEq] at hj
          simp only [Instr.fieldAt, Sem.run_bind, run_underlying f1, Result.andThen, hf, Instr.sureAddr, Sem.run_pure, fieldPlace, hj.2, run_sizeOf (tok u) (not_no hn), hj.1]
          rw [if_neg (by omega)]
          simp [add_addr]
      have fld : ∀ j : Nat, fields[j]?.map (fun f => (f.offset, f.type)) = [(0, pa), (1, sa)][j]? := fun j => by rw [← f2]; simp
      split at hl
      · split at hl
        · rename_i hn hz
          cases hl
          have hz' : 0 < (tb pa).size := by unfold Nat.blt at hz; rw [Nat.ble_eq] at hz; exact hz
          exact good_still hr (s := Instr.fieldAt t (a.eval x) 0) (by simp only [execOp, hop]) ⟨_, _, at_ 0 pa (by rw [fld]; rfl) hn hz', hk _ (List.mem_singleton.2 rfl), ⟨b, ob, e1, rfl, e3, e4⟩⟩
        · cases hl
      · split at hl
        · rename_i hn hz
          cases hl
          have hz' : 0 < (tb sa).size := by unfold Nat.blt at hz; rw [Nat.ble_eq] at hz; exact hz
          exact good_still hr (s := Instr.fieldAt t (a.eval x) 1) (by simp only [execOp, hop]) ⟨_, _, at_ 1 sa (by rw [fld]; rfl) hn hz', hk _ (List.mem_singleton.2 rfl), ⟨b, ob, e1, rfl, e3, e4⟩⟩
        · cases hl
      · cases hl
    · cases hl
  · -- pointers of another kind
    rename_i s d x
    split at hl
    · rename_i o hx
      have ex := opr x
      rw [hx] at ex
      obtain ⟨b, ob, e1, e2, e3, e4⟩ := ex
      simp only [nth_eq] at hl
      split at hl
      · rename_i T u y ho
        obtain ⟨b', v, q1, q2, q3⟩ := hr.ob o _ ho
        rw [e1] at q1
        cases q1
        have hsh : w.shape? b = some (T, 2) := by simp [World.shape?, q2]
        split at hl
        · rename_i e h1 h2
          split at hl
          · rename_i he hT
            simp only [Bool.and_eq_true] at he
            have hsz := blt_nat he.2
            have := beq_nat he.1
            subst this
            cases hl
            have fs := (tok s).fits
            have fd := (tok d).fits
            rw [h1] at fs
            rw [h2] at fd
            obtain ⟨j, z, i1, i2, _⟩ := run_info (tok e) (by rw [hT]; simp)
            refine good_still hr (s := convert s d (a.eval x)) (by simp only [execOp, hop]) ⟨_, .pointer (some ⟨b, 0, none⟩), ?_, hk _ (List.mem_singleton.2 rfl), ⟨b, ob, e1, rfl, e3, e4⟩⟩
            rw [e2]
            exact Lib.run_to_unsafe w ⟨b, 0, none⟩ fs fd i1 (by omega) hsh (by simp)
          · cases hl
        · rename_i e h1 h2
          split at hl
          · rename_i he hT
            simp only [Bool.and_eq_true] at he
            have hsz := blt_nat he.2
            have := beq_nat he.1
            subst this
            cases hl
            have fs := (tok s).fits
            have fd := (tok d).fits
            rw [h1] at fs
            rw [h2] at fd
            have ft := (tok e).fits
            rw [hT] at ft
            obtain ⟨fields, _, _, hlies⟩ := ft
            obtain ⟨j, z, i1, i2, _⟩ := run_info (tok e) (by rw [hT]; simp)
            refine good_still hr (s := convert s d (a.eval x)) (by simp only [execOp, hop]) ⟨_, .pointer (some ⟨b, 0, none⟩), ?_, hk _ (List.mem_singleton.2 rfl), ⟨b, ob, e1, rfl, e3, e4⟩⟩
            rw [e2]
            exact Lib.run_from_unsafe w ⟨b, 0, none⟩ fs fd i1 hsh hlies
          · cases hl
        · cases hl
      · cases hl
    · cases hl
  · rename_i b args ats
    have hargs := opds_rep hf args.toList
    have hrun := call_run (P := P) (w := w) (a := a) hop
    have hat : args.map a.eval = (args.toList.map a.eval).toArray := by apply Array.ext'; rw [Array.toList_map]
    rw [hat] at hrun
    obtain ⟨r, σ', g', w', v, q1, q2, q3, q4, q5⟩ := bi_ok (ty := o.type) (cs := args.map fun | .const _ => true | _ => false) tok hr hargs hl hk
    exact ⟨r, σ', g', w', v, _, by rw [hrun]; exact q1, .inl rfl, q2, q3, q4, q5⟩
  · cases hl
theorem vop2_ok (tok : TabOk P tb) (hr : Rep g w σ) {o : Oper} {a : Act} {fr : Fr} (hf : FrRep g w σ fr a.tmps) {k : V → St → Prop} (hk : vop2 prims tb o.op fr σ k) : Good P o a g w σ k := by
  unfold vop2 at hk
  split at hk
  · exact extra_ok tok hr hf hk
  · exact vop_ok tok hr hf hk
end
end Go.Dm
