/- The plain machine: what the further operations need. -/
import Derived.Test.YtdioidceogjalaaGreatDoorDp
import Derived.Test.YtdioidceogjalaaGreatDoorDfk
import Derived.Lib.UnsafeStr
namespace Go.Dm
set_option linter.unusedVariables false
set_option linter.unusedSimpArgs false

section
variable {P : Program} {tb : Tab} {g : G} {w : World} {σ : St}

theorem rep_repF {l : List F} : ∀ (n : Nat), rep n (l.map .f) = (repF n l).map .f
  | 0 => rfl
  | n + 1 => by simp [rep, repF, rep_repF n]

theorem repF_len {l : List F} : ∀ (n : Nat), (repF n l).length = n * l.length
  | 0 => by simp [repF]
  | n + 1 => by simp [repF, repF_len n, Nat.add_mul, Nat.add_comm]

theorem sameK_iff {j k : IntKind} : sameK j k = true ↔ j = k := by cases j <;> cases k <;> simp [sameK]

theorem matchK_fit : ∀ {ks : List KK} {fs : List F} {vs : List Value}, matchK ks fs = true → CReps g w σ (fs.map .f) vs → FitK ks vs ∧ vs = fs.map fval
  | [], [], vs, _, h => by simp only [List.map_nil, CReps] at h; subst h; exact ⟨trivial, rfl⟩
  | [], f :: s, vs, hm, h => by simp [matchK] at hm
  | k :: r, [], vs, hm, h => by cases k <;> simp [matchK] at hm
  | k :: r, f :: s, vs, hm, h => by
    obtain ⟨v, vr, rfl, h1, h2⟩ := h
    have h1 : FRep g w f v := h1
    cases k <;> cases f <;> simp only [matchK, Bool.false_eq_true] at hm
    · obtain ⟨q1, q2⟩ := matchK_fit hm h2
      have e : v = .bool _ := h1
      subst e q2
      exact ⟨q1, rfl⟩
    · split at hm
      · rename_i hc
        simp only [Bool.and_eq_true] at hc
        obtain ⟨q1, q2⟩ := matchK_fit hm h2
        have e : v = .int _ _ := h1
        have e2 := sameK_iff.1 hc.1
        subst e q2 e2
        exact ⟨⟨rfl, hc.2, q1⟩, rfl⟩
      · cases hm
    · split at hm
      · rename_i hc
        obtain ⟨q1, q2⟩ := matchK_fit hm h2
        have e : v = .string _ := h1
        subst e q2
        exact ⟨⟨by have := ble_nat hc; simpa [maxLen, ByteArray.size] using this, q1⟩, rfl⟩
      · cases hm

theorem eqbs_iff : ∀ {ks : List KK} {fs fs' : List F}, matchK ks fs = true → matchK ks fs' = true → (F.eqbs fs fs' = true ↔ fs.map fval = fs'.map fval)
  | [], [], [], _, _ => by simp [F.eqbs]
  | [], f :: s, _, hm, _ => by simp [matchK] at hm
  | [], [], f :: s, _, hm => by simp [matchK] at hm
  | k :: r, [], _, hm, _ => by cases k <;> simp [matchK] at hm
  | k :: r, f :: s, [], _, hm => by cases k <;> simp [matchK] at hm
  | k :: r, f :: s, f' :: s', hm, hm' => by
    have key : matchK r s = true ∧ matchK r s' = true ∧ (F.eqb f f' = true ↔ fval f = fval f') := by
      cases k <;> cases f <;> simp only [matchK, Bool.false_eq_true] at hm <;> cases f' <;> simp only [matchK, Bool.false_eq_true] at hm'
      · rename_i a b
        refine ⟨hm, hm', ?_⟩
        cases a <;> cases b <;> simp [F.eqb, fval]
      · split at hm
        · split at hm'
          · refine ⟨hm, hm', ?_⟩
            simp only [F.eqb, Bool.and_eq_true, sameK_iff, ieq_eq, fval, beq_iff_eq, Value.int.injEq]
          · cases hm'
        · cases hm
      · split at hm
        · split at hm'
          · refine ⟨hm, hm', ?_⟩
            simp only [F.eqb, beqS_eq, fval, beq_iff_eq, Value.string.injEq, ByteArray.mk.injEq]
            exact ⟨fun e => by rw [e], fun e => by simpa using congrArg Array.toList e⟩
          · cases hm'
        · cases hm
    simp only [F.eqbs, Bool.and_eq_true, key.2.2, eqbs_iff key.1 key.2.1, List.map_cons, List.cons.injEq]

def negB (op : BinOp) (b : Bool) : Bool := match op with | .neq => !b | _ => b

theorem zneg {op : BinOp} {b : Bool} {v : V} (h : xneg op b = some v) : (op = .eql ∧ v = vbool b) ∨ (op = .neq ∧ v = vbool (!b)) := by
  cases op <;> simp [xneg] at h <;> simp [h]

theorem guard_agg {op : BinOp} {t : TypeId} {x y : Operand} {a b : Array Value} (h : P.eqGuardType P.depth t = false) : (eqGuard op t x y (.agg a) (.agg b)).run P w = .ok () w := by
  unfold eqGuard
  cases op <;> simp [h]

theorem agg_eq (tok : TabOk P tb) (hr : Rep g w σ) {o : Oper} {a : Act} {fr : Fr} (opr : ∀ x, VRep g w σ (opd fr x) (a.eval x)) {bop : BinOp} {t : TypeId} {x y : Operand} {ty : TypeId} (hop : o.op = .binOp bop t x y ty)
    (hw : wideB P t = true) {v : V} (hv : xaggEq (tb t).key bop (opd fr x) (opd fr y) = some v) {k : V → St → Prop} (hk : k v σ) : Good P o a g w σ k := by
  unfold xaggEq at hv
  split at hv
  · rename_i kk ks l l' hkey hx hy
    have ex := opr x
    have ey := opr y
    rw [hx] at ex
    rw [hy] at ey
    obtain ⟨us, e1, h1⟩ := ex
    obtain ⟨vs, e2, h2⟩ := ey
    split at hv
    · rename_i fs fs' hf hf'
      rw [frz_spec hf] at h1
      rw [frz_spec hf'] at h2
      split at hv
      · rename_i hm
        simp only [Bool.and_eq_true] at hm
        obtain ⟨q1, q2⟩ := matchK_fit hm.1 h1
        obtain ⟨q3, q4⟩ := matchK_fit hm.2 h2
        have ko : KeyOk P t (kk :: ks) := by
          rcases (tok t).keyed with h | h
          · rw [hkey] at h; cases h
          · rw [hkey] at h; exact h
        obtain ⟨r, hr1, hr2⟩ := ko.eql hw w us vs q1 q3
        have hrb : r = F.eqbs fs fs' := by
          rw [Bool.eq_iff_iff, hr2, eqbs_iff hm.1 hm.2, q2, q4]
        subst hrb
        refine good_still hr (s := do eqGuard bop t x y (a.eval x) (a.eval y); binOp bop t (a.eval x) (a.eval y)) (by simp only [execOp, hop]) ⟨v, .bool (negB bop (F.eqbs fs fs')), ?_, hk, ?_⟩
        · rw [e1, e2]
          simp only [Sem.run_bind, guard_agg ko.guard, Result.andThen]
          rcases zneg hv with ⟨rfl, rfl⟩ | ⟨rfl, rfl⟩
          · simp only [binOp, Sem.run_bind, hr1, Result.andThen, Sem.run_pure, negB]
          · simp only [binOp, Sem.run_bind, hr1, Result.andThen, Sem.run_pure, negB]
        · rcases zneg hv with ⟨rfl, rfl⟩ | ⟨rfl, rfl⟩ <;> rfl
      · cases hv
    · cases hv
  · cases hv

/-- A new map. -/
theorem new_map (hr : Rep g w σ) : ∃ g', Rep g' (w.alloc (.map #[] 0)) (σ ++ [.map []]) ∧ Turn g w σ g' (w.alloc (.map #[] 0)) (σ ++ [.map []]) ∧ VRep g' (w.alloc (.map #[] 0)) (σ ++ [.map []]) (.c (.mp σ.length)) (.map (some w.heap.size)) :=
  ⟨g.push σ.length w.heap.size 0, push_rep hr _ _ 0 (fun _ => ⟨w.heap.size, #[], 0, by simp [G.push], heap_push_new, rfl⟩), push_turn hr _ _ 0,
    ⟨w.heap.size, .map [], by simp [G.push], rfl, by simp, rfl⟩⟩

/-- A new Builder. -/
theorem new_bld (tok : TabOk P tb) (hr : Rep g w σ) {t pa sa : TypeId} (hd : (tb t).d = .bld pa sa) (hz : (tb t).zero = [.nilp, .nils]) :
    ∃ g' w' v, (Instr.alloc t true (.tuple #[])).run P w = .ok v w' ∧ Rep g' w' (σ ++ [.bld t false (.f .nils)]) ∧ Turn g w σ g' w' (σ ++ [.bld t false (.f .nils)]) ∧ VRep g' w' (σ ++ [.bld t false (.f .nils)]) (.c (.ptr σ.length 0)) v := by
  obtain ⟨z, h1, h2⟩ := run_zero (P := P) (tok t) (by rw [hd]; simp) w
  rw [hz] at h2
  have hc : z.cells = #[.pointer none, .slice none 0 0] := by apply Array.ext'; rw [h2]; rfl
  refine ⟨g.push σ.length w.heap.size 0, w.alloc (.cells z.cells t), .pointer (some ⟨w.heap.size, 0, none⟩), ?_, push_rep hr _ _ 0 (fun ht => ⟨w.heap.size, .slice none 0 0, by simp [G.push], by rw [hc]; exact heap_push_new, rfl⟩), push_turn hr _ _ 0,
    ⟨w.heap.size, .bld t false (.f .nils), by simp [G.push], rfl, by simp, rfl⟩⟩
  simp only [Instr.alloc, Sem.run_bind, h1, Result.andThen]
  rfl

theorem bytesOf_ok : ∀ {l : List F} {s : List UInt8}, bytesOf l = some s → l = s.map fun b => F.int .u8 b.toNat
  | [], s, h => by simp only [bytesOf] at h; cases h; rfl
  | x :: r, s, h => by
    unfold bytesOf at h
    split at h
    · rename_i e; cases e
    · rename_i n r' e
      cases e
      split at h
      · rename_i l h1 h2
        cases h
        have := blt_nat h1
        simp only [List.map_cons, ← bytesOf_ok h2]
        congr 2
        simp
        omega
      · cases h
    · cases h

/-- Its cells are frozen for good; the row is forgotten. -/
theorem forget_row (hr : Rep g w σ) {i : Nat} {wr : Bool} {e sz : Nat} {l : List F} (hi : σ[i]? = some (.arr wr e sz l)) {b : Nat} (hb : g.blk i = some b) (n : Nat) :
    Rep g (w.freeze ⟨b, 0, none⟩ n) (σ.set i .gone) ∧ Turn g w σ g (w.freeze ⟨b, 0, none⟩ n) (σ.set i .gone) := by
  rcases hr.ob i _ hi with ⟨h1, _, _⟩ | ⟨c, vs, T, fz, rest, h1, h2, _⟩
  · rw [hb] at h1; cases h1
  · rw [hb] at h1; cases h1
    have hlt : b < w.heap.size := (Array.getElem?_eq_some_iff.1 h2).1
    have hw : ∃ fz', w.freeze ⟨b, 0, none⟩ n = w.at b (.cells vs T fz') := by
      unfold World.freeze
      split
      · refine ⟨fz, ?_⟩
        unfold World.at
        have : w.heap.setIfInBounds b (.cells vs T fz) = w.heap := by
          apply Array.ext_getElem?
          intro j
          by_cases hj : b = j
          · subst hj; rw [Array.getElem?_setIfInBounds_self_of_lt hlt, h2]
          · rw [Array.getElem?_setIfInBounds_ne hj]
        rw [this]
      · refine ⟨if fz.1 == fz.2 then (0, 0 + n) else (min fz.1 0, max fz.2 (0 + n)), ?_⟩
        unfold World.at
        congr 1
        apply Array.ext_getElem?
        intro j
        rw [Array.getElem?_modify]
        by_cases hj : b = j
        · subst hj; rw [Array.getElem?_setIfInBounds_self_of_lt hlt, if_pos rfl, h2]; rfl
        · rw [Array.getElem?_setIfInBounds_ne hj, if_neg hj]
    obtain ⟨fz', hw⟩ := hw
    rw [hw]
    have ht := write_turn (ob' := .gone) (O' := .cells vs T fz') hr hi hb rfl h2 (fun o _ => by simp [World.cell?, at_same hlt, h2]) trivial (fun _ h => h.elim)
    exact ⟨write_rep hr hi hb rfl ht (fun h => by cases h) (fun _ h => h.elim) trivial, ht⟩

theorem app_zeros {t u e : TypeId} {i : TypeInfo} {z : Value} {q : IntKind} (ht : P.underlying t = some (.slice e)) (hu : P.underlying u = some (.int q)) (hi : P.info? e = some i) (hz : i.zero = some z) {T : TypeId} {n : Nat} (h0 : 0 < n) (h1 : n ≤ 16777216) (h2 : n * i.bytes ≤ 16777216) :
    (Builtin.append_ #[t, u] T #[.slice none 0 0, .int .i64 n]).run P w =
      .ok (.slice (some ⟨w.heap.size, 0, none⟩) n (grownCap w n 0 e))
        (w.drew.alloc (.cells ((if n * i.size = 0 then [] else (Builtin.zeroCells z.cells n).toList) ++ (Builtin.zeroCells z.cells (grownCap w n 0 e - n)).toList).toArray e)) := by
  have hfit : Builtin.nextslicecap n 0 * i.bytes ≤ 281474976710656 := growslice_fits (by omega) (by omega)
  have hwrap : IntKind.i64.wrap (n : Int) = n := by
    simp [IntKind.wrap, IntKind.signed, IntKind.bits, IntKind.min, IntKind.max]
    omega
  have h48 : ¬ ((281474976710656 : Int) < (n : Int) * (i.bytes : Int)) := by
    have : ((n * i.bytes : Nat) : Int) ≤ 16777216 := by omega
    rw [Int.natCast_mul] at this
    omega
  have h48' : ¬ (281474976710656 < Builtin.nextslicecap n 0 * i.bytes) := by omega
  have hn : ¬ (n ≤ 0) := by omega
  have h63 : ¬ ((9223372036854775807 : Int) < (n : Int)) := by omega
  have hneg : ¬ ((n : Int) < 0) := by omega
  have hnz : ¬ (n = 0) := by omega
  by_cases hs : n * i.size = 0
  · simp [Builtin.append_, run_underlying ht, run_underlying hu, sizeOf, typeInfo, zeroValue, hi, hz, hwrap, hneg, h48, h48', hn, h63, Question.forced, newRow, grownCap, asInt, asIntOf, Builtin.firstCells, hs, hnz]
  · simp [Builtin.append_, run_underlying ht, run_underlying hu, sizeOf, typeInfo, zeroValue, hi, hz, hwrap, hneg, h48, h48', hn, h63, Question.forced, newRow, grownCap, asInt, asIntOf, Builtin.firstCells, hs, hnz]
    congr 2; apply Array.ext'; simp

theorem zeroCells_rep {z : Value} {zs : List F} {n m : Nat} (h : z.cells.toList = zs.map zval) (hp : zs.all plain = true) : CReps g w σ ((repF n zs).map .f) (Builtin.zeroCells z.cells n).toList := by
  have hc : CReps g w σ (zs.map .f) z.cells.toList := by rw [h]; exact zero_reps hp
  have := rep_rep hc n
  rw [rep_repF] at this
  have e : (Builtin.zeroCells z.cells n).toList = (List.range (n * z.cells.toList.length)).map fun i => z.cells.toList[i % z.cells.toList.length]! := by
    unfold Builtin.zeroCells
    simp only [Array.toList_map, Array.toList_range, Array.length_toList]
    apply List.map_congr_left
    intro i _
    rw [getElem!_def, getElem!_def, Array.getElem?_toList]
  rw [e]
  exact this

theorem bi_ok (tok : TabOk P tb) (hr : Rep g w σ) {b : Builtin} {ts : Array TypeId} {ty : TypeId} {cs : Array Bool} {vals : List V} {vs : List Value} (hv : VReps g w σ vals vs) {l : List (V × St)} (hl : xbuiltin tb b vals ts.toList σ = some l) {k : V → St → Prop} (hk : ∀ p ∈ l, k p.1 p.2) :
    ∃ r σ' g' w' v, (builtin b ts ty cs vs.toArray).run P w = .ok (.value v) w' ∧ k r σ' ∧ Rep g' w' σ' ∧ Turn g w σ g' w' σ' ∧ VRep g' w' σ' r v := by
  have still : ∀ {r : V} {v : Value}, (builtin b ts ty cs vs.toArray).run P w = .ok (.value v) w → k r σ → VRep g w σ r v → ∃ r σ' g' w' v, (builtin b ts ty cs vs.toArray).run P w = .ok (.value v) w' ∧ k r σ' ∧ Rep g' w' σ' ∧ Turn g w σ g' w' σ' ∧ VRep g' w' σ' r v :=
    fun {r v} a b c => ⟨r, σ, g, w, v, a, b, hr, Turn.refl _ _ _, c⟩
  have one_ : ∀ {x : V}, vals = [x] → ∃ v, vs = [v] ∧ VRep g w σ x v := fun {x} e => by
    rw [e] at hv
    obtain ⟨v, vr, rfl, h1, h2⟩ := hv
    simp only [VReps] at h2; subst h2
    exact ⟨v, rfl, h1⟩
  have two_ : ∀ {x y : V}, vals = [x, y] → ∃ v u, vs = [v, u] ∧ VRep g w σ x v ∧ VRep g w σ y u := fun {x y} e => by
    rw [e] at hv
    obtain ⟨v, vr, rfl, h1, u, vr', rfl, h2, h3⟩ := hv
    simp only [VReps] at h3; subst h3
    exact ⟨v, u, rfl, h1, h2⟩
  unfold xbuiltin at hl
  split at hl
  · -- cap
    rename_i t ets
    obtain ⟨v, rfl, h1⟩ := one_ rfl
    have : v = .slice none 0 0 := h1
    subst this
    split at hl
    · rename_i e hd
      cases hl
      have ht := (tok t).fits
      rw [hd] at ht
      have ets' : ts = #[t] := by apply Array.ext'; simpa using ets
      subst ets'
      refine still ?_ (hk _ (List.mem_singleton.2 rfl)) rfl
      simp [builtin, Builtin.cap_, run_underlying ht, goInt]
    · cases hl
  · obtain ⟨v, rfl, h1⟩ := one_ rfl
    have : v = .slice none 0 0 := h1
    subst this
    cases hl
    exact still (by rfl) (hk _ (List.mem_singleton.2 rfl)) rfl
  · rename_i o e n
    obtain ⟨v, rfl, h1⟩ := one_ rfl
    simp only [nth_eq] at hl
    split at hl
    · rename_i wr e0 sz x xs ho
      split at hl
      · rename_i hc
        simp only [Bool.and_eq_true] at hc
        have he := beq_nat hc.1
        have hz := blt_nat hc.2
        subst he
        cases hl
        obtain ⟨_, ob, h2, h3⟩ := h1
        rw [ho] at h2; cases h2
        obtain ⟨rfl, h4, h5⟩ := h3.2 rfl
        rcases hr.ob o _ ho with ⟨_, k2, _⟩ | ⟨b, vs', T, fz, rest, k1, _⟩
        · cases k2
        · have hcap : g.cap o ≠ 0 := by
            intro h0
            have : n = 0 := by omega
            subst this
            simp at h4
          refine still (v := .pointer (some ⟨b, 0, none⟩)) ?_ (hk _ (List.mem_singleton.2 rfl)) ⟨rfl, _, ho, Nat.le_refl _, fun _ => ⟨b, k1, rfl⟩⟩
          have := Lib.run_unsafeSliceData_row (P := P) (w := w) ts ty ⟨b, 0, none⟩ n (g.cap o) hcap
          simp only [builtin, k1, Option.map_some, Sem.run_bind, Result.andThen, this, Sem.run_pure]
      · cases hl
    · cases hl
  · rename_i n t u ets
    obtain ⟨v, u', rfl, h1, h2⟩ := two_ rfl
    have h1 : v = .pointer none := h1
    have h2 : u' = .int .i64 n := h2
    subst h1 h2
    split at hl
    · rename_i h0
      cases hl
      have hn : n = 0 := by
        unfold ieq0 at h0
        split at h0
        · have := beq_nat h0; subst this; rfl
        · cases h0
      subst hn
      have ets' : ts = #[t, u] := by apply Array.ext'; simpa using ets
      subst ets'
      refine still (v := .string .empty) ?_ (hk _ (List.mem_singleton.2 rfl)) rfl
      have := Lib.run_unsafeString_none (P := P) (w := w) t u ty none
      simp only [builtin, Sem.run_bind, Result.andThen, this, Sem.run_pure]
    · cases hl
  · rename_i o e n t u ets
    obtain ⟨v, u', rfl, h1, h2⟩ := two_ rfl
    have h2 : u' = .int .i64 (n : Nat) := h2
    subst h2
    simp only [nth_eq, put_eq] at hl
    split at hl
    · rename_i ue wr e0 sz row hd ho
      split at hl
      · rename_i s hdu hc hs
        simp only [Bool.and_eq_true] at hc
        obtain ⟨⟨⟨⟨c1, c2⟩, c3⟩, c4⟩, c5⟩ := hc
        have c5 := beq_nat c5
        have c1 := beq_nat c1
        have c2 := beq_nat c2
        have c3 := beq_nat c3
        have c4 := beq_nat c4
        subst c1 c2 c3
        cases hl
        have hrow := bytesOf_ok hs
        subst hrow
        have ets' : ts = #[t, u] := by apply Array.ext'; simpa using ets
        subst ets'
        obtain ⟨_, ob, q1, q2⟩ := h1
        rw [ho] at q1; cases q1
        obtain ⟨b, k1, rfl⟩ := q2.2 rfl
        have hp := (tok t).fits
        rw [hd] at hp
        obtain ⟨j, z, i1, i2, i3, i4, i5⟩ := run_info (tok ue) (by rw [hdu]; simp)
        have hfu := (tok ue).fits
        rw [hdu] at hfu
        rcases hr.ob o _ ho with ⟨q1, _, _⟩ | ⟨c, vs', T, fz, rest, q1, q2, q3, q4, q5, ⟨pre, q6, q7, q8⟩, q9, q10⟩
        · rw [k1] at q1; cases q1
        · rw [k1] at q1; cases q1
          have hT : T = ue := by rw [q10]; exact c4
          subst hT
          obtain ⟨r1, r2⟩ := forget_row hr ho k1 (s.length)
          have hsz1 : P.cellsOf T = 1 := by
            simp [Program.cellsOf, i1, i2, c5]
          by_cases h0 : s = []
          · subst h0
            refine ⟨_, _, g, _, .string .empty, ?_, hk _ (List.mem_singleton.2 rfl), r1, r2, rfl⟩
            have := Lib.run_unsafeString_none (P := P) (w := w) t u ty (some ⟨b, 0, none⟩)
            have hfz : w.freeze ⟨b, 0, none⟩ ([] : List UInt8).length = w := by simp [World.freeze]
            rw [hfz]
            simp only [builtin, List.map_nil, List.length_nil, Sem.run_bind, Result.andThen]
            erw [this]
            rfl
          · obtain ⟨vs2, a1, a2, a3⟩ := arr_vals hr ho k1
            have hb := byte_vals a3
            subst hb
            have hsh : w.shape? b = some (T, vs'.size) := by simp [World.shape?, q2]
            have hn : s.length ≤ vs'.size := by
              have := congrArg List.length q6
              simp at this q7
              omega
            have h63 : s.length ≤ 9223372036854775807 := by
              simp only [maxLen] at q5
              omega
            refine ⟨_, _, g, _, .string ⟨s.toArray⟩, ?_, hk _ (List.mem_singleton.2 rfl), r1, r2, rfl⟩
            have := Lib.run_unsafeString_row (P := P) (w := w) t u ty T hp hsz1 b vs'.size hsh s h0 hn h63 (fun j x hx => by
              rw [add_addr, Nat.zero_add]
              exact a2 j _ (by simp [hx]))
            simp only [builtin, List.length_map, Sem.run_bind, Result.andThen, this, Sem.run_pure]
      · cases hl
    · cases hl
  · rename_i n t u ets
    obtain ⟨v, u', rfl, h1, h2⟩ := two_ rfl
    have h1 : v = .slice none 0 0 := h1
    have h2 : u' = .int .i64 (n : Nat) := h2
    subst h1 h2
    split at hl
    · rename_i e q hd hdu
      split at hl
      · rename_i he hc
        simp only [Bool.and_eq_true] at hc
        obtain ⟨⟨⟨c1, c2⟩, c3⟩, c4⟩ := hc
        have c1 := blt_nat c1
        have c2 := ble_nat c2
        have c3 := ble_nat c3
        have c4 := ble_nat c4
        cases hl
        have ets' : ts = #[t, u] := by apply Array.ext'; simpa using ets
        subst ets'
        have ht := (tok t).fits
        rw [hd] at ht
        have hu := (tok u).fits
        rw [hdu] at hu
        obtain ⟨j, z, i1, i2, i3, i4, i5⟩ := run_info (tok e) (not_no he)
        obtain ⟨z', q6, q7⟩ := run_zero (P := P) (tok e) (not_no he) w
        have ez : z' = z := by
          have hh : (zeroValue e).run P w = .ok z w := by simp [zeroValue, typeInfo, i1, i4]
          rw [hh] at q6
          cases q6
          rfl
        subst ez
        have hzl := zero_len (tok e) (not_no he)
        have hrun := app_zeros (P := P) (w := w) (T := ty) ht hu i1 i4 c1 c2 (by rw [i3]; exact c3)
        have hcap := grownCap_ge w n 0 e
        have hcm : grownCap w n 0 e ≤ maxLen := grownCap_le_maxLen w n 0 e (by simp only [maxLen]; omega)
        obtain ⟨d1, d2⟩ := drew_rep hr
        have hcells : (if n * j.size = 0 then [] else (Builtin.zeroCells z'.cells n).toList) = (Builtin.zeroCells z'.cells n).toList := by
          split
          · rename_i h0
            symm
            apply List.eq_nil_of_length_eq_zero
            rw [Array.length_toList, size_zeroCells, i5, ← i2]
            exact h0
          · rfl
        rw [hcells] at hrun
        have hcr := zeroCells_rep (g := g) (w := w) (σ := σ) (n := n) (m := 0) q7 (zero_plain (tok e) (not_no he))
        have hfl : (repF n (tb e).zero).length = n * (tb e).size := by rw [repF_len, hzl]
        have hzc : (Builtin.zeroCells z'.cells n).toList.length = n * (tb e).size := by rw [Array.length_toList, size_zeroCells, i5]
        obtain ⟨g2, p1, p2, p3, p4⟩ := new_arr d1 e (tb e).size (grownCap w n 0 e) (l := repF n (tb e).zero) (vs := (Builtin.zeroCells z'.cells n).toList ++ (Builtin.zeroCells z'.cells (grownCap w n 0 e - n)).toList) (0, 0) e (Nat.mod_eq_of_lt (Nat.lt_succ_of_le c4)).symm (.inl rfl)
          (by rw [List.length_append, hzc, Array.length_toList, size_zeroCells, i5, ← Nat.add_mul]; congr 1; omega) hcm (by rw [List.length_append, hzc, hfl]; omega)
          (fun q a b => by
            have ha : q < (Builtin.zeroCells z'.cells n).toList.length := by rw [hzc, ← hfl]; exact a
            rw [List.getElem_append_left ha]
            obtain ⟨v, r1, r2⟩ := hcr.get (i := q) (c := .f (repF n (tb e).zero)[q]) (by simp [a])
            rw [List.getElem?_eq_getElem ha] at r1
            cases r1
            exact FRep.turn d2.zs _ _ r2)
        refine ⟨_, _, g2, _, .slice (some ⟨w.heap.size, 0, none⟩) n (grownCap w n 0 e), ?_, hk _ (List.mem_singleton.2 rfl), p1, d2.trans p2, ⟨rfl, .arr true e (tb e).size (repF n (tb e).zero), by simp, Nat.le_refl _, fun _ => ⟨by rw [p3, p4]; rfl, hfl.symm, by rw [p4]; exact hcap⟩⟩⟩
        simp only [builtin, Sem.run_bind, Result.andThen]
        erw [hrun]
        rfl
      · cases hl
    · cases hl
  · cases hl
end
end Go.Dm
