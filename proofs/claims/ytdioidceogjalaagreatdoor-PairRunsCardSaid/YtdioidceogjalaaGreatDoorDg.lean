/- The plain machine: its operations are the model's: those on values alone. -/
import Derived.Test.YtdioidceogjalaaGreatDoorDfk
namespace Go.Dm
set_option linter.unusedVariables false
set_option linter.unusedSimpArgs false

def FrRep (g : G) (w : World) (σ : St) (fr : Fr) (tmps : Array Value) : Prop :=
  fr.length = tmps.size ∧ ∀ i, VRep g w σ (fr.getD i (.c .un)) (tmps.getD i undef)

theorem FrRep.turn {g g' : G} {w w' : World} {σ σ' : St} (h : Turn g w σ g' w' σ') {fr : Fr} {tmps : Array Value} (hf : FrRep g w σ fr tmps) : FrRep g' w' σ' fr tmps :=
  ⟨hf.1, fun i => VRep.turn h _ _ (hf.2 i)⟩

theorem ofConst_rep (g : G) (w : World) (σ : St) (v : Value) : VRep g w σ (ofConst v) v := by
  unfold ofConst
  split <;> simp [VRep, CRep, FRep]

theorem opd_rep {g : G} {w : World} {σ : St} {fr : Fr} {a : Act} (hf : FrRep g w σ fr a.tmps) (x : Operand) : VRep g w σ (opd fr x) (a.eval x) := by
  cases x with
  | tmp t => exact hf.2 t
  | const v => exact ofConst_rep g w σ v
  | global i => trivial
  | func f => simp [opd, Act.eval, VRep, CRep, FRep]

/-- What an operation comes to. -/
def Good (P : Program) (o : Oper) (a : Act) (g : G) (w : World) (σ : St) (k : V → St → Prop) : Prop :=
  ∃ r σ' g' w' v nx, (execOp a.eval o).run P w = .ok nx w' ∧ (nx = .value v ∨ (nx = .skip ∧ v = undef)) ∧ k r σ' ∧ Rep g' w' σ' ∧ Turn g w σ g' w' σ' ∧ VRep g' w' σ' r v

theorem good_pure {P : Program} {o : Oper} {a : Act} {g : G} {w : World} {σ : St} {k : V → St → Prop} (hr : Rep g w σ) {r : V} {v : Value}
    (h : (execOp a.eval o).run P w = .ok (.value v) w) (hv : VRep g w σ r v) (hk : k r σ) : Good P o a g w σ k :=
  ⟨r, σ, g, w, v, _, h, .inl rfl, hk, hr, Turn.refl _ _ _, hv⟩

theorem same_iff {j j' : IntKind} {p : Prop} (h : same j j' p) : j = j' ∧ p := by
  cases j <;> cases j' <;> simp_all [same]

section
variable {g : G} {w : World} {σ : St} {v : Value}
theorem rep_int {k : IntKind} {n : Int} (h : VRep g w σ (.c (.f (.int k n))) v) : v = .int k n := h
theorem rep_bool {b : Bool} (h : VRep g w σ (.c (.f (.bool b))) v) : v = .bool b := h
theorem rep_str {s : List UInt8} (h : VRep g w σ (.c (.f (.str s))) v) : v = .string ⟨s.toArray⟩ := h
theorem rep_flo {b : Nat} (h : VRep g w σ (.c (.f (.flo b))) v) : v = .float .f64 b := h
theorem rep_cpl {a b : Nat} (h : VRep g w σ (.c (.f (.cpl a b))) v) : v = .complex .f64 a b := h
end

theorem zval_rep {g : G} {w : World} {x : F} (h : plain x = true) : FRep g w x (zval x) := by
  cases x <;> simp_all [plain, zval, FRep]

theorem run_int {P : Program} {w : World} {op : BinOp} {t : TypeId} {j : IntKind} {a b : Int} (hs : op ≠ .shl ∧ op ≠ .shr) {k : V → Prop} (h : vint prims op j a b k) :
    ∃ x : F, (binOp op t (.int j a) (.int j b)).run P w = .ok (zval x) w ∧ k (.c (.f x)) ∧ plain x = true := by
  cases op <;> simp only [vint] at h <;> try exact h.elim
  case quo =>
    have h0 : b ≠ 0 := h.1
    exact ⟨_, by simp [binOp, Op.intDiv, h0]; rfl, h.2, rfl⟩
  case rem =>
    have h0 : b ≠ 0 := h.1
    exact ⟨_, by simp [binOp, Op.intDiv, h0]; rfl, h.2, rfl⟩
  all_goals exact ⟨_, by simp only [binOp, ne_eq, not_true_eq_false, if_false, Op.intArith, Op.intBits, Op.intCmp]; rfl, h, rfl⟩

theorem run_shift {P : Program} {w : World} {op : BinOp} {t : TypeId} {j j' : IntKind} {a b : Int} (hs : op = .shl ∨ op = .shr) (h : 0 ≤ b) :
    (binOp op t (.int j a) (.int j' b)).run P w = .ok (.int j (barith op j a b)) w := by
  have h' : ¬ b < 0 := by omega
  rcases hs with rfl | rfl <;> simp [binOp, Op.shift, barith, h']

theorem str_size (a : List UInt8) : (ByteArray.mk a.toArray).size = a.length := rfl

section
variable {P : Program} {w : World} {op : BinOp} {t : TypeId} {x y : Operand} {v : Value}
theorem guard_int {k : IntKind} {n : Int} : (eqGuard op t x y (.int k n) v).run P w = .ok () w := by unfold eqGuard; simp
theorem guard_bool {b : Bool} : (eqGuard op t x y (.bool b) v).run P w = .ok () w := by unfold eqGuard; simp
theorem guard_str {b : ByteArray} : (eqGuard op t x y (.string b) v).run P w = .ok () w := by unfold eqGuard; simp
theorem guard_flo {k : FloatKind} {b : Nat} : (eqGuard op t x y (.float k b) v).run P w = .ok () w := by unfold eqGuard; simp
theorem guard_cpl {k : FloatKind} {a b : Nat} : (eqGuard op t x y (.complex k a b) v).run P w = .ok () w := by unfold eqGuard; simp
end

theorem run_fcmp {P : Program} {w : World} {op : BinOp} {t : TypeId} {a b : Nat} (h : op = .eql ∨ op = .neq ∨ op = .lss ∨ op = .leq ∨ op = .gtr ∨ op = .geq) :
    (binOp op t (.float .f64 a) (.float .f64 b)).run P w = .ok (.bool (bfcmp op a b)) w := by
  rcases h with rfl | rfl | rfl | rfl | rfl | rfl
  · rw [binOp_float_cmp_eql]; rfl
  · rw [binOp_float_cmp_neq]; rfl
  · rw [binOp_float_cmp_lss]; rfl
  · rw [binOp_float_cmp_leq]; rfl
  · rw [binOp_float_cmp_gtr]; rfl
  · rw [binOp_float_cmp_geq]; rfl

theorem run_ceq {P : Program} {w : World} {t : TypeId} {a b c d : Nat} :
    (binOp .eql t (.complex .f64 a b) (.complex .f64 c d)).run P w = .ok (.bool (bfcmp .eql a c && bfcmp .eql b d)) w := by
  simp only [binOp, Op.complexOp, Op.Complex.cmp, Op.floatCmp, bfcmp]
  cases hx : (FloatKind.f64.format.order a c == some Ordering.eq) <;> simp [asBool, hx]

theorem run_cne {P : Program} {w : World} {t : TypeId} {a b c d : Nat} :
    (binOp .neq t (.complex .f64 a b) (.complex .f64 c d)).run P w = .ok (.bool (!(bfcmp .eql a c && bfcmp .eql b d))) w := by
  simp only [binOp, Op.complexOp, Op.Complex.cmp, Op.floatCmp, bfcmp]
  cases hx : (FloatKind.f64.format.order a c == some Ordering.eq) <;> simp [asBool, hx]

theorem run_beq {P : Program} {w : World} {t : TypeId} (ht : P.underlying t = some .bool) {a b : Bool} : (binOp .eql t (.bool a) (.bool b)).run P w = .ok (.bool (a == b)) w := by
  have h : (Op.equal t (.bool a) (.bool b)).run P w = .ok (a == b) w := by
    show (Op.equalIn (9999 + 1) t (.bool a) (.bool b)).run P w = _
    rw [Op.equalIn]
    simp [run_underlying ht]
  simp only [binOp, Sem.run_bind, h, Result.andThen, Sem.run_pure]

theorem run_bne {P : Program} {w : World} {t : TypeId} (ht : P.underlying t = some .bool) {a b : Bool} : (binOp .neq t (.bool a) (.bool b)).run P w = .ok (.bool (!(a == b))) w := by
  have h : (Op.equal t (.bool a) (.bool b)).run P w = .ok (a == b) w := by
    show (Op.equalIn (9999 + 1) t (.bool a) (.bool b)).run P w = _
    rw [Op.equalIn]
    simp [run_underlying ht]
  simp only [binOp, Sem.run_bind, h, Result.andThen, Sem.run_pure]

/-- The binary operations on scalars. -/
theorem bin_ok {P : Program} {g : G} {w : World} {σ : St} {op : BinOp} {t : TypeId} {d : TD} (hd : d.fits P t) {x y : V} {u v : Value} {X Y : Operand} {k : V → Prop}
    (hx : VRep g w σ x u) (hy : VRep g w σ y v) (h : vbin prims d op x y k) :
    ∃ z : F, (do eqGuard op t X Y u v; binOp op t u v : Sem Value).run P w = .ok (zval z) w ∧ k (.c (.f z)) ∧ plain z = true := by
  unfold vbin at h
  split at h
  · -- ints
    rename_i j a j' b
    have hg := @guard_int P w op t X Y
    have e1 := rep_int hx; have e2 := rep_int hy; subst e1 e2
    by_cases hs : op = .shl ∨ op = .shr
    · rcases hs with rfl | rfl
      · exact ⟨_, by simp only [Sem.run_bind, hg, Result.andThen, run_shift (.inl rfl) h.1]; rfl, h.2, rfl⟩
      · exact ⟨_, by simp only [Sem.run_bind, hg, Result.andThen, run_shift (.inr rfl) h.1]; rfl, h.2, rfl⟩
    · have hs' : op ≠ .shl ∧ op ≠ .shr := ⟨fun e => hs (.inl e), fun e => hs (.inr e)⟩
      have h' : same j j' (vint prims op j a b k) := by
        revert h; cases op <;> simp_all
      obtain ⟨rfl, h2⟩ := same_iff h'
      obtain ⟨z, h3, h4, h5⟩ := run_int (P := P) (w := w) (t := t) hs' h2
      exact ⟨z, by simp only [Sem.run_bind, hg, Result.andThen, h3], h4, h5⟩
  · -- bools
    have hg := @guard_bool P w op t X Y
    have e1 := rep_bool hx; have e2 := rep_bool hy; subst e1 e2
    split at h
    · exact ⟨_, by simp only [Sem.run_bind, hg, Result.andThen, run_beq hd]; rfl, h, rfl⟩
    · exact ⟨_, by simp only [Sem.run_bind, hg, Result.andThen, run_bne hd]; rfl, h, rfl⟩
    · exact h.elim
  · -- texts
    have hg := @guard_str P w op t X Y
    rename_i a b
    have e1 := rep_str hx; have e2 := rep_str hy; subst e1 e2
    split at h
    · have h1 : a.length + b.length ≤ 9223372036854775807 := h.1
      have hn : ¬ ((((ByteArray.mk a.toArray).size + (ByteArray.mk b.toArray).size : Nat) : Int) > IntKind.i64.max) := by
        rw [str_size, str_size, show IntKind.i64.max = 9223372036854775807 from rfl]; omega
      refine ⟨.str (a ++ b), ?_, h.2, rfl⟩
      simp only [Sem.run_bind, hg, Result.andThen, binOp, Op.stringOp]
      rw [if_neg hn, ByteArray.mk_append_mk]
      rfl
    all_goals first
      | exact h.elim
      | exact ⟨_, by simp only [Sem.run_bind, hg, Result.andThen, binOp, Op.stringOp, ByteArray.toList_mk]; rfl, h, rfl⟩
  · have hg := @guard_flo P w op t X Y
    have e1 := rep_flo hx; have e2 := rep_flo hy; subst e1 e2
    split at h
    case h_7 =>
      split at h
      · rename_i r hr
        exact ⟨_, by simp only [Sem.run_bind, hg, Result.andThen, run_float_arith w .add t .f64 _ _ _ hr]; rfl, h, rfl⟩
      · exact h.elim
    case h_8 =>
      split at h
      · rename_i r hr
        exact ⟨_, by simp only [Sem.run_bind, hg, Result.andThen, run_float_arith w .sub t .f64 _ _ _ hr]; rfl, h, rfl⟩
      · exact h.elim
    all_goals first
      | exact h.elim
      | exact ⟨_, by simp only [Sem.run_bind, hg, Result.andThen]; rw [run_fcmp (by simp)]; rfl, h, rfl⟩
  · have hg := @guard_cpl P w op t X Y
    rename_i a b c e
    have e1 := rep_cpl hx; have e2 := rep_cpl hy; subst e1 e2
    split at h
    · split at h
      · rename_i r hr
        split at h
        · rename_i i hi
          have hc : cSumBits .add .f64 a b c e = some (r, i) := by unfold cSumBits; simp only [prims] at hr hi; rw [hr, hi]; rfl
          exact ⟨_, by simp only [Sem.run_bind, hg, Result.andThen, run_complex_sum w .add (.inl rfl) t .f64 _ _ _ _ _ _ hc]; rfl, h, rfl⟩
        · exact h.elim
      · exact h.elim
    · split at h
      · rename_i r hr
        split at h
        · rename_i i hi
          have hc : cSumBits .sub .f64 a b c e = some (r, i) := by unfold cSumBits; simp only [prims] at hr hi; rw [hr, hi]; rfl
          exact ⟨_, by simp only [Sem.run_bind, hg, Result.andThen, run_complex_sum w .sub (.inr rfl) t .f64 _ _ _ _ _ _ hc]; rfl, h, rfl⟩
        · exact h.elim
      · exact h.elim
    · exact ⟨_, by simp only [Sem.run_bind, hg, Result.andThen, run_ceq]; rfl, h, rfl⟩
    · exact ⟨_, by simp only [Sem.run_bind, hg, Result.andThen, run_cne]; rfl, h, rfl⟩
    · exact h.elim
  · exact h.elim
end Go.Dm
