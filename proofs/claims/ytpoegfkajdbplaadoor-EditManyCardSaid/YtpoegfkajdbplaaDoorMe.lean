/- Printed by merge2.py: many texts in one. -/
import Derived.Test.YtpoegfkajdbplaaDoorMd

namespace Go.Dm
set_option linter.unusedVariables false
set_option linter.unusedSimpArgs false
structure Qr where
  icmp : BinOp → Int → Int → (Bool → Prop) → Prop
  iar : BinOp → IntKind → Int → Int → (Int → Prop) → Prop
  scmp : BinOp → List UInt8 → List UInt8 → (Bool → Prop) → Prop
  sapp : List UInt8 → List UInt8 → (List UInt8 → Prop) → Prop
  slen : List UInt8 → (Int → Prop) → Prop
  len : Nat → (Int → Prop) → Prop
  schr : List UInt8 → Int → (Int → Prop) → Prop
  ssub : List UInt8 → Option Int → Option Int → (List UInt8 → Prop) → Prop
  idx : Int → Nat → Nat → (Nat → Prop) → Prop
  off : Nat → Nat → (Nat → Prop) → Prop
  eqN : Nat → Nat → Prop → Prop
  getF : List F → Nat → (F → Prop) → Prop
  cutF : List F → Nat → Nat → (List F → Prop) → Prop
  frow : Nat → List F → Nat → Option Int → Option Int → (Nat → List F → Prop) → Prop
  rrow : Nat → List F → Nat → Int → (Nat → List F → Prop) → Prop
  new : Nat → List F → Nat → Nat → Prop → Prop
  app : Nat → List F → Nat → List F → Nat → (Nat → List F → Prop) → Prop
  src : Nat → List F → Nat → (Nat → List F → Prop) → Prop
  wrap : IntKind → Int → (Int → Prop) → Prop
  fsum : BinOp → Nat → Nat → (Nat → Prop) → Prop
  fcmp : BinOp → Nat → Nat → (Bool → Prop) → Prop
def isAr : BinOp → Bool
  | .add | .sub | .mul | .and | .or | .xor | .andNot => true
  | _ => false
def isDiv : BinOp → Bool
  | .quo | .rem => true
  | _ => false
def isSh : BinOp → Bool
  | .shl | .shr => true
  | _ => false
def isCmp : BinOp → Bool
  | .eql | .neq | .lss | .leq | .gtr | .geq => true
  | _ => false
def qprims : Qr where
  icmp op a b K := isCmp op = true ∧ K (bcmp op a b)
  iar op k a b K := ((isAr op = true) ∨ (isDiv op = true ∧ b ≠ 0) ∨ (isSh op = true ∧ 0 ≤ b)) ∧ K (barith op k a b)
  scmp op a b K := isCmp op = true ∧ K (bscmp op a b)
  sapp a b K := a.length + b.length ≤ 9223372036854775807 ∧ K (a ++ b)
  slen s K := K s.length
  len n K := K n
  schr s i K := (0 ≤ i ∧ i < s.length) ∧ K (s.getD i.toNat 0).toNat
  ssub s lo hi K := (0 ≤ lo.getD 0 ∧ lo.getD 0 ≤ hi.getD s.length ∧ hi.getD s.length ≤ s.length) ∧ K ((s.drop (lo.getD 0).toNat).take ((hi.getD s.length).toNat - (lo.getD 0).toNat))
  idx j n sz K := (0 ≤ j ∧ j < n) ∧ K (j.toNat * sz)
  off a b K := K (a + b)
  eqN a b K := a = b ∧ K
  getF l i K := match l[i]? with | some x => K x | none => False
  cutF l i n K := i + n ≤ l.length ∧ K ((l.drop i).take n)
  frow n cs sz lo hi K := match lo, hi with | none, none => K n cs | lo, hi => (0 ≤ lo.getD 0 ∧ lo.getD 0 ≤ hi.getD n ∧ hi.getD n ≤ n) ∧ K ((hi.getD n).toNat - (lo.getD 0).toNat) ((cs.drop ((lo.getD 0).toNat * sz)).take (((hi.getD n).toNat - (lo.getD 0).toNat) * sz))
  rrow n l sz b K := (0 ≤ b ∧ b ≤ n) ∧ K b.toNat (l.take (b.toNat * sz))
  new m l bytes ty K := m * bytes ≤ 140737488355328 ∧ m ≤ 9223372036854775807 ∧ ty ≤ 4294967295 ∧ K
  app n l m r bytes K := (n + m) * bytes ≤ 140737488355328 ∧ n + m ≤ 9223372036854775807 ∧ K (n + m) (l ++ r)
  src n cs sz K := cs.length = n * sz ∧ K n cs
  wrap k n K := K (k.wrap n)
  fsum op a b K := match (match op with | .add => floatBits .add .f64 a b | .sub => floatBits .sub .f64 a b | _ => none) with | some r => K r | none => False
  fcmp op a b K := isCmp op = true ∧ K (bfcmp op a b)
structure Wx where
  Q : Qr
  pk : FuncId → List V → (V → Prop) → Prop
  ca : FuncId → List V → St → (V → St → Prop) → Prop
  J : ((Exit → List (Nat × V) → List Ob → Prop) → Prop) → (Exit → List (Nat × V) → List Ob → Prop) → Prop
abbrev wx (P : Program) : Wx := ⟨qprims, PureK P, CallAt P, fun F K => ∃ Q, F Q ∧ ∀ e A σ, Q e A σ → K e A σ⟩
def Wx.mx (X : Wx) : Mx := ⟨prims, X.pk, X.ca⟩
def wbin (Q : Qr) (d : TD) (op : BinOp) (x y : V) (k : V → Prop) : Prop :=
  match x, y with
  | .c (.f (.int j a)), .c (.f (.int j' b)) =>
    (match isSh op with
    | true => Q.iar op j a b fun r => k (.c (.f (.int j r)))
    | false =>
      same j j' (match isCmp op with
        | true => Q.icmp op a b fun r => k (.c (.f (.bool r)))
        | false => Q.iar op j a b fun r => k (.c (.f (.int j r)))))
  | .c (.f (.str a)), .c (.f (.str b)) =>
    (match isCmp op with
    | true => Q.scmp op a b fun r => k (.c (.f (.bool r)))
    | false => (match op with | .add => Q.sapp a b fun r => k (.c (.f (.str r))) | _ => False))
  | .c (.f (.flo a)), .c (.f (.flo b)) =>
    (match isCmp op with
    | true => Q.fcmp op a b fun r => k (.c (.f (.bool r)))
    | false => Q.fsum op a b fun r => k (.c (.f (.flo r))))
  | .c (.f (.cpl a b)), .c (.f (.cpl c e)) =>
    (match op with
    | .add => Q.fsum .add a c fun r => Q.fsum .add b e fun i => k (.c (.f (.cpl r i)))
    | .sub => Q.fsum .sub a c fun r => Q.fsum .sub b e fun i => k (.c (.f (.cpl r i)))
    | .eql => Q.fcmp .eql a c fun r => Q.fcmp .eql b e fun i => k (.c (.f (.bool (r && i))))
    | .neq => Q.fcmp .eql a c fun r => Q.fcmp .eql b e fun i => k (.c (.f (.bool (!(r && i)))))
    | _ => False)
  | x, y => vbin prims d op x y k
def wload (Q : Qr) (agg : Bool) (n : Nat) (x : V) (σ : St) (k : V → Prop) : Prop :=
  match x with
  | .c (.ep cs off) => (match agg with | true => Q.cutF cs off n fun r => k (.a (r.map .f)) | false => Q.getF cs off fun x => k (.c (.f x)))
  | .c (.pa o e off) =>
    (match σ[o]? with
    | some (.arr _ e0 _ l) => Q.eqN e e0 (match agg with | true => Q.cutF l off n fun r => k (.a (r.map .f)) | false => Q.getF l off fun x => k (.c (.f x)))
    | _ => False)
  | x => vload prims agg n x σ k
def wmore (Q : Qr) (off fo : Nat) (k : Nat → Prop) : Prop := match fo with | 0 => k off | m + 1 => Q.off off (m + 1) k
def wfield (Q : Qr) (x : V) (fo : Nat) (σ : St) (k : V → Prop) : Prop :=
  match x with
  | .c (.ptr o off) => k (.c (.ptr o (off + fo)))
  | .c (.ep cs off) => wmore Q off fo fun i => k (.c (.ep cs i))
  | .c (.pa o e off) =>
    (match σ[o]? with
    | some (.arr _ e0 _ _) => Q.eqN e e0 (wmore Q off fo fun i => k (.c (.pa o e i)))
    | _ => False)
  | _ => False
def wixrow (Q : Qr) (sz : Nat) (x i : V) (σ : St) (k : V → Prop) : Prop :=
  match x, i with
  | .c (.f (.sl n cs)), .c (.f (.int _ j)) => Q.idx j n sz fun i => k (.c (.ep cs i))
  | .c (.rs o ep n), .c (.f (.int _ j)) =>
    (match σ[o]? with
    | some (.arr _ e0 _ _) => Q.eqN ep e0 (Q.idx j n sz fun i => k (.c (.pa o ep i)))
    | _ => False)
  | _, _ => False
def wlen (Q : Qr) (d : TD) (x : V) (σ : St) (k : V → Prop) : Prop :=
  match d, x with
  | .str, .c (.f (.str s)) => Q.slen s fun n => k (.c (.f (.int .i64 n)))
  | .slice _, .c (.rs o e n) =>
    (match σ[o]? with
    | some (.arr _ e0 _ _) => Q.eqN e e0 (Q.len n fun i => k (.c (.f (.int .i64 i))))
    | _ => False)
  | .slice _, .c (.f (.sl n cs)) => Q.len n fun i => k (.c (.f (.int .i64 i)))
  | d, x => vlen prims d x σ k
def wsrc (Q : Qr) (d : TD) (sz : Nat) (x : V) (σ : St) (k : Nat → List F → Prop) : Prop :=
  match d, x with
  | .slice _, .c (.f (.sl n cs)) => Q.src n cs sz k
  | .slice _, .c (.rs o e n) =>
    (match σ[o]? with
    | some (.arr _ e0 s0 l) => Q.eqN e e0 (Q.eqN sz s0 (k n l))
    | _ => False)
  | d, x => vsrc prims d sz x σ k
def wappend (Q : Qr) (d : TD) (ty sz bytes : Nat) (x y : V) (σ : St) (k : V → St → Prop) : Prop :=
  wsrc Q d sz y σ fun m new =>
  match x with
  | .c (.f .nils) =>
    (match m with
    | 0 => k (.c (.f .nils)) σ
    | m + 1 => Q.new (m + 1) new bytes ty (k (.c (.rs σ.length ty (m + 1))) (σ ++ [.arr true ty sz new])))
  | .c (.rs o e n) =>
    (match σ[o]? with
    | some (.arr w e0 s0 l) => Q.eqN e e0 (Q.eqN sz s0 (Q.eqN (e0 % 4294967296) ty (Q.app n l m new bytes fun n' l' => k (.c (.rs o (e0 + 8589934592) n')) (σ.set o (.arr w (e0 + 8589934592) sz l')))))
    | _ => False)
  | _ => False
def iOf : Option V → Option (Option Int)
  | none => some none
  | some (.c (.f (.int _ a))) => some (some a)
  | _ => none
def wslice (Q : Qr) (d : TD) (sz : Nat) (x : V) (lo hi : Option V) (σ : St) (k : V → St → Prop) : Prop :=
  match d, x, iOf lo, iOf hi with
  | .str, .c (.f (.str s)), some a, some b => Q.ssub s a b fun r => k (.c (.f (.str r))) σ
  | .slice _, .c (.f (.sl n cs)), some a, some b => Q.frow n cs sz a b fun n' cs' => k (.c (.f (.sl n' cs'))) σ
  | d, x, _, _ => sslice prims d sz x lo hi σ k
def wop (X : Wx) (pf : FuncId → Bool) (tb : Tab) (m : Nat) (s : SOp) (A : AF) (σ : St) (k : V → St → Prop) : Prop :=
  match s with
  | .bin d op x y => wbin X.Q d op (opA A x) (opA A y) fun v => k v σ
  | .load agg n x => wload X.Q agg n (addr (opA A x)) σ fun v => k v σ
  | .fa off x => wfield X.Q (addr (opA A x)) off σ fun v => k v σ
  | .ixr sz x i => wixrow X.Q sz (addr (opA A x)) (opA A i) σ fun v => k v σ
  | .chr x i =>
    (match opA A x, opA A i with
    | .c (.f (.str s)), .c (.f (.int _ j)) => X.Q.schr s j fun r => k (.c (.f (.int .u8 r))) σ
    | _, _ => False)
  | .len d x => wlen X.Q d (opA A x) σ fun v => k v σ
  | .app d ty sz bytes x y => wappend X.Q d ty sz bytes (opA A x) (opA A y) σ k
  | .slc d sz x lo hi => wslice X.Q d sz (opA A x) (lo.map (opA A)) (hi.map (opA A)) σ k
  | .raw (.convert s d x) =>
    (match (tb s).d, (tb d).d, opA A x with
    | .int _, .int j, .c (.f (.int _ n)) => X.Q.wrap j n fun r => k (.c (.f (.int j r))) σ
    | _, _, _ => vopA X.mx pf tb m (.raw (.convert s d x)) A σ k)
  | s => vopA X.mx pf tb m s A σ k
section
variable {P : Program} {pf : FuncId → Bool} {tb : Tab} {m : Nat}
theorem same_of {j j' : IntKind} {p q : Prop} (h : same j j' p) (hpq : p → q) : same j j' q := by
  cases j <;> cases j' <;> first | exact hpq h | exact h
theorem wbin_ok {d : TD} {op : BinOp} {x y : V} {k : V → Prop} (h : wbin qprims d op x y k) : vbin prims d op x y k := by
  unfold wbin at h
  split at h
  · rename_i j a j' b
    cases op <;> simp only [isSh, isCmp] at h <;> first
      | exact ⟨by have := h.1; simp [isAr, isDiv, isSh] at this; exact this, h.2⟩
      | exact same_of h fun h => h.2
      | (exact same_of h fun h => ⟨by have := h.1; simp [isAr, isDiv, isSh] at this; exact this, h.2⟩)
      | (refine same_of h fun h => ?_; have := h.1; simp [isAr, isDiv, isSh] at this; done)
  · rename_i a b
    cases op <;> simp only [isCmp] at h <;> first
      | exact h.2
      | exact ⟨h.1, h.2⟩
      | exact h.elim
  · rename_i a b
    cases op <;> simp only [isCmp] at h <;> first
      | exact h.2
      | exact h
      | (have h' : False := h; exact h'.elim)
  · rename_i a b c e
    cases op <;> first
      | exact h.2.2
      | exact h
      | (have h' : False := h; exact h'.elim)
  · exact h
theorem wload_ok {agg : Bool} {n : Nat} {x : V} {σ : St} {k : V → Prop} (h : wload qprims agg n x σ k) : vload prims agg n x σ k := by
  unfold wload at h
  split at h
  · unfold vload
    cases agg <;> exact h
  · rename_i o e off
    unfold vload
    split at h
    · rename_i wr e0 sz l ho
      simp only [ho]
      cases agg <;> exact h
    · exact h.elim
  · exact h
theorem wmore_ok {off fo : Nat} {k : Nat → Prop} (h : wmore qprims off fo k) : k (vmore prims off fo) := by
  cases fo <;> exact h
theorem wfield_ok {x : V} {fo : Nat} {σ : St} {k : V → Prop} (h : wfield qprims x fo σ k) : vfield prims x fo σ k := by
  unfold wfield at h
  unfold vfield
  split at h
  · exact h
  · exact wmore_ok (k := fun i => k (.c (.ep _ i))) h
  · split at h
    · rename_i wr e0 sz l ho
      simp only [ho]
      exact ⟨h.1, wmore_ok (k := fun i => k (.c (.pa _ _ i))) h.2⟩
    · exact h.elim
  · exact h.elim
theorem wixrow_ok {sz : Nat} {x i : V} {σ : St} {k : V → Prop} (h : wixrow qprims sz x i σ k) : ixrow prims sz x i σ k := by
  unfold wixrow at h
  unfold ixrow
  split at h
  · exact ⟨h.1, h.2⟩
  · split at h
    · rename_i wr e0 s0 l ho
      simp only [ho]
      exact ⟨h.1, h.2.1, h.2.2⟩
    · exact h.elim
  · exact h.elim
theorem wlen_ok {d : TD} {x : V} {σ : St} {k : V → Prop} (h : wlen qprims d x σ k) : vlen prims d x σ k := by
  unfold wlen at h
  split at h
  · exact h
  · unfold vlen
    split at h
    · rename_i wr e0 sz l ho
      simp only [ho]
      exact h
    · exact h.elim
  · exact h
  · exact h
theorem wsrc_ok {d : TD} {sz : Nat} {x : V} {σ : St} {k : Nat → List F → Prop} (h : wsrc qprims d sz x σ k) : vsrc prims d sz x σ k := by
  unfold wsrc at h
  split at h
  · unfold vsrc; exact ⟨h.1, h.2⟩
  · unfold vsrc
    split at h
    · rename_i wr e0 s0 l ho
      simp only [ho]
      exact ⟨h.1, h.2.1, h.2.2⟩
    · exact h.elim
  · exact h
theorem vsrc_mono {d : TD} {sz : Nat} {x : V} {σ : St} {k k' : Nat → List F → Prop} (hk : ∀ n l, k n l → k' n l) (h : vsrc prims d sz x σ k) : vsrc prims d sz x σ k' := by
  unfold vsrc at h ⊢
  split at h
  · exact hk _ _ h
  · exact ⟨h.1, hk _ _ h.2⟩
  · split at h
    · exact ⟨h.1, h.2.1, hk _ _ h.2.2⟩
    · exact h.elim
  · exact ⟨h.1, hk _ _ h.2⟩
  · exact h.elim
theorem wappend_ok {d : TD} {ty sz bytes : Nat} {x y : V} {σ : St} {k : V → St → Prop} (h : wappend qprims d ty sz bytes x y σ k) : vappend prims d ty sz bytes x y σ k := by
  unfold wappend at h
  unfold vappend
  refine vsrc_mono (fun n l h => ?_) (wsrc_ok h)
  split at h
  · cases n <;> exact h
  · split at h
    · rename_i w e0 s0 l' ho
      simp only [ho]
      exact ⟨h.1, h.2.1, h.2.2.2.1, h.2.2.2.2.1, h.2.2.1, h.2.2.2.2.2⟩
    · exact h.elim
  · exact h.elim
theorem iOf_spec {lo : Option V} {a : Option Int} (h : iOf lo = some a) : (lo = none ∧ a = none) ∨ ∃ k n, lo = some (.c (.f (.int k n))) ∧ a = some n := by
  unfold iOf at h
  split at h
  · cases h; exact .inl ⟨rfl, rfl⟩
  · cases h; exact .inr ⟨_, _, rfl, rfl⟩
  · cases h
theorem wslice_ok {d : TD} {sz : Nat} {x : V} {lo hi : Option V} {σ : St} {k : V → St → Prop} (h : wslice qprims d sz x lo hi σ k) : sslice prims d sz x lo hi σ k := by
  unfold wslice at h
  split at h
  · rename_i s a b ha hb
    obtain ⟨h1, h2⟩ := h
    have h1 : 0 ≤ a.getD 0 ∧ a.getD 0 ≤ b.getD s.length ∧ b.getD s.length ≤ s.length := h1
    rcases iOf_spec ha with ⟨rfl, rfl⟩ | ⟨k1, n1, rfl, rfl⟩ <;> rcases iOf_spec hb with ⟨rfl, rfl⟩ | ⟨k2, n2, rfl, rfl⟩ <;> unfold sslice <;> simp only [Option.getD_none, Option.getD_some] at h1 h2 ⊢
    · simpa using h2
    · exact ⟨⟨by omega, by omega, by show n2 ≤ (s.length : Int); omega⟩, h2⟩
    · exact ⟨⟨by omega, by omega, by show n1 ≤ (s.length : Int); omega⟩, h2⟩
    · exact ⟨⟨by omega, by omega, by show n2 ≤ (s.length : Int); omega⟩, ⟨by omega, by omega, by omega⟩, h2⟩
  · rename_i e n cs a b ha hb
    rcases iOf_spec ha with ⟨rfl, rfl⟩ | ⟨k1, n1, rfl, rfl⟩ <;> rcases iOf_spec hb with ⟨rfl, rfl⟩ | ⟨k2, n2, rfl, rfl⟩ <;> unfold sslice
    · exact h
    · obtain ⟨h1, h2⟩ := h
      simp only [Option.getD_none, Option.getD_some] at h1 h2
      refine ⟨⟨by omega, by omega, by show n2 ≤ (n : Int); omega⟩, ?_⟩
      show k (.c (.f (.sl n2.toNat ((cs.drop 0).take (n2.toNat * sz))))) σ
      simpa using h2
    · obtain ⟨h1, h2⟩ := h
      simp only [Option.getD_none, Option.getD_some] at h1 h2
      refine ⟨⟨by omega, by omega, by show n1 ≤ (n : Int); omega⟩, ?_⟩
      show k (.c (.f (.sl (n - n1.toNat) ((cs.drop (n1.toNat * sz)).take ((n - n1.toNat) * sz))))) σ
      simpa using h2
    · obtain ⟨h1, h2⟩ := h
      simp only [Option.getD_some] at h1 h2
      exact ⟨⟨by omega, by omega, by show n2 ≤ (n : Int); omega⟩, ⟨by omega, by omega, by omega⟩, h2⟩
  · exact h
theorem wop_ok {s : SOp} {A : AF} (hA : inA m A) {σ : St} {k : V → St → Prop} (h : wop (wx P) pf tb m s A σ k) : vopA (mx P) pf tb m s A σ k := by
  cases s with
  | bin d op x y => exact wbin_ok (k := fun v => k v σ) h
  | load agg n x => exact wload_ok (k := fun v => k v σ) h
  | fa off x => exact wfield_ok (k := fun v => k v σ) h
  | ixr sz x i => exact wixrow_ok (k := fun v => k v σ) h
  | chr x i =>
    simp only [wop] at h
    simp only [vopA, ixchr]
    split at h
    · rename_i s kd j e1 e2
      simp only [e1, e2]
      exact ⟨h.1, h.2⟩
    · exact h.elim
  | len d x => exact wlen_ok (k := fun v => k v σ) h
  | app d ty sz bytes x y => exact wappend_ok h
  | slc d sz x lo hi => exact wslice_ok h
  | raw o =>
    cases o with
    | convert s d x =>
      simp only [wop] at h
      split at h
      · rename_i a j kd n e1 e2 e3
        show vdo (mx P) pf tb (.convert s d x) (toFr m A) σ k
        have e : opd (toFr m A) = opA A := funext (toFr_opd hA)
        simp only [vdo, vop2, extraB, vop, vconv, e, e1, e2, e3]
        exact h
      · exact h
    | _ => exact h
  | _ => exact h
end
end Go.Dm
namespace Go.Dm
open Go.RowKit
set_option linter.unusedVariables false
set_option linter.unusedSimpArgs false
set_option linter.unusedSectionVars false
section
variable {P : Program} {pf : FuncId → Bool} {tb : Tab} {m : Nat}
theorem at_add {σ : St} {o : Nat} {ob : Ob} (h : σ[o]? = some ob) (new : St) : (σ ++ new)[o]? = some ob := by
  rw [List.getElem?_append_left (List.getElem?_eq_some_iff.1 h).1]; exact h
theorem getK_any {l : List F} {i : Nat} {K : F → Prop} (h : prims.getK l i K) : ∃ x, K x ∧ ∀ K' : F → Prop, K' x → prims.getK l i K' := by
  have h' : (match l[i]? with | some x => K x | none => False) := h
  cases hx : l[i]? with
  | none => rw [hx] at h'; exact h'.elim
  | some x =>
    rw [hx] at h'
    refine ⟨x, h', fun K' hk => ?_⟩
    show (match l[i]? with | some x => K' x | none => False)
    rw [hx]; exact hk
theorem cutK_any {l : List F} {i n : Nat} {K : List F → Prop} (h : prims.cutK l i n K) : ∃ x, K x ∧ ∀ K' : List F → Prop, K' x → prims.cutK l i n K' :=
  ⟨_, h.2, fun K' hk => ⟨h.1, hk⟩⟩
theorem vload_add {agg : Bool} {n : Nat} {x : V} {σ : St} {k : V → Prop} (h : vload prims agg n x σ k) : ∃ r, k r ∧ ∀ (new : St) (k' : V → Prop), k' r → vload prims agg n x (σ ++ new) k' := by
  unfold vload at h
  split at h
  · rename_i o off
    split at h
    · rename_i l ho
      split at h
      · split at h
        · rename_i r hr
          exact ⟨_, h, fun new k' hk => by unfold vload; simp only [at_add ho new, hr]; exact hk⟩
        · exact h.elim
      · split at h
        · rename_i c hc
          exact ⟨_, h, fun new k' hk => by unfold vload; simp only [at_add ho new, hc]; exact hk⟩
        · exact h.elim
    · rename_i b u y ho
      split at h
      · exact ⟨_, h, fun new k' hk => by unfold vload; simp only [at_add ho new]; exact hk⟩
      · exact ⟨_, h, fun new k' hk => by unfold vload; simp only [at_add ho new]; exact hk⟩
      · exact h.elim
    · exact h.elim
  · split at h
    · obtain ⟨r, h1, h2⟩ := cutK_any h
      exact ⟨_, h1, fun new k' hk => by unfold vload; exact h2 (fun r => k' (.a (r.map .f))) hk⟩
    · obtain ⟨r, h1, h2⟩ := getK_any h
      exact ⟨_, h1, fun new k' hk => by unfold vload; exact h2 (fun r => k' (.c (.f r))) hk⟩
  · rename_i o e off
    split at h
    · rename_i wr e0 sz l ho
      obtain ⟨he, h⟩ := h
      split at h
      · obtain ⟨r, h1, h2⟩ := cutK_any h
        exact ⟨_, h1, fun new k' hk => by unfold vload; simp only [at_add ho new]; exact ⟨he, h2 (fun r => k' (.a (r.map .f))) hk⟩⟩
      · obtain ⟨r, h1, h2⟩ := getK_any h
        exact ⟨_, h1, fun new k' hk => by unfold vload; simp only [at_add ho new]; exact ⟨he, h2 (fun r => k' (.c (.f r))) hk⟩⟩
    · exact h.elim
  · exact h.elim
theorem vfield_add {x : V} {fo : Nat} {σ : St} {k : V → Prop} (h : vfield prims x fo σ k) : ∃ r, k r ∧ ∀ (new : St) (k' : V → Prop), k' r → vfield prims x fo (σ ++ new) k' := by
  unfold vfield at h
  split at h
  · exact ⟨_, h, fun new k' hk => by unfold vfield; exact hk⟩
  · exact ⟨_, h, fun new k' hk => by unfold vfield; exact hk⟩
  · split at h
    · rename_i wr e0 sz l ho
      exact ⟨_, h.2, fun new k' hk => by unfold vfield; simp only [at_add ho new]; exact ⟨h.1, hk⟩⟩
    · exact h.elim
  · exact h.elim
theorem ixrow_add {sz : Nat} {x i : V} {σ : St} {k : V → Prop} (h : ixrow prims sz x i σ k) : ∃ r, k r ∧ ∀ (new : St) (k' : V → Prop), k' r → ixrow prims sz x i (σ ++ new) k' := by
  unfold ixrow at h
  split at h
  · exact ⟨_, h.2, fun new k' hk => by unfold ixrow; exact ⟨h.1, hk⟩⟩
  · split at h
    · rename_i wr e0 sz l ho
      exact ⟨_, h.2.2, fun new k' hk => by unfold ixrow; simp only [at_add ho new]; exact ⟨h.1, h.2.1, hk⟩⟩
    · exact h.elim
  · exact h.elim
theorem ixarr_add {n sz : Nat} {x i : V} {σ : St} {k : V → Prop} (h : ixarr prims n sz x i σ k) : ∃ r, k r ∧ ∀ (new : St) (k' : V → Prop), k' r → ixarr prims n sz x i (σ ++ new) k' := by
  unfold ixarr at h
  split at h
  · obtain ⟨h1, h2, h3⟩ := h
    exact ⟨_, h3, fun new k' hk => by unfold ixarr; exact ⟨h1, h2, hk⟩⟩
  · obtain ⟨h1, h2, h3⟩ := h
    exact ⟨_, h3, fun new k' hk => by unfold ixarr; exact ⟨h1, h2, hk⟩⟩
  · split at h
    · rename_i wr e0 sz l ho
      obtain ⟨h0, h1, h2, h3⟩ := h
      exact ⟨_, h3, fun new k' hk => by unfold ixarr; simp only [at_add ho new]; exact ⟨h0, h1, h2, hk⟩⟩
    · exact h.elim
  · exact h.elim
theorem vlen_add {d : TD} {x : V} {σ : St} {k : V → Prop} (h : vlen prims d x σ k) : ∃ r, k r ∧ ∀ (new : St) (k' : V → Prop), k' r → vlen prims d x (σ ++ new) k' := by
  unfold vlen at h
  split at h
  · exact ⟨_, h, fun new k' hk => by unfold vlen; exact hk⟩
  · exact ⟨_, h, fun new k' hk => by unfold vlen; exact hk⟩
  · exact ⟨_, h, fun new k' hk => by unfold vlen; exact hk⟩
  · split at h
    · rename_i wr e0 sz l ho
      exact ⟨_, h.2, fun new k' hk => by unfold vlen; simp only [at_add ho new]; exact ⟨h.1, hk⟩⟩
    · exact h.elim
  · exact h.elim
theorem vopA_add {s : SOp} (hs : readS s = true) {A : AF} {σ : St} {k : V → St → Prop} (h : vopA (mx P) pf tb m s A σ k) :
    ∃ r, k r σ ∧ ∀ (new : St) (k' : V → St → Prop), k' r (σ ++ new) → vopA (mx P) pf tb m s A (σ ++ new) k' := by
  cases s <;> simp only [readS] at hs <;> first
    | cases hs
    | skip
  case mv x => exact ⟨_, h, fun new k' hk => hk⟩
  case pick c a b => obtain ⟨r, h1, h2⟩ := vpick_any (show vpick (opA A c) (opA A a) (opA A b) (fun v => k v σ) from h); exact ⟨r, h1, fun new k' hk => h2 (fun v => k' v (σ ++ new)) hk⟩
  case bin d op x y => obtain ⟨r, h1, h2⟩ := vbin_any (show vbin prims d op (opA A x) (opA A y) (fun v => k v σ) from h); exact ⟨r, h1, fun new k' hk => h2 (fun v => k' v (σ ++ new)) hk⟩
  case un op x => obtain ⟨r, h1, h2⟩ := vun_any (show vun prims op (opA A x) (fun v => k v σ) from h); exact ⟨r, h1, fun new k' hk => h2 (fun v => k' v (σ ++ new)) hk⟩
  case load agg n x => obtain ⟨r, h1, h2⟩ := vload_add (show vload prims agg n (addr (opA A x)) σ (fun v => k v σ) from h); exact ⟨r, h1, fun new k' hk => h2 new (fun v => k' v (σ ++ new)) hk⟩
  case fa off x => obtain ⟨r, h1, h2⟩ := vfield_add (show vfield prims (addr (opA A x)) off σ (fun v => k v σ) from h); exact ⟨r, h1, fun new k' hk => h2 new (fun v => k' v (σ ++ new)) hk⟩
  case fld agg off n x =>
    simp only [vopA] at h ⊢
    split at h
    · rename_i l hl
      obtain ⟨r, h1, h2⟩ := part_any h
      exact ⟨r, h1, fun new k' hk => h2 (fun v => k' v (σ ++ new)) hk⟩
    · exact h.elim
  case ixr sz x i => obtain ⟨r, h1, h2⟩ := ixrow_add (show ixrow prims sz (addr (opA A x)) (opA A i) σ (fun v => k v σ) from h); exact ⟨r, h1, fun new k' hk => h2 new (fun v => k' v (σ ++ new)) hk⟩
  case ixa n sz x i => obtain ⟨r, h1, h2⟩ := ixarr_add (show ixarr prims n sz (addr (opA A x)) (opA A i) σ (fun v => k v σ) from h); exact ⟨r, h1, fun new k' hk => h2 new (fun v => k' v (σ ++ new)) hk⟩
  case chr x i =>
    simp only [vopA] at h ⊢
    unfold ixchr at h
    split at h
    · rename_i s kd j e1 e2
      exact ⟨_, h.2, fun new k' hk => by unfold ixchr; rw [e1, e2]; exact ⟨h.1, hk⟩⟩
    · exact h.elim
  case len d x => obtain ⟨r, h1, h2⟩ := vlen_add (show vlen prims d (opA A x) σ (fun v => k v σ) from h); exact ⟨r, h1, fun new k' hk => h2 new (fun v => k' v (σ ++ new)) hk⟩
  case ext x i =>
    simp only [vopA] at h ⊢
    split at h
    · rename_i l hl
      split at h
      · rename_i v hv
        exact ⟨v, h, fun new k' hk => hk⟩
      · exact h.elim
    · exact h.elim
  case nilc x =>
    simp only [vopA] at h ⊢
    split at h
    · rename_i o off e; exact ⟨_, h, fun new k' hk => hk⟩
    · rename_i cs e; exact ⟨_, h, fun new k' hk => hk⟩
    · rename_i cs off e; exact ⟨_, h, fun new k' hk => hk⟩
    · rename_i o e' off e
      split at h
      · rename_i wr e0 sz l ho
        exact ⟨_, h.2, fun new k' hk => by simp only [at_add ho new]; exact ⟨h.1, hk⟩⟩
      · exact h.elim
    · exact h.elim
theorem sslice_add {d : TD} {sz : Nat} {x : V} {lo hi : Option V} {σ : St} {k : V → St → Prop} (hx : farV x = false) (h : sslice prims d sz x lo hi σ k) :
    ∃ r, k r σ ∧ ∀ (new : St) (k' : V → St → Prop), k' r (σ ++ new) → sslice prims d sz x lo hi (σ ++ new) k' := by
  unfold sslice at h
  split at h
  · split at h
    · exact ⟨_, h, fun new k' hk => by unfold sslice; exact hk⟩
    · exact ⟨_, h.2, fun new k' hk => by unfold sslice; exact ⟨h.1, hk⟩⟩
    · exact ⟨_, h.2, fun new k' hk => by unfold sslice; exact ⟨h.1, hk⟩⟩
    · exact ⟨_, h.2.2, fun new k' hk => by unfold sslice; exact ⟨h.1, h.2.1, hk⟩⟩
    · exact h.elim
  · split at h
    · exact ⟨_, h.2, fun new k' hk => by unfold sslice; exact ⟨h.1, hk⟩⟩
    · exact ⟨_, h.2, fun new k' hk => by unfold sslice; exact ⟨h.1, hk⟩⟩
    · exact ⟨_, h.2.2, fun new k' hk => by unfold sslice; exact ⟨h.1, h.2.1, hk⟩⟩
    · exact ⟨_, h, fun new k' hk => by unfold sslice; exact hk⟩
    · exact h.elim
  · split at h
    · exact ⟨_, h.2, fun new k' hk => by unfold sslice; exact ⟨h.1, hk⟩⟩
    · exact ⟨_, h.2, fun new k' hk => by unfold sslice; exact ⟨h.1, hk⟩⟩
    · exact ⟨_, h.2.2, fun new k' hk => by unfold sslice; exact ⟨h.1, h.2.1, hk⟩⟩
    · exact ⟨_, h, fun new k' hk => by unfold sslice; exact hk⟩
    · exact h.elim
  · cases hx
  · exact h.elim
def readR : SOp → Bool
  | .slc .. => true
  | s => readS s
def okR (s : SOp) (A : AF) : Prop := match s with | .slc _ _ x _ _ => farV (opA A x) = false | _ => True
class Pures where
  f : Nat → Bool
def pcall [Pures] (s : SOp) : Bool := match s with | .call (.func f) _ => Pures.f f | _ => false
def stlW [Pures] (tb : Tab) (o : Op) : Bool := readR (comp tb o) || pcall (comp tb o)
theorem vopR_add {s : SOp} (hs : readR s = true) {A : AF} (hA : okR s A) {σ : St} {k : V → St → Prop} (h : vopA (mx P) pf tb m s A σ k) :
    ∃ r, k r σ ∧ ∀ (new : St) (k' : V → St → Prop), k' r (σ ++ new) → vopA (mx P) pf tb m s A (σ ++ new) k' := by
  by_cases hsl : ∃ d sz x lo hi, s = .slc d sz x lo hi
  · obtain ⟨d, sz, x, lo, hi, rfl⟩ := hsl
    exact sslice_add (k := k) hA h
  · have hs' : readS s = true := by cases s <;> first | exact hs | exact absurd ⟨_, _, _, _, _, rfl⟩ hsl
    exact vopA_add hs' h
def Rows (σ σ' : St) : Prop := ∀ (o : Nat) (ob : Ob), σ[o]? = some ob → ob.row = false → σ'[o]? = some ob
theorem Rows.refl (σ : St) : Rows σ σ := fun _ _ h _ => h
theorem Rows.trans {a b c : St} (h : Rows a b) (k : Rows b c) : Rows a c := fun o ob h1 h2 => k o ob (h o ob h1 h2) h2
theorem Rows.add (σ new : St) : Rows σ (σ ++ new) := fun o ob h _ => at_add h new
theorem Rows.set {σ : St} {o : Nat} {w : Bool} {e sz : Nat} {l : List F} (h : σ[o]? = some (.arr w e sz l)) (ob' : Ob) : Rows σ (σ.set o ob') := fun i ob hi hr => by
  rw [List.getElem?_set]
  split
  · rename_i e; subst e; rw [h] at hi; cases hi; cases hr
  · exact hi
theorem far_addr {x : V} : farV (addr x) = farV x := by
  unfold addr
  split <;> rfl
theorem vload_rows {agg : Bool} {n : Nat} {x : V} {σ : St} {k : V → Prop} (hx : farV x = false) (h : vload prims agg n x σ k) : ∃ r, k r ∧ ∀ (σ' : St) (k' : V → Prop), Rows σ σ' → k' r → vload prims agg n x σ' k' := by
  unfold vload at h
  split at h
  · rename_i o off
    split at h
    · rename_i l ho
      split at h
      · split at h
        · rename_i r hr
          exact ⟨_, h, fun σ' k' hR hk => by unfold vload; simp only [hR o _ ho rfl, hr]; exact hk⟩
        · exact h.elim
      · split at h
        · rename_i c hc
          exact ⟨_, h, fun σ' k' hR hk => by unfold vload; simp only [hR o _ ho rfl, hc]; exact hk⟩
        · exact h.elim
    · rename_i b u y ho
      split at h
      · exact ⟨_, h, fun σ' k' hR hk => by unfold vload; simp only [hR o _ ho rfl]; exact hk⟩
      · exact ⟨_, h, fun σ' k' hR hk => by unfold vload; simp only [hR o _ ho rfl]; exact hk⟩
      · exact h.elim
    · exact h.elim
  · split at h
    · obtain ⟨r, h1, h2⟩ := cutK_any h
      exact ⟨_, h1, fun σ' k' hR hk => by unfold vload; exact h2 (fun r => k' (.a (r.map .f))) hk⟩
    · obtain ⟨r, h1, h2⟩ := getK_any h
      exact ⟨_, h1, fun σ' k' hR hk => by unfold vload; exact h2 (fun r => k' (.c (.f r))) hk⟩
  · cases hx
  · exact h.elim
theorem vfield_rows {x : V} {fo : Nat} {σ : St} {k : V → Prop} (hx : farV x = false) (h : vfield prims x fo σ k) : ∃ r, k r ∧ ∀ (σ' : St) (k' : V → Prop), k' r → vfield prims x fo σ' k' := by
  unfold vfield at h
  split at h
  · exact ⟨_, h, fun σ' k' hk => by unfold vfield; exact hk⟩
  · exact ⟨_, h, fun σ' k' hk => by unfold vfield; exact hk⟩
  · cases hx
  · exact h.elim
theorem ixrow_rows {sz : Nat} {x i : V} {σ : St} {k : V → Prop} (hx : farV x = false) (h : ixrow prims sz x i σ k) : ∃ r, k r ∧ ∀ (σ' : St) (k' : V → Prop), k' r → ixrow prims sz x i σ' k' := by
  unfold ixrow at h
  split at h
  · exact ⟨_, h.2, fun σ' k' hk => by unfold ixrow; exact ⟨h.1, hk⟩⟩
  · cases hx
  · exact h.elim
theorem ixarr_rows {n sz : Nat} {x i : V} {σ : St} {k : V → Prop} (hx : farV x = false) (h : ixarr prims n sz x i σ k) : ∃ r, k r ∧ ∀ (σ' : St) (k' : V → Prop), k' r → ixarr prims n sz x i σ' k' := by
  unfold ixarr at h
  split at h
  · obtain ⟨h1, h2, h3⟩ := h
    exact ⟨_, h3, fun σ' k' hk => by unfold ixarr; exact ⟨h1, h2, hk⟩⟩
  · obtain ⟨h1, h2, h3⟩ := h
    exact ⟨_, h3, fun σ' k' hk => by unfold ixarr; exact ⟨h1, h2, hk⟩⟩
  · cases hx
  · exact h.elim
theorem vlen_rows {d : TD} {x : V} {σ : St} {k : V → Prop} (hx : farV x = false) (h : vlen prims d x σ k) : ∃ r, k r ∧ ∀ (σ' : St) (k' : V → Prop), k' r → vlen prims d x σ' k' := by
  unfold vlen at h
  split at h
  · exact ⟨_, h, fun σ' k' hk => by unfold vlen; exact hk⟩
  · exact ⟨_, h, fun σ' k' hk => by unfold vlen; exact hk⟩
  · exact ⟨_, h, fun σ' k' hk => by unfold vlen; exact hk⟩
  · cases hx
  · exact h.elim
theorem sslice_rows {d : TD} {sz : Nat} {x : V} {lo hi : Option V} {σ : St} {k : V → St → Prop} (hx : farV x = false) (h : sslice prims d sz x lo hi σ k) :
    ∃ r, k r σ ∧ ∀ (σ' : St) (k' : V → St → Prop), k' r σ' → sslice prims d sz x lo hi σ' k' := by
  unfold sslice at h
  split at h
  · split at h
    · exact ⟨_, h, fun σ' k' hk => by unfold sslice; exact hk⟩
    · exact ⟨_, h.2, fun σ' k' hk => by unfold sslice; exact ⟨h.1, hk⟩⟩
    · exact ⟨_, h.2, fun σ' k' hk => by unfold sslice; exact ⟨h.1, hk⟩⟩
    · exact ⟨_, h.2.2, fun σ' k' hk => by unfold sslice; exact ⟨h.1, h.2.1, hk⟩⟩
    · exact h.elim
  · split at h
    · exact ⟨_, h.2, fun σ' k' hk => by unfold sslice; exact ⟨h.1, hk⟩⟩
    · exact ⟨_, h.2, fun σ' k' hk => by unfold sslice; exact ⟨h.1, hk⟩⟩
    · exact ⟨_, h.2.2, fun σ' k' hk => by unfold sslice; exact ⟨h.1, h.2.1, hk⟩⟩
    · exact ⟨_, h, fun σ' k' hk => by unfold sslice; exact hk⟩
    · exact h.elim
  · split at h
    · exact ⟨_, h.2, fun σ' k' hk => by unfold sslice; exact ⟨h.1, hk⟩⟩
    · exact ⟨_, h.2, fun σ' k' hk => by unfold sslice; exact ⟨h.1, hk⟩⟩
    · exact ⟨_, h.2.2, fun σ' k' hk => by unfold sslice; exact ⟨h.1, h.2.1, hk⟩⟩
    · exact ⟨_, h, fun σ' k' hk => by unfold sslice; exact hk⟩
    · exact h.elim
  · cases hx
  · exact h.elim
def okC (s : SOp) (A : AF) : Prop :=
  match s with
  | .load _ _ x | .fa _ x | .nilc x | .ixa _ _ x _ | .ixr _ x _ | .len _ x | .slc _ _ x _ _ => farV (opA A x) = false
  | _ => True
theorem vopC_any {s : SOp} (hs : readR s = true) {A : AF} (hA : okC s A) {σ : St} {k : V → St → Prop} (h : vopA (mx P) pf tb m s A σ k) :
    ∃ r, k r σ ∧ ∀ (σ' : St) (k' : V → St → Prop), Rows σ σ' → k' r σ' → vopA (mx P) pf tb m s A σ' k' := by
  have fa : ∀ {x : Operand}, farV (opA A x) = false → farV (addr (opA A x)) = false := fun h => by rw [far_addr]; exact h
  cases s <;> simp only [readR, readS] at hs <;> first
    | cases hs
    | skip
  case mv x => exact ⟨_, h, fun σ' k' _ hk => hk⟩
  case pick c a b => obtain ⟨r, h1, h2⟩ := vpick_any (show vpick (opA A c) (opA A a) (opA A b) (fun v => k v σ) from h); exact ⟨r, h1, fun σ' k' _ hk => h2 (fun v => k' v σ') hk⟩
  case bin d op x y => obtain ⟨r, h1, h2⟩ := vbin_any (show vbin prims d op (opA A x) (opA A y) (fun v => k v σ) from h); exact ⟨r, h1, fun σ' k' _ hk => h2 (fun v => k' v σ') hk⟩
  case un op x => obtain ⟨r, h1, h2⟩ := vun_any (show vun prims op (opA A x) (fun v => k v σ) from h); exact ⟨r, h1, fun σ' k' _ hk => h2 (fun v => k' v σ') hk⟩
  case load agg n x => obtain ⟨r, h1, h2⟩ := vload_rows (fa hA) (show vload prims agg n (addr (opA A x)) σ (fun v => k v σ) from h); exact ⟨r, h1, fun σ' k' hR hk => h2 σ' (fun v => k' v σ') hR hk⟩
  case fa off x => obtain ⟨r, h1, h2⟩ := vfield_rows (fa hA) (show vfield prims (addr (opA A x)) off σ (fun v => k v σ) from h); exact ⟨r, h1, fun σ' k' hR hk => h2 σ' (fun v => k' v σ') hk⟩
  case fld agg off n x =>
    simp only [vopA] at h ⊢
    split at h
    · rename_i l hl
      obtain ⟨r, h1, h2⟩ := part_any h
      exact ⟨r, h1, fun σ' k' _ hk => h2 (fun v => k' v σ') hk⟩
    · exact h.elim
  case ixr sz x i => obtain ⟨r, h1, h2⟩ := ixrow_rows (fa hA) (show ixrow prims sz (addr (opA A x)) (opA A i) σ (fun v => k v σ) from h); exact ⟨r, h1, fun σ' k' hR hk => h2 σ' (fun v => k' v σ') hk⟩
  case ixa n sz x i => obtain ⟨r, h1, h2⟩ := ixarr_rows (fa hA) (show ixarr prims n sz (addr (opA A x)) (opA A i) σ (fun v => k v σ) from h); exact ⟨r, h1, fun σ' k' hR hk => h2 σ' (fun v => k' v σ') hk⟩
  case chr x i =>
    simp only [vopA] at h ⊢
    unfold ixchr at h
    split at h
    · rename_i s kd j e1 e2
      exact ⟨_, h.2, fun σ' k' _ hk => by unfold ixchr; rw [e1, e2]; exact ⟨h.1, hk⟩⟩
    · exact h.elim
  case len d x => obtain ⟨r, h1, h2⟩ := vlen_rows hA (show vlen prims d (opA A x) σ (fun v => k v σ) from h); exact ⟨r, h1, fun σ' k' hR hk => h2 σ' (fun v => k' v σ') hk⟩
  case slc d sz x lo hi => obtain ⟨r, h1, h2⟩ := sslice_rows (k := k) hA h; exact ⟨r, h1, fun σ' k' hR hk => h2 σ' k' hk⟩
  case ext x i =>
    simp only [vopA] at h ⊢
    split at h
    · rename_i l hl
      split at h
      · rename_i v hv
        exact ⟨v, h, fun σ' k' _ hk => hk⟩
      · exact h.elim
    · exact h.elim
  case nilc x =>
    simp only [vopA] at h ⊢
    split at h
    · rename_i o off e; exact ⟨_, h, fun σ' k' _ hk => hk⟩
    · rename_i cs e; exact ⟨_, h, fun σ' k' _ hk => hk⟩
    · rename_i cs off e; exact ⟨_, h, fun σ' k' _ hk => hk⟩
    · rename_i o e' off e
      have hA' : farV (opA A x) = false := hA
      rw [e] at hA'
      cases hA'
    · exact h.elim
theorem vfrzs_f : ∀ {fs : List F} {σ : St} {k : List F → St → Prop}, vfrzs prims (fs.map .f) σ k ↔ k fs σ
  | [], σ, k => Iff.rfl
  | f :: r, σ, k => by simp only [List.map_cons, vfrzs]; exact vfrzs_f (fs := r) (k := fun l σ' => k (f :: l) σ')
theorem vopA_rowS {s : SOp} (hs : rowS s = true) {A : AF} {σ : St} {k : V → St → Prop} (h : vopA (mx P) pf tb m s A σ k) : vopA (mx P) pf tb m s A σ fun v σ' => Rows σ σ' ∧ k v σ' := by
  cases s <;> simp only [rowS] at hs <;> first
    | cases hs
    | skip
  case app d ty sz bytes x y =>
    have h : vappend prims d ty sz bytes (opA A x) (opA A y) σ k := h
    have key : vappend prims d ty sz bytes (opA A x) (opA A y) σ (fun v σ' => Rows σ σ' ∧ k v σ') → vopA (mx P) pf tb m (.app d ty sz bytes x y) A σ fun v σ' => Rows σ σ' ∧ k v σ' := fun h => h
    refine key ?_
    unfold vappend at h ⊢
    refine vsrc_mono (fun n new hh => ?_) h
    split at hh
    · split at hh
      · exact ⟨Rows.refl _, hh⟩
      · obtain ⟨h1, h2, h3, h4⟩ := hh
        exact ⟨h1, h2, h3, Rows.add _ _, h4⟩
    · split at hh
      · rename_i ho
        obtain ⟨h1, h2, h3, h4, h5, h6⟩ := hh
        exact ⟨h1, h2, h3, h4, h5, Rows.set ho _, h6⟩
      · exact hh.elim
    · exact hh.elim
  case bsl n ty sz z parts =>
    cases parts with
    | cons p r => cases hs
    | nil =>
      simp only [vopA, sfillRow] at h ⊢
      rw [rep_repF] at h ⊢
      rw [vfrzs_f] at h ⊢
      exact ⟨Rows.add _ _, h⟩
variable [Pures]
def wpure (X : Wx) (A : AF) (s : SOp) (σ : St) (all : Bool) (k : V → Prop) : Prop :=
  match s with
  | .call (.func f) args => ∃ r, (match all with
    | true => ∀ σ', X.mx.ca f (args.map (opA A)) σ' fun r' σ'' => r' = r ∧ σ'' = σ'
    | false => ∀ new, X.mx.ca f (args.map (opA A)) (σ ++ new) fun r' σ'' => r' = r ∧ σ'' = σ ++ new) ∧ k r
  | _ => False
def wopR (X : Wx) (tb : Tab) (m : Nat) (all : Bool) (s : SOp) (A : AF) (σ : St) (k : V → St → Prop) : Prop :=
  match pcall s with
  | true => wpure X A s σ all fun v => k v σ
  | false => (match all with | true => okC s A | false => okR s A) ∧ wop X noF tb m s A σ k
theorem call_any {f : Nat} {args : List Operand} {A : AF} {σ : St} {r : V} (h : CallAt P f (args.map (opA A)) σ fun r' σ' => r' = r ∧ σ' = σ) {k : V → St → Prop} (hk : k r σ) : vopA (mx P) noF tb m (.call (.func f) args) A σ k := by
  show CallAt P f (args.map (opA A)) σ k
  exact h.mono fun r' σ' ⟨h1, h2⟩ => by subst h1 h2; exact hk
theorem wopR_any {all : Bool} {s : SOp} (hs : readR s = true ∨ pcall s = true) {A : AF} (hA : inA m A) {σ : St} {k : V → St → Prop} (h : wopR (wx P) tb m all s A σ k) :
    ∃ r, k r σ ∧ (all = false → ∀ (new : St) (k' : V → St → Prop), k' r (σ ++ new) → vopA (mx P) noF tb m s A (σ ++ new) k') ∧
      (all = true → ∀ (σ' : St) (k' : V → St → Prop), Rows σ σ' → k' r σ' → vopA (mx P) noF tb m s A σ' k') := by
  unfold wopR at h
  split at h
  · unfold wpure at h
    split at h
    · rename_i f args
      obtain ⟨r, h1, h2⟩ := h
      refine ⟨r, h2, fun e new k' hk => ?_, fun e σ' k' _ hk => ?_⟩
      · subst e
        exact call_any (h1 new) hk
      · subst e
        exact call_any (h1 σ') hk
    · exact h.elim
  · rename_i hp
    have hr := hs.resolve_right (fun e => by rw [hp] at e; cases e)
    obtain ⟨h0, h1⟩ := h
    have h1 := wop_ok hA h1
    cases all with
    | true =>
      obtain ⟨r, k1, k2⟩ := vopC_any hr h0 h1
      exact ⟨r, k1, fun e => (by cases e), fun _ => k2⟩
    | false =>
      obtain ⟨r, k1, k2⟩ := vopR_add hr h0 h1
      exact ⟨r, k1, fun _ => k2, fun e => (by cases e)⟩
def LvW (tb : Tab) (ops : Array Oper) (i : Nat) (σ σ' : St) : Prop :=
  ∀ o, ops[i]? = some o → (stlW tb o.op = true → σ' = σ) ∧ (addS (comp tb o.op) = true → ∃ new, σ' = σ ++ new) ∧ (rowS (comp tb o.op) = true → Rows σ σ')
theorem LvW.refl {ops : Array Oper} {i : Nat} {σ : St} : LvW tb ops i σ σ := fun o _ => ⟨fun _ => rfl, fun _ => ⟨[], by simp⟩, fun _ => Rows.refl σ⟩
def pAnyW (P : Program) (tb : Tab) (ops : Array Oper) (K : Fr → St → Prop) : Nat → Array Bool → Fr → St → Prop
  | 0, listed, fr, σ => Region.ready .any ops listed = [] ∧ K fr σ
  | fuel + 1, listed, fr, σ => (Region.ready .any ops listed = [] → K fr σ) ∧
    ∀ i ∈ Region.ready .any ops listed, ∀ o, ops[i]? = some o → pOne P noF tb ops o (fun fr' σ' => LvW tb ops i σ σ' ∧ pAnyW P tb ops K fuel (listed.setIfInBounds i true) fr' σ') fr σ
theorem pAnyW_weak {ops : Array Oper} {K : Fr → St → Prop} : ∀ (fuel : Nat) {listed : Array Bool} {fr : Fr} {σ : St}, pAnyW P tb ops K fuel listed fr σ → pAny P noF tb ops K fuel listed fr σ
  | 0, listed, fr, σ, h => h
  | fuel + 1, listed, fr, σ, h => ⟨h.1, fun i hi o ho => pOne_mono (h.2 i hi o ho) fun fr' σ' h' => pAnyW_weak fuel h'.2⟩
theorem pAnyW_first {ops : Array Oper} {K : Fr → St → Prop} {i : Nat} {oi : Oper} {r : V} (hi : ops[i]? = some oi) :
    ∀ (fuel : Nat) (listed : Array Bool) (fr : Fr) (σ : St),
      (∀ j oj, ops[j]? = some oj → j ≠ i → listed.getD j true = false → (∀ e ∈ oj.after, Region.binds .any e = true → e.on ≠ i) → oi.apart ops oj = true) →
      i ∈ Region.ready .any ops listed → PY P noF tb ops oi r fr →
      pAnyW P tb ops K fuel (listed.setIfInBounds i true) (fr.put oi.dst r) σ → pAnyW P tb ops K (fuel + 1) listed fr σ := by
  intro fuel
  induction fuel with
  | zero =>
    intro listed fr σ _ hr hy H
    refine ⟨fun h => (by rw [h] at hr; cases hr), fun j hj o ho => ?_⟩
    by_cases hji : j = i
    · subst hji
      rw [hi] at ho; cases ho
      exact hy σ _ ⟨LvW.refl, H⟩
    · have := ready_mono hj hji
      rw [H.1] at this
      cases this
  | succ fuel ih =>
    intro listed fr σ hfree hr hy H
    refine ⟨fun h => (by rw [h] at hr; cases hr), fun j hj oj hoj => ?_⟩
    by_cases hji : j = i
    · subst hji
      rw [hi] at hoj; cases hoj
      exact hy σ _ ⟨LvW.refl, H⟩
    · have h1 := H.2 j (ready_mono hj hji) oj hoj
      have hjun := (mem_ready.1 hj).1
      have h2 := pOne_put (hfree j oj hoj hji hjun (not_listed hr hoj hj)) hy h1
      refine pOne_mono h2 fun fr' σ' h3 => ⟨h3.2.1, ih (listed.setIfInBounds j true) fr' σ' (free_step hfree hjun) (ready_mono hr (Ne.symm hji)) h3.1 ?_⟩
      rw [Array.setIfInBounds_comm _ _ hji]
      exact h3.2.2
def PYw (P : Program) (tb : Tab) (ops : Array Oper) (o : Oper) (r : V) (fr : Fr) (σ : St) : Prop := ∀ (K : Fr → St → Prop), K (fr.put o.dst r) σ → pOne P noF tb ops o K fr σ
theorem PYw.put {ops : Array Oper} {oi oj : Oper} {r u : V} {fr : Fr} {σ : St} (hap : oi.apart ops oj = true) (h : PYw P tb ops oi r fr σ) : PYw P tb ops oi r (fr.put oj.dst u) σ := by
  obtain ⟨h1, h2, h3⟩ := Oper.apart_spec hap
  intro K hK
  have hc : ∀ v, (fr.put oj.dst u).put oi.dst v = (fr.put oi.dst v).put oj.dst u := fun v => (put_comm fr v u h2).symm
  have := h (fun f τ => K (f.put oj.dst u) τ) (by rw [← hc]; exact hK)
  unfold pOne at this ⊢
  rw [vguard_put h3]
  simp only [hc]
  rcases vguard_cases this with ⟨q1, q2⟩ | ⟨q1, q2⟩
  · exact q2 _ _ ((pdo_put h3).2 q1)
  · exact q2 _ _ q1
theorem pOne_putsW {ops : Array Oper} {Q : St → St → Prop} (hQ : ∀ σ, Q σ σ) {oi oj : Oper} {r : V} {fr : Fr} (hap : oi.apart ops oj = true) {K : Fr → St → Prop} {σ : St} (hy : ∀ σ', Q σ σ' → PYw P tb ops oi r fr σ') (hT : ∀ {a b c}, Q a b → Q b c → Q a c)
    (h : pOne P noF tb ops oj (fun fr' σ' => Q σ σ' ∧ K fr' σ') (fr.put oi.dst r) σ) :
    pOne P noF tb ops oj (fun fr' σ' => Q σ σ' ∧ (∀ σ'', Q σ' σ'' → PYw P tb ops oi r fr' σ'') ∧ K (fr'.put oi.dst r) σ') fr σ := by
  obtain ⟨h1, h2, h3⟩ := Oper.apart_spec hap
  have hc : ∀ v, (fr.put oi.dst r).put oj.dst v = (fr.put oj.dst v).put oi.dst r := fun v => put_comm fr r v h2
  unfold pOne at h ⊢
  rw [vguard_put h1] at h
  simp only [hc] at h
  rcases vguard_cases h with ⟨q1, q2⟩ | ⟨q1, q2⟩
  · exact q2 _ _ (pdo_mono ((pdo_put h1).1 q1) fun v σ' hh => ⟨hh.1, fun σ'' hq => (hy σ'' (hT hh.1 hq)).put hap, hh.2⟩)
  · exact q2 _ _ ⟨hQ σ, fun σ'' hq => (hy σ'' hq).put hap, q1.2⟩
theorem pAnyW_calm {ops : Array Oper} {Q : St → St → Prop} (hQ : ∀ σ, Q σ σ) (hT : ∀ {a b c}, Q a b → Q b c → Q a c) {K : Fr → St → Prop} {i : Nat} {oi : Oper} {r : V} (hi : ops[i]? = some oi) (D : Nat → Bool)
    (hDr : ∀ j, D j = true → ∃ o, ops[j]? = some o) (hD : ∀ j oj, ops[j]? = some oj → D j = true → ∃ e ∈ oj.after, Region.binds .any e = true ∧ (e.on = i ∨ D e.on = true)) :
    ∀ (fuel : Nat) (listed : Array Bool) (fr : Fr) (σ : St),
      (∀ j oj, ops[j]? = some oj → j ≠ i → listed.getD j true = false → (∀ e ∈ oj.after, Region.binds .any e = true → e.on ≠ i) → oi.apart ops oj = true) →
      (∀ j oj, ops[j]? = some oj → D j = true → listed.getD j true = false) →
      (∀ j oj, ops[j]? = some oj → D j = false → j ≠ i → listed.getD j true = false → ∀ a b, LvW tb ops j a b → Q a b) →
      i ∈ Region.ready .any ops listed → (∀ σ', Q σ σ' → PYw P tb ops oi r fr σ') →
      pAnyW P tb ops K fuel (listed.setIfInBounds i true) (fr.put oi.dst r) σ → pAnyW P tb ops K (fuel + 1) listed fr σ := by
  intro fuel
  induction fuel with
  | zero =>
    intro listed fr σ _ _ _ hr hy H
    refine ⟨fun h => (by rw [h] at hr; cases hr), fun j hj o ho => ?_⟩
    by_cases hji : j = i
    · subst hji
      rw [hi] at ho; cases ho
      exact hy σ (hQ σ) _ ⟨LvW.refl, H⟩
    · have := ready_mono hj hji
      rw [H.1] at this
      cases this
  | succ fuel ih =>
    intro listed fr σ hfree hDl hst hr hy H
    refine ⟨fun h => (by rw [h] at hr; cases hr), fun j hj oj hoj => ?_⟩
    by_cases hji : j = i
    · subst hji
      rw [hi] at hoj; cases hoj
      exact hy σ (hQ σ) _ ⟨LvW.refl, H⟩
    · have h1 := H.2 j (ready_mono hj hji) oj hoj
      obtain ⟨hjun, oj', hoj', hall⟩ := mem_ready.1 hj
      rw [hoj] at hoj'; cases hoj'
      have hDj : D j = false := by
        cases hd : D j with
        | false => rfl
        | true =>
          obtain ⟨e, he, hb, hor⟩ := hD j oj hoj hd
          rcases hor with h | h
          · exact absurd h (not_listed hr hoj hj e he hb)
          · have l1 := hall e he hb
            obtain ⟨oe, ho⟩ := hDr e.on h
            have l2 := hDl e.on oe ho h
            rcases Nat.lt_or_ge e.on listed.size with h' | h'
            · simp [h'] at l1 l2; rw [l2] at l1; cases l1
            · simp [Array.getElem?_eq_none h'] at l1
      have hS := hst j oj hoj hDj hji hjun
      have h2 := pOne_putsW (Q := Q) hQ (hfree j oj hoj hji hjun (not_listed hr hoj hj)) hy hT (K := fun fr' σ' => LvW tb ops j σ σ' ∧ pAnyW P tb ops K fuel ((listed.setIfInBounds i true).setIfInBounds j true) fr' σ') (pOne_mono h1 fun fr' σ' h => ⟨hS _ _ h.1, h⟩)
      refine pOne_mono h2 fun fr' σ' h3 => ⟨h3.2.2.1, ?_⟩
      obtain ⟨e, h4, h5⟩ := h3
      refine ih (listed.setIfInBounds j true) fr' σ' (free_step hfree hjun) ?_ ?_ (ready_mono hr (Ne.symm hji)) h4 ?_
      · intro k ok hk hdk
        by_cases hjk : j = k
        · subst hjk; rw [hDj] at hdk; cases hdk
        · rw [getD_set_ne true hjk]; exact hDl k ok hk hdk
      · intro k ok hk hdk hki hun
        refine hst k ok hk hdk hki ?_
        by_cases hjk : j = k
        · subst hjk; exact hjun
        · rw [getD_set_ne true hjk] at hun; exact hun
      · rw [Array.setIfInBounds_comm _ _ hji]
        exact h5.2
def tlessW (tb : Tab) (o : Op) (A : AF) : Bool := movOp o || tlessA noF tb o A
def Next (p : Prop) : Prop := p
def wseq (X : Wx) (pf : FuncId → Bool) (tb : Tab) (m : Nat) (K : AF → St → Prop) : List SItem → AF → St → Prop
  | [], A, σ => K A σ
  | i :: r, A, σ => sguard A i.g (wop X pf tb m i.o A σ fun v σ' => Next (wseq X pf tb m K r (putA m A i.dst v) σ')) (wseq X pf tb m K r (putA m A i.dst (.t [])) σ)
def wtree (X : Wx) (tb : Tab) (m : Nat) : YT → (AF → St → Prop) → AF → St → Prop
  | .done, K, A, σ => K A σ
  | .go i none p, K, A, σ => sguard A i.g (wopR X tb m false i.o A σ fun v σ' => Next (wtree X tb m p K (putA m A i.dst v) σ')) (wtree X tb m p K (putA m A i.dst (.t [])) σ)
  | .go i (some o) p, K, A, σ =>
    (match tlessW tb o A with
    | true => sguard A i.g (wop X noF tb m i.o A [] fun v _ => wtree X tb m p K (putA m A i.dst v) σ) (wtree X tb m p K (putA m A i.dst (.t [])) σ)
    | false => False)
  | .goc i p, K, A, σ => sguard A i.g (wopR X tb m true i.o A σ fun v σ' => Next (wtree X tb m p K (putA m A i.dst v) σ')) (wtree X tb m p K (putA m A i.dst (.t [])) σ)
  | .alt i p q, K, A, σ => sguard A i.g (wopR X tb m false i.o A σ fun v σ' => Next (wtree X tb m p K (putA m A i.dst v) σ')) (wtree X tb m p K (putA m A i.dst (.t [])) σ) ∧ wtree X tb m q K A σ
  | .stop, _, _, _ => True
  | .sub s p, K, A, σ => wtree X tb m s (wtree X tb m p K) A σ
theorem sguard_mono {A : AF} {g : Option (Option Tmp × Bool)} {x x' y : Prop} (hx : x → x') (h : sguard A g x y) : sguard A g x' y := by
  unfold sguard at h ⊢
  cases g with
  | none => exact hx h
  | some gw =>
    obtain ⟨d, want⟩ := gw
    cases d with
    | none => exact h
    | some d =>
      simp only at h ⊢
      split at h
      · rename_i b hb
        cases want <;> cases b <;> first | exact hx h | exact h
      · exact h
      · exact h.elim
theorem wop_item {i : SItem} {A : AF} (hA : inA m A) {σ : St} {k : V → St → Prop} {y : Prop} (h : sguard A i.g (wop (wx P) pf tb m i.o A σ k) y) : sguard A i.g (vopA (mx P) pf tb m i.o A σ k) y :=
  sguard_mono (wop_ok hA) h
theorem wseq_ok (tok : TabOk P tb) {ops : Array Oper} {K : AF → St → Prop} {Q : Exit → Act → World → Prop} : ∀ (n i : Nat) (hn : i + n = ops.size) {g : G} {w : World} {σ : St} (hr : Rep g w σ) {a : Act} {A : AF} (hA : inA m A) (hf : FrRep g w σ (toFr m A) a.tmps) (hd : a.defers = [])
    (h : wseq (wx P) pf tb m K ((ops.toList.drop i).map (sitem tb ops)) A σ) (hQ : ∀ a' w', Lifts g w σ (lowF m K) a' w' → Q .normal a' w'), wpOps P ops Q (List.range' i n) a w
  | 0, i, hn, g, w, σ, hr, a, A, hA, hf, hd, h, hQ => by
    rw [List.drop_of_length_le (by simp; omega)] at h
    exact hQ _ _ ⟨_, σ, g, ⟨A, hA, rfl, h⟩, hr, Turn.refl _ _ _, hf, hd⟩
  | n + 1, i, hn, g, w, σ, hr, a, A, hA, hf, hd, h, hQ => by
    have hi : i < ops.size := by omega
    rw [List.drop_eq_getElem_cons (by simpa using hi)] at h
    simp only [List.range'_succ, wpOps, Array.getElem?_eq_getElem hi]
    have h0 := wop_item hA h
    have h' := sone (K := wseq (wx P) pf tb m K ((ops.toList.drop (i + 1)).map (sitem tb ops))) (K' := lowF m (wseq (wx P) pf tb m K ((ops.toList.drop (i + 1)).map (sitem tb ops)))) hA (fun A σ h1 h2 => ⟨A, h1, rfl, h2⟩) h0
    exact one_ok' tok hr hf hd h' fun a' w' ⟨fr', σ', g', ⟨A', h0, h1, h1'⟩, h2, h3, h4, h5⟩ => by
      subst h1
      exact wseq_ok tok n (i + 1) (by omega) h2 h0 h4 h5 h1' fun a'' w'' h6 => hQ _ _ (h6.trans h3)
def WSays (P : Program) (tb : Tab) (ops : Array Oper) (m : Nat) (K : Fr → St → Prop) (s : PT) (top : Bool) (n : Nat) (listed : Array Bool) (A : AF) (σ : St) : Prop :=
  match top with
  | true => pAnyW P tb ops K n listed (toFr m A) σ
  | false => ∀ n', n = n' + 1 → ∀ i ∈ s.alts, ∀ o, ops[i]? = some o →
      pOne P noF tb ops o (fun fr' σ' => LvW tb ops i σ σ' ∧ pAnyW P tb ops K n' (listed.setIfInBounds i true) fr' σ') (toFr m A) σ
theorem sone_lv {ops : Array Oper} {i : Nat} {o : Oper} (ho : ops[i]? = some o) {A : AF} (hA : inA m A) {σ : St} {K : AF → St → Prop} {K' : Fr → St → Prop} (hK : ∀ A σ, inA m A → K A σ → K' (toFr m A) σ)
    (h : sguard A (sitem tb ops o).g (wopR (wx P) tb m false (comp tb o.op) A σ fun v σ' => K (putA m A o.dst v) σ') (K (putA m A o.dst (.t [])) σ)) :
    pOne P noF tb ops o (fun fr' σ' => LvW tb ops i σ σ' ∧ K' fr' σ') (toFr m A) σ := by
  have fin : ∀ (v : V) (σ' : St), K (putA m A o.dst v) σ' → K' ((toFr m A).put o.dst v) σ' := fun v σ' hk => by
    rw [← toFr_put]
    exact hK _ _ (putA_in hA _ _) hk
  have h' := sg hA h
  rcases vguard_cases h' with ⟨h1, h2⟩ | ⟨h1, h2⟩
  · cases hr : stlW tb o.op with
    | true =>
      have hr' : readR (comp tb o.op) = true ∨ pcall (comp tb o.op) = true := by
        unfold stlW at hr
        rwa [Bool.or_eq_true] at hr
      obtain ⟨r, k1, k2, _⟩ := wopR_any hr' hA h1
      have := k2 rfl [] (fun v σ' => LvW tb ops i σ σ' ∧ K (putA m A o.dst v) σ')
      simp only [List.append_nil] at this
      exact h2 _ _ ⟨_, comp_ok hA (this ⟨LvW.refl, k1⟩), fun v σ' hk => ⟨hk.1, fin v σ' hk.2⟩⟩
    | false =>
      have hr0 : pcall (comp tb o.op) = false := by
        unfold stlW at hr
        rw [Bool.or_eq_false_iff] at hr
        exact hr.2
      unfold wopR at h1
      rw [hr0] at h1
      have h1 := wop_ok hA h1.2
      have lv : ∀ {σ' : St}, (addS (comp tb o.op) = true → ∃ new, σ' = σ ++ new) → (rowS (comp tb o.op) = true → Rows σ σ') → LvW tb ops i σ σ' := fun hA hB o' ho' => by
        rw [ho] at ho'
        cases ho'
        refine ⟨fun hs => ?_, hA, hB⟩
        rw [hr] at hs
        cases hs
      have noadd : addS (comp tb o.op) = true → rowS (comp tb o.op) = true → False := by
        cases comp tb o.op <;> simp [addS, rowS]
      cases ha : addS (comp tb o.op) with
      | false =>
        cases hb : rowS (comp tb o.op) with
        | false => exact h2 _ _ ⟨_, comp_ok hA h1, fun v σ' hk => ⟨lv (fun hh => by rw [ha] at hh; cases hh) (fun hh => by rw [hb] at hh; cases hh), fin v σ' hk⟩⟩
        | true => exact h2 _ _ ⟨_, comp_ok hA (vopA_rowS hb h1), fun v σ' hk => ⟨lv (fun hh => by rw [ha] at hh; cases hh) (fun _ => hk.1), fin v σ' hk.2⟩⟩
      | true =>
        have key : vopA (mx P) noF tb m (comp tb o.op) A σ fun v σ' => (∃ new, σ' = σ ++ new) ∧ K (putA m A o.dst v) σ' := by
          revert h1 ha
          cases comp tb o.op <;> intro h1 ha <;> simp only [addS] at ha <;> first
            | cases ha
            | skip
          · exact ⟨⟨_, rfl⟩, h1⟩
          · simp only [vopA] at h1 ⊢
            split at h1
            · exact ⟨⟨_, rfl⟩, h1⟩
            · exact h1.elim
        exact h2 _ _ ⟨_, comp_ok hA key, fun v σ' hk => ⟨lv (fun _ => hk.1) (fun hh => (noadd ha hh).elim), fin v σ' hk.2⟩⟩
  · refine h2 _ _ ⟨LvW.refl, ?_⟩
    exact fin _ _ h1
theorem wtree_ok {ops : Array Oper} {K : Fr → St → Prop} : ∀ (s : PT) (top : Bool) (k : Nat → Array Bool → Bool) (n : Nat) (listed : Array Bool) {y : YT} {A : AF} {σ : St} {K' : AF → St → Prop}, inA m A →
    ptOk tb (stlW tb) ops s top k n listed = true → ytree tb ops s = some y → wtree (wx P) tb m y K' A σ →
    (∀ n' l' A' σ', k n' l' = true → inA m A' → K' A' σ' → pAnyW P tb ops K n' l' (toFr m A') σ') → WSays P tb ops m K s top n listed A σ
  | .done, top, k, n, listed, y, A, σ, K', hA, hg, hy, h, hk => by
    simp only [ytree, Option.some.injEq] at hy
    subst hy
    simp only [ptOk, Bool.and_eq_true] at hg
    obtain ⟨rfl, hr⟩ := hg
    exact hk n listed A σ hr hA h
  | .stop, top, k, n, listed, y, A, σ, K', hA, hg, hy, h, hk => by
    simp only [ptOk, Bool.not_eq_true'] at hg
    subst hg
    intro n' _ i hi
    simp only [PT.alts] at hi
    cases hi
  | .sub s p, top, k, n, listed, y, A, σ, K', hA, hg, hy, h, hk => by
    simp only [ptOk, Bool.and_eq_true] at hg
    obtain ⟨rfl, hg⟩ := hg
    simp only [ytree] at hy
    split at hy
    · cases hy
    · rename_i ys hys
      split at hy
      · cases hy
      · rename_i yp hyp
        cases hy
        exact wtree_ok s true _ n listed hA hg hys h fun n' l' A' σ' hk' hA' hm => wtree_ok p true k n' l' hA' hk' hyp hm hk
  | .go i c p, top, k, n, listed, y, A, σ, K', hA, hg, hy, h, hk => by
    simp only [ptOk] at hg
    cases n with
    | zero => cases hg
    | succ n =>
    simp only at hg
    split at hg
    · rename_i hb
      simp only [Bool.and_eq_true, List.contains_eq_mem, decide_eq_true_eq] at hb
      obtain ⟨rfl, ⟨hi, hfr⟩, hcc⟩ := hb
      simp only [ytree] at hy
      split at hy
      · cases hy
      · rename_i o ho
        split at hy
        · cases hy
        · rename_i y' hy'
          cases hy
          rw [ho] at hcc
          show pAnyW P tb ops K (n + 1) listed (toFr m A) σ
          have next : ∀ (v : V), wtree (wx P) tb m y' K' (putA m A o.dst v) σ → pAnyW P tb ops K n (listed.setIfInBounds i true) ((toFr m A).put o.dst v) σ := fun v hv => by
            rw [← toFr_put]
            exact wtree_ok p true k n (listed.setIfInBounds i true) (putA_in hA _ _) hg hy' hv hk
          cases c with
          | true =>
            simp only [wtree] at h
            simp only [calmY, Bool.and_eq_true, Bool.or_eq_true] at hcc
            obtain ⟨hs, hcm⟩ := hcc
            have hrd : readR (comp tb o.op) = true ∨ pcall (comp tb o.op) = true := by
              unfold stlW at hs
              rwa [Bool.or_eq_true] at hs
            -- what it comes to
            have key : ∃ r, wtree (wx P) tb m y' K' (putA m A o.dst r) σ ∧ ∀ new, PYw P tb ops o r (toFr m A) (σ ++ new) := by
              have h' := sg hA h
              rcases vguard_cases h' with ⟨h1, h2⟩ | ⟨h1, h2⟩
              · obtain ⟨r, k1, k2, _⟩ := wopR_any hrd hA h1
                exact ⟨r, k1, fun new K0 hK0 => h2 _ _ ⟨_, comp_ok hA (k2 rfl new (fun v σ' => v = r ∧ σ' = σ ++ new) ⟨rfl, rfl⟩), fun v σ' hh => by obtain ⟨rfl, rfl⟩ := hh; exact hK0⟩⟩
              · exact ⟨.t [], h1, fun new K0 hK0 => h2 _ _ hK0⟩
            obtain ⟨r, k1, k2⟩ := key
            have ih := next r k1
            rcases hcm with hcm | ⟨_, hcm⟩
            · exact pAnyW_calm (Q := fun a b => b = a) (fun _ => rfl) (fun h k => k.trans h) ho (Dof ops i) (fun j hd => Dof_lt hd) (fun j oj hj hd => ((calm_spec hcm hj).1 hd).2) n listed _ σ (fun j oj hj hne hun hno => Region.free_spec ho hfr j oj hj hne hun hno)
                (fun j oj hj hd => ((calm_spec hcm hj).1 hd).1) (fun j oj hj hd hne hun a b hl => (hl oj hj).1 ((calm_spec hcm hj).2 hd hne hun)) hi (fun σ' e => by have := k2 []; rw [List.append_nil] at this; subst e; exact this) ih
            · exact pAnyW_calm (Q := Adds) (fun σ => ⟨[], by simp⟩) (fun ⟨x, h⟩ ⟨y, k⟩ => ⟨x ++ y, by rw [k, h, List.append_assoc]⟩) ho (Dof ops i) (fun j hd => Dof_lt hd) (fun j oj hj hd => ((calm_spec hcm hj).1 hd).2) n listed _ σ (fun j oj hj hne hun hno => Region.free_spec ho hfr j oj hj hne hun hno)
                (fun j oj hj hd => ((calm_spec hcm hj).1 hd).1) (fun j oj hj hd hne hun a b hl => by
                  have := (calm_spec hcm hj).2 hd hne hun
                  rcases Bool.or_eq_true _ _ ▸ this with h | h
                  · exact ⟨[], by rw [(hl oj hj).1 h]; simp⟩
                  · exact (hl oj hj).2.1 h) hi (fun σ' ⟨new, e⟩ => by subst e; exact k2 new) ih
          | false =>
            simp only [wtree] at h
            split at h
            · rename_i htl
              have key : ∃ r, wtree (wx P) tb m y' K' (putA m A o.dst r) σ ∧ PY P noF tb ops o r (toFr m A) := by
                have h' := sg hA (wop_item hA h)
                rcases vguard_cases h' with ⟨h1, h2⟩ | ⟨h1, h2⟩
                · unfold tlessW at htl
                  rw [Bool.or_eq_true] at htl
                  have hv : ∃ r, wtree (wx P) tb m y' K' (putA m A o.dst r) σ ∧ ∀ σ (k' : V → St → Prop), k' r σ → vdo (mx P) noF tb o.op (toFr m A) σ k' := by
                    rcases htl with hmv | htl
                    · have hcomp := comp_ok hA h1
                      cases hop : o.op <;> rw [hop] at hmv hcomp <;> first
                        | (simp [movOp] at hmv; done)
                        | exact ⟨_, hcomp, fun σ k' hk' => hk'⟩
                    · exact tless_ok ((tlessA_eq hA).symm.trans htl) (comp_ok hA h1)
                  obtain ⟨r, q1, q2⟩ := hv
                  exact ⟨r, q1, fun σ' K0 hK0 => h2 _ _ ⟨_, q2 σ' (fun v σ'' => v = r ∧ σ'' = σ') ⟨rfl, rfl⟩, fun v σ'' hh => by obtain ⟨rfl, rfl⟩ := hh; exact hK0⟩⟩
                · exact ⟨.t [], h1, fun σ' K0 hK0 => h2 _ _ hK0⟩
              obtain ⟨r, k1, k2⟩ := key
              exact pAnyW_first ho n listed _ σ (fun j oj hj hne hun hno => Region.free_spec ho hfr j oj hj hne hun hno) hi k2 (next r k1)
            · exact h.elim
    · cases hg
  | .goc i p, top, k, n, listed, y, A, σ, K', hA, hg, hy, h, hk => by
    simp only [ptOk] at hg
    cases n with
    | zero => cases hg
    | succ n =>
    simp only at hg
    split at hg
    · rename_i hb
      simp only [Bool.and_eq_true, List.contains_eq_mem, decide_eq_true_eq] at hb
      obtain ⟨rfl, ⟨hi, hfr⟩, hcc⟩ := hb
      simp only [ytree] at hy
      split at hy
      · cases hy
      · rename_i o ho
        split at hy
        · cases hy
        · rename_i y' hy'
          cases hy
          rw [ho] at hcc
          show pAnyW P tb ops K (n + 1) listed (toFr m A) σ
          have next : ∀ (v : V), wtree (wx P) tb m y' K' (putA m A o.dst v) σ → pAnyW P tb ops K n (listed.setIfInBounds i true) ((toFr m A).put o.dst v) σ := fun v hv => by
            rw [← toFr_put]
            exact wtree_ok p true k n (listed.setIfInBounds i true) (putA_in hA _ _) hg hy' hv hk
          simp only [wtree] at h
          simp only [Bool.and_eq_true] at hcc
          obtain ⟨hs, hcm⟩ := hcc
          have hrd : readR (comp tb o.op) = true ∨ pcall (comp tb o.op) = true := by
            unfold stlW at hs
            rwa [Bool.or_eq_true] at hs
          have key : ∃ r, wtree (wx P) tb m y' K' (putA m A o.dst r) σ ∧ ∀ σ', Rows σ σ' → PYw P tb ops o r (toFr m A) σ' := by
            have h' := sg hA h
            rcases vguard_cases h' with ⟨h1, h2⟩ | ⟨h1, h2⟩
            · obtain ⟨r, k1, _, k2⟩ := wopR_any hrd hA h1
              exact ⟨r, k1, fun σ1 hR K0 hK0 => h2 _ _ ⟨_, comp_ok hA (k2 rfl σ1 (fun v σ' => v = r ∧ σ' = σ1) hR ⟨rfl, rfl⟩), fun v σ' hh => by obtain ⟨rfl, rfl⟩ := hh; exact hK0⟩⟩
            · exact ⟨.t [], h1, fun σ1 hR K0 hK0 => h2 _ _ hK0⟩
          obtain ⟨r, k1, k2⟩ := key
          exact pAnyW_calm (Q := Rows) Rows.refl (fun h k => h.trans k) ho (Dof ops i) (fun j hd => Dof_lt hd) (fun j oj hj hd => ((calm_spec hcm hj).1 hd).2) n listed _ σ (fun j oj hj hne hun hno => Region.free_spec ho hfr j oj hj hne hun hno)
            (fun j oj hj hd => ((calm_spec hcm hj).1 hd).1) (fun j oj hj hd hne hun a b hl => by
              have := (calm_spec hcm hj).2 hd hne hun
              rw [Bool.or_eq_true, Bool.or_eq_true] at this
              rcases this with h | h | h
              · rw [(hl oj hj).1 h]; exact Rows.refl a
              · obtain ⟨new, e⟩ := (hl oj hj).2.1 h
                rw [e]; exact Rows.add a new
              · exact (hl oj hj).2.2 h) hi (fun σ' hR => k2 σ' hR) (next r k1)
    · cases hg
  | .alt i p q, top, k, n, listed, y, A, σ, K', hA, hg, hy, h, hk => by
    simp only [ptOk] at hg
    cases n with
    | zero => cases hg
    | succ n =>
    simp only at hg
    split at hg
    · rename_i htop
      split at hg
      · rename_i hp
        simp only [ytree] at hy
        split at hy
        · cases hy
        · rename_i o ho
          split at hy
          · cases hy
          · rename_i yp hyp
            split at hy
            · cases hy
            · rename_i yq hyq
              cases hy
              obtain ⟨h1, h2⟩ := h
              have key : WSays P tb ops m K (.alt i p q) false (n + 1) listed A σ := by
                intro n' e j hj oj hoj
                cases e
                simp only [PT.alts] at hj
                rcases List.mem_cons.1 hj with rfl | hj
                · rw [ho] at hoj
                  cases hoj
                  exact sone_lv (K := wtree (wx P) tb m yp K') ho hA (fun A' σ' hA' hw => wtree_ok p true k n _ hA' hp hyp hw hk) h1
                · exact wtree_ok q false k (n + 1) listed hA hg hyq h2 hk n rfl j hj oj hoj
              cases top with
              | false => exact key
              | true =>
                have hr := natsB_eq htop
                refine ⟨fun hn => (by rw [hr] at hn; cases hn), fun j hj oj hoj => ?_⟩
                rw [hr] at hj
                exact key n rfl j hj oj hoj
      · cases hg
    · cases hg
def wresVs (tb : Tab) : List ResultVar → AF → St → (List V → Prop) → Prop
  | [], A, σ, k => k []
  | .tmp t :: r, A, σ, k => wresVs tb r A σ fun l => k (lk A t :: l)
  | .cell x t :: r, A, σ, k =>
    (match (tb t).d with
    | .no => False
    | _ => vload prims (tb t).agg (tb t).size (addr (lk A x)) σ fun v => wresVs tb r A σ fun l => k (v :: l))
def wKret (tb : Tab) (rs : List ResultVar) (k : V → St → Prop) : Exit → AF → St → Prop
  | .normal, A, σ => wresVs tb rs A σ fun l => (match l with | [v] => k v σ | l => k (.t l) σ)
  | .ret, A, σ => wresVs tb rs A σ fun l => (match l with | [v] => k v σ | l => k (.t l) σ)
  | .exit _, _, _ => False
  | .goto _, _, _ => False
  | .panic _, _, _ => False
  | .outgrown, _, _ => False
theorem wresVs_eq : ∀ (rs : List ResultVar) (A : AF) (σ : St) (k : List V → Prop), wresVs tb rs A σ k = sresVs prims tb rs A σ k
  | [], A, σ, k => rfl
  | .tmp t :: r, A, σ, k => wresVs_eq r A σ _
  | .cell x t :: r, A, σ, k => by
    have e : (fun v => wresVs tb r A σ fun l => k (v :: l)) = fun v => sresVs prims tb r A σ fun l => k (v :: l) := funext fun v => wresVs_eq r A σ _
    simp only [wresVs, sresVs, e]
    rfl
theorem wKret_eq {rs : List ResultVar} {k : V → St → Prop} {e : Exit} {A : AF} {σ : St} (h : wKret tb rs k e A σ) : sKret (mx P) tb rs k e A σ := by
  cases e with
  | normal =>
    have h' : wresVs tb rs A σ (fun l => match l with | [v] => k v σ | l => k (.t l) σ) := h
    rw [wresVs_eq] at h'
    exact h'
  | ret =>
    have h' : wresVs tb rs A σ (fun l => match l with | [v] => k v σ | l => k (.t l) σ) := h
    rw [wresVs_eq] at h'
    exact h'
  | _ => exact h
end
theorem call_nil {P : Program} {f : FuncId} {args : List V} {σ : St} (hf : V.frees args = true) {k : V → St → Prop} {k' : V → Prop} (h : CallAt P f args [] k)
    (hk : ∀ r τ, k r τ → ∃ u τ', hardV r τ = some (u, τ') ∧ u.free = true ∧ k' u) : CallAt P f args σ fun r σ' => k' r ∧ σ' = σ := by
  intro g w vs hr hv
  let g0 : G := ⟨g.Z, fun _ => none, fun _ => 0⟩
  have rep0 : Rep g0 w [] := ⟨fun i ob h => by simp at h, fun i j a b k h => by simp at h, fun b o _ ho => by obtain ⟨i, ob, h, _⟩ := own_iff.1 ho; simp at h, hr.inside⟩
  have v0 : VReps g0 w [] args vs := freeVs (g := g) (g' := g0) (w := w) (w' := w) (fun b o hz => ⟨hz, rfl⟩) hf hv
  have hend : ∀ v w', CallEnd g0 w [] k v w' → CallEnd g w σ (fun r σ' => k' r ∧ σ' = σ) v w' := by
    rintro v w' ⟨r, σ2, g2, h1, h2, h3, h4⟩
    obtain ⟨u, τ, e1, e2, e3⟩ := hk _ _ h1
    obtain ⟨g3, k1, k2, k3⟩ := hardV_ok h2 e1 h4
    have T := h3.trans k2
    have hb := below_of_turn T
    let g' : G := ⟨fun b o => g.Z b o ∨ (w.heap.size ≤ b ∧ g3.Z b o), g.blk, g.cap⟩
    have hT : Turn g w σ g' w' σ :=
      { os := hb.os, tape := hb.tape, output := hb.output, size := hb.size, whole := fun b h _ => hb.block b h, zs := fun b o hz => ⟨.inl hz, (T.zs b o hz).2⟩,
        znew := fun b o hlt hz => by
          rcases hz with hz | ⟨hz, _⟩
          · exact .inl hz
          · omega
        onew := fun _ _ _ h => h,
        turns := fun i ob h => ⟨ob, h, by cases ob <;> simp [ObTurn, g']⟩,
        blks := fun _ _ _ _ => rfl }
    have hR : Rep g' w' σ := by
      refine ⟨fun i ob h => ?_, hr.inj, fun b o hz ho => ?_, fun b o hz => ?_⟩
      · by_cases hl : live ob = true
        · exact (hr.ob i ob h).keep hT (fun b hbk => hb.block b ((hr.ob i ob h).inside hl hbk)) rfl rfl
        · cases ob <;> simp_all [live, ObRep]
      · have ho' : Own g σ b o := ho
        rcases hz with hz | ⟨hz, _⟩
        · exact hr.apart b o hz ho'
        · have := Own.inside hr ho'; omega
      · rcases hz with hz | ⟨_, hz⟩
        · exact Nat.lt_of_lt_of_le (hr.inside b o hz) hb.size
        · exact k1.inside b o hz
    refine ⟨u, σ, g', ⟨e3, rfl⟩, hR, hT, freeV (g := g3) (w := w') (fun b o hz => ⟨?_, rfl⟩) e2 k3⟩
    by_cases hlt : w.heap.size ≤ b
    · exact .inr ⟨hlt, hz⟩
    · rcases T.znew b o (by omega) hz with h | h
      · exact .inl h
      · obtain ⟨i, ob, h7, _⟩ := own_iff.1 h
        simp at h7
  rcases h g0 w vs rep0 v0 with ⟨v, w', h1, h2⟩ | ⟨h1, h2⟩
  · exact .inl ⟨v, w', h1, hend v w' h2⟩
  · exact .inr ⟨h1, h2.mono fun e w' ⟨v, h3, h4⟩ => ⟨v, h3, hend v w' h4⟩⟩
end Go.Dm
set_option maxHeartbeats 4000000
namespace Go.Proofs.YtpoegfkajdbplaaDoor
open Go.Dm
set_option linter.unusedVariables false
abbrev f_glosslaw16_EditMany : Nat := 5
abbrev f_glosskeep_Lines : Nat := 6
abbrev f_glosskeep_Edit_Edit : Nat := 7
abbrev f_edit_Do : Nat := 8
abbrev f_glossbook_Same_string : Nat := 9
abbrev f_glossbook_Within : Nat := 10
abbrev f_edit_Right : Nat := 11
abbrev f_glosslaw16_EditRuns : Nat := 12
abbrev f_edit_All : Nat := 14
abbrev f_edit_Back : Nat := 15
abbrev f_edit_Split : Nat := 17
abbrev f_edit_Join : Nat := 18
abbrev f_glosskeep_Text : Nat := 19
abbrev f_slices_Concat_string_string : Nat := 20
abbrev f_run_Lines : Nat := 21
abbrev f_slices_Clone_string_string : Nat := 22
abbrev f_strings_Split : Nat := 23
abbrev f_strings_TrimSuffix : Nat := 24
abbrev f_run_Lines_1 : Nat := 28
abbrev f_strings_Contains : Nat := 29
abbrev f_slices_ContainsFunc_string_string : Nat := 30
abbrev f_strings_genSplit : Nat := 31
abbrev f_internal_stringslite_TrimSuffix : Nat := 32
abbrev f_strings_Index : Nat := 34
abbrev f_slices_IndexFunc_string_string : Nat := 35
abbrev f_strings_Count : Nat := 37
abbrev f_internal_stringslite_HasSuffix : Nat := 38
abbrev f_internal_abi_NoEscape : Nat := 39
abbrev f_internal_stringslite_Index : Nat := 40
abbrev f_internal_bytealg_CountString : Nat := 43
abbrev f_internal_stringslite_IndexByte : Nat := 44
abbrev f_internal_bytealg_IndexByteString : Nat := 49
abbrev f_runtime_errorAddressString_RuntimeError : Nat := 58
def pureL : List Nat := [6, 8, 9, 10, 11, 13, 15, 16, 17, 18, 19, 21, 22, 23, 24, 29, 31, 32, 34, 36, 37, 38, 40, 44]
def inNat (f : Nat) : List Nat → Bool
  | [] => false
  | x :: r => (match Nat.beq f x with | true => true | false => inNat f r)
instance : Pures := ⟨fun f => inNat f pureL⟩
def w_glosslaw16_EditMany : Ent Tryd.prog tb (stlW tb) := ⟨5, [], _, by cbv, by kernel_rfl⟩
def w_glosskeep_Lines : Ent Tryd.prog tb (stlW tb) := ⟨6, [], _, by cbv, by kernel_rfl⟩
def w_glosskeep_Edit_Edit : Ent Tryd.prog tb (stlW tb) := ⟨7, [(6, .go 2 true (.go 3 true (.go 4 true (.go 5 true (.go 6 true (.go 7 true (.go 0 false (.sub (.alt 1 (.alt 8 (.done) (.stop)) (.alt 8 (.go 1 true (.done)) (.stop))) (.alt 9 (.go 10 true (.alt 11 (.done) (.stop))) (.stop))))))))))], _, by cbv, by kernel_rfl⟩
def w_edit_Do : Ent Tryd.prog tb (stlW tb) := ⟨8, [(3, .go 0 true (.go 1 true (.go 2 true (.go 3 true (.go 4 true (.go 5 true (.go 6 true (.go 7 true (.go 8 true (.go 9 true (.go 10 true (.go 11 true (.go 12 true (.alt 13 (.alt 14 (.go 15 true (.go 16 true (.done))) (.stop)) (.stop)))))))))))))))], _, by cbv, by kernel_rfl⟩
def w_glossbook_Same_string : Ent Tryd.prog tb (stlW tb) := ⟨9, [(6, .go 0 true (.go 1 true (.go 2 true (.go 3 true (.go 4 true (.go 5 true (.go 6 true (.go 7 true (.go 8 true (.done))))))))))], _, by cbv, by kernel_rfl⟩
def w_glossbook_Within : Ent Tryd.prog tb (stlW tb) := ⟨10, [], _, by cbv, by kernel_rfl⟩
def w_edit_Right : Ent Tryd.prog tb (stlW tb) := ⟨11, [], _, by cbv, by kernel_rfl⟩
def w_glosslaw16_EditRuns : Ent Tryd.prog tb (stlW tb) := ⟨12, [], _, by cbv, by kernel_rfl⟩
def w_edit_All : Ent Tryd.prog tb (stlW tb) := ⟨14, [], _, by cbv, by kernel_rfl⟩
def w_edit_Back : Ent Tryd.prog tb (stlW tb) := ⟨15, [(3, .go 0 true (.go 1 true (.go 2 true (.go 3 true (.go 4 true (.go 5 true (.go 6 true (.go 7 true (.go 8 true (.go 9 true (.go 10 true (.go 11 true (.go 12 true (.go 13 true (.go 14 true (.alt 15 (.alt 16 (.done) (.stop)) (.stop)))))))))))))))))], _, by cbv, by kernel_rfl⟩
def w_edit_Split : Ent Tryd.prog tb (stlW tb) := ⟨17, [], _, by cbv, by kernel_rfl⟩
def w_edit_Join : Ent Tryd.prog tb (stlW tb) := ⟨18, [], _, by cbv, by kernel_rfl⟩
def w_glosskeep_Text : Ent Tryd.prog tb (stlW tb) := ⟨19, [], _, by cbv, by kernel_rfl⟩
def w_slices_Concat_string_string : Ent Tryd.prog tb (stlW tb) := ⟨20, [], _, by cbv, by kernel_rfl⟩
def w_run_Lines : Ent Tryd.prog tb (stlW tb) := ⟨21, [], _, by cbv, by kernel_rfl⟩
def w_slices_Clone_string_string : Ent Tryd.prog tb (stlW tb) := ⟨22, [], _, by cbv, by kernel_rfl⟩
def w_strings_Split : Ent Tryd.prog tb (stlW tb) := ⟨23, [], _, by cbv, by kernel_rfl⟩
def w_strings_TrimSuffix : Ent Tryd.prog tb (stlW tb) := ⟨24, [], _, by cbv, by kernel_rfl⟩
def w_strings_Builder_WriteString : Ent Tryd.prog tb (stlW tb) := ⟨25, [], _, by cbv, by kernel_rfl⟩
def w_strings_Builder_String : Ent Tryd.prog tb (stlW tb) := ⟨26, [(1, .go 0 false (.go 1 false (.go 5 false (.go 6 false (.sub (.alt 2 (.alt 3 (.alt 4 (.alt 7 (.go 8 true (.go 9 true (.done))) (.stop)) (.alt 7 (.alt 4 (.go 8 true (.go 9 true (.done))) (.alt 8 (.alt 4 (.go 9 true (.done)) (.alt 9 (.alt 4 (.done) (.stop)) (.stop))) (.stop))) (.stop))) (.alt 7 (.go 3 true (.alt 4 (.go 8 true (.go 9 true (.done))) (.alt 8 (.alt 4 (.go 9 true (.done)) (.alt 9 (.alt 4 (.done) (.stop)) (.stop))) (.stop)))) (.stop))) (.alt 7 (.alt 2 (.go 3 true (.alt 4 (.go 8 true (.go 9 true (.done))) (.alt 8 (.alt 4 (.go 9 true (.done)) (.alt 9 (.alt 4 (.done) (.stop)) (.stop))) (.stop)))) (.alt 8 (.alt 2 (.go 3 true (.alt 4 (.go 9 true (.done)) (.alt 9 (.alt 4 (.done) (.stop)) (.stop)))) (.alt 9 (.alt 2 (.go 3 true (.alt 4 (.done) (.stop))) (.stop)) (.stop))) (.stop))) (.stop))) (.alt 10 (.go 11 true (.done)) (.stop)))))))], _, by cbv, by kernel_rfl⟩
def w_slices_Grow_string_string : Ent Tryd.prog tb (stlW tb) := ⟨27, [], _, by cbv, by kernel_rfl⟩
def w_run_Lines_1 : Ent Tryd.prog tb (stlW tb) := ⟨28, [], _, by cbv, by kernel_rfl⟩
def w_strings_Contains : Ent Tryd.prog tb (stlW tb) := ⟨29, [], _, by cbv, by kernel_rfl⟩
def w_slices_ContainsFunc_string_string : Ent Tryd.prog tb (stlW tb) := ⟨30, [], _, by cbv, by kernel_rfl⟩
def w_strings_genSplit : Ent Tryd.prog tb (stlW tb) := ⟨31, [], _, by cbv, by kernel_rfl⟩
def w_internal_stringslite_TrimSuffix : Ent Tryd.prog tb (stlW tb) := ⟨32, [], _, by cbv, by kernel_rfl⟩
def w_strings_Builder_copyCheck : Ent Tryd.prog tb (stlW tb) := ⟨33, [], _, by cbv, by kernel_rfl⟩
def w_strings_Index : Ent Tryd.prog tb (stlW tb) := ⟨34, [], _, by cbv, by kernel_rfl⟩
def w_slices_IndexFunc_string_string : Ent Tryd.prog tb (stlW tb) := ⟨35, [], _, by cbv, by kernel_rfl⟩
def w_strings_Count : Ent Tryd.prog tb (stlW tb) := ⟨37, [], _, by cbv, by kernel_rfl⟩
def w_internal_stringslite_HasSuffix : Ent Tryd.prog tb (stlW tb) := ⟨38, [], _, by cbv, by kernel_rfl⟩
def w_internal_stringslite_Index : Ent Tryd.prog tb (stlW tb) := ⟨40, [], _, by cbv, by kernel_rfl⟩
def w_internal_stringslite_IndexByte : Ent Tryd.prog tb (stlW tb) := ⟨44, [], _, by cbv, by kernel_rfl⟩
end Go.Proofs.YtpoegfkajdbplaaDoor
