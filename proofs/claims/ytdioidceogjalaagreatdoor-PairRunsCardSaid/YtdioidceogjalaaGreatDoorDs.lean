/- The plain machine: what may be taken first. -/
import Derived.Test.YtdioidceogjalaaGreatDoorDr
namespace Go.Dm
set_option linter.unusedVariables false
set_option linter.unusedSimpArgs false

section
variable {P : Program} {pf : FuncId → Bool} {tb : Tab}

theorem no_mk {t : TypeId} {p : Prop} (h : (tb t).d ≠ .no) (hp : p) : match (tb t).d with | .no => False | _ => p := by
  split
  · rename_i e; exact h e
  · exact hp

theorem fill_any {t : TypeId} {l : Option (List C)} {k : V → Prop} (h : match l with | some l => k (.a l) | none => False) :
    ∃ r, k r ∧ ∀ (k' : V → Prop), k' r → (match l with | some l => k' (.a l) | none => False) := by
  cases l with
  | none => exact h.elim
  | some l => exact ⟨_, h, fun k' h' => h'⟩

theorem part_any {agg : Bool} {l : List C} {off n : Nat} {k : V → Prop} (h : vpart agg l off n k) : ∃ r, k r ∧ ∀ (k' : V → Prop), k' r → vpart agg l off n k' := by
  unfold vpart at h ⊢
  cases agg with
  | true =>
    simp only at h ⊢
    cases hc : cut l off n with
    | none => rw [hc] at h; exact h.elim
    | some r => rw [hc] at h; exact ⟨_, h, fun k' h' => h'⟩
  | false =>
    simp only at h ⊢
    cases hc : l[off]? with
    | none => rw [hc] at h; exact h.elim
    | some r => rw [hc] at h; exact ⟨_, h, fun k' h' => h'⟩

theorem vint_any {op : BinOp} {j : IntKind} {a b : Int} {k : V → Prop} (h : vint prims op j a b k) : ∃ r, k r ∧ ∀ (k' : V → Prop), k' r → vint prims op j a b k' := by
  cases op <;> simp only [vint] at h ⊢ <;> first
    | exact h.elim
    | exact ⟨_, h, fun k' h' => h'⟩
    | exact ⟨_, h.2, fun k' h' => ⟨h.1, h'⟩⟩

theorem same_map {j j' : IntKind} {p q : Prop} (h : same j j' p) (hq : q) : same j j' q := by
  cases j <;> cases j' <;> simp_all [same]

theorem vbin_any {d : TD} {op : BinOp} {x y : V} {k : V → Prop} (h : vbin prims d op x y k) : ∃ r, k r ∧ ∀ (k' : V → Prop), k' r → vbin prims d op x y k' := by
  unfold vbin at h ⊢
  split at h
  · rename_i j a j' b
    by_cases hs : op = .shl ∨ op = .shr
    · rcases hs with rfl | rfl <;> exact ⟨_, h.2, fun k' h' => ⟨h.1, h'⟩⟩
    · have h' : same j j' (vint prims op j a b k) := by revert h; cases op <;> simp_all
      obtain ⟨rfl, h2⟩ := same_iff h'
      obtain ⟨r, h3, h4⟩ := vint_any h2
      refine ⟨r, h3, fun k' hk => ?_⟩
      have h5 := same_map (q := vint prims op j a b k') h' (h4 k' hk)
      revert h5; cases op <;> simp_all
  · split at h
    · exact ⟨_, h, fun k' h' => h'⟩
    · exact ⟨_, h, fun k' h' => h'⟩
    · exact h.elim
  · cases op <;> simp only at h ⊢ <;> first
      | exact h.elim
      | exact ⟨_, h, fun k' h' => h'⟩
      | exact ⟨_, h.2, fun k' h' => ⟨h.1, h'⟩⟩
  · rename_i a b
    cases op <;> simp only at h ⊢ <;> first
      | exact h.elim
      | exact ⟨_, h, fun k' h' => h'⟩
      | (cases hc : prims.fadd a b with
        | none => rw [hc] at h; exact h.elim
        | some r => rw [hc] at h; exact ⟨_, h, fun k' h' => h'⟩)
      | (cases hc : prims.fsub a b with
        | none => rw [hc] at h; exact h.elim
        | some r => rw [hc] at h; exact ⟨_, h, fun k' h' => h'⟩)
  · rename_i a b c e
    cases op <;> simp only at h ⊢ <;> first
      | exact h.elim
      | exact ⟨_, h, fun k' h' => h'⟩
      | (cases hc : prims.fadd a c with
        | none => rw [hc] at h; exact h.elim
        | some r =>
          rw [hc] at h
          cases hd : prims.fadd b e with
          | none => rw [hd] at h; exact h.elim
          | some i => rw [hd] at h; exact ⟨_, h, fun k' h' => h'⟩)
      | (cases hc : prims.fsub a c with
        | none => rw [hc] at h; exact h.elim
        | some r =>
          rw [hc] at h
          cases hd : prims.fsub b e with
          | none => rw [hd] at h; exact h.elim
          | some i => rw [hd] at h; exact ⟨_, h, fun k' h' => h'⟩)
  · exact h.elim

theorem vun_any {op : UnOp} {x : V} {k : V → Prop} (h : vun prims op x k) : ∃ r, k r ∧ ∀ (k' : V → Prop), k' r → vun prims op x k' := by
  unfold vun at h ⊢
  split at h
  · exact ⟨_, h, fun k' h' => h'⟩
  · exact ⟨_, h, fun k' h' => h'⟩
  · exact h.elim

theorem vpick_any {c a b : V} {k : V → Prop} (h : vpick c a b k) : ∃ r, k r ∧ ∀ (k' : V → Prop), k' r → vpick c a b k' := by
  obtain ⟨t, rfl, h⟩ : ∃ t, c = .c (.f (.bool t)) ∧ (match t with | true => k a | false => k b) := by
    unfold vpick at h
    split at h
    · exact ⟨_, rfl, h⟩
    · exact h.elim
  cases t with
  | true => exact ⟨_, h, fun k' h' => h'⟩
  | false => exact ⟨_, h, fun k' h' => h'⟩

theorem nil_get {o : Nat} {α : Type} : ([] : List α)[o]? = none := by simp

theorem vload_any {agg : Bool} {n : Nat} {x : V} {k : V → Prop} (h : vload prims agg n x [] k) : ∃ r, k r ∧ ∀ σ (k' : V → Prop), k' r → vload prims agg n x σ k' := by
  unfold vload at h ⊢
  split at h
  · simp only [nil_get] at h
  · rename_i cs off
    cases agg with
    | true => exact ⟨_, h.2, fun σ k' h' => ⟨h.1, h'⟩⟩
    | false =>
      simp only [prims] at h ⊢
      cases hc : cs[off]? with
      | none => rw [hc] at h; exact h.elim
      | some r => rw [hc] at h; exact ⟨_, h, fun σ k' h' => h'⟩
  · simp only [nil_get] at h
  · exact h.elim

theorem vfield_any {x : V} {fo : Nat} {k : V → Prop} (h : vfield prims x fo [] k) : ∃ r, k r ∧ ∀ σ (k' : V → Prop), k' r → vfield prims x fo σ k' := by
  unfold vfield at h ⊢
  split at h
  · exact ⟨_, h, fun σ k' h' => h'⟩
  · exact ⟨_, h, fun σ k' h' => h'⟩
  · simp only [nil_get] at h
  · exact h.elim

theorem vindexAddr_any {t : TypeId} {x i : V} {k : V → Prop} (h : vindexAddr prims tb t x i [] k) : ∃ r, k r ∧ ∀ σ (k' : V → Prop), k' r → vindexAddr prims tb t x i σ k' := by
  unfold vindexAddr at h ⊢
  split at h
  · obtain ⟨h1, h2⟩ := no_of (tb := tb) h
    exact ⟨_, h2.2, fun σ k' h' => by
      split
      · rename_i e; exact h1 e
      · exact ⟨h2.1, h'⟩⟩
  · simp only [nil_get] at h
    split at h <;> first | exact h.elim | (rename_i e _; cases e)
  · obtain ⟨h1, h2⟩ := no_of (tb := tb) h
    exact ⟨_, h2.2.2, fun σ k' h' => by
      split
      · rename_i e; exact h1 e
      · exact ⟨h2.1, h2.2.1, h'⟩⟩
  · obtain ⟨h1, h2⟩ := no_of (tb := tb) h
    exact ⟨_, h2.2.2, fun σ k' h' => by
      split
      · rename_i e; exact h1 e
      · exact ⟨h2.1, h2.2.1, h'⟩⟩
  · simp only [nil_get] at h
    split at h <;> first | exact h.elim | (rename_i e _; cases e)
  · exact h.elim

theorem vindex_any {t : TypeId} {x i : V} {k : V → Prop} (h : vindex prims tb t x i k) : ∃ r, k r ∧ ∀ (k' : V → Prop), k' r → vindex prims tb t x i k' := by
  unfold vindex at h ⊢
  split at h
  · exact ⟨_, h.2, fun k' h' => ⟨h.1, h'⟩⟩
  · obtain ⟨h1, h2⟩ := no_of (tb := tb) h
    obtain ⟨r, h3, h4⟩ := part_any h2.2.2
    exact ⟨r, h3, fun k' h' => by
      split
      · rename_i e; exact h1 e
      · exact ⟨h2.1, h2.2.1, h4 k' h'⟩⟩
  · exact h.elim

theorem vlen_any {d : TD} {x : V} {k : V → Prop} (h : vlen prims d x [] k) : ∃ r, k r ∧ ∀ σ (k' : V → Prop), k' r → vlen prims d x σ k' := by
  unfold vlen at h ⊢
  split at h
  · exact ⟨_, h, fun σ k' h' => h'⟩
  · exact ⟨_, h, fun σ k' h' => h'⟩
  · exact ⟨_, h, fun σ k' h' => h'⟩
  · simp only [nil_get] at h
  · exact h.elim

theorem vbytes_any {x : V} {k : V → Prop} (h : vbytes prims x [] k) : ∃ r, k r ∧ ∀ σ (k' : V → Prop), k' r → vbytes prims x σ k' := by
  unfold vbytes at h ⊢
  split at h
  · exact ⟨_, h, fun σ k' h' => h'⟩
  · obtain ⟨s, h1, h2, h3⟩ := h
    exact ⟨_, h3, fun σ k' h' => ⟨s, h1, h2, h'⟩⟩
  · simp only [nil_get] at h
  · exact h.elim

theorem vconv_any {s d : TypeId} {x : V} {k : V → Prop} (hd : (match (tb d).d with | .slice _ => false | _ => true) = true) (h : vconv prims tb s d x [] fun v _ => k v) : ∃ r, k r ∧ ∀ σ (k' : V → St → Prop), k' r σ → vconv prims tb s d x σ k' := by
  unfold vconv at h ⊢
  split at h
  · exact ⟨_, h, fun σ k' h' => h'⟩
  · exact ⟨_, h, fun σ k' h' => h'⟩
  · rename_i b _ _
    cases hc : prims.foi b with
    | none => rw [hc] at h; exact h.elim
    | some r => rw [hc] at h; exact ⟨_, h, fun σ k' h' => h'⟩
  · exact ⟨_, h, fun σ k' h' => h'⟩
  · split at h
    · obtain ⟨r, h1, h2⟩ := vbytes_any h
      exact ⟨r, h1, fun σ k' h' => h2 σ (fun v => k' v σ) h'⟩
    · exact h.elim
  · rename_i e
    rw [e] at hd
    cases hd
  · exact h.elim

theorem vslice_any {t : TypeId} {x : V} {lo hi : Option V} {k : V → Prop} (h : vslice prims tb t x lo hi [] fun v _ => k v) : ∃ r, k r ∧ ∀ σ (k' : V → St → Prop), k' r σ → vslice prims tb t x lo hi σ k' := by
  unfold vslice at h ⊢
  split at h
  · split at h
    · exact ⟨_, h, fun σ k' h' => h'⟩
    · exact ⟨_, h.2, fun σ k' h' => ⟨h.1, h'⟩⟩
    · exact ⟨_, h.2, fun σ k' h' => ⟨h.1, h'⟩⟩
    · exact ⟨_, h.2.2, fun σ k' h' => ⟨h.1, h.2.1, h'⟩⟩
    · exact h.elim
  · split at h
    · exact h.elim
    · rename_i hn
      simp only [hn, if_false]
      split at h
      · exact ⟨_, h.2, fun σ k' h' => ⟨h.1, h'⟩⟩
      · exact ⟨_, h.2, fun σ k' h' => ⟨h.1, h'⟩⟩
      · exact ⟨_, h.2.2, fun σ k' h' => ⟨h.1, h.2.1, h'⟩⟩
      · exact ⟨_, h, fun σ k' h' => h'⟩
      · exact h.elim
  · split at h
    · exact h.elim
    · rename_i hn
      simp only [hn, if_false]
      split at h
      · exact ⟨_, h.2, fun σ k' h' => ⟨h.1, h'⟩⟩
      · exact ⟨_, h.2, fun σ k' h' => ⟨h.1, h'⟩⟩
      · exact ⟨_, h.2.2, fun σ k' h' => ⟨h.1, h.2.1, h'⟩⟩
      · exact ⟨_, h, fun σ k' h' => h'⟩
      · exact h.elim
  · simp only [nil_get] at h
    split at h <;> exact h.elim
  · exact h.elim

theorem vdo_plain {o : Op} (hx : extraB tb o = false) (hc : ∀ c, o ≠ .call c) {fr : Fr} {σ : St} {k : V → St → Prop} : vdo (mx P) pf tb o fr σ k = vop prims tb o fr σ k := by
  have e : vop2 prims tb o fr σ k = vop prims tb o fr σ k := by unfold vop2; rw [hx]
  rw [← e]
  cases o <;> first | rfl | exact (hc _ rfl).elim

theorem tless_plain {o : Op} {fr : Fr} (ht : tless pf tb o fr = true) (hc : ∀ c, o ≠ .call c) : extraB tb o = false := by
  cases o <;> first
    | rfl
    | exact (hc _ rfl).elim
    | (simp only [tless, Bool.and_eq_true, Bool.not_eq_true'] at ht; exact ht.1.1)

theorem tless_ok {o : Op} {fr : Fr} (ht : tless pf tb o fr = true) {k : V → Prop} (h : vdo (mx P) pf tb o fr [] fun v _ => k v) :
    ∃ r, k r ∧ ∀ σ (k' : V → St → Prop), k' r σ → vdo (mx P) pf tb o fr σ k' := by
  cases o with
  | move x => exact ⟨_, h, fun σ k' h' => h'⟩
  | assign x => exact ⟨_, h, fun σ k' h' => h'⟩
  | pick c a b => obtain ⟨r, h1, h2⟩ := vpick_any h; exact ⟨r, h1, fun σ k' h' => h2 (fun v => k' v σ) h'⟩
  | binOp op t x y p =>
    have hx : extraB tb (.binOp op t x y p) = false := by
      simp only [tless, Bool.and_eq_true, Bool.not_eq_true'] at ht
      exact ht.1.1
    have h' : vop prims tb (.binOp op t x y p) fr [] (fun v _ => k v) := by
      have h2 : vop2 prims tb (.binOp op t x y p) fr [] (fun v _ => k v) := h
      unfold vop2 at h2
      rw [hx] at h2
      exact h2
    obtain ⟨r, h1, h2⟩ := vbin_any h'
    refine ⟨r, h1, fun σ k' hk' => ?_⟩
    show vop2 prims tb (.binOp op t x y p) fr σ k'
    unfold vop2
    rw [hx]
    exact h2 (fun v => k' v σ) hk'
  | unOp op t x => obtain ⟨r, h1, h2⟩ := vun_any h; exact ⟨r, h1, fun σ k' h' => h2 (fun v => k' v σ) h'⟩
  | convert s d x =>
    have hd : (match (tb d).d with | .slice _ => false | _ => true) = true := by
      simp only [tless, stillOp, Bool.and_eq_true] at ht
      exact ht.1.2
    have hp := fun σ k => vdo_plain (P := P) (pf := pf) (tless_plain ht (fun c e => by cases e)) (fun c e => by cases e) (fr := fr) (σ := σ) (k := k)
    rw [hp] at h
    obtain ⟨r, h1, h2⟩ := vconv_any hd h
    exact ⟨r, h1, fun σ k' h' => by rw [hp]; exact h2 σ k' h'⟩
  | slice t x lo hi mx =>
    cases mx with
    | some m => simp only [tless, stillOp, Bool.and_false, Bool.false_and] at ht; cases ht
    | none => exact vslice_any h
  | load t x =>
    obtain ⟨h1, h2⟩ := no_of (tb := tb) h
    obtain ⟨r, h3, h4⟩ := vload_any h2
    exact ⟨r, h3, fun σ k' h' => no_mk h1 (h4 σ (fun v => k' v σ) h')⟩
  | fieldAddr t x i =>
    have hp := fun σ k => vdo_plain (P := P) (pf := pf) (tless_plain ht (fun c e => by cases e)) (fun c e => by cases e) (fr := fr) (σ := σ) (k := k)
    simp only [hp, vop] at h ⊢
    split at h
    · split at h
      · split at h
        · exact h.elim
        · rename_i hs
          obtain ⟨h1, h2⟩ := no_of (tb := tb) h
          obtain ⟨r, h3, h4⟩ := vfield_any h2
          exact ⟨r, h3, fun σ k' h' => no_mk h1 (h4 σ (fun v => k' v σ) h')⟩
      · exact h.elim
    · exact h.elim
  | field t x i =>
    simp only [vdo, vop2, extraB, vop] at h ⊢
    split at h
    · split at h
      · obtain ⟨h1, h2⟩ := no_of (tb := tb) h
        obtain ⟨r, h3, h4⟩ := part_any h2
        refine ⟨r, h3, fun σ k' h' => ?_⟩
        split
        · rename_i e; exact h1 e
        · exact h4 (fun v => k' v σ) h'
      · exact h.elim
    · exact h.elim
  | indexAddr t x i => obtain ⟨r, h1, h2⟩ := vindexAddr_any h; exact ⟨r, h1, fun σ k' h' => h2 σ (fun v => k' v σ) h'⟩
  | index t x i => obtain ⟨r, h1, h2⟩ := vindex_any h; exact ⟨r, h1, fun σ k' h' => h2 (fun v => k' v σ) h'⟩
  | extract x i =>
    simp only [vdo, vop2, extraB, vop] at h ⊢
    split at h
    · split at h
      · exact ⟨_, h, fun σ k' h' => h'⟩
      · exact h.elim
    · exact h.elim
  | nilCheck x =>
    simp only [vdo, vop2, extraB, vop] at h ⊢
    split at h
    · exact ⟨_, h, fun σ k' h' => h'⟩
    · exact ⟨_, h, fun σ k' h' => h'⟩
    · exact ⟨_, h, fun σ k' h' => h'⟩
    · simp only [nil_get] at h
    · exact h.elim
  | makeFunc fn first captured =>
    cases fn with
    | func f =>
      simp only [vdo, vop2, extraB, vop] at h ⊢
      split at h
      · exact ⟨_, h, fun σ k' h' => h'⟩
      · exact h.elim
    | _ => exact h.elim
  | build t parts =>
    simp only [vdo, vop2, extraB, vop] at h ⊢
    split at h
    · split at h
      · rename_i hall
        simp only [if_pos hall]
        split at h
        · exact ⟨_, h, fun σ k' h' => h'⟩
        · exact h.elim
      · exact h.elim
    · split at h
      · obtain ⟨h1, h2⟩ := no_of (tb := tb) h
        refine ⟨_, h2, fun σ k' h' => ?_⟩
        split
        · rename_i e; exact h1 e
        · exact h'
      · exact h.elim
    · exact h.elim
  | call c =>
    obtain ⟨cal, args, at'⟩ := c
    cases cal with
    | value x =>
      simp only [tless] at ht
      simp only [vdo] at h ⊢
      split at h
      · rename_i f l hc
        rw [hc] at ht
        simp only [Bool.and_eq_true, Bool.not_eq_true'] at ht
        obtain ⟨hpf, hrs⟩ := ht
        rw [hpf] at h
        simp only at h
        rw [softs_none l hrs] at h
        obtain ⟨r, h1, h2⟩ := h
        refine ⟨r, h2, fun σ k' h' => ?_⟩
        rw [hpf]
        simp only
        rw [softs_none l hrs]
        exact ⟨r, h1, h'⟩
      · exact h.elim
    | builtin b =>
      have hx : extraB tb (.call { callee := .builtin b, args, argTypes := at' }) = false := by
        simp only [tless, Bool.and_eq_true, Bool.not_eq_true'] at ht
        exact ht.1.1
      have hp : ∀ σ k, vdo (mx P) pf tb (.call { callee := .builtin b, args, argTypes := at' }) fr σ k = vop prims tb (.call { callee := .builtin b, args, argTypes := at' }) fr σ k := fun σ k => by
        show vop2 prims tb _ fr σ k = _
        unfold vop2
        rw [hx]
      simp only [hp, vop, vbi] at h ⊢
      split at h
      · split at h
        · obtain ⟨r, h1, h2⟩ := vlen_any h
          exact ⟨r, h1, fun σ k' h' => h2 σ (fun v => k' v σ) h'⟩
        · exact h.elim
      · simp [tless, stillOp] at ht
      · split at h
        · exact ⟨_, h, fun σ k' h' => h'⟩
        · exact h.elim
      · split at h
        · exact ⟨_, h, fun σ k' h' => h'⟩
        · exact h.elim
      · exact ⟨_, h, fun σ k' h' => h'⟩
      · exact ⟨_, h, fun σ k' h' => h'⟩
      · exact ⟨_, h, fun σ k' h' => h'⟩
      · exact h.elim
    | invoke r m => exact h.elim
  | _ => simp [tless, stillOp] at ht
end
end Go.Dm
