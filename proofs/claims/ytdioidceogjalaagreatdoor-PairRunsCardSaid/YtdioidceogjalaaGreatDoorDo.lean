/- The plain machine: conversions; one operation. -/
import Derived.Test.YtdioidceogjalaaGreatDoorDn
namespace Go.Dm
set_option linter.unusedVariables false
set_option linter.unusedSimpArgs false

section
variable {P : Program} {tb : Tab} {t : TypeId} {g : G} {w : World} {σ : St}

theorem byte_vals {s : List UInt8} : ∀ {vs : List Value}, CReps g w σ ((s.map fun b => F.int .u8 b.toNat).map .f) vs → vs = s.map fun b => Value.int .u8 b.toNat := by
  induction s with
  | nil => intro vs h; exact h
  | cons b r ih =>
    intro vs h
    obtain ⟨v, vr, rfl, h1, h2⟩ := h
    have : v = .int .u8 b.toNat := h1
    subst this
    rw [ih h2]
    rfl

theorem bytes_ok (tok : TabOk P tb) (hr : Rep g w σ) {s d e : TypeId} (hs : (tb s).d = .slice e) (he : (tb e).d = .int .u8) (hd : (tb d).d = .str) {x : V} {u : Value} (hx : VRep g w σ x u) {k : V → Prop} (hk : vbytes prims x σ k) :
    ∃ r v', (convert s d u).run P w = .ok v' w ∧ k r ∧ VRep g w σ r v' := by
  have h1 := (tok s).fits; rw [hs] at h1
  have h2 := (tok e).fits; rw [he] at h2
  have h3 := (tok d).fits; rw [hd] at h3
  have back : ∀ {ad : Addr} {cap : Nat} {l : List UInt8}, (∀ j (hj : j < l.length), w.cell? (ad.add j) = some (.int .u8 (l[j].toNat : Int))) → (convert s d (.slice (some ad) l.length cap)).run P w = .ok (.string ⟨l.toArray⟩) w :=
    fun {ad cap l} h => run_convert_bytes_back (P := P) w s d e ad cap l h1 h2 h3 h
  have nil : ∀ {n cap : Nat}, (convert s d (.slice none n cap)).run P w = .ok (.string ⟨#[]⟩) w := fun {n cap} => by
    rw [run_convert_bytes_string w s d e none n cap h1 h2 h3]
    rfl
  unfold vbytes at hk
  split at hk
  · have : u = .slice none 0 0 := hx
    subst this
    exact ⟨_, _, nil, hk, rfl⟩
  · rename_i n cs
    obtain ⟨l, rfl, rfl, hk⟩ := hk
    obtain ⟨a, cap, rfl, h4, h5, h6⟩ := hx
    rcases h6 with ⟨rfl, hl, _⟩ | ⟨b, o, rfl, h6⟩
    · have : l = [] := List.eq_nil_of_length_eq_zero hl
      subst this
      exact ⟨_, _, nil, hk, rfl⟩
    · obtain ⟨vs, q1, q2, q3⟩ := frow_vals (σ := σ) h6
      have := byte_vals q3
      subst this
      exact ⟨_, _, back fun j hj => by rw [add_addr]; exact q2 j _ (by simp [hj]), hk, rfl⟩
  · rename_i o ep n
    split at hk
    · rename_i wr e0 sz l ho
      obtain ⟨q1, hk⟩ := hk
      have he' : ep = e0 := q1
      subst he'
      obtain ⟨bs, rfl, rfl, hk⟩ := hk
      obtain ⟨_, ob, h4, h5⟩ := hx
      rw [ho] at h4; cases h4
      obtain ⟨rfl, h6, h7⟩ := h5.2 rfl
      cases hb : g.blk o with
      | none =>
        rcases hr.ob o _ ho with ⟨k1, k2, k3⟩ | ⟨c, vs, T, fz, rest, k1, _⟩
        · have : bs = [] := List.eq_nil_of_length_eq_zero (by omega)
          subst this
          exact ⟨_, _, nil, hk, rfl⟩
        · rw [hb] at k1; cases k1
      | some b =>
        obtain ⟨vs, r1, r2, r3⟩ := arr_vals hr ho hb
        have := byte_vals r3
        subst this
        exact ⟨_, _, back fun j hj => by rw [add_addr, Nat.zero_add]; exact r2 j _ (by simp [hj]), hk, rfl⟩
    · exact hk.elim
  · exact hk.elim

theorem strbytes_ok (tok : TabOk P tb) (hr : Rep g w σ) {s d e : TypeId} (hs : (tb s).d = .str) (he : (tb e).d = .int .u8) (hd : (tb d).d = .slice e) {x : List UInt8} (hm : x.length ≤ 9223372036854775807) (hee : e ≤ 4294967295) {k : V → St → Prop}
    (hk : k (.c (.rs σ.length e x.length)) (σ ++ [.arr true e 1 (x.map fun b => .int .u8 b.toNat)])) :
    ∃ r σ' g' w' v', (convert s d (.string ⟨x.toArray⟩)).run P w = .ok v' w' ∧ k r σ' ∧ Rep g' w' σ' ∧ Turn g w σ g' w' σ' ∧ VRep g' w' σ' r v' := by
  have h1 := (tok s).fits; rw [hs] at h1
  have h2 := (tok e).fits; rw [he] at h2
  have h3 := (tok d).fits; rw [hd] at h3
  have hrun := run_bytes_of_string (P := P) w s d e ⟨x.toArray⟩ h1 h3 h2
  have hsz : (ByteArray.mk x.toArray).size = x.length := rfl
  rw [hsz] at hrun
  have hcap := grownCap_ge w x.length 0 e
  have hcm : grownCap w x.length 0 e ≤ maxLen := grownCap_le_maxLen w x.length 0 e (by simp only [maxLen]; omega)
  obtain ⟨d1, d2⟩ := drew_rep hr
  generalize grownCap w x.length 0 e = cap at *
  have hrow : (bytesRow ⟨x.toArray⟩ cap).toList = x.map (fun b => Value.int .u8 b.toNat) ++ List.replicate (cap - x.length) (.int .u8 0) := by
    simp [bytesRow, hsz]
  have hlen : (bytesRow ⟨x.toArray⟩ cap).toList.length = cap := by rw [hrow]; simp; omega
  obtain ⟨g', p1, p2, p3, p4⟩ := new_arr d1 e 1 cap (l := x.map fun b => F.int .u8 b.toNat) (vs := (bytesRow ⟨x.toArray⟩ cap).toList) (cap, cap + 1) e (Nat.mod_eq_of_lt (Nat.lt_succ_of_le hee)).symm (.inr (by rw [hlen]; exact Nat.le_refl _)) (by omega) hcm (by rw [hlen]; simpa using hcap)
    (fun j a b => by
      simp only [hrow]
      rw [List.getElem_append_left (by simpa using a)]
      simp [FRep])
  simp only [Array.toArray_toList] at p1 p2
  have hsize : (bytesRow ⟨x.toArray⟩ cap).size = cap := by rw [← Array.length_toList]; exact hlen
  rw [hsize] at hrun
  exact ⟨_, _, g', _, _, hrun, hk, p1, d2.trans p2, ⟨rfl, .arr true e 1 (x.map fun b => .int .u8 b.toNat), by simp, Nat.le_refl _, fun _ => ⟨by rw [p3, p4]; rfl, by simp, by rw [p4]; exact hcap⟩⟩⟩

theorem VReps.get : ∀ {l : List V} {vs : List Value}, VReps g w σ l vs → ∀ {i : Nat} {c : V}, l[i]? = some c → ∃ v, vs[i]? = some v ∧ VRep g w σ c v
  | [], _, _, i, c, hc => by simp at hc
  | c :: r, vs, h, i, x, hc => by
    obtain ⟨v, vr, rfl, h1, h2⟩ := h
    cases i with
    | zero => simp at hc; subst hc; exact ⟨v, rfl, h1⟩
    | succ i => simp at hc; simpa using VReps.get h2 hc

theorem caps_rep {fr : Fr} {a : Act} (hf : FrRep g w σ fr a.tmps) : ∀ (l : List Operand), CReps g w σ (l.map fun x => (opd fr x).cap) (l.map a.eval)
  | [] => rfl
  | x :: r => by
    refine ⟨a.eval x, r.map a.eval, rfl, ?_, caps_rep hf r⟩
    have := opd_rep hf x
    show CRep g w σ (opd fr x).cap (a.eval x)
    revert this
    cases opd fr x with
    | c c => exact id
    | a l => exact fun _ => trivial
    | t l => exact fun _ => trivial

theorem fold_min {kd : IntKind} : ∀ {l : List V} {vs : List Value} {ns : List Int}, ints l = some ns → VReps g w σ l vs → ∀ (n : Int),
    (vs.foldlM Builtin.min2 (.int kd n)).run P w = .ok (.int kd (ns.foldl prims.imin n)) w
  | [], vs, ns, h, hv, n => by simp only [VReps] at hv; subst hv; simp only [ints] at h; cases h; rfl
  | x :: r, vs, ns, h, hv, n => by
    obtain ⟨v, vr, rfl, h1, h2⟩ := hv
    unfold ints at h
    split at h
    · rename_i e; cases e
    · rename_i kd' m r' e
      cases e
      split at h
      · rename_i l hl
        cases h
        have hv : v = .int kd' m := h1
        subst hv
        simp only [List.foldlM_cons, Builtin.min2, Sem.run_bind, Sem.run_pure, Result.andThen]
        exact fold_min hl h2 _
      · cases h
    · cases h

theorem fold_max {kd : IntKind} : ∀ {l : List V} {vs : List Value} {ns : List Int}, ints l = some ns → VReps g w σ l vs → ∀ (n : Int),
    (vs.foldlM Builtin.max2 (.int kd n)).run P w = .ok (.int kd (ns.foldl prims.imax n)) w
  | [], vs, ns, h, hv, n => by simp only [VReps] at hv; subst hv; simp only [ints] at h; cases h; rfl
  | x :: r, vs, ns, h, hv, n => by
    obtain ⟨v, vr, rfl, h1, h2⟩ := hv
    unfold ints at h
    split at h
    · rename_i e; cases e
    · rename_i kd' m r' e
      cases e
      split at h
      · rename_i l hl
        cases h
        have hv : v = .int kd' m := h1
        subst hv
        simp only [List.foldlM_cons, Builtin.max2, Sem.run_bind, Sem.run_pure, Result.andThen]
        exact fold_max hl h2 _
      · cases h
    · cases h

theorem opds_rep {fr : Fr} {a : Act} (hf : FrRep g w σ fr a.tmps) : ∀ (l : List Operand), VReps g w σ (l.map (opd fr)) (l.map a.eval)
  | [] => rfl
  | x :: r => ⟨a.eval x, r.map a.eval, rfl, opd_rep hf x, opds_rep hf r⟩

theorem good_same {o : Oper} {a : Act} {k : V → St → Prop} (hr : Rep g w σ) (h : ∃ r v, (execOp a.eval o).run P w = .ok (.value v) w ∧ k r σ ∧ VRep g w σ r v) : Good P o a g w σ k := by
  obtain ⟨r, v, h1, h2, h3⟩ := h
  exact ⟨r, σ, g, w, v, _, h1, .inl rfl, h2, hr, Turn.refl _ _ _, h3⟩

theorem good_turn {o : Oper} {a : Act} {k : V → St → Prop} {s : Sem Value} (hs : execOp a.eval o = (do pure (.value (← s)) : Sem Next)) (h : ∃ r σ' g' w' v', s.run P w = .ok v' w' ∧ k r σ' ∧ Rep g' w' σ' ∧ Turn g w σ g' w' σ' ∧ VRep g' w' σ' r v') : Good P o a g w σ k := by
  obtain ⟨r, σ', g', w', v', h1, h2, h3, h4, h5⟩ := h
  exact ⟨r, σ', g', w', v', _, by rw [hs]; simp only [Sem.run_bind, h1, Result.andThen, Sem.run_pure], .inl rfl, h2, h3, h4, h5⟩

theorem good_still {o : Oper} {a : Act} {k : V → St → Prop} (hr : Rep g w σ) {s : Sem Value} (hs : execOp a.eval o = (do pure (.value (← s)) : Sem Next)) (h : ∃ r v', s.run P w = .ok v' w ∧ k r σ ∧ VRep g w σ r v') : Good P o a g w σ k := by
  obtain ⟨r, v', h1, h2, h3⟩ := h
  exact good_turn hs ⟨r, σ, g, w, v', h1, h2, hr, Turn.refl _ _ _, h3⟩

theorem convert_ok (tok : TabOk P tb) (hr : Rep g w σ) {s d : TypeId} {x : V} {u : Value} (hx : VRep g w σ x u) {k : V → St → Prop} (hk : vconv prims tb s d x σ k) :
    ∃ r σ' g' w' v', (convert s d u).run P w = .ok v' w' ∧ k r σ' ∧ Rep g' w' σ' ∧ Turn g w σ g' w' σ' ∧ VRep g' w' σ' r v' := by
  have still : ∀ {r v'}, (convert s d u).run P w = .ok v' w → k r σ → VRep g w σ r v' → ∃ r σ' g' w' v', (convert s d u).run P w = .ok v' w' ∧ k r σ' ∧ Rep g' w' σ' ∧ Turn g w σ g' w' σ' ∧ VRep g' w' σ' r v' :=
    fun {r v'} h1 h2 h3 => ⟨r, σ, g, w, v', h1, h2, hr, Turn.refl _ _ _, h3⟩
  have h1 := (tok s).fits
  have h2 := (tok d).fits
  unfold vconv at hk
  split at hk
  · rename_i k1 k2 k3 n hs hd
    have e1 : u = .int k3 n := hx
    subst e1
    rw [hs] at h1; rw [hd] at h2
    exact still (by simp [convert, run_underlying h1, run_underlying h2, Conv.intToInt]; rfl) hk rfl
  · rename_i k1 k3 n hs hd
    have e1 : u = .int k3 n := hx
    subst e1
    rw [hs] at h1; rw [hd] at h2
    exact still (run_convert_int_float w s d k3 .f64 n (by rw [h1]; rfl) h2) hk rfl
  · rename_i b hs hd
    have e1 := rep_flo hx
    subst e1
    rw [hs] at h1; rw [hd] at h2
    split at hk
    · rename_i n hn
      exact still (run_convert_float_int (P := P) w s d .f64 .i64 b n (by rw [h1]; rfl) h2 hn) hk rfl
    · exact hk.elim
  · rename_i x hs hd
    have e1 := rep_str hx
    subst e1
    rw [hs] at h1; rw [hd] at h2
    exact still (by simp [convert, run_underlying h1, run_underlying h2]) hk rfl
  · rename_i e x hs hd
    split at hk
    · rename_i he
      obtain ⟨r, v', q1, q2, q3⟩ := bytes_ok tok hr hs he hd hx hk
      exact still q1 q2 q3
    · exact hk.elim
  · rename_i e x hs hd
    have e1 := rep_str hx
    subst e1
    split at hk
    · rename_i he
      obtain ⟨hm, hee, hk⟩ := hk
      exact strbytes_ok tok hr hs he hd hm hee hk
    · exact hk.elim
  · exact hk.elim
end
end Go.Dm
