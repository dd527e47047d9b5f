/- The plain machine: addresses of parts, parts, lengths. -/
import Derived.Test.YtdioidceogjalaaGreatDoorDj
namespace Go.Dm
set_option linter.unusedVariables false
set_option linter.unusedSimpArgs false

section
variable {P : Program} {tb : Tab} {t : TypeId} {g : G} {w : World} {σ : St}

theorem addr_rep {x : V} {v : Value} (h : VRep g w σ x v) : VRep g w σ (addr x) v := by
  unfold addr
  split
  · obtain ⟨b, rfl, h1⟩ := h
    exact ⟨b, 0, rfl, h1⟩
  · exact h

theorem vmore_eq (off fo : Nat) : vmore prims off fo = off + fo := by
  unfold vmore
  split
  · rfl
  · rfl

/-- An address that is moved on. -/
theorem pa_move (hr : Rep g w σ) {o e off : Nat} {v : Value} (h : CRep g w σ (.pa o e off) v) {wr : Bool} {sz : Nat} {l : List F} (ho : σ[o]? = some (.arr wr e sz l)) (m : Nat) :
    ∃ b, v = .pointer (some ⟨b, off, none⟩) ∧ CRep g w σ (.pa o e (off + m)) (.pointer (some ⟨b, off + m, none⟩)) := by
  obtain ⟨_, ob, h1, h2⟩ := h
  rw [ho] at h1; cases h1
  obtain ⟨b, h3, rfl⟩ := h2.2 rfl
  exact ⟨b, rfl, rfl, _, ho, Nat.le_refl _, fun _ => ⟨b, h3, rfl⟩⟩

theorem run_fieldAt (tok : TabOk P tb) {fs : List (Nat × TypeId)} (hd : (tb t).d = .struct fs) {i off : Nat} {u : TypeId} (hf : fs[i]? = some (off, u)) (hs : (tb u).size ≠ 0) (hu : (tb u).d ≠ .no) (b o : Nat) :
    (Instr.fieldAt t (.pointer (some ⟨b, o, none⟩)) i).run P w = .ok (.pointer (some ⟨b, o + off, none⟩)) w := by
  obtain ⟨fields, h3, h4⟩ := run_fields hd (tok t)
  subst h4
  rw [List.getElem?_map] at hf
  cases hx : fields.toList[i]? with
  | none => rw [hx] at hf; cases hf
  | some f =>
    rw [hx] at hf
    cases hf
    rw [Array.getElem?_toList] at hx
    simp only [Instr.fieldAt, Sem.run_bind, run_underlying h3, Result.andThen, hx, Instr.sureAddr, Sem.run_pure, fieldPlace, run_sizeOf (tok f.type) hu, hs, if_false, add_addr]

theorem fieldAddr_ok (tok : TabOk P tb) (hr : Rep g w σ) {fs : List (Nat × TypeId)} (hd : (tb t).d = .struct fs) {i off : Nat} {u : TypeId} (hf : fs[i]? = some (off, u)) (hs : (tb u).size ≠ 0) (hu : (tb u).d ≠ .no)
    {x : V} {v : Value} (hx : VRep g w σ x v) {k : V → Prop} (hk : vfield prims x off σ k) : ∃ r v', (Instr.fieldAt t v i).run P w = .ok v' w ∧ k r ∧ VRep g w σ r v' := by
  unfold vfield at hk
  split at hk
  · rename_i o p
    obtain ⟨b, ob, h1, rfl, h2, h3⟩ := hx
    exact ⟨_, _, run_fieldAt tok hd hf hs hu b p, hk, ⟨b, ob, h1, rfl, h2, h3⟩⟩
  · rename_i cs p
    obtain ⟨b, o, rfl, h1⟩ := hx
    rw [vmore_eq] at hk
    exact ⟨_, _, run_fieldAt tok hd hf hs hu b (o + p), hk, ⟨b, o, by rw [Nat.add_assoc], h1⟩⟩
  · rename_i o e p
    split at hk
    · rename_i wr e0 sz l ho
      obtain ⟨he, hk⟩ := hk
      have he' : e = e0 := he
      subst he'
      rw [vmore_eq] at hk
      obtain ⟨b, rfl, h1⟩ := pa_move hr hx ho off
      exact ⟨_, _, run_fieldAt tok hd hf hs hu b p, hk, h1⟩
    · exact hk.elim
  · exact hk.elim

theorem run_part (h : (tb t).Ok P t) (hd : (tb t).d ≠ .no) {l : List C} {vs : List Value} (hl : CReps g w σ l vs) {off : Nat} {k : V → Prop} (hk : vpart (tb t).agg l off (tb t).size k) :
    ∃ r v, (part t vs.toArray off).run P w = .ok v w ∧ k r ∧ VRep g w σ r v := by
  unfold vpart at hk
  split at hk
  · rename_i ha
    split at hk
    · rename_i r hc
      obtain ⟨h1, rfl⟩ := cut_spec hc
      refine ⟨_, .agg ((vs.drop off).take (tb t).size).toArray, ?_, hk, ⟨_, rfl, (hl.drop off).take _⟩⟩
      simp only [part, Sem.run_bind, run_isAgg h hd, Result.andThen, ha, if_true, run_sizeOf h hd, Sem.run_pure]
      congr 2
      apply Array.ext'
      simp [List.extract_eq_take_drop]
    · exact hk.elim
  · rename_i ha
    split at hk
    · rename_i c hc
      obtain ⟨v, h1, h2⟩ := hl.get hc
      refine ⟨_, v, ?_, hk, h2⟩
      simp only [part, Sem.run_bind, run_isAgg h hd, Result.andThen, ha]
      simp [h1]
    · exact hk.elim

theorem field_ok (tok : TabOk P tb) {fs : List (Nat × TypeId)} (hd : (tb t).d = .struct fs) {i off : Nat} {u : TypeId} (hf : fs[i]? = some (off, u)) (hu : (tb u).d ≠ .no)
    {l : List C} {v : Value} (hx : VRep g w σ (.a l) v) {k : V → Prop} (hk : vpart (tb u).agg l off (tb u).size k) : ∃ r v', (Instr.field t v i).run P w = .ok v' w ∧ k r ∧ VRep g w σ r v' := by
  obtain ⟨fields, h3, h4⟩ := run_fields hd (tok t)
  subst h4
  obtain ⟨vs, rfl, hl⟩ := hx
  rw [List.getElem?_map] at hf
  cases hx : fields.toList[i]? with
  | none => rw [hx] at hf; cases hf
  | some f =>
    rw [hx] at hf
    cases hf
    rw [Array.getElem?_toList] at hx
    obtain ⟨r, v, h5, h6, h7⟩ := run_part (tok f.type) hu hl hk
    refine ⟨r, v, ?_, h6, h7⟩
    simp only [Instr.field, Sem.run_bind, run_underlying h3, Result.andThen, hx, asAgg, Sem.run_pure, h5]

theorem run_indexRow {e : TypeId} (tok : TabOk P tb) (hd : (tb t).d = .slice e) (he : (tb e).d ≠ .no) {j : Int} {n cap b o : Nat} {kd : IntKind} (hj : 0 ≤ j ∧ j < n) :
    (Instr.indexAt t (.slice (some ⟨b, o, none⟩) n cap) (.int kd j)).run P w = .ok (.pointer (some ⟨b, o + j.toNat * (tb e).size, none⟩)) w := by
  have h3 := (tok t).fits
  rw [hd] at h3
  simp only [Instr.indexAt, asIntOf, Sem.run_bind, Sem.run_pure, Result.andThen, run_underlying h3, if_pos hj, run_sizeOf (tok e) he, add_addr]

theorem run_indexArr {e : TypeId} (tok : TabOk P tb) {n : Nat} (hd : (tb t).d = .array n e) (he : (tb e).d ≠ .no) {j : Int} {b o : Nat} {kd : IntKind} (hj : 0 ≤ j ∧ j < n) :
    (Instr.indexAt t (.pointer (some ⟨b, o, none⟩)) (.int kd j)).run P w = .ok (.pointer (some ⟨b, o + j.toNat * (tb e).size, none⟩)) w := by
  have h3 := (tok t).fits
  rw [hd] at h3
  simp only [Instr.indexAt, asIntOf, Sem.run_bind, Sem.run_pure, Result.andThen, run_underlying h3, if_pos hj, run_sizeOf (tok e) he, add_addr, Instr.sureAddr]

theorem indexAddr_ok (tok : TabOk P tb) (hr : Rep g w σ) {x y : V} {u v : Value} (hx : VRep g w σ x u) (hy : VRep g w σ y v) {k : V → Prop} (hk : vindexAddr prims tb t x y σ k) :
    ∃ r v', (Instr.indexAt t u v).run P w = .ok v' w ∧ k r ∧ VRep g w σ r v' := by
  unfold vindexAddr at hk
  split at hk
  · rename_i e n cs kd j hd
    have hv : v = .int kd j := hy
    subst hv
    have hk' : (tb e).d ≠ .no ∧ (0 ≤ j ∧ j < n) ∧ k (.c (.ep cs (j.toNat * (tb e).size))) := by
      split at hk
      · exact hk.elim
      · rename_i hn; exact ⟨fun h => hn (h ▸ rfl), hk⟩
    obtain ⟨he, hj, hk⟩ := hk'
    obtain ⟨a, cap, rfl, h1, h2, h3⟩ := hx
    rcases h3 with ⟨rfl, rfl, rfl⟩ | ⟨b, o, rfl, h3⟩
    · omega
    · exact ⟨_, _, run_indexRow tok hd he hj, hk, ⟨b, o, rfl, h3⟩⟩
  · rename_i e o ep n kd j hd
    have hv : v = .int kd j := hy
    subst hv
    have hk' : (tb e).d ≠ .no ∧ ∃ wr sz l, σ[o]? = some (.arr wr ep sz l) ∧ (0 ≤ j ∧ j < n) ∧ k (.c (.pa o ep (j.toNat * (tb e).size))) := by
      split at hk
      · exact hk.elim
      · rename_i ho hn
        rename_i wr e0 sz l
        obtain ⟨h1, h2, h3⟩ := hk
        have h1' : ep = e0 := h1
        subst h1'
        exact ⟨fun h => hn (h ▸ rfl), _, _, _, ho, h2, h3⟩
      · exact hk.elim
    obtain ⟨he, wr, sz, l, ho, hj, hk⟩ := hk'
    obtain ⟨_, ob, h1, h2⟩ := hx
    rw [ho] at h1; cases h1
    obtain ⟨_, h3⟩ := h2
    obtain ⟨rfl, h4, h5⟩ := h3 rfl
    rcases hr.ob o _ ho with ⟨k1, k2, k3⟩ | ⟨c, vs, T, fz, rest, k1, _⟩
    · omega
    · rw [k1]
      refine ⟨_, _, run_indexRow tok hd he hj, hk, ⟨rfl, _, ho, Nat.le_refl _, fun _ => ⟨c, k1, ?_⟩⟩⟩
      simp
  · rename_i n e o off kd j hd
    have hv : v = .int kd j := hy
    subst hv
    have hk' : (tb e).d ≠ .no ∧ 0 ≤ j ∧ j < n ∧ k (.c (.ptr o (off + j.toNat * (tb e).size))) := by
      split at hk
      · exact hk.elim
      · rename_i hn; exact ⟨fun h => hn (h ▸ rfl), hk⟩
    obtain ⟨he, h0, hj, hk⟩ := hk'
    obtain ⟨b, ob, h1, rfl, h2, h3⟩ := hx
    exact ⟨_, _, run_indexArr tok hd he ⟨h0, hj⟩, hk, ⟨b, ob, h1, rfl, h2, h3⟩⟩
  · rename_i n e cs off kd j hd
    have hv : v = .int kd j := hy
    subst hv
    have hk' : (tb e).d ≠ .no ∧ 0 ≤ j ∧ j < n ∧ k (.c (.ep cs (off + j.toNat * (tb e).size))) := by
      split at hk
      · exact hk.elim
      · rename_i hn; rw [← vmore_eq]; exact ⟨fun h => hn (h ▸ rfl), hk⟩
    obtain ⟨he, h0, hj, hk⟩ := hk'
    obtain ⟨b, o, rfl, h1⟩ := hx
    exact ⟨_, _, run_indexArr tok hd he ⟨h0, hj⟩, hk, ⟨b, o, by rw [Nat.add_assoc], h1⟩⟩
  · rename_i n e o ep off kd j hd
    have hv : v = .int kd j := hy
    subst hv
    have hk' : (tb e).d ≠ .no ∧ ∃ wr sz l, σ[o]? = some (.arr wr ep sz l) ∧ 0 ≤ j ∧ j < n ∧ k (.c (.pa o ep (off + j.toNat * (tb e).size))) := by
      split at hk
      · exact hk.elim
      · rename_i ho hn
        rename_i wr e0 sz l
        obtain ⟨h1, h2, h3, h4⟩ := hk
        have h1' : ep = e0 := h1
        subst h1'
        rw [vmore_eq] at h4
        exact ⟨fun h => hn (h ▸ rfl), _, _, _, ho, h2, h3, h4⟩
      · exact hk.elim
    obtain ⟨he, wr, sz, l, ho, h0, hj, hk⟩ := hk'
    obtain ⟨b, rfl, h1⟩ := pa_move hr hx ho (j.toNat * (tb e).size)
    exact ⟨_, _, run_indexArr tok hd he ⟨h0, hj⟩, hk, h1⟩
  · exact hk.elim

theorem index_ok (tok : TabOk P tb) {x y : V} {u v : Value} (hx : VRep g w σ x u) (hy : VRep g w σ y v) {k : V → Prop} (hk : vindex prims tb t x y k) :
    ∃ r v', (Instr.index t u v).run P w = .ok v' w ∧ k r ∧ VRep g w σ r v' := by
  unfold vindex at hk
  split at hk
  · rename_i s kd j hd
    have e1 : v = .int kd j := hy
    have e2 := rep_str hx
    subst e1 e2
    obtain ⟨hj, hk⟩ := hk
    have h3 := (tok t).fits
    rw [hd] at h3
    have hj' : 0 ≤ j ∧ j < s.length := hj
    refine ⟨_, .int .u8 (s.getD j.toNat 0).toNat, ?_, hk, rfl⟩
    have hb : (ByteArray.mk s.toArray)[j.toNat]? = some (s.getD j.toNat 0) := by
      have hlt : j.toNat < s.length := by omega
      have : j.toNat < (ByteArray.mk s.toArray).size := hlt
      rw [getElem?_pos (ByteArray.mk s.toArray) j.toNat this]
      congr 1
      simp [List.getD_eq_getElem?_getD, hlt]
      rfl
    simp only [Instr.index, asIntOf, Sem.run_bind, Sem.run_pure, Result.andThen, run_underlying h3, if_pos hj'.1, hb]
  · rename_i n e l kd j hd
    have e1 : v = .int kd j := hy
    subst e1
    obtain ⟨vs, rfl, hl⟩ := hx
    have h3 := (tok t).fits
    rw [hd] at h3
    have hk' : (tb e).d ≠ .no ∧ (0 ≤ j ∧ j < n) ∧ vpart (tb e).agg l (j.toNat * (tb e).size) (tb e).size k := by
      split at hk
      · exact hk.elim
      · rename_i hn; exact ⟨fun h => hn (h ▸ rfl), ⟨hk.1, hk.2.1⟩, hk.2.2⟩
    obtain ⟨he, hj, hk⟩ := hk'
    obtain ⟨r, v', h5, h6, h7⟩ := run_part (tok e) he hl hk
    refine ⟨r, v', ?_, h6, h7⟩
    simp only [Instr.index, asIntOf, Sem.run_bind, Sem.run_pure, Result.andThen, run_underlying h3, if_pos hj, run_sizeOf (tok e) he, h5]
  · exact hk.elim

theorem len_ok (tok : TabOk P tb) {at' : Array TypeId} {T : TypeId} (h0 : at'[0]? = some t) (hd : (tb t).d = .str ∨ ∃ e, (tb t).d = .slice e) {x : V} {u : Value} (hx : VRep g w σ x u) {k : V → Prop} (hk : vlen prims (tb t).d x σ k) :
    ∃ r v', (Builtin.len_ at' T #[u]).run P w = .ok v' w ∧ k r ∧ VRep g w σ r v' := by
  have h3 := (tok t).fits
  unfold vlen at hk
  split at hk
  · rename_i s hd'
    have e2 := rep_str hx
    subst e2
    rw [hd'] at h3
    exact ⟨_, _, by simp only [Builtin.len_, h0, List.getElem?_toArray, List.getElem?_cons_zero, Sem.run_bind, run_underlying h3, Result.andThen, Sem.run_pure, goInt]; rfl, hk, rfl⟩
  · rename_i e hd'
    have e2 : u = .slice none 0 0 := hx
    subst e2
    rw [hd'] at h3
    exact ⟨_, _, by simp only [Builtin.len_, h0, List.getElem?_toArray, List.getElem?_cons_zero, Sem.run_bind, run_underlying h3, Result.andThen, Sem.run_pure, goInt]; rfl, hk, rfl⟩
  · rename_i e n cs hd'
    obtain ⟨a, cap, rfl, _⟩ := hx
    rw [hd'] at h3
    exact ⟨_, _, by simp only [Builtin.len_, h0, List.getElem?_toArray, List.getElem?_cons_zero, Sem.run_bind, run_underlying h3, Result.andThen, Sem.run_pure, goInt]; rfl, hk, rfl⟩
  · rename_i e o ep n hd'
    obtain ⟨_, ob, h1, h2⟩ := hx
    split at hk
    · rename_i wr e0 sz l ho
      rw [ho] at h1; cases h1
      obtain ⟨rfl, _⟩ := h2.2 hk.1
      rw [hd'] at h3
      exact ⟨_, _, by simp only [Builtin.len_, h0, List.getElem?_toArray, List.getElem?_cons_zero, Sem.run_bind, run_underlying h3, Result.andThen, Sem.run_pure, goInt]; rfl, hk.2, rfl⟩
    · exact hk.elim
  · exact hk.elim
end
end Go.Dm
