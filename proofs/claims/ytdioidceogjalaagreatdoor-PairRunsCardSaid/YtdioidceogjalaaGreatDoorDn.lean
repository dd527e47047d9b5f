/- The plain machine: reslicing, conversions; one operation. -/
import Derived.Test.YtdioidceogjalaaGreatDoorDm
import Derived.Laws.IdiomStrings
namespace Go.Dm
set_option linter.unusedVariables false
set_option linter.unusedSimpArgs false

section
variable {P : Program} {tb : Tab} {t : TypeId} {g : G} {w : World} {σ : St}

theorem cut_row {cs : List F} {a : Option Addr} {n cap sz lo hi : Nat} (h1 : n ≤ cap) (h3 : (a = none ∧ n = 0 ∧ cs = []) ∨ ∃ b o, a = some ⟨b, o, none⟩ ∧ FRow g w b o cs) (hh : hi ≤ n) (hl : lo ≤ hi) (hm : cap ≤ maxLen) :
    FRep g w (.sl (hi - lo) ((cs.drop (lo * sz)).take ((hi - lo) * sz))) (.slice (if cap = lo then a else a.map (·.add (lo * sz))) (hi - lo) (cap - lo)) := by
  refine ⟨_, _, rfl, by omega, by omega, ?_⟩
  rcases h3 with ⟨rfl, rfl, rfl⟩ | ⟨b, o, rfl, h3⟩
  · left
    exact ⟨by simp, by omega, by simp⟩
  · right
    split
    · refine ⟨b, o, rfl, ?_⟩
      have : hi - lo = 0 := by omega
      rw [this]
      simp [FRow]
    · refine ⟨b, o + lo * sz, by simp [add_addr], (h3.drop _).take _⟩

theorem run_bound {x : V} {v : Value} {j : Int} {kd : IntKind} (hx : VRep g w σ (.c (.f (.int kd j))) v) {y : Nat} {c : BoundsCode} (h : 0 ≤ j ∧ j ≤ y) : (Instr.sliceBound v y c).run P w = .ok j.toNat w := by
  have e1 : v = .int kd j := hx
  subst e1
  simp [Instr.sliceBound, asIntOf, h]

theorem extract_str {s : List UInt8} {a b : Nat} : (Value.string ((ByteArray.mk s.toArray).extract a b)) = .string ⟨((s.drop a).take (b - a)).toArray⟩ := by
  congr 1
  apply ByteArray.ext
  rw [ByteArray.data_extract]
  apply Array.ext'
  simp [List.extract_eq_take_drop]

theorem slice_ok (tok : TabOk P tb) (hr : Rep g w σ) {x : V} {u : Value} (hx : VRep g w σ x u) {fr : Fr} {a : Act} (hf : FrRep g w σ fr a.tmps) {lo hi : Option Operand} {k : V → St → Prop}
    (hk : vslice prims tb t x (lo.map (opd fr)) (hi.map (opd fr)) σ k) :
    ∃ r σ' g' w' v', (Instr.sliceAt t u (lo.map a.eval) (hi.map a.eval) none).run P w = .ok v' w' ∧ k r σ' ∧ Rep g' w' σ' ∧ Turn g w σ g' w' σ' ∧ VRep g' w' σ' r v' := by
  have h3 := (tok t).fits
  have hopd : ∀ {y : Operand} {kd : IntKind} {j : Int}, opd fr y = .c (.f (.int kd j)) → a.eval y = .int kd j := fun {y kd j} h => by
    have := opd_rep hf y
    rw [h] at this
    exact this
  unfold vslice at hk
  split at hk
  · rename_i s hd
    rw [hd] at h3
    have := rep_str hx
    subst this
    have hsz : (ByteArray.mk s.toArray).size = s.length := rfl
    cases lo with
    | none =>
      cases hi with
      | none =>
        refine ⟨_, σ, g, w, .string ⟨s.toArray⟩, ?_, hk, hr, Turn.refl _ _ _, rfl⟩
        have := @extract_str s 0 s.length
        simp only [List.drop_zero, Nat.sub_zero, List.take_length] at this
        simp [Instr.sliceAt, run_underlying h3, Instr.slice, Instr.sliceBounds, hsz, this]
      | some y =>
        simp only [Option.map_none, Option.map_some] at hk
        cases hy : opd fr y with
        | c c => cases c with
          | f f => cases f with
            | int kd b =>
              rw [hy] at hk
              obtain ⟨hb, hk⟩ := hk
              have hb' : (0:Int) ≤ 0 ∧ 0 ≤ b ∧ b ≤ s.length := hb
              have e := hopd hy
              refine ⟨_, σ, g, w, .string ⟨((s.drop 0).take (b.toNat - 0)).toArray⟩, ?_, hk, hr, Turn.refl _ _ _, ?_⟩
              · have := @extract_str s 0 b.toNat
                simp [Instr.sliceAt, run_underlying h3, Instr.slice, Instr.sliceBounds, Instr.sliceBound, asIntOf, e, hsz, hb'.2] at this ⊢
                exact this
              · simp [prims, VRep, CRep, FRep]
            | _ => rw [hy] at hk; exact hk.elim
          | _ => rw [hy] at hk; exact hk.elim
        | _ => rw [hy] at hk; exact hk.elim
    | some z =>
      simp only [Option.map_some] at hk
      cases hz : opd fr z with
      | c c => cases c with
        | f f => cases f with
          | int kd a' =>
            rw [hz] at hk
            have ez := hopd hz
            cases hi with
            | none =>
              simp only [Option.map_none] at hk
              obtain ⟨hb, hk⟩ := hk
              have hb' : (0:Int) ≤ 0 ∧ 0 ≤ a' ∧ a' ≤ s.length := hb
              refine ⟨_, σ, g, w, .string ⟨((s.drop a'.toNat).take (s.length - a'.toNat)).toArray⟩, ?_, hk, hr, Turn.refl _ _ _, ?_⟩
              · have := @extract_str s a'.toNat s.length
                simp [Instr.sliceAt, run_underlying h3, Instr.slice, Instr.sliceBounds, Instr.sliceBound, asIntOf, ez, hsz, hb'.2] at this ⊢
                exact this
              · simp [prims, VRep, CRep, FRep]
            | some y =>
              simp only [Option.map_some] at hk
              cases hy : opd fr y with
              | c c => cases c with
                | f f => cases f with
                  | int kd b =>
                    rw [hy] at hk
                    obtain ⟨hb, hc, hk⟩ := hk
                    have hb' : (0:Int) ≤ 0 ∧ 0 ≤ b ∧ b ≤ s.length := hb
                    have hc' : (0:Int) ≤ 0 ∧ 0 ≤ a' ∧ a' ≤ b := hc
                    have e := hopd hy
                    have hle : a' ≤ (b.toNat : Int) := by omega
                    refine ⟨_, σ, g, w, .string ⟨((s.drop a'.toNat).take (b.toNat - a'.toNat)).toArray⟩, ?_, hk, hr, Turn.refl _ _ _, ?_⟩
                    · have := @extract_str s a'.toNat b.toNat
                      have hle : a' ≤ max b 0 := by omega
                      simp [Instr.sliceAt, run_underlying h3, Instr.slice, Instr.sliceBounds, Instr.sliceBound, asIntOf, ez, e, hsz, hb'.2, hc'.2.1, hle] at this ⊢
                      exact this
                    · simp [prims, VRep, CRep, FRep]
                  | _ => rw [hy] at hk; exact hk.elim
                | _ => rw [hy] at hk; exact hk.elim
              | _ => rw [hy] at hk; exact hk.elim
          | _ => rw [hz] at hk; cases hi <;> exact hk.elim
        | _ => rw [hz] at hk; cases hi <;> exact hk.elim
      | _ => rw [hz] at hk; cases hi <;> exact hk.elim
  · rename_i e hd
    rw [hd] at h3
    have hu : u = .slice none 0 0 := hx
    subst hu
    cases hed : (tb e).d.isNo with
    | true => simp [hed] at hk
    | false =>
    have he : (tb e).d ≠ .no := not_no hed
    simp only [hed, Bool.false_eq_true, if_false] at hk
    have hs := run_sizeOf (P := P) (tok e) he w
    have zero : ∀ {j : Int}, (0:Int) ≤ 0 ∧ 0 ≤ j ∧ j ≤ 0 → j = 0 := fun h => by omega
    cases lo with
    | none =>
      cases hi with
      | none =>
        refine ⟨_, σ, g, w, .slice none 0 0, ?_, hk, hr, Turn.refl _ _ _, rfl⟩
        simp [Instr.sliceAt, run_underlying h3, Instr.slice, Instr.sliceBounds, hs]
      | some y =>
        simp only [Option.map_none, Option.map_some] at hk
        cases hy : opd fr y with
        | c c => cases c with
          | f f => cases f with
            | int kd b =>
              rw [hy] at hk
              obtain ⟨hb, hk⟩ := hk
              have hb' := zero hb
              have ey := hopd hy
              subst hb'
              refine ⟨_, σ, g, w, .slice none 0 0, ?_, hk, hr, Turn.refl _ _ _, rfl⟩
              simp [Instr.sliceAt, run_underlying h3, Instr.slice, Instr.sliceBounds, Instr.sliceBound, asIntOf, ey, hs]
            | _ => rw [hy] at hk; exact hk.elim
          | _ => rw [hy] at hk; exact hk.elim
        | _ => rw [hy] at hk; exact hk.elim
    | some z =>
      simp only [Option.map_some] at hk
      cases hz : opd fr z with
      | c c => cases c with
        | f f => cases f with
          | int kd a' =>
            rw [hz] at hk
            have ez := hopd hz
            cases hi with
            | none =>
              simp only [Option.map_none] at hk
              obtain ⟨hb, hk⟩ := hk
              have hb' := zero hb
              subst hb'
              refine ⟨_, σ, g, w, .slice none 0 0, ?_, hk, hr, Turn.refl _ _ _, rfl⟩
              simp [Instr.sliceAt, run_underlying h3, Instr.slice, Instr.sliceBounds, Instr.sliceBound, asIntOf, ez, hs]
            | some y =>
              simp only [Option.map_some] at hk
              cases hy : opd fr y with
              | c c => cases c with
                | f f => cases f with
                  | int kd b =>
                    rw [hy] at hk
                    obtain ⟨hb, hc, hk⟩ := hk
                    have hb' := zero hb
                    have hc' : (0:Int) ≤ 0 ∧ 0 ≤ a' ∧ a' ≤ b := hc
                    have ha' : a' = 0 := by omega
                    have ey := hopd hy
                    subst hb' ha'
                    refine ⟨_, σ, g, w, .slice none 0 0, ?_, hk, hr, Turn.refl _ _ _, rfl⟩
                    simp [Instr.sliceAt, run_underlying h3, Instr.slice, Instr.sliceBounds, Instr.sliceBound, asIntOf, ez, ey, hs]
                  | _ => rw [hy] at hk; exact hk.elim
                | _ => rw [hy] at hk; exact hk.elim
              | _ => rw [hy] at hk; exact hk.elim
          | _ => rw [hz] at hk; cases hi <;> exact hk.elim
        | _ => rw [hz] at hk; cases hi <;> exact hk.elim
      | _ => rw [hz] at hk; cases hi <;> exact hk.elim
  · rename_i e n cs hd
    rw [hd] at h3
    have hxx := hx
    obtain ⟨ad, cap, rfl, h4, h5, h6⟩ := hx
    cases hed : (tb e).d.isNo with
    | true => simp [hed] at hk
    | false =>
    have he : (tb e).d ≠ .no := not_no hed
    simp only [hed, Bool.false_eq_true, if_false] at hk
    have hs := run_sizeOf (P := P) (tok e) he w
    cases lo with
    | none =>
      cases hi with
      | none =>
        refine ⟨_, σ, g, w, .slice ad n cap, ?_, hk, hr, Turn.refl _ _ _, hxx⟩
        have : (if cap = 0 then ad else ad.map fun x => x.add 0) = ad := by
          split
          · rfl
          · rcases h6 with ⟨rfl, _, _⟩ | ⟨b, o, rfl, _⟩
            · rfl
            · simp [add_addr]
        simp [Instr.sliceAt, run_underlying h3, Instr.slice, Instr.sliceBounds, hs, this]
      | some y =>
        simp only [Option.map_none, Option.map_some] at hk
        cases hy : opd fr y with
        | c c => cases c with
          | f f => cases f with
            | int kd b =>
              rw [hy] at hk
              obtain ⟨hb, hk⟩ := hk
              have hb' : (0:Int) ≤ 0 ∧ 0 ≤ b ∧ b ≤ n := hb
              have ey := hopd hy
              have hc := cut_row (g := g) (w := w) (sz := (tb e).size) (lo := 0) (hi := b.toNat) h4 h6 (by omega) (by omega) h5
              simp only [Nat.zero_mul, List.drop_zero, Nat.sub_zero] at hc
              refine ⟨_, σ, g, w, _, ?_, hk, hr, Turn.refl _ _ _, hc⟩
              have hbc : b ≤ cap := by omega
              simp [Instr.sliceAt, run_underlying h3, Instr.slice, Instr.sliceBounds, Instr.sliceBound, asIntOf, ey, hs, hb'.2.1, hbc]
            | _ => rw [hy] at hk; exact hk.elim
          | _ => rw [hy] at hk; exact hk.elim
        | _ => rw [hy] at hk; exact hk.elim
    | some z =>
      simp only [Option.map_some] at hk
      cases hz : opd fr z with
      | c c => cases c with
        | f f => cases f with
          | int kd a' =>
            rw [hz] at hk
            have ez := hopd hz
            cases hi with
            | none =>
              simp only [Option.map_none] at hk
              obtain ⟨hb, hk⟩ := hk
              have hb' : (0:Int) ≤ 0 ∧ 0 ≤ a' ∧ a' ≤ n := hb
              have hc := cut_row (g := g) (w := w) (sz := (tb e).size) (lo := a'.toNat) (hi := n) h4 h6 (Nat.le_refl _) (by omega) h5
              refine ⟨_, σ, g, w, _, ?_, hk, hr, Turn.refl _ _ _, hc⟩
              simp [Instr.sliceAt, run_underlying h3, Instr.slice, Instr.sliceBounds, Instr.sliceBound, asIntOf, ez, hs, hb'.2]
            | some y =>
              simp only [Option.map_some] at hk
              cases hy : opd fr y with
              | c c => cases c with
                | f f => cases f with
                  | int kd b =>
                    rw [hy] at hk
                    obtain ⟨hb, hc, hk⟩ := hk
                    have hb' : (0:Int) ≤ 0 ∧ 0 ≤ b ∧ b ≤ n := hb
                    have hc' : (0:Int) ≤ 0 ∧ 0 ≤ a' ∧ a' ≤ b := hc
                    have ey := hopd hy
                    have hcc := cut_row (g := g) (w := w) (sz := (tb e).size) (lo := a'.toNat) (hi := b.toNat) h4 h6 (by omega) (by omega) h5
                    refine ⟨_, σ, g, w, _, ?_, hk, hr, Turn.refl _ _ _, hcc⟩
                    have hbc : b ≤ cap := by omega
                    have hle : a' ≤ max b 0 := by omega
                    simp [Instr.sliceAt, run_underlying h3, Instr.slice, Instr.sliceBounds, Instr.sliceBound, asIntOf, ez, ey, hs, hb'.2.1, hbc, hc'.2.1, hle]
                  | _ => rw [hy] at hk; exact hk.elim
                | _ => rw [hy] at hk; exact hk.elim
              | _ => rw [hy] at hk; exact hk.elim
          | _ => rw [hz] at hk; cases hi <;> exact hk.elim
        | _ => rw [hz] at hk; cases hi <;> exact hk.elim
      | _ => rw [hz] at hk; cases hi <;> exact hk.elim
  · rename_i e o ep n hd
    rw [hd] at h3
    cases hed : (tb e).d.isNo with
    | true => simp [hed] at hk
    | false =>
    have he : (tb e).d ≠ .no := not_no hed
    simp only [hed, Bool.false_eq_true, if_false] at hk
    have hs := run_sizeOf (P := P) (tok e) he w
    split at hk
    · rename_i e0 sz l kd b ho hlo hhi
      obtain ⟨q1, q2, hk⟩ := hk
      have he' : ep = e0 := q1
      subst he'
      have hb' : (0:Int) ≤ 0 ∧ 0 ≤ b ∧ b ≤ n := q2
      cases lo with
      | some z => simp at hlo
      | none =>
      cases hi with
      | none => simp at hhi
      | some y =>
      simp only [Option.map_some, Option.some.injEq] at hhi
      have ey := hopd hhi
      obtain ⟨_, ob, h1, h2⟩ := hx
      rw [ho] at h1; cases h1
      obtain ⟨rfl, h4, h5⟩ := h2.2 rfl
      have hlen : (l.take (b.toNat * sz)).length = b.toNat * sz := by
        have : b.toNat * sz ≤ n * sz := Nat.mul_le_mul_right _ (by omega)
        simp; omega
      obtain ⟨g', p1, p2, p3, p4⟩ := re_arr (e' := ep + 4294967296) (l' := l.take (b.toNat * sz)) hr ho (by omega) (by omega) (fun h => by cases h) (by
        rcases hr.ob o _ ho with ⟨k1, k2, k3⟩ | ⟨b', vs, T', fz, rest, k1, k2, k3, k4, k5, ⟨pre, k6, k7, k8⟩, k9⟩
        · left; subst k2; exact ⟨k1, by simp, k3⟩
        · right
          refine ⟨b', vs, T', fz, pre.take (b.toNat * sz), pre.drop (b.toNat * sz) ++ rest, k1, k2, k3, k4, k5, ?_, ?_⟩
          · rw [k6, ← List.append_assoc, List.take_append_drop]
          · rw [List.map_take]; exact (freps k7 k8).take _)
      have hbc : b ≤ g.cap o := by omega
      have hbase : (if g.cap o = 0 then (g.blk o).map (fun b => (⟨b, 0, none⟩ : Addr)) else ((g.blk o).map (fun b => (⟨b, 0, none⟩ : Addr))).map (·.add 0)) = (g.blk o).map (fun b => (⟨b, 0, none⟩ : Addr)) := by
        split
        · rfl
        · cases g.blk o <;> simp [add_addr]
      refine ⟨_, _, g', w, .slice ((g.blk o).map (fun b => (⟨b, 0, none⟩ : Addr))) b.toNat (g.cap o), ?_, hk, p1, p2, ⟨rfl, .arr true (ep + 4294967296) sz (l.take (b.toNat * sz)), (get_set ho).2 (.inl ⟨rfl, rfl⟩), Nat.le_refl _, fun _ => ⟨by rw [p3, p4]; rfl, hlen.symm, by rw [p4]; show b.toNat ≤ _; omega⟩⟩⟩
      simp [Instr.sliceAt, run_underlying h3, Instr.slice, Instr.sliceBounds, Instr.sliceBound, asIntOf, ey, hs, hb'.2.1, hbc]
      simpa using hbase
    · exact hk.elim
  · exact hk.elim
end
end Go.Dm
