/- The plain machine: appending, reslicing (on). -/
import Derived.Test.YtdioidceogjalaaGreatDoorDl
namespace Go.Dm
set_option linter.unusedVariables false
set_option linter.unusedSimpArgs false

section
variable {P : Program} {tb : Tab} {t : TypeId} {g : G} {w : World} {σ : St}

theorem app_room {u e : TypeId} {i : TypeInfo} (ht : P.underlying t = some (.slice e)) (hu : (∃ d, P.underlying u = some (.slice d)) ∨ P.underlying u = some .string) (hi : P.info? e = some i) {T : TypeId} {v : Value} {m : Nat} {news : List Value}
    (hl : (Builtin.lenOf v).run P w = .ok m w) (hf : (Builtin.firstCells i.size m v).run P w = .ok news.toArray w) (base : Option Addr) (sLen sCap : Nat) (hroom : sLen + m ≤ sCap) :
    (Builtin.append_ #[t, u] T #[.slice base sLen sCap, v]).run P w = (do (match base with | some a => storeCells (a.add (sLen * i.size)) news | none => pure ()); pure (.slice base (sLen + m) sCap) : Sem Value).run P w := by
  rcases hu with ⟨d, h1⟩ | h1 <;> cases base <;> simp [Builtin.append_, run_underlying ht, run_underlying h1, sizeOf, typeInfo, hi, hl, hroom, hf]

theorem app_grow {u e : TypeId} {i : TypeInfo} {z : Value} (ht : P.underlying t = some (.slice e)) (hu : (∃ d, P.underlying u = some (.slice d)) ∨ P.underlying u = some .string) (hi : P.info? e = some i) (hz : i.zero = some z) {T : TypeId} {v : Value} {m : Nat} {olds news : List Value}
    (hl : (Builtin.lenOf v).run P w = .ok m w) (hf : (Builtin.firstCells i.size m v).run P w.drew = .ok news.toArray w.drew) (base : Option Addr) (sLen sCap : Nat) (hfo : (Builtin.firstCells i.size sLen (.slice base sLen sCap)).run P w.drew = .ok olds.toArray w.drew)
    (hg : sCap < sLen + m) (h63 : ((sLen + m : Nat) : Int) ≤ 9223372036854775807) (hfit : Builtin.nextslicecap (sLen + m) sCap * i.bytes ≤ 281474976710656) :
    (Builtin.append_ #[t, u] T #[.slice base sLen sCap, v]).run P w =
      .ok (.slice (some ⟨w.heap.size, 0, none⟩) (sLen + m) (grownCap w (sLen + m) sCap e))
        (w.drew.alloc (.cells (olds ++ news ++ (Builtin.zeroCells z.cells (grownCap w (sLen + m) sCap e - (sLen + m))).toList).toArray e)) := by
  have hn : ¬ (sLen + m ≤ sCap) := by omega
  have h63' : ¬ (9223372036854775807 < ((sLen : Int) + (m : Int))) := by omega
  have h48' : ¬ (281474976710656 < Builtin.nextslicecap (sLen + m) sCap * i.bytes) := by omega
  rcases hu with ⟨d, h1⟩ | h1 <;> simp [Builtin.append_, run_underlying ht, run_underlying h1, sizeOf, typeInfo, zeroValue, hi, hz, hl, hn, h63', h48', Question.forced, hf, hfo, newRow, grownCap]
  all_goals (congr 2; apply Array.ext'; simp)

theorem run_info (h : (tb t).Ok P t) (hd : (tb t).d ≠ .no) : ∃ j z, P.info? t = some j ∧ j.size = (tb t).size ∧ j.bytes = (tb t).bytes ∧ j.zero = some z ∧ z.cells.size = (tb t).size := by
  rcases h.info with h0 | ⟨j, h1, h2, h3, ⟨z, h4, h5, h6⟩, h7, h8⟩
  · exact (hd h0).elim
  · refine ⟨j, z, h1, h2, h3, h4, ?_⟩
    have := congrArg List.length h5
    simp at this
    omega

theorem append_ok (tok : TabOk P tb) (hr : Rep g w σ) {e u : TypeId} (hd : (tb t).d = .slice e) (he : (tb e).d ≠ .no) {x y : V} {xv yv : Value} (hx : VRep g w σ x xv) (hy : VRep g w σ y yv) {T : TypeId} {k : V → St → Prop}
    (hk : vappend prims (tb u).d e (tb e).size (tb e).bytes x y σ k) :
    ∃ r σ' g' w' v', (Builtin.append_ #[t, u] T #[xv, yv]).run P w = .ok v' w' ∧ k r σ' ∧ Rep g' w' σ' ∧ Turn g w σ g' w' σ' ∧ VRep g' w' σ' r v' := by
  obtain ⟨m, new, news, hk, hlen, hfirst, hnl, hnr, hu⟩ := src_ok tok hr hy hk
  have h3 := (tok t).fits
  rw [hd] at h3
  obtain ⟨j, z, hi, hs, hb, hz, hzs⟩ := run_info (tok e) he
  have hnl' := hnr.length
  simp at hnl'
  have hone : ∀ v ∈ news, v.oneCell' = true := CReps.one (by simp [C.solid]) hnr
  split at hk
  · -- none yet
    have : xv = .slice none 0 0 := hx
    subst this
    by_cases hm : m = 0
    · subst hm
      have hn0 : new = [] := List.eq_nil_of_length_eq_zero (by omega)
      subst hn0
      refine ⟨.c (.f .nils), σ, g, w, .slice none 0 0, ?_, hk, hr, Turn.refl _ _ _, rfl⟩
      rw [app_room (P := P) (w := w) h3 hu hi hlen (by rw [hs]; exact hfirst w (.inl rfl)) none 0 0 (by omega)]
      rfl
    · have hk' : prims.le (prims.atp (Int.ofNat m) (tb e).bytes) 140737488355328 ∧ prims.le m 9223372036854775807 ∧ prims.le e 4294967295 ∧ k (.c (.rs σ.length e m)) (σ ++ [.arr true e (tb e).size new]) := by
        revert hk
        cases m with
        | zero => exact absurd rfl hm
        | succ m => exact id
      have hb1 : m * (tb e).bytes ≤ 140737488355328 := hk'.1
      have hb2 : m ≤ 9223372036854775807 := hk'.2.1
      have hb3 : e ≤ 4294967295 := hk'.2.2.1
      have hk := hk'.2.2.2
      have hcap := grownCap_ge w m 0 e
      have hcm : grownCap w m 0 e ≤ maxLen := grownCap_le_maxLen w m 0 e (by simp only [maxLen]; omega)
      obtain ⟨d1, d2⟩ := drew_rep hr
      have hsz : (news ++ (Builtin.zeroCells z.cells (grownCap w m 0 e - m)).toList).length = grownCap w m 0 e * (tb e).size := by
        simp only [List.length_append, Array.length_toList, size_zeroCells, hzs, hnl, ← Nat.add_mul]
        congr 1; omega
      obtain ⟨g', p1, p2, p3, p4⟩ := new_arr d1 e (tb e).size (grownCap w m 0 e) (l := new) (vs := news ++ (Builtin.zeroCells z.cells (grownCap w m 0 e - m)).toList) (0, 0) e (Nat.mod_eq_of_lt (Nat.lt_succ_of_le hb3)).symm (.inl rfl) hsz hcm (by simp; omega)
        (fun q a b => by
          rw [List.getElem_append_left (by omega)]
          obtain ⟨v, r1, r2⟩ := hnr.get (i := q) (c := .f new[q]) (by simp [a])
          rw [List.getElem?_eq_getElem (by omega)] at r1
          cases r1
          exact FRep.turn d2.zs _ _ r2)
      refine ⟨_, _, g', _, .slice (some ⟨w.heap.size, 0, none⟩) m (grownCap w m 0 e), ?_, hk, p1, d2.trans p2, ⟨rfl, .arr true e (tb e).size new, by simp, Nat.le_refl _, fun _ => ⟨by rw [p3, p4]; rfl, by omega, by rw [p4]; exact hcap⟩⟩⟩
      have := app_grow (P := P) (w := w) (T := T) h3 hu hi hz (olds := []) hlen (by rw [hs]; exact hfirst _ (.inr rfl)) none 0 0 (by simp [Builtin.firstCells]) (by omega) (by omega) (by rw [Nat.zero_add, hb]; exact growslice_fits (by omega) hb1)
      simpa using this
  · rename_i o ep n _
    split at hk
    · rename_i wr e0 s0 l ho
      obtain ⟨q1, q2, q3, q4, q5, hk⟩ := hk
      have hty : e0 % 4294967296 = e := q5
      have he' : ep = e0 := q1
      have hs' : (tb e).size = s0 := q2
      have hb1 : (n + m) * (tb e).bytes ≤ 140737488355328 := q3
      have hb2 : n + m ≤ 9223372036854775807 := q4
      subst he' hs'
      have hx0 := hx
      obtain ⟨_, ob, h1, h2⟩ := hx
      rw [ho] at h1; cases h1
      obtain ⟨rfl, h4, h5⟩ := h2.2 rfl
      by_cases hroom : n + m ≤ g.cap o
      · -- there is room
        have happ := app_room (P := P) (w := w) (T := T) h3 hu hi hlen (by rw [hs]; exact hfirst w (.inl rfl)) ((g.blk o).map fun b => ⟨b, 0, none⟩) n (g.cap o) hroom
        rcases hr.ob o _ ho with ⟨k1, k2, k3⟩ | ⟨b, vs, T', fz, rest, k1, k2, k3, k4, k5, ⟨pre, k6, k7, k8⟩, k9⟩
        · have hm : m = 0 := by omega
          have hn : n = 0 := by omega
          subst hm hn k2
          have hn0 : new = [] := List.eq_nil_of_length_eq_zero (by omega)
          subst hn0
          obtain ⟨g', p1, p2, p3, p4⟩ := re_arr (e' := ep + 4294967296) (l' := []) hr ho (by omega) (by omega) (fun _ => Nat.le_refl _) (.inl ⟨k1, rfl, k3⟩)
          refine ⟨_, _, g', w, .slice none 0 (g.cap o), ?_, hk, p1, p2, ⟨rfl, .arr wr (ep + 4294967296) (tb e).size [], (get_set ho).2 (.inl ⟨rfl, rfl⟩), Nat.le_refl _, fun _ => ⟨by rw [p3, p4, k1]; rfl, by simp [prims], Nat.zero_le _⟩⟩⟩
          rw [happ, k1]; rfl
        · have hfit : l.length + news.length ≤ vs.size := by rw [← h4, hnl, k4, ← Nat.add_mul]; exact Nat.mul_le_mul_right _ hroom
          obtain ⟨t1, t2⟩ := tail_arr (news := news) hr ho k1 k2 k3 k4 k5 hfit
          have hlt : b < w.heap.size := (Array.getElem?_eq_some_iff.1 k2).1
          have hpre : vs.toList.take l.length = pre := by rw [k6, ← k7]; exact List.take_left
          have hsz : (vs.toList.take l.length ++ news ++ vs.toList.drop (l.length + news.length)).length = vs.size := by simp; omega
          obtain ⟨g', p1, p2, p3, p4⟩ := re_arr (e' := ep + 4294967296) (l' := l ++ new) t1 ho (by omega) (by omega) (fun _ => by simp)
            (.inr ⟨b, _, T', fz, pre ++ news, vs.toList.drop (l.length + news.length), k1, at_same hlt, by rw [List.size_toArray, hsz]; exact k3, by rw [List.size_toArray, hsz]; exact k4, k5, by rw [hpre],
              by rw [List.map_append]; exact CReps.turn t2 _ _ ((freps k7 k8).append hnr)⟩)
          refine ⟨_, _, g', _, .slice (some ⟨b, 0, none⟩) (n + m) (g.cap o), ?_, hk, p1, t2.trans p2, ⟨rfl, .arr wr (ep + 4294967296) (tb e).size (l ++ new), (get_set ho).2 (.inl ⟨rfl, rfl⟩), Nat.le_refl _, fun _ => ⟨by rw [p3, p4, k1]; rfl, by simp only [prims, List.length_append]; rw [← h4, ← hnl', hnl, ← Nat.add_mul], by rw [p4]; exact hroom⟩⟩⟩
          rw [happ, k1]
          have hst := run_storeRow (P := P) b (n * j.size) T' fz news 0 vs w k2 k3 (by rw [hs, h4]; simpa using hfit) hone
          simp only [Option.map_some, add_addr, Nat.zero_add, Sem.run_bind, hst, Result.andThen, Sem.run_pure, Nat.add_zero]
          rw [hs, h4, at_eq_setRow k2]
      · -- it moves
        have hcap := grownCap_ge w (n + m) (g.cap o) e
        have hcm : grownCap w (n + m) (g.cap o) e ≤ maxLen := grownCap_le_maxLen w (n + m) (g.cap o) e (by simp only [maxLen]; omega)
        obtain ⟨d1, d2⟩ := drew_rep hr
        have hold : ∃ olds : List Value, olds.length = n * (tb e).size ∧ CReps g w σ (l.map .f) olds ∧ (Builtin.firstCells j.size n (.slice ((g.blk o).map fun b => ⟨b, 0, none⟩) n (g.cap o))).run P w.drew = .ok olds.toArray w.drew := by
          cases hbk : g.blk o with
          | none =>
            rcases hr.ob o _ ho with ⟨k1, k2, k3⟩ | ⟨c, vs, T, fz, rest, k1, _⟩
            · subst k2
              have hn : n = 0 := by omega
              subst hn
              exact ⟨[], by simp, rfl, by simp [Builtin.firstCells]⟩
            · rw [hbk] at k1; cases k1
          | some b =>
            obtain ⟨vs, r1, r2, r3⟩ := arr_vals hr ho hbk
            refine ⟨vs, by omega, r3, run_firstCells_some w.drew j.size n ⟨b, 0, none⟩ n _ vs (by rw [hs]; omega) (fun q u hu => ?_)⟩
            rw [add_addr, Nat.zero_add]
            exact r2 q u hu
        obtain ⟨olds, o1, o2, o3⟩ := hold
        have happ := app_grow (P := P) (w := w) (T := T) h3 hu hi hz hlen (by rw [hs]; exact hfirst _ (.inr rfl)) ((g.blk o).map fun b => ⟨b, 0, none⟩) n (g.cap o) o3 (by omega) (by omega) (by rw [hb]; exact growslice_fits (by omega) hb1)
        have hsz : (olds ++ news ++ (Builtin.zeroCells z.cells (grownCap w (n + m) (g.cap o) e - (n + m))).toList).length = grownCap w (n + m) (g.cap o) e * (tb e).size := by
          simp only [List.length_append, Array.length_toList, size_zeroCells, hzs, hnl, o1, ← Nat.add_mul]
          congr 1; omega
        obtain ⟨g', p1, p2, p3, p4⟩ := move_arr (l' := l ++ new) d1 ho e (e' := ep + 4294967296) (by omega) (by rw [Nat.add_mod_right]; exact hty.symm) (grownCap w (n + m) (g.cap o) e) hsz hcm (pre := olds ++ news) rfl (by rw [List.map_append]; exact CReps.turn d2 _ _ (o2.append hnr))
        refine ⟨_, _, g', _, _, happ, hk, p1, d2.trans p2, ⟨rfl, .arr wr (ep + 4294967296) (tb e).size (l ++ new), (get_set ho).2 (.inl ⟨rfl, rfl⟩), Nat.le_refl _, fun _ => ⟨by rw [p3, p4]; rfl, by simp only [prims, List.length_append]; rw [← h4, ← hnl', hnl, ← Nat.add_mul], by rw [p4]; exact hcap⟩⟩⟩
    · exact hk.elim
  · exact hk.elim
end
end Go.Dm
