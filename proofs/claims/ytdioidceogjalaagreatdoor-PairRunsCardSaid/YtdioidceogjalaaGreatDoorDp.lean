/- The plain machine: one operation is the model's. -/
import Derived.Test.YtdioidceogjalaaGreatDoorDo
namespace Go.Dm
set_option linter.unusedVariables false
set_option linter.unusedSimpArgs false

section
variable {P : Program} {tb : Tab} {g : G} {w : World} {σ : St}

theorem un_ok {op : UnOp} {x : V} {u : Value} (hx : VRep g w σ x u) {k : V → Prop} (hk : vun prims op x k) : ∃ r v, (Op.unary op u).run P w = .ok v w ∧ k r ∧ VRep g w σ r v := by
  unfold vun at hk
  split at hk
  · rename_i b
    have := rep_bool hx
    subst this
    exact ⟨_, _, rfl, hk, rfl⟩
  · rename_i j n
    have := rep_int hx
    subst this
    exact ⟨_, .int j (j.wrap (0 - n)), by simp [Op.unary, Op.intArith], hk, rfl⟩
  · exact hk.elim

theorem pick_ok {c a b : V} {u v x : Value} (hc : VRep g w σ c u) (ha : VRep g w σ a v) (hb : VRep g w σ b x) {k : V → Prop} (hk : vpick c a b k) :
    ∃ r y, (do pure (Next.value (if ← asBool u then v else x)) : Sem Next).run P w = .ok (.value y) w ∧ k r ∧ VRep g w σ r y := by
  obtain ⟨t, rfl, hk⟩ : ∃ t, c = .c (.f (.bool t)) ∧ (match t with | true => k a | false => k b) := by
    unfold vpick at hk
    split at hk
    · exact ⟨_, rfl, hk⟩
    · exact hk.elim
  have := rep_bool hc
  subst this
  cases t with
  | true => exact ⟨a, v, rfl, hk, ha⟩
  | false => exact ⟨b, x, rfl, hk, hb⟩

theorem no_of {t : TypeId} {p : Prop} (h : match (tb t).d with | .no => False | _ => p) : (tb t).d ≠ .no ∧ p := by
  split at h
  · exact h.elim
  · rename_i hn; exact ⟨fun e => hn e, h⟩

theorem call_run {o : Oper} {b : Builtin} {args : Array Operand} {at' : Array TypeId} {a : Act} (ho : o.op = .call { callee := .builtin b, args, argTypes := at' }) :
    (execOp a.eval o).run P w = (builtin b at' o.type (args.map fun | .const _ => true | _ => false) (args.map a.eval)).run P w := by
  unfold execOp
  simp only [ho, resolve, invoke, Sem.run_bind, Sem.run_pure, Result.andThen]
  rfl

theorem vop_ok (tok : TabOk P tb) (hr : Rep g w σ) {o : Oper} {a : Act} {fr : Fr} (hf : FrRep g w σ fr a.tmps) {k : V → St → Prop} (hk : vop prims tb o.op fr σ k) : Good P o a g w σ k := by
  have opr := fun x => opd_rep hf x
  generalize hop : o.op = op at hk
  cases op with
  | move x => exact good_same hr ⟨_, _, by simp only [execOp, hop, Sem.run_pure], hk, opr x⟩
  | assign x => exact good_same hr ⟨_, _, by simp only [execOp, hop, Sem.run_pure], hk, opr x⟩
  | pick c x y =>
    obtain ⟨r, v, h1, h2, h3⟩ := pick_ok (P := P) (k := fun v => k v σ) (opr c) (opr x) (opr y) hk
    exact good_same hr ⟨r, v, by simp only [execOp, hop]; exact h1, h2, h3⟩
  | alloc t =>
    obtain ⟨h1, h2⟩ := no_of hk
    exact good_turn (by simp only [execOp, hop]) (alloc_ok (tok t) h1 hr h2)
  | box t x =>
    simp only [vop] at hk
    split at hk
    · rename_i l hl
      exact good_turn (by simp only [execOp, hop]) (box_ok (t := t) hr (opr x) hl hk)
    · exact hk.elim
  | build t parts =>
    simp only [vop] at hk
    split at hk
    · rename_i fs hd
      split at hk
      · rename_i hall
        split at hk
        · rename_i l hl
          obtain ⟨v, h1, h2⟩ := build_struct_ok tok hd hall hf hl
          exact good_still hr (by simp only [execOp, hop]) ⟨_, v, h1, hk, h2⟩
        · exact hk.elim
      · exact hk.elim
    · rename_i n e hd
      split at hk
      · rename_i l hl
        obtain ⟨he, hk⟩ := no_of hk
        obtain ⟨v, h1, h2⟩ := build_array_ok tok hd he hf hl
        exact good_still hr (by simp only [execOp, hop]) ⟨_, v, h1, hk, h2⟩
      · exact hk.elim
    · exact hk.elim
  | buildSlice t n parts =>
    simp only [vop] at hk
    split at hk
    · rename_i e hd
      obtain ⟨he, hk⟩ := no_of hk
      split at hk
      · rename_i hn
        split at hk
        · rename_i l hl
          exact good_turn (by simp only [execOp, hop]) (buildSlice_ok tok hd he hr hf hn.1 (by simp only [maxLen]; omega) hn.2.2 hl hk)
        · exact hk.elim
      · exact hk.elim
    · exact hk.elim
  | load t x =>
    obtain ⟨h1, h2⟩ := no_of hk
    obtain ⟨r, v, h3, h4, h5⟩ := load_ok (tok t) h1 hr (addr_rep (opr x)) h2
    exact good_still hr (by simp only [execOp, hop]) ⟨r, v, h3, h5, h4⟩
  | store t x y =>
    obtain ⟨h1, h2⟩ := no_of hk
    obtain ⟨σ', g', w', h3, h4, h5, h6⟩ := store_ok (P := P) (tok t) h1 hr (opr x) (opr y) h2
    refine ⟨_, σ', g', w', undef, .skip, ?_, .inr ⟨rfl, rfl⟩, h6, h4, h5, trivial⟩
    simp only [execOp, hop, Sem.run_bind, h3, Result.andThen, Sem.run_pure]
  | nilCheck x =>
    simp only [vop] at hk
    have hx := opr x
    split at hk
    · rename_i p off e
      rw [e] at hx
      obtain ⟨b, ob, h1, h2, h3, h4⟩ := hx
      refine good_same hr ⟨_, _, ?_, hk, ⟨b, ob, h1, rfl, h3, h4⟩⟩
      simp only [execOp, hop, h2, Sem.run_pure]
    · rename_i cs e
      rw [e] at hx
      obtain ⟨b, h1, h2⟩ := hx
      refine good_same hr ⟨_, _, ?_, hk, ⟨b, rfl, h2⟩⟩
      simp only [execOp, hop, h1, Sem.run_pure]
    · rename_i cs off e
      rw [e] at hx
      obtain ⟨b, p, h1, h2⟩ := hx
      refine good_same hr ⟨_, _, ?_, hk, ⟨b, p, rfl, h2⟩⟩
      simp only [execOp, hop, h1, Sem.run_pure]
    · rename_i p ep off e
      rw [e] at hx
      split at hk
      · rename_i wr e0 sz l ho
        obtain ⟨q1, hk⟩ := hk
        have he' : ep = e0 := q1
        subst he'
        obtain ⟨b, h1, h2⟩ := pa_move hr hx ho 0
        refine good_same hr ⟨_, _, ?_, hk, h2⟩
        simp only [execOp, hop, h1, Sem.run_pure, Nat.add_zero]
      · exact hk.elim
    · exact hk.elim
  | binOp op t x y p =>
    obtain ⟨z, h1, h2, h3⟩ := bin_ok (P := P) (w := w) (k := fun v => k v σ) (tok t).fits (X := x) (Y := y) (opr x) (opr y) hk
    exact good_still hr (by simp only [execOp, hop]) ⟨.c (.f z), _, h1, h2, zval_rep h3⟩
  | unOp op t x =>
    obtain ⟨r, v, h1, h2, h3⟩ := un_ok (P := P) (k := fun v => k v σ) (opr x) hk
    exact good_still hr (by simp only [execOp, hop]) ⟨r, v, h1, h2, h3⟩
  | convert s d x => exact good_turn (by simp only [execOp, hop]) (convert_ok tok hr (opr x) hk)
  | slice t x lo hi mx =>
    cases mx with
    | some m => exact hk.elim
    | none => exact good_turn (by simp only [execOp, hop]; rfl) (slice_ok tok hr (opr x) hf hk)
  | fieldAddr t x i =>
    simp only [vop] at hk
    split at hk
    · rename_i fs hd
      split at hk
      · rename_i off u hfs
        split at hk
        · exact hk.elim
        · rename_i hs
          obtain ⟨hu, hk⟩ := no_of hk
          obtain ⟨r, v, h1, h2, h3⟩ := fieldAddr_ok tok hr hd hfs (fun e => hs e) hu (addr_rep (opr x)) hk
          exact good_still hr (by simp only [execOp, hop]) ⟨r, v, h1, h2, h3⟩
      · exact hk.elim
    · exact hk.elim
  | field t x i =>
    simp only [vop] at hk
    split at hk
    · rename_i fs l hd hx
      split at hk
      · rename_i off u hfs
        obtain ⟨hu, hk⟩ := no_of hk
        have hx' := opr x
        rw [hx] at hx'
        exact good_still hr (by simp only [execOp, hop]) (field_ok tok hd hfs hu hx' hk)
      · exact hk.elim
    · exact hk.elim
  | indexAddr t x i => exact good_still hr (by simp only [execOp, hop]) (indexAddr_ok tok hr (addr_rep (opr x)) (opr i) hk)
  | index t x i => exact good_still hr (by simp only [execOp, hop]) (index_ok tok (opr x) (opr i) hk)
  | extract x i =>
    simp only [vop] at hk
    split at hk
    · rename_i l hx
      split at hk
      · rename_i v hv
        have hx' := opr x
        rw [hx] at hx'
        obtain ⟨vs, h1, h2⟩ := hx'
        obtain ⟨y, h3, h4⟩ := h2.get hv
        refine good_same hr ⟨_, y, ?_, hk, h4⟩
        simp only [execOp, hop, h1, Instr.extract, List.getElem?_toArray, h3, Sem.run_bind, Sem.run_pure, Result.andThen]
      · exact hk.elim
    · exact hk.elim
  | makeFunc fn first captured =>
    cases fn with
    | func f =>
      simp only [vop] at hk
      split at hk
      · rename_i hfst
        refine good_same hr ⟨_, _, ?_, hk, ⟨captured.toList.map a.eval, rfl, caps_rep hf _⟩⟩
        have : first = #[] := by cases first; simp_all
        simp only [execOp, hop, Instr.makeFunc, Sem.run_bind, Sem.run_pure, Result.andThen, this]
        have e : captured.map a.eval = (captured.toList.map a.eval).toArray := by apply Array.ext'; rw [Array.toList_map]
        rw [e, Array.map_empty]
      · exact hk.elim
    | _ => exact hk.elim
  | call c =>
    obtain ⟨callee, args, at'⟩ := c
    cases callee with
    | builtin b =>
      have hargs := opds_rep hf args.toList
      have hrun := call_run (P := P) (w := w) (a := a) hop
      have hat : args.map a.eval = (args.toList.map a.eval).toArray := by apply Array.ext'; rw [Array.toList_map]
      rw [hat] at hrun
      simp only [vop, vbi] at hk
      generalize args.toList.map a.eval = vs at hargs hrun
      split at hk
      · rename_i x e1
        rw [e1] at hargs
        obtain ⟨v, vr, rfl, h1, h2⟩ := hargs
        simp only [VReps] at h2; subst h2
        split at hk
        · rename_i t ht
          have hat' : at'[0]? = some t := by rw [← Array.getElem?_toList, ht]; rfl
          obtain ⟨r, v', q1, q2, q3⟩ := len_ok (T := o.type) tok hat' (by
            unfold vlen at hk
            revert hk
            split
            · rename_i hd; intro _; exact .inl hd
            · rename_i e hd; intro _; exact .inr ⟨e, hd⟩
            · rename_i e _ _ hd; intro _; exact .inr ⟨e, hd⟩
            · rename_i e _ _ _ hd; intro _; exact .inr ⟨e, hd⟩
            · exact False.elim) h1 hk
          exact good_same hr ⟨r, v', by rw [hrun]; simp only [builtin, Sem.run_bind, q1, Result.andThen, Sem.run_pure], q2, q3⟩
        · exact hk.elim
      · rename_i x y e1
        rw [e1] at hargs
        obtain ⟨v, vr, rfl, h1, u, vr', rfl, h2, h3⟩ := hargs
        simp only [VReps] at h3; subst h3
        split at hk
        · rename_i t u' ht
          have hat' : at' = #[t, u'] := by apply Array.ext'; simpa using ht
          subst hat'
          split at hk
          · rename_i e hd
            obtain ⟨he, hk⟩ := no_of hk
            obtain ⟨r, σ', g', w', v', q1, q2, q3, q4, q5⟩ := append_ok (T := o.type) tok hr hd he h1 h2 hk
            exact ⟨r, σ', g', w', v', _, by rw [hrun]; simp only [builtin, Sem.run_bind, q1, Result.andThen, Sem.run_pure], .inl rfl, q2, q3, q4, q5⟩
          · exact hk.elim
        · exact hk.elim
      · rename_i i n r e1
        rw [e1] at hargs
        obtain ⟨v, vr, rfl, h1, h2⟩ := hargs
        have := rep_int h1
        subst this
        split at hk
        · rename_i l hl
          have q := fold_min (P := P) (w := w) (kd := i) hl h2 n
          exact good_same hr ⟨_, _, by rw [hrun]; simp only [builtin, Builtin.min_, List.toList_toArray, Sem.run_bind, q, Result.andThen, Sem.run_pure], hk, rfl⟩
        · exact hk.elim
      · rename_i i n r e1
        rw [e1] at hargs
        obtain ⟨v, vr, rfl, h1, h2⟩ := hargs
        have := rep_int h1
        subst this
        split at hk
        · rename_i l hl
          have q := fold_max (P := P) (w := w) (kd := i) hl h2 n
          exact good_same hr ⟨_, _, by rw [hrun]; simp only [builtin, Builtin.max_, List.toList_toArray, Sem.run_bind, q, Result.andThen, Sem.run_pure], hk, rfl⟩
        · exact hk.elim
      · rename_i x y e1
        rw [e1] at hargs
        obtain ⟨v, vr, rfl, h1, u, vr', rfl, h2, h3⟩ := hargs
        simp only [VReps] at h3; subst h3
        have e2 := rep_flo h1
        have e3 := rep_flo h2
        subst e2 e3
        exact good_same hr ⟨_, _, by rw [hrun]; rfl, hk, rfl⟩
      · rename_i x y e1
        rw [e1] at hargs
        obtain ⟨v, vr, rfl, h1, h2⟩ := hargs
        simp only [VReps] at h2; subst h2
        have e2 := rep_cpl h1
        subst e2
        exact good_same hr ⟨_, _, by rw [hrun]; rfl, hk, rfl⟩
      · rename_i x y e1
        rw [e1] at hargs
        obtain ⟨v, vr, rfl, h1, h2⟩ := hargs
        simp only [VReps] at h2; subst h2
        have e2 := rep_cpl h1
        subst e2
        exact good_same hr ⟨_, _, by rw [hrun]; rfl, hk, rfl⟩
      · exact hk.elim
    | _ => exact hk.elim
  | _ => exact hk.elim
end
end Go.Dm
