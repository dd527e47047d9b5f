/- glosslaw25.PairRuns: in whatever memory, at whatever order: it returns true. No condition: what the row lists is not read. -/
import Derived.Test.YtdioidceogjalaaGreatDoorKPairRuns
import Derived.Test.YtdioidceogjalaaGreatDoorPairRunsI
import Derived.Test.YtdioidceogjalaaGreatDoorPairRunsJ
import Derived.Test.YtdioidceogjalaaGreatDoorRows
import Derived.Test.YtdioidceogjalaaGreatDoorCards
import Derived.Test.YtdioidceogjalaaGreatDoorTie
import Derived.ProofKit
import Derived.OpenShut
import Derived.LaidMore
import Derived.Lay
import Derived.SevenTiedAt
import Derived.Stop.Joined
namespace Go.Proofs.YtdioidceogjalaaGreatDoor.pairRuns
open Go.ChangeShapes Go.WideShapes Go.ChangeAt Go.RowKit Go.Dm
set_option linter.unusedVariables false
set_option linter.unusedSimpArgs false

theorem walk (w : World) : Calls Tryz.prog 10 #[] w fun e w' => e = .returned (.bool true) ∧ Below w.heap.size w w' :=
  law_true (f := 10) (fn := Tryz.f10) (c := Tryz.f10.body.get (by rfl)) Tryz.func10 rfl rfl ((yall_ok mm _ _ _ _ _ ran).mono fun r σ' h => by rw [List.mem_singleton] at h; cases h; rfl) (vs := []) rfl

theorem own : ownKnob Tryz.prog.godebug = none := by kernel_rfl

set_option maxRecDepth 100000 in
theorem lifted (os : Os) (started : os.Started) (H : Type) (enc : TypeId × Value → H) :
    ReturnsInHanded {} Tryz.checked os 10 .any (fun w args => (Rows.pairRunsSpec.pre enc Tryz.prog Tryz.f10 [] false w args ∧ laidMetH Tryz.prog Rows.pairRunsRow.laid w) ∧ sizedMet enc Tryz.prog Tryz.f10 (OpenSpec.ofChange Rows.pairRunsSpec) false w args)
      (Rows.pairRunsSpec.post enc Tryz.prog Tryz.f10 false true false false) := by
  refine returnsInHanded_of_change_and (C := Tryz.checked) (X := fun w _ => laidMetH Tryz.prog Rows.pairRunsRow.laid w) (fun _ _ _ hh h => h.of_heap hh) own started (by kernel_rfl) Tryz.func10
    (ChangeSpec.witness_shaped (enc := enc) (C := Tryz.checked) (os := os) (X := fun w _ => laidMetH Tryz.prog Rows.pairRunsRow.laid w) false (World.laidAll Tryz.prog os Rows.pairRunsRow.laid) #[] 8 (World.laidAll_os _ _ _)
      (World.shaped_of_ZipB (by kernel_rfl) (by kernel_rfl)) (by kernel_rfl) (by kernel_rfl) (by kernel_rfl)
      (by rw [MakeChecks.laidMetH_plain _ _ _ (by kernel_rfl)]; exact laidMet_laidAll _ (by kernel_rfl) (by kernel_rfl))) ?_
  intro W base args ds gs before hval0 hW _ _ hL _
  have hval : ∀ (j : Nat) t v, Tryz.f10.params[j]? = some t → args[j]? = some v → Value.okWide Tryz.prog W .any base t v := hval0
  have hW' := hW
  obtain ⟨p, q, hA0, hV, rfl, hfz, hnd⟩ := hW
  have hA : DataW.TrodAll enc Tryz.prog W 0 (fun _ => true) true Tryz.f10.params.toList args.toList ds p := hA0
  rw [Tryz.params10] at hA hval
  obtain ⟨rfl, rfl, rfl⟩ := trodAll_none hA
  obtain ⟨rfl, rfl⟩ := trodVars_none hV
  clear hA0 hval0
  simp only [List.append_nil] at hW'
  refine (walk W).mono fun e W' ⟨he, hg⟩ => ?_
  subst he
  exact ⟨_, rfl, ⟨_, _, _, [], [], [], hW', trodAll_cons_mk (shut_bool Tryz.underlying4 _) trodAll_mk0, trodAll_mk0, rfl, hg.frame _, fun h => by cases h⟩⟩


set_option maxRecDepth 50000 in
theorem joined_of {P : Program} {f : FuncId} {fn : Func} {s : ChangeSpec} {c : OpenClaim} (k0 : (c.wf (OpenSpec.ofChange s)) = true) (k1 : (laidOutB P) = true) (k2 : (mapsRowed P) = true) (k3 : (fn.params.all (P.readableRec ·)) = true) (k4 : (namedTie P c.named s.vars) = true) (k5 : ((c.stops == [])) = true) (k6 : ((P.stops == [])) = true) (k7 : ((c.knobs == [])) = true) (k8 : ((P.stopKnobs == [])) = true) (k9 : ((c.inPlace == P.inPlace f)) = true) (k10 : ((c.unfollowed == P.unfollowed f)) = true) (k11 : ((c.recurses == P.recurses f)) = true) (k12 : ((c.named == P.varsNamed f)) = true) (k13 : ((c.maps == (fn.params.toList ++ s.plain.varTypes P).any (P.mapsRec ·))) = true) (k14 : ((c.ifaces == (fn.params.toList ++ s.plain.varTypes P).any (P.ifacesRec ·))) = true) (k15 : ((c.mapsOut == P.mapsAmong fn.resultTypes.toList)) = true) (k16 : ((c.loops == (fn.params.toList ++ s.plain.varTypes P).any (P.loopsFrom ·))) = true) (k17 : ((c.wideKeys == (fn.params.toList ++ s.plain.varTypes P ++ fn.resultTypes.toList).any (P.wideKeysFrom ·))) = true) (k18 : (s.vars.all (P.varReadable ·)) = true) (k19 : (fn.resultTypes.all (fun t => P.readableRec t && decide (t < P.types.size))) = true) (k20 : ((c.ifacesOut == fn.resultTypes.toList.any (P.ifacesRec ·))) = true) (k21 : ((c.loopsOut == fn.resultTypes.toList.any (P.loopsFrom ·))) = true) (k22 : ((c.plainKeys == P.plainKeys)) = true) (k23 : (c.shortTexts.isNone) = true) (k24 : (P.stopsHeard) = true) (k25 : (P.mayEnter) = true) (k26 : ((c.lifted == P.liftsFinal)) = true) (k27 : ((P.make == some c.make)) = true) (k28 : ((c.kinds == (if c.domain.isEmpty then [] else fn.params.toList.map fun t => match P.underlying t with | some (.int k) => some k | _ => none))) = true) (k29 : ((c.pinned == c.pinnedBy)) = true) (k30 : ((c.veiled == (fn.params.toList ++ s.plain.varTypes P ++ fn.resultTypes.toList).any (P.veiledRec ·))) = true) (k31 : (c.veiledFits P fn.params.toList (fn.params.toList ++ s.plain.varTypes P ++ fn.resultTypes.toList)) = true) : joinedFacts P f fn s c = true := by
  unfold joinedFacts
  simp only [Bool.and_eq_true]
  exact ⟨⟨⟨⟨⟨⟨⟨⟨⟨⟨⟨⟨⟨⟨⟨⟨⟨⟨⟨⟨⟨⟨⟨⟨⟨⟨⟨⟨⟨⟨⟨k0, k1⟩, k2⟩, k3⟩, k4⟩, k5⟩, k6⟩, k7⟩, k8⟩, k9⟩, k10⟩, k11⟩, k12⟩, k13⟩, k14⟩, k15⟩, k16⟩, k17⟩, k18⟩, k19⟩, k20⟩, k21⟩, k22⟩, k23⟩, k24⟩, k25⟩, k26⟩, k27⟩, k28⟩, k29⟩, k30⟩, k31⟩

set_option maxRecDepth 50000 in
theorem joined : joinedFacts Tryz.pinned.checked.prog 10 Tryz.f10 Rows.pairRunsSpec Rows.pairRunsRow = true := @joined_of Tryz.pinned.checked.prog 10 Tryz.f10 Rows.pairRunsSpec Rows.pairRunsRow j0 j1 j2 j3 j4 j5 j6 j7 j8 j9 j10 j11 j12 j13 j14 j15 j16 j17 j18 j19 j20 j21 j22 j23 j24 j25 j26 j27 j28 j29 j30 j31

set_option maxHeartbeats 4000000 in
theorem over : Rows.pairRunsRow.holds Tryz.pinned (OpenSpec.ofChange Rows.pairRunsSpec) :=
  OpenClaim.holds_of_wide 10 Tryz.f10 rfl rfl rfl rfl rfl rfl rfl ⟨rfl, rfl, rfl, rfl, rfl⟩ rfl rfl rfl rfl rfl jn Tryz.func10 joined
    (of_decide_eq_true jo) jp
    (fun os started H enc _ => lifted os started H enc)

/-- ████ THE STATEMENT ████ -/
theorem proved : Rows.PairRunsCardSaid :=
  Claim7.holds_tied_plain_at .later [] [.data, .data, .data, .data, .pinned] true (true, "c19cda196e8dd517a814e1bf13d675829bf58163d0889a56c18cce1a6ec50466") false
    over (fun _ h => by cases h) jw (fun _ h => by cases h) pairRuns_row_tie rfl ⟨rfl, rfl⟩ (by kernel_rfl) rfl
    (fun f fn hf hfn => by
      obtain rfl : f = 10 := Option.some.inj ((show Tryz.prog.funcNamed "gloss/glosslaw25.PairRuns" = some 10 by kernel_rfl).symm.trans hf) |>.symm
      obtain rfl : fn = Tryz.f10 := (Option.some.inj (Tryz.func10.symm.trans hfn)).symm
      exact ⟨jl, fun j t ht => by
        rw [Tryz.params10] at ht
        simp at ht⟩)
    jg
end Go.Proofs.YtdioidceogjalaaGreatDoor.pairRuns
