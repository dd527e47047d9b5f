/- One law of the lists: facts of the program that its row lists, each looked up by the kernel in a theorem of its own (one look for all is more than the memory of a build). -/
import Derived.Test.YtdioidceogjalaaGreatDoorRows
import Derived.Test.YtdioidceogjalaaGreatDoorCards
import Derived.Test.YtdioidceogjalaaGreatDoorTie
import Derived.ProofKit
import Derived.OpenShut
import Derived.LaidMore
import Derived.Lay
import Derived.SevenTiedAt
import Derived.Stop.Joined
namespace Go.Proofs.YtdioidceogjalaaGreatDoor.pairRuns
open Go.ChangeShapes Go.WideShapes Go.ChangeAt Go.RowKit
set_option linter.unusedVariables false
set_option maxHeartbeats 4000000 in
theorem j0 : ((Rows.pairRunsRow).wf (OpenSpec.ofChange (Rows.pairRunsSpec))) = true := by kernel_rfl
set_option maxHeartbeats 4000000 in
theorem j1 : (laidOutB (Tryz.pinned.checked.prog)) = true := by kernel_rfl
set_option maxHeartbeats 4000000 in
theorem j2 : (mapsRowed (Tryz.pinned.checked.prog)) = true := by kernel_rfl
set_option maxHeartbeats 4000000 in
theorem j3 : ((Tryz.f10).params.all ((Tryz.pinned.checked.prog).readableRec ·)) = true := by kernel_rfl
set_option maxHeartbeats 4000000 in
theorem j4 : (namedTie (Tryz.pinned.checked.prog) (Rows.pairRunsRow).named (Rows.pairRunsSpec).vars) = true := by kernel_rfl
set_option maxHeartbeats 4000000 in
theorem j5 : (((Rows.pairRunsRow).stops == [])) = true := by kernel_rfl
set_option maxHeartbeats 4000000 in
theorem j6 : (((Tryz.pinned.checked.prog).stops == [])) = true := by kernel_rfl
set_option maxHeartbeats 4000000 in
theorem j7 : (((Rows.pairRunsRow).knobs == [])) = true := by kernel_rfl
set_option maxHeartbeats 4000000 in
theorem j8 : (((Tryz.pinned.checked.prog).stopKnobs == [])) = true := by kernel_rfl
set_option maxHeartbeats 4000000 in
theorem j13 : (((Rows.pairRunsRow).maps == ((Tryz.f10).params.toList ++ (Rows.pairRunsSpec).plain.varTypes (Tryz.pinned.checked.prog)).any ((Tryz.pinned.checked.prog).mapsRec ·))) = true := by kernel_rfl
set_option maxHeartbeats 4000000 in
theorem j14 : (((Rows.pairRunsRow).ifaces == ((Tryz.f10).params.toList ++ (Rows.pairRunsSpec).plain.varTypes (Tryz.pinned.checked.prog)).any ((Tryz.pinned.checked.prog).ifacesRec ·))) = true := by kernel_rfl
set_option maxHeartbeats 4000000 in
theorem j15 : (((Rows.pairRunsRow).mapsOut == (Tryz.pinned.checked.prog).mapsAmong (Tryz.f10).resultTypes.toList)) = true := by kernel_rfl
set_option maxHeartbeats 4000000 in
theorem j16 : (((Rows.pairRunsRow).loops == ((Tryz.f10).params.toList ++ (Rows.pairRunsSpec).plain.varTypes (Tryz.pinned.checked.prog)).any ((Tryz.pinned.checked.prog).loopsFrom ·))) = true := by kernel_rfl
set_option maxHeartbeats 4000000 in
theorem j17 : (((Rows.pairRunsRow).wideKeys == ((Tryz.f10).params.toList ++ (Rows.pairRunsSpec).plain.varTypes (Tryz.pinned.checked.prog) ++ (Tryz.f10).resultTypes.toList).any ((Tryz.pinned.checked.prog).wideKeysFrom ·))) = true := by kernel_rfl
set_option maxHeartbeats 4000000 in
theorem j18 : ((Rows.pairRunsSpec).vars.all ((Tryz.pinned.checked.prog).varReadable ·)) = true := by kernel_rfl
set_option maxHeartbeats 4000000 in
theorem j19 : ((Tryz.f10).resultTypes.all (fun t => (Tryz.pinned.checked.prog).readableRec t && decide (t < (Tryz.pinned.checked.prog).types.size))) = true := by kernel_rfl
set_option maxHeartbeats 4000000 in
theorem j20 : (((Rows.pairRunsRow).ifacesOut == (Tryz.f10).resultTypes.toList.any ((Tryz.pinned.checked.prog).ifacesRec ·))) = true := by kernel_rfl
set_option maxHeartbeats 4000000 in
theorem j21 : (((Rows.pairRunsRow).loopsOut == (Tryz.f10).resultTypes.toList.any ((Tryz.pinned.checked.prog).loopsFrom ·))) = true := by kernel_rfl
set_option maxHeartbeats 4000000 in
theorem j22 : (((Rows.pairRunsRow).plainKeys == (Tryz.pinned.checked.prog).plainKeys)) = true := by kernel_rfl
set_option maxHeartbeats 4000000 in
theorem j23 : ((Rows.pairRunsRow).shortTexts.isNone) = true := by kernel_rfl
set_option maxHeartbeats 4000000 in
theorem j24 : ((Tryz.pinned.checked.prog).stopsHeard) = true := by kernel_rfl
set_option maxHeartbeats 4000000 in
theorem j25 : ((Tryz.pinned.checked.prog).mayEnter) = true := by kernel_rfl
set_option maxHeartbeats 4000000 in
theorem j26 : (((Rows.pairRunsRow).lifted == (Tryz.pinned.checked.prog).liftsFinal)) = true := by kernel_rfl
set_option maxHeartbeats 4000000 in
theorem j27 : (((Tryz.pinned.checked.prog).make == some (Rows.pairRunsRow).make)) = true := by kernel_rfl
set_option maxHeartbeats 4000000 in
theorem j28 : (((Rows.pairRunsRow).kinds == (if (Rows.pairRunsRow).domain.isEmpty then [] else (Tryz.f10).params.toList.map fun t => match (Tryz.pinned.checked.prog).underlying t with | some (.int k) => some k | _ => none))) = true := by kernel_rfl
set_option maxHeartbeats 4000000 in
theorem j29 : (((Rows.pairRunsRow).pinned == (Rows.pairRunsRow).pinnedBy)) = true := by kernel_rfl
set_option maxHeartbeats 4000000 in
theorem j30 : (((Rows.pairRunsRow).veiled == ((Tryz.f10).params.toList ++ (Rows.pairRunsSpec).plain.varTypes (Tryz.pinned.checked.prog) ++ (Tryz.f10).resultTypes.toList).any ((Tryz.pinned.checked.prog).veiledRec ·))) = true := by kernel_rfl
set_option maxHeartbeats 4000000 in
theorem j31 : ((Rows.pairRunsRow).veiledFits (Tryz.pinned.checked.prog) (Tryz.f10).params.toList ((Tryz.f10).params.toList ++ (Rows.pairRunsSpec).plain.varTypes (Tryz.pinned.checked.prog) ++ (Tryz.f10).resultTypes.toList)) = true := by kernel_rfl
set_option maxHeartbeats 4000000 in
theorem jw : (Rows.pairRunsRow).wfByText (OpenSpec.ofChange Rows.pairRunsSpec) = true := by kernel_rfl
set_option maxHeartbeats 4000000 in
theorem jn : (Tryz.pinned.checked.prog).funcNamed Rows.pairRunsRow.func = some 10 := by kernel_rfl
set_option maxHeartbeats 4000000 in
theorem jo : decide (Func.isInstance Tryz.pinned.checked.prog Tryz.f10 Rows.pairRunsRow.origin Rows.pairRunsRow.targs) = true := by kernel_rfl
set_option maxHeartbeats 4000000 in
theorem jp : Func.isWrapper Tryz.pinned.checked.prog Tryz.f10 Rows.pairRunsRow.wrapper Rows.pairRunsRow.mainSum := (by unfold Func.isWrapper; first | (rw [if_pos (by decide +kernel)]; kernel_rfl) | (rw [if_neg (by decide +kernel)]; exact ⟨rfl, rfl⟩))
end Go.Proofs.YtdioidceogjalaaGreatDoor.pairRuns
