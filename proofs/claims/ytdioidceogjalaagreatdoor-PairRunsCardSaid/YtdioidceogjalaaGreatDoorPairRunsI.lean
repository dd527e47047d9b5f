/- One law of the lists: facts of the program that its row lists, each looked up by the kernel in a theorem of its own (one look for all is more than the memory of a build). -/
import Derived.Test.YtdioidceogjalaaGreatDoorRows
import Derived.Test.YtdioidceogjalaaGreatDoorCards
import Derived.Test.YtdioidceogjalaaGreatDoorTie
import Derived.ProofKit
import Derived.OpenShut
import Derived.LaidMore
import Derived.Lay
import Derived.SevenTiedAt
import Derived.Stop.Joined
namespace Go.Proofs.YtdioidceogjalaaGreatDoor.pairRuns
open Go.ChangeShapes Go.WideShapes Go.ChangeAt Go.RowKit
set_option linter.unusedVariables false
set_option maxHeartbeats 4000000 in
theorem j9 : (((Rows.pairRunsRow).inPlace == (Tryz.pinned.checked.prog).inPlace (10 : FuncId))) = true := by kernel_rfl
set_option maxHeartbeats 4000000 in
theorem j10 : (((Rows.pairRunsRow).unfollowed == (Tryz.pinned.checked.prog).unfollowed (10 : FuncId))) = true := by kernel_rfl
set_option maxHeartbeats 4000000 in
theorem j11 : (((Rows.pairRunsRow).recurses == (Tryz.pinned.checked.prog).recurses (10 : FuncId))) = true := by kernel_rfl
set_option maxHeartbeats 4000000 in
theorem j12 : (((Rows.pairRunsRow).named == (Tryz.pinned.checked.prog).varsNamed (10 : FuncId))) = true := by kernel_rfl
set_option maxHeartbeats 4000000 in
theorem jl : false = (Tryz.pinned.checked.prog).looks [] := by kernel_rfl
set_option maxHeartbeats 4000000 in
theorem jg : false = (Rows.pairRunsRow).goesBy (Tryz.pinned.checked.prog) := by kernel_rfl
end Go.Proofs.YtdioidceogjalaaGreatDoor.pairRuns
