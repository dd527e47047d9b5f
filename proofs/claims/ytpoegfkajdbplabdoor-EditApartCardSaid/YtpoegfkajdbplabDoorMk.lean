import Derived.Test.YtpoegfkajdbplabDoorMj

/- Contracts: EditApart: its walk. -/
namespace Go.Proofs.YtpoegfkajdbplabDoor
open Go.Dm Go.Dm.Sx
set_option linter.unusedVariables false
set_option linter.unusedSimpArgs false

def s_Runs : FSpec Un := ⟨⟨f_glosslaw16_EditRuns, [], [.bool]⟩, fun _ => True, fun _ => [DB true], fun _ => rfl⟩
set_option maxRecDepth 100000 in
noncomputable def k_Apart : Wk (X [s_Lines, s_KEdit, s_All, s_SameS, s_Runs]) w_glosslaw16_EditApart.F [.ty (.list (.list oI)), .ty (.base 1), .ty (.base 1)] [.bool] := ⟨_, by cbv, _, by cbv, _, by cbv⟩
end Go.Proofs.YtpoegfkajdbplabDoor
