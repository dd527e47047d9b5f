import Derived.Test.YtpoegfkajdbplaaDoorMj

/- Contracts: EditShift. -/
namespace Go.Proofs.YtpoegfkajdbplaaDoor
open Go.Dm Go.Dm.Sx
set_option linter.unusedVariables false
set_option linter.unusedSimpArgs false

def s_Runs : FSpec Un := ⟨⟨f_glosslaw16_EditRuns, [], [.bool]⟩, fun _ => True, fun _ => [DB true], fun _ => rfl⟩
set_option maxRecDepth 100000 in
noncomputable def k_Shift : Wk (X [s_Lines, s_KEdit, s_Do, s_SameS, s_Within, s_Right, s_Runs]) w_glosslaw16_EditShift.F [.ty (.list (.list oI)), .ty (.base 1), tI] [.bool] := ⟨_, by cbv, _, by cbv, _, by cbv⟩
end Go.Proofs.YtpoegfkajdbplaaDoor
