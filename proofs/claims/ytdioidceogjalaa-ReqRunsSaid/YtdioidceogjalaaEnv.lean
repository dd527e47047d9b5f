/- How each function is run: 0 in the store as it is, 1 as a look, 2 from frozen data. (Printed by genenv.sh.) -/
import Derived.Test.YtdioidceogjalaaDtab
namespace Go.Proofs.Ytdioidceogjalaa
open Go.Dm
set_option linter.unusedVariables false

def modeL : List Nat := [1, 1, 1, 1, 1, 2, 2, 1, 1, 1, 1, 2, 2, 0, 0, 0, 0, 0, 0, 0, 1, 1, 1, 1, 2, 1, 2, 2, 2, 0, 0, 1, 1, 1, 2, 1, 1, 2, 2, 1, 0, 0, 2, 1, 1, 1, 2, 2, 0, 2, 0, 1, 1, 0, 1, 0, 1, 1, 1, 1, 1, 1, 1, 1, 1, 1, 1, 0, 0, 0, 0, 0, 1, 1, 1]
def mode (f : FuncId) : Dm.Mode := match nth modeL f with | some 0 => .im | some 1 => .ps | _ => .pf
def env : Env := ⟨mode, stlOf tb (fun f => isPs (mode f)), 400, fun _ => none⟩

theorem all_ok (n : Nat) : CallOk Try.prog (xcall Try.prog tb env n) :=
  xcall_ok mixed tok (E := env) rfl (fun f s h => by cases h) n
end Go.Proofs.Ytdioidceogjalaa
