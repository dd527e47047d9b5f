/- How each function is run: 0 in the store as it is, 1 as a look, 2 from frozen data. (Printed by genenv.sh.) -/
import Derived.Test.YtdioidceogjalaaDoorDtab
import Derived.Test.YtdioidceogjalaaDoorGa
namespace Go.Proofs.YtdioidceogjalaaDoor
open Go.Dm
set_option linter.unusedVariables false

def modeL : List Nat := [1, 1, 1, 1, 2, 2, 1, 1, 2, 1, 2, 2, 0, 0, 2, 1, 1, 0, 0, 2, 1, 1, 1, 1, 2, 2, 1, 1, 1, 1, 1, 1, 1, 1, 1, 1, 1, 1, 1, 1, 1, 1, 1, 1, 1, 1, 1, 1, 1, 0, 0, 0, 0, 0, 1, 1, 0, 1, 1, 1, 1, 1, 1]
def mode (f : FuncId) : Dm.Mode := match nth modeL f with | some 0 => .im | some 1 => .ps | _ => .pf
theorem ext24 : Ext Tryd.prog 24 Extern.AbiNoEscape.same := ext_of Tryd.func24 (by kernel_rfl) (by kernel_rfl) (by kernel_rfl) (by kernel_rfl)
theorem ext32 : Ext Tryd.prog 32 Extern.BytealgCount.count := ext_of Tryd.func32 (by kernel_rfl) (by kernel_rfl) (by kernel_rfl) (by kernel_rfl)
theorem ext39 : Ext Tryd.prog 39 Extern.BytealgIndexByte.indexByte := ext_of Tryd.func39 (by kernel_rfl) (by kernel_rfl) (by kernel_rfl) (by kernel_rfl)

def specs : List (Nat × Dm.Spec) := [(24, spSame),(32, spCount),(39, spIndex)]

def psf (f : FuncId) : Bool := match specOf specs f with | some _ => false | none => isPs (mode f)
def env : Env := ⟨mode, stlOf tb psf, 400, specOf specs⟩

theorem specs_ok : SpecOk Tryd.prog env := specOf_ok (l := specs) rfl (by
  intro p hp a σ o h
  simp only [specs, List.mem_cons, List.not_mem_nil, or_false] at hp
  rcases hp with rfl | rfl | rfl
  · exact same_ok ext24 h
  · exact count_ok ext32 h
  · exact index_ok' ext39 h)

theorem all_ok (n : Nat) : CallOk Tryd.prog (xcall Tryd.prog tb env n) :=
  xcall_ok mixed tok (E := env) rfl specs_ok n
end Go.Proofs.YtdioidceogjalaaDoor
