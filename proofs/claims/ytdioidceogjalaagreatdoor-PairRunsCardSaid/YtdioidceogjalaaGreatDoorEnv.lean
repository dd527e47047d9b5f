/- How each function is run: 0 in the store as it is, 1 as a look, 2 from frozen data. (Printed by genenv.sh.) -/
import Derived.Test.YtdioidceogjalaaGreatDoorDtab
import Derived.Test.YtdioidceogjalaaGreatDoorGa
namespace Go.Proofs.YtdioidceogjalaaGreatDoor
open Go.Dm
set_option linter.unusedVariables false

def modeL : List Nat := [1, 1, 1, 1, 1, 1, 1, 1, 1, 1, 1, 0, 0, 0, 1, 0, 1, 0, 1, 2, 2, 1, 0, 1, 1, 1, 1, 0, 0, 1, 1, 1, 1, 0, 0, 0, 0, 0, 1, 0, 0, 0, 0, 0, 0, 1, 0, 0, 0, 0, 0, 0, 1, 2, 2, 1, 1, 0, 1, 1, 0, 2, 0, 1, 0, 1, 1, 0, 2, 0, 0, 0, 0, 0, 0, 0, 0, 1, 0, 0, 0, 0, 1, 1, 1, 1, 0, 0, 1, 0, 0, 0, 0, 1, 0, 0, 0, 0, 1, 3, 0, 0, 0, 0, 1, 0, 1, 0, 1, 1, 1, 1, 1, 0, 1, 0, 0, 3, 0, 0, 0, 1, 0, 0, 0, 0, 0, 1, 1, 1, 1, 0, 0, 0, 0, 0, 0, 0, 0, 0, 0, 0, 0, 1, 0, 3, 3, 0, 1, 1, 0, 1, 1, 1, 0, 1, 0, 0, 0, 0, 0, 0, 0, 0, 0, 1, 0, 0, 1, 1, 1, 1, 0, 1, 1, 0, 0, 0, 0, 0, 0, 0, 0, 1, 1, 3, 1, 1, 1, 0, 0, 0, 1, 1, 1, 1, 0, 1, 2, 1, 0, 1, 1, 0, 0, 1, 1, 0, 0, 1, 0, 1, 1, 1, 1, 1, 1, 1, 1, 1, 1, 0, 0, 1, 1, 0, 1, 1, 1, 0, 1, 1, 1, 1, 1, 0, 0, 0, 1, 1, 1, 0, 0, 0, 1, 1, 0, 1, 1, 1, 1, 1, 1, 1, 1, 1, 0, 0, 0, 0, 0, 1, 1, 1, 1, 1, 0, 0, 0, 1, 1, 1, 1, 1, 1, 0, 1, 1, 0, 0, 0, 0, 0, 1, 1, 1, 1, 1, 1, 1, 0, 1, 0, 0, 0, 0, 0, 0, 0, 0, 0, 1, 1, 1, 1, 1, 0, 0, 1, 1, 0, 0, 0, 0, 0, 1, 0, 1, 0, 0, 0, 1, 0, 0, 1, 1, 1, 1, 1, 1, 1, 1, 0, 0, 0, 0, 0, 1, 1, 1, 0, 0, 1, 1, 1, 1, 1, 1, 1, 1, 1]
def mode (f : FuncId) : Dm.Mode := match nth modeL f with | some 0 => .im | some 1 => .ps | some 3 => .pg | _ => .pf
theorem ext139 : Ext Tryz.prog 139 Extern.AbiNoEscape.same := ext_of Tryz.func139 (by kernel_rfl) (by kernel_rfl) (by kernel_rfl) (by kernel_rfl)
theorem ext218 : Ext Tryz.prog 218 Extern.BytealgIndexByte.indexByte := ext_of Tryz.func218 (by kernel_rfl) (by kernel_rfl) (by kernel_rfl) (by kernel_rfl)

def specs : List (Nat × Dm.Spec) := [(139, spSame),(218, spIndex)]

def psf (f : FuncId) : Bool := match specOf specs f with | some _ => false | none => isPs (mode f)
def env : Env := ⟨mode, stlOf tb psf, 400, specOf specs, []⟩

theorem specs_ok : SpecOk Tryz.prog env := specOf_ok (l := specs) rfl (by
  intro p hp a σ o h
  simp only [specs, List.mem_cons, List.not_mem_nil, or_false] at hp
  rcases hp with rfl | rfl
  · exact same_ok ext139 h
  · exact index_ok' ext218 h)

theorem all_okM {L : List (Nat × List V × St × List (V × St))} (hM : MemoOk Tryz.prog (env.with L)) (n : Nat) : CallOk Tryz.prog (xcall Tryz.prog tb (env.with L) n) :=
  xcall_ok mixed tok (E := env.with L) rfl specs_ok hM n

theorem all_ok (n : Nat) : CallOk Tryz.prog (xcall Tryz.prog tb env n) := all_okM (L := []) memo_nil n
end Go.Proofs.YtdioidceogjalaaGreatDoor
