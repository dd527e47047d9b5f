/- Functions compiled ahead, printed by genytab.py. -/
import Derived.Test.YtdioidceogjalaaGreatDoorEnv
import Derived.Test.YtdioidceogjalaaGreatDoorHb
namespace Go.Proofs.YtdioidceogjalaaGreatDoor.traceRuns
open Go.Dm

def ye192 : Ent Tryz.prog tb (stlOf tb psf) := ⟨192, [], _, by cbv, by kernel_rfl⟩
def ye205 : Ent Tryz.prog tb (stlOf tb psf) := ⟨205, [], _, by cbv, by kernel_rfl⟩
def ye211 : Ent Tryz.prog tb (stlOf tb psf) := ⟨211, [], _, by cbv, by kernel_rfl⟩
def ye212 : Ent Tryz.prog tb (stlOf tb psf) := ⟨212, [], _, by cbv, by kernel_rfl⟩
def ye215 : Ent Tryz.prog tb (stlOf tb psf) := ⟨215, [], _, by cbv, by kernel_rfl⟩
def ye226 : Ent Tryz.prog tb (stlOf tb psf) := ⟨226, [], _, by cbv, by kernel_rfl⟩
def ye231 : Ent Tryz.prog tb (stlOf tb psf) := ⟨231, [], _, by cbv, by kernel_rfl⟩
def ye251 : Ent Tryz.prog tb (stlOf tb psf) := ⟨251, [], _, by cbv, by kernel_rfl⟩
end Go.Proofs.YtdioidceogjalaaGreatDoor.traceRuns
