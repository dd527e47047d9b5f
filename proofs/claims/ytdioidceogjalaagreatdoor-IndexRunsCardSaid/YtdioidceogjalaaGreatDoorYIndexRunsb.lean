/- Functions compiled ahead, printed by genytab.py. -/
import Derived.Test.YtdioidceogjalaaGreatDoorEnv
import Derived.Test.YtdioidceogjalaaGreatDoorHb
namespace Go.Proofs.YtdioidceogjalaaGreatDoor.indexRuns
open Go.Dm

def ye149 : Ent Tryz.prog tb (stlOf tb psf) := ⟨149, [], _, by cbv, by kernel_rfl⟩
def ye168 : Ent Tryz.prog tb (stlOf tb psf) := ⟨168, [], _, by cbv, by kernel_rfl⟩
def ye173 : Ent Tryz.prog tb (stlOf tb psf) := ⟨173, [], _, by cbv, by kernel_rfl⟩
def ye175 : Ent Tryz.prog tb (stlOf tb psf) := ⟨175, [], _, by cbv, by kernel_rfl⟩
def ye176 : Ent Tryz.prog tb (stlOf tb psf) := ⟨176, [], _, by cbv, by kernel_rfl⟩
def ye183 : Ent Tryz.prog tb (stlOf tb psf) := ⟨183, [], _, by cbv, by kernel_rfl⟩
def ye184 : Ent Tryz.prog tb (stlOf tb psf) := ⟨184, [], _, by cbv, by kernel_rfl⟩
def ye185 : Ent Tryz.prog tb (stlOf tb psf) := ⟨185, [], _, by cbv, by kernel_rfl⟩
def ye192 : Ent Tryz.prog tb (stlOf tb psf) := ⟨192, [], _, by cbv, by kernel_rfl⟩
def ye205 : Ent Tryz.prog tb (stlOf tb psf) := ⟨205, [], _, by cbv, by kernel_rfl⟩
def ye211 : Ent Tryz.prog tb (stlOf tb psf) := ⟨211, [], _, by cbv, by kernel_rfl⟩
def ye212 : Ent Tryz.prog tb (stlOf tb psf) := ⟨212, [], _, by cbv, by kernel_rfl⟩
def ye215 : Ent Tryz.prog tb (stlOf tb psf) := ⟨215, [], _, by cbv, by kernel_rfl⟩
def ye226 : Ent Tryz.prog tb (stlOf tb psf) := ⟨226, [], _, by cbv, by kernel_rfl⟩
def ye231 : Ent Tryz.prog tb (stlOf tb psf) := ⟨231, [], _, by cbv, by kernel_rfl⟩
def ye251 : Ent Tryz.prog tb (stlOf tb psf) := ⟨251, [], _, by cbv, by kernel_rfl⟩
end Go.Proofs.YtdioidceogjalaaGreatDoor.indexRuns
