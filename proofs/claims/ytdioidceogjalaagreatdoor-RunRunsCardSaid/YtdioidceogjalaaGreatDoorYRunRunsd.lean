/- Functions compiled ahead, printed by genytab.py. -/
import Derived.Test.YtdioidceogjalaaGreatDoorEnv
import Derived.Test.YtdioidceogjalaaGreatDoorHb
namespace Go.Proofs.YtdioidceogjalaaGreatDoor.runRuns
open Go.Dm

def ye267 : Ent Tryz.prog tb (stlOf tb psf) := ⟨267, [], _, by cbv, by kernel_rfl⟩
def ye272 : Ent Tryz.prog tb (stlOf tb psf) := ⟨272, [(13, .go 0 true (.go 1 true (.go 2 true (.go 3 true (.go 4 true (.go 5 true (.go 6 true (.go 7 true (.done)))))))))], _, by cbv, by kernel_rfl⟩
def ye278 : Ent Tryz.prog tb (stlOf tb psf) := ⟨278, [(1, .go 0 true (.go 1 true (.go 2 true (.go 3 true (.go 4 true (.go 5 true (.go 6 true (.go 7 true (.go 8 true (.go 9 true (.go 10 true (.go 11 true (.go 12 true (.go 13 true (.go 14 true (.go 15 true (.go 16 true (.go 17 true (.go 19 true (.go 18 false (.alt 20 (.alt 21 (.go 22 true (.go 23 true (.go 24 true (.go 25 true (.go 26 true (.go 27 true (.go 28 true (.go 29 true (.alt 30 (.go 31 true (.go 32 true (.go 33 true (.done)))) (.stop)))))))))) (.stop)) (.stop))))))))))))))))))))))], _, by cbv, by kernel_rfl⟩
def ye279 : Ent Tryz.prog tb (stlOf tb psf) := ⟨279, [(1, .go 0 true (.go 1 true (.go 2 true (.go 3 true (.go 4 true (.go 5 true (.go 6 true (.go 7 true (.go 8 true (.go 9 true (.done)))))))))))], _, by cbv, by kernel_rfl⟩
def ye280 : Ent Tryz.prog tb (stlOf tb psf) := ⟨280, [], _, by cbv, by kernel_rfl⟩
def ye281 : Ent Tryz.prog tb (stlOf tb psf) := ⟨281, [], _, by cbv, by kernel_rfl⟩
def ye282 : Ent Tryz.prog tb (stlOf tb psf) := ⟨282, [(1, .go 0 true (.go 1 true (.go 2 true (.go 3 true (.go 4 true (.go 5 true (.go 6 true (.go 7 true (.go 8 true (.go 9 true (.go 10 true (.go 11 true (.go 12 true (.go 13 true (.go 14 true (.go 15 true (.go 16 true (.go 17 true (.go 18 true (.done))))))))))))))))))))], _, by cbv, by kernel_rfl⟩
def ye286 : Ent Tryz.prog tb (stlOf tb psf) := ⟨286, [], _, by cbv, by kernel_rfl⟩
def ye292 : Ent Tryz.prog tb (stlOf tb psf) := ⟨292, [], _, by cbv, by kernel_rfl⟩
def ye295 : Ent Tryz.prog tb (stlOf tb psf) := ⟨295, [], _, by cbv, by kernel_rfl⟩
def ye296 : Ent Tryz.prog tb (stlOf tb psf) := ⟨296, [(1, .go 0 true (.alt 1 (.go 2 true (.go 3 true (.go 4 true (.go 5 true (.go 6 true (.go 7 true (.go 8 true (.go 9 true (.go 10 true (.go 11 true (.go 12 true (.go 13 true (.go 14 true (.go 15 true (.go 16 true (.go 17 true (.go 18 true (.go 19 true (.go 20 true (.go 21 true (.go 22 true (.go 23 true (.go 24 true (.go 25 true (.go 26 true (.go 27 true (.go 28 true (.go 29 true (.go 30 true (.go 31 true (.go 32 true (.go 33 true (.go 34 true (.done)))))))))))))))))))))))))))))))))) (.stop)))], _, by cbv, by kernel_rfl⟩
def ye297 : Ent Tryz.prog tb (stlOf tb psf) := ⟨297, [], _, by cbv, by kernel_rfl⟩
def ye302 : Ent Tryz.prog tb (stlOf tb psf) := ⟨302, [], _, by cbv, by kernel_rfl⟩
def ye303 : Ent Tryz.prog tb (stlOf tb psf) := ⟨303, [], _, by cbv, by kernel_rfl⟩
def ye304 : Ent Tryz.prog tb (stlOf tb psf) := ⟨304, [], _, by cbv, by kernel_rfl⟩
def ye306 : Ent Tryz.prog tb (stlOf tb psf) := ⟨306, [], _, by cbv, by kernel_rfl⟩
def ye313 : Ent Tryz.prog tb (stlOf tb psf) := ⟨313, [], _, by cbv, by kernel_rfl⟩
def ye315 : Ent Tryz.prog tb (stlOf tb psf) := ⟨315, [], _, by cbv, by kernel_rfl⟩
end Go.Proofs.YtdioidceogjalaaGreatDoor.runRuns
