/- Functions compiled ahead, printed by genytab.py. -/
import Derived.Test.YtdioidceogjalaaGreatDoorEnv
import Derived.Test.YtdioidceogjalaaGreatDoorHb
namespace Go.Proofs.YtdioidceogjalaaGreatDoor.runRuns
open Go.Dm

def ye200 : Ent Tryz.prog tb (stlOf tb psf) := ⟨200, [], _, by cbv, by kernel_rfl⟩
def ye203 : Ent Tryz.prog tb (stlOf tb psf) := ⟨203, [(3, .go 0 true (.go 1 true (.go 2 true (.go 3 true (.go 4 true (.go 5 true (.go 6 true (.go 7 true (.go 8 true (.go 9 true (.go 10 true (.go 11 true (.go 12 true (.go 13 true (.go 14 true (.go 15 true (.go 16 true (.go 17 true (.done)))))))))))))))))))], _, by cbv, by kernel_rfl⟩
def ye204 : Ent Tryz.prog tb (stlOf tb psf) := ⟨204, [], _, by cbv, by kernel_rfl⟩
def ye205 : Ent Tryz.prog tb (stlOf tb psf) := ⟨205, [], _, by cbv, by kernel_rfl⟩
def ye207 : Ent Tryz.prog tb (stlOf tb psf) := ⟨207, [], _, by cbv, by kernel_rfl⟩
def ye208 : Ent Tryz.prog tb (stlOf tb psf) := ⟨208, [(10, .go 0 true (.go 1 true (.go 2 true (.go 3 true (.go 4 true (.go 5 true (.go 6 true (.go 7 true (.go 8 true (.go 9 true (.go 10 true (.alt 11 (.done) (.stop)))))))))))))], _, by cbv, by kernel_rfl⟩
def ye209 : Ent Tryz.prog tb (stlOf tb psf) := ⟨209, [], _, by cbv, by kernel_rfl⟩
def ye210 : Ent Tryz.prog tb (stlOf tb psf) := ⟨210, [], _, by cbv, by kernel_rfl⟩
def ye211 : Ent Tryz.prog tb (stlOf tb psf) := ⟨211, [], _, by cbv, by kernel_rfl⟩
def ye212 : Ent Tryz.prog tb (stlOf tb psf) := ⟨212, [], _, by cbv, by kernel_rfl⟩
def ye213 : Ent Tryz.prog tb (stlOf tb psf) := ⟨213, [(1, .go 0 true (.go 1 true (.go 2 true (.go 3 true (.go 4 true (.go 5 true (.go 6 true (.go 7 true (.go 8 true (.go 9 true (.go 10 true (.go 11 true (.go 12 true (.go 13 true (.go 14 true (.go 15 true (.go 16 true (.go 17 true (.go 18 true (.go 19 true (.go 20 true (.go 21 true (.go 22 true (.go 23 true (.go 24 true (.go 25 true (.go 26 true (.go 27 true (.go 28 true (.go 29 true (.go 30 true (.go 31 true (.go 32 true (.go 33 true (.go 34 true (.go 35 true (.go 36 true (.go 37 true (.go 38 true (.go 39 true (.go 40 true (.go 41 true (.go 42 true (.done))))))))))))))))))))))))))))))))))))))))))))], _, by cbv, by kernel_rfl⟩
def ye215 : Ent Tryz.prog tb (stlOf tb psf) := ⟨215, [], _, by cbv, by kernel_rfl⟩
def ye220 : Ent Tryz.prog tb (stlOf tb psf) := ⟨220, [], _, by cbv, by kernel_rfl⟩
def ye221 : Ent Tryz.prog tb (stlOf tb psf) := ⟨221, [], _, by cbv, by kernel_rfl⟩
def ye222 : Ent Tryz.prog tb (stlOf tb psf) := ⟨222, [(3, .go 0 false (.go 1 false (.go 2 false (.go 4 false (.sub (.alt 3 (.alt 5 (.done) (.stop)) (.alt 5 (.go 3 true (.done)) (.stop))) (.go 6 true (.alt 7 (.go 8 true (.done)) (.stop))))))))], _, by cbv, by kernel_rfl⟩
def ye225 : Ent Tryz.prog tb (stlOf tb psf) := ⟨225, [(6, .go 0 true (.go 1 false (.go 2 false (.go 3 false (.go 5 false (.go 6 false (.go 7 false (.sub (.alt 4 (.alt 8 (.alt 9 (.done) (.stop)) (.alt 9 (.go 8 true (.done)) (.stop))) (.alt 8 (.alt 4 (.alt 9 (.done) (.stop)) (.alt 9 (.go 4 true (.done)) (.stop))) (.alt 9 (.go 4 true (.go 8 true (.done))) (.stop)))) (.go 10 true (.go 11 true (.done)))))))))))], _, by cbv, by kernel_rfl⟩
def ye226 : Ent Tryz.prog tb (stlOf tb psf) := ⟨226, [], _, by cbv, by kernel_rfl⟩
def ye229 : Ent Tryz.prog tb (stlOf tb psf) := ⟨229, [], _, by cbv, by kernel_rfl⟩
def ye230 : Ent Tryz.prog tb (stlOf tb psf) := ⟨230, [], _, by cbv, by kernel_rfl⟩
def ye231 : Ent Tryz.prog tb (stlOf tb psf) := ⟨231, [], _, by cbv, by kernel_rfl⟩
def ye232 : Ent Tryz.prog tb (stlOf tb psf) := ⟨232, [], _, by cbv, by kernel_rfl⟩
def ye234 : Ent Tryz.prog tb (stlOf tb psf) := ⟨234, [], _, by cbv, by kernel_rfl⟩
def ye235 : Ent Tryz.prog tb (stlOf tb psf) := ⟨235, [], _, by cbv, by kernel_rfl⟩
def ye236 : Ent Tryz.prog tb (stlOf tb psf) := ⟨236, [(7, .go 0 true (.go 1 true (.go 2 true (.go 3 true (.go 4 true (.go 5 true (.go 6 true (.go 7 true (.go 8 true (.go 9 true (.go 10 true (.go 11 true (.go 12 true (.go 13 true (.go 14 true (.go 15 true (.go 16 true (.alt 17 (.go 18 true (.go 19 true (.done))) (.stop))))))))))))))))))), (10, .go 0 true (.go 1 true (.go 2 true (.go 3 true (.go 4 true (.go 5 true (.go 6 true (.go 7 true (.go 8 true (.go 9 true (.go 10 true (.go 11 true (.go 12 true (.done))))))))))))))], _, by cbv, by kernel_rfl⟩
def ye237 : Ent Tryz.prog tb (stlOf tb psf) := ⟨237, [(4, .go 0 true (.go 1 true (.go 2 true (.go 3 true (.go 4 true (.go 5 true (.go 6 true (.go 7 true (.go 8 true (.go 9 true (.go 10 true (.go 11 true (.go 12 true (.go 13 true (.go 14 true (.go 15 true (.done))))))))))))))))), (17, .go 0 true (.go 1 true (.go 2 true (.go 3 true (.go 4 true (.go 5 true (.go 8 false (.alt 6 (.go 7 true (.done)) (.stop))))))))), (40, .sub (.alt 0 (.alt 1 (.alt 2 (.alt 3 (.done) (.stop)) (.alt 3 (.alt 2 (.done) (.stop)) (.stop))) (.alt 2 (.alt 1 (.alt 3 (.done) (.stop)) (.alt 3 (.go 1 true (.done)) (.stop))) (.alt 3 (.alt 1 (.alt 2 (.done) (.stop)) (.alt 2 (.go 1 true (.done)) (.stop))) (.stop)))) (.alt 1 (.alt 0 (.alt 2 (.alt 3 (.done) (.stop)) (.alt 3 (.alt 2 (.done) (.stop)) (.stop))) (.alt 2 (.alt 0 (.alt 3 (.done) (.stop)) (.alt 3 (.go 0 true (.done)) (.stop))) (.alt 3 (.alt 0 (.alt 2 (.done) (.stop)) (.alt 2 (.go 0 true (.done)) (.stop))) (.stop)))) (.alt 2 (.alt 0 (.alt 1 (.alt 3 (.done) (.stop)) (.alt 3 (.go 1 true (.done)) (.stop))) (.alt 1 (.alt 0 (.alt 3 (.done) (.stop)) (.alt 3 (.go 0 true (.done)) (.stop))) (.alt 3 (.go 0 true (.go 1 true (.done))) (.stop)))) (.alt 3 (.alt 0 (.alt 1 (.alt 2 (.done) (.stop)) (.alt 2 (.go 1 true (.done)) (.stop))) (.alt 1 (.alt 0 (.alt 2 (.done) (.stop)) (.alt 2 (.go 0 true (.done)) (.stop))) (.alt 2 (.go 0 true (.go 1 true (.done))) (.stop)))) (.stop))))) (.go 4 true (.alt 5 (.go 6 true (.done)) (.stop))))], _, by cbv, by kernel_rfl⟩
def ye242 : Ent Tryz.prog tb (stlOf tb psf) := ⟨242, [], _, by cbv, by kernel_rfl⟩
def ye251 : Ent Tryz.prog tb (stlOf tb psf) := ⟨251, [], _, by cbv, by kernel_rfl⟩
def ye252 : Ent Tryz.prog tb (stlOf tb psf) := ⟨252, [], _, by cbv, by kernel_rfl⟩
def ye253 : Ent Tryz.prog tb (stlOf tb psf) := ⟨253, [], _, by cbv, by kernel_rfl⟩
def ye254 : Ent Tryz.prog tb (stlOf tb psf) := ⟨254, [], _, by cbv, by kernel_rfl⟩
def ye255 : Ent Tryz.prog tb (stlOf tb psf) := ⟨255, [], _, by cbv, by kernel_rfl⟩
def ye266 : Ent Tryz.prog tb (stlOf tb psf) := ⟨266, [(4, .go 0 true (.go 1 true (.go 2 true (.go 3 true (.go 4 true (.go 5 true (.go 9 true (.go 6 false (.sub (.alt 7 (.alt 8 (.alt 10 (.done) (.stop)) (.alt 10 (.go 8 true (.done)) (.stop))) (.alt 10 (.go 7 true (.go 8 true (.done))) (.stop))) (.alt 11 (.alt 12 (.go 13 true (.go 14 true (.done))) (.stop)) (.stop)))))))))))], _, by cbv, by kernel_rfl⟩
end Go.Proofs.YtdioidceogjalaaGreatDoor.runRuns
