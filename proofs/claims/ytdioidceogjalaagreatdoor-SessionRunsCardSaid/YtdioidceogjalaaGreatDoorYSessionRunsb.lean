/- Functions compiled ahead, printed by genytab.py. -/
import Derived.Test.YtdioidceogjalaaGreatDoorEnv
import Derived.Test.YtdioidceogjalaaGreatDoorHb
namespace Go.Proofs.YtdioidceogjalaaGreatDoor.sessionRuns
open Go.Dm

def ye92 : Ent Tryz.prog tb (stlOf tb psf) := ⟨92, [], _, by cbv, by kernel_rfl⟩
def ye93 : Ent Tryz.prog tb (stlOf tb psf) := ⟨93, [], _, by cbv, by kernel_rfl⟩
def ye95 : Ent Tryz.prog tb (stlOf tb psf) := ⟨95, [], _, by cbv, by kernel_rfl⟩
def ye96 : Ent Tryz.prog tb (stlOf tb psf) := ⟨96, [(3, .go 0 true (.go 1 true (.go 2 true (.go 3 true (.go 4 true (.go 5 true (.go 6 true (.go 7 true (.go 8 true (.go 9 true (.done)))))))))))], _, by cbv, by kernel_rfl⟩
def ye97 : Ent Tryz.prog tb (stlOf tb psf) := ⟨97, [(6, .go 0 true (.go 1 true (.go 2 true (.go 3 true (.go 4 true (.go 5 true (.go 6 true (.go 7 true (.go 8 true (.go 9 true (.alt 10 (.done) (.stop)))))))))))), (12, .go 0 true (.go 1 true (.go 2 true (.go 3 true (.go 4 true (.go 5 true (.go 6 true (.go 7 true (.go 8 true (.go 9 true (.go 10 true (.go 11 true (.go 12 true (.go 13 true (.done)))))))))))))))], _, by cbv, by kernel_rfl⟩
def ye98 : Ent Tryz.prog tb (stlOf tb psf) := ⟨98, [], _, by cbv, by kernel_rfl⟩
def ye99 : Ent Tryz.prog tb (stlOf tb psf) := ⟨99, [(5, .go 0 true (.go 1 true (.go 2 true (.go 3 true (.go 4 true (.go 5 true (.go 6 true (.go 7 true (.go 8 true (.go 9 true (.go 10 true (.go 11 true (.go 12 true (.go 13 true (.go 14 true (.go 15 true (.alt 16 (.go 17 true (.go 18 true (.alt 19 (.go 20 true (.alt 21 (.go 22 true (.alt 23 (.done) (.stop))) (.stop))) (.stop)))) (.stop))))))))))))))))))], _, by cbv, by kernel_rfl⟩
def ye100 : Ent Tryz.prog tb (stlOf tb psf) := ⟨100, [(4, .go 0 false (.go 1 false (.go 2 false (.go 4 false (.go 5 false (.go 6 false (.sub (.alt 3 (.sub (.alt 7 (.go 8 false (.go 9 false (.alt 10 (.alt 11 (.done) (.stop)) (.alt 11 (.go 10 true (.done)) (.stop))))) (.alt 11 (.go 7 true (.go 8 true (.go 9 true (.go 10 true (.done))))) (.stop))) (.alt 12 (.done) (.stop))) (.alt 7 (.go 8 false (.go 9 false (.alt 3 (.sub (.alt 10 (.alt 11 (.done) (.stop)) (.alt 11 (.go 10 true (.done)) (.stop))) (.alt 12 (.done) (.stop))) (.alt 10 (.alt 3 (.alt 11 (.alt 12 (.done) (.stop)) (.stop)) (.alt 11 (.alt 3 (.alt 12 (.done) (.stop)) (.alt 12 (.go 3 true (.done)) (.stop))) (.stop))) (.alt 11 (.go 10 true (.alt 3 (.alt 12 (.done) (.stop)) (.alt 12 (.go 3 true (.done)) (.stop)))) (.stop)))))) (.alt 11 (.go 7 true (.go 8 true (.go 9 true (.go 10 true (.alt 3 (.alt 12 (.done) (.stop)) (.alt 12 (.go 3 true (.done)) (.stop))))))) (.stop)))) (.go 13 true (.go 14 true (.alt 15 (.done) (.stop))))))))))), (7, .go 0 true (.go 1 true (.go 2 true (.go 3 true (.go 4 true (.go 5 true (.alt 6 (.go 7 true (.go 8 true (.go 9 true (.go 10 true (.go 11 true (.done)))))) (.stop)))))))), (10, .go 0 true (.go 1 true (.go 2 true (.go 3 true (.go 4 true (.go 5 true (.go 6 true (.alt 7 (.done) (.stop))))))))), (15, .go 0 true (.go 1 true (.go 2 true (.go 3 true (.go 4 true (.go 5 true (.go 6 true (.go 7 true (.go 8 true (.go 9 true (.go 10 true (.go 11 true (.go 12 true (.alt 13 (.done) (.stop)))))))))))))))], _, by cbv, by kernel_rfl⟩
def ye101 : Ent Tryz.prog tb (stlOf tb psf) := ⟨101, [(4, .go 0 true (.go 1 true (.go 2 true (.go 3 true (.go 4 true (.go 5 true (.alt 6 (.go 7 true (.go 8 true (.go 9 true (.go 10 true (.go 11 true (.done)))))) (.stop))))))))], _, by cbv, by kernel_rfl⟩
def ye102 : Ent Tryz.prog tb (stlOf tb psf) := ⟨102, [(4, .go 0 true (.go 1 true (.go 2 true (.go 3 true (.go 4 true (.go 5 true (.go 6 true (.go 7 true (.go 8 true (.go 9 true (.go 10 true (.go 11 true (.go 12 true (.go 13 true (.alt 14 (.done) (.stop)))))))))))))))), (6, .go 0 true (.go 1 true (.go 2 true (.go 3 true (.go 4 true (.go 5 true (.go 6 true (.go 7 true (.go 8 true (.go 9 true (.go 10 true (.go 11 true (.go 12 true (.go 13 true (.go 14 true (.go 15 true (.go 16 true (.go 17 true (.go 18 true (.go 19 true (.go 20 true (.go 21 true (.done))))))))))))))))))))))), (9, .go 5 true (.go 6 true (.go 0 false (.go 1 false (.go 2 false (.go 3 false (.sub (.alt 4 (.alt 7 (.done) (.stop)) (.alt 7 (.go 4 true (.done)) (.stop))) (.alt 8 (.go 9 true (.go 10 true (.alt 11 (.done) (.stop)))) (.stop)))))))))], _, by cbv, by kernel_rfl⟩
def ye105 : Ent Tryz.prog tb (stlOf tb psf) := ⟨105, [], _, by cbv, by kernel_rfl⟩
def ye112 : Ent Tryz.prog tb (stlOf tb psf) := ⟨112, [], _, by cbv, by kernel_rfl⟩
def ye113 : Ent Tryz.prog tb (stlOf tb psf) := ⟨113, [], _, by cbv, by kernel_rfl⟩
def ye114 : Ent Tryz.prog tb (stlOf tb psf) := ⟨114, [], _, by cbv, by kernel_rfl⟩
def ye115 : Ent Tryz.prog tb (stlOf tb psf) := ⟨115, [], _, by cbv, by kernel_rfl⟩
def ye116 : Ent Tryz.prog tb (stlOf tb psf) := ⟨116, [(6, .go 8 true (.go 9 true (.go 10 true (.go 11 true (.go 12 true (.go 0 false (.go 1 false (.go 2 false (.go 6 false (.go 13 false (.go 3 true (.go 4 true (.go 5 true (.go 7 true (.go 14 true (.go 15 true (.alt 16 (.alt 17 (.go 18 true (.done)) (.stop)) (.stop))))))))))))))))))], _, by cbv, by kernel_rfl⟩
def ye117 : Ent Tryz.prog tb (stlOf tb psf) := ⟨117, [(4, .go 0 true (.go 1 true (.go 2 true (.go 3 true (.go 4 true (.go 5 true (.go 6 true (.go 7 true (.done)))))))))], _, by cbv, by kernel_rfl⟩
def ye118 : Ent Tryz.prog tb (stlOf tb psf) := ⟨118, [], _, by cbv, by kernel_rfl⟩
def ye119 : Ent Tryz.prog tb (stlOf tb psf) := ⟨119, [], _, by cbv, by kernel_rfl⟩
def ye120 : Ent Tryz.prog tb (stlOf tb psf) := ⟨120, [], _, by cbv, by kernel_rfl⟩
def ye127 : Ent Tryz.prog tb (stlOf tb psf) := ⟨127, [], _, by cbv, by kernel_rfl⟩
def ye128 : Ent Tryz.prog tb (stlOf tb psf) := ⟨128, [], _, by cbv, by kernel_rfl⟩
def ye138 : Ent Tryz.prog tb (stlOf tb psf) := ⟨138, [(12, .go 1 true (.go 2 true (.go 3 true (.go 0 false (.go 5 false (.go 6 false (.go 7 false (.sub (.alt 4 (.go 8 true (.done)) (.alt 8 (.alt 4 (.done) (.stop)) (.stop))) (.alt 9 (.done) (.stop))))))))))], _, by cbv, by kernel_rfl⟩
def ye140 : Ent Tryz.prog tb (stlOf tb psf) := ⟨140, [], _, by cbv, by kernel_rfl⟩
def ye141 : Ent Tryz.prog tb (stlOf tb psf) := ⟨141, [], _, by cbv, by kernel_rfl⟩
def ye142 : Ent Tryz.prog tb (stlOf tb psf) := ⟨142, [], _, by cbv, by kernel_rfl⟩
def ye143 : Ent Tryz.prog tb (stlOf tb psf) := ⟨143, [], _, by cbv, by kernel_rfl⟩
def ye144 : Ent Tryz.prog tb (stlOf tb psf) := ⟨144, [], _, by cbv, by kernel_rfl⟩
def ye145 : Ent Tryz.prog tb (stlOf tb psf) := ⟨145, [(5, .go 0 true (.go 1 true (.go 2 true (.go 3 true (.go 4 true (.go 5 true (.alt 6 (.done) (.stop))))))))], _, by cbv, by kernel_rfl⟩
def ye146 : Ent Tryz.prog tb (stlOf tb psf) := ⟨146, [], _, by cbv, by kernel_rfl⟩
def ye150 : Ent Tryz.prog tb (stlOf tb psf) := ⟨150, [], _, by cbv, by kernel_rfl⟩
def ye151 : Ent Tryz.prog tb (stlOf tb psf) := ⟨151, [(2, .go 0 true (.go 1 true (.go 2 true (.go 3 true (.go 4 true (.go 5 true (.go 6 true (.go 7 true (.go 8 true (.go 9 true (.go 10 true (.go 11 true (.go 12 true (.go 13 true (.go 14 true (.go 15 true (.go 16 true (.go 17 true (.go 18 true (.done))))))))))))))))))))], _, by cbv, by kernel_rfl⟩
def ye152 : Ent Tryz.prog tb (stlOf tb psf) := ⟨152, [(2, .go 0 true (.go 1 true (.go 2 true (.go 3 true (.go 4 true (.go 5 true (.go 6 true (.go 7 true (.go 8 true (.go 9 true (.go 10 true (.go 11 true (.go 12 true (.go 13 true (.go 14 true (.go 15 true (.go 16 true (.go 17 true (.go 18 true (.go 19 true (.go 20 true (.go 21 true (.go 22 true (.go 23 true (.go 24 true (.go 25 true (.go 26 true (.done))))))))))))))))))))))))))))], _, by cbv, by kernel_rfl⟩
def ye168 : Ent Tryz.prog tb (stlOf tb psf) := ⟨168, [], _, by cbv, by kernel_rfl⟩
def ye173 : Ent Tryz.prog tb (stlOf tb psf) := ⟨173, [], _, by cbv, by kernel_rfl⟩
def ye175 : Ent Tryz.prog tb (stlOf tb psf) := ⟨175, [], _, by cbv, by kernel_rfl⟩
def ye176 : Ent Tryz.prog tb (stlOf tb psf) := ⟨176, [], _, by cbv, by kernel_rfl⟩
def ye183 : Ent Tryz.prog tb (stlOf tb psf) := ⟨183, [], _, by cbv, by kernel_rfl⟩
def ye184 : Ent Tryz.prog tb (stlOf tb psf) := ⟨184, [], _, by cbv, by kernel_rfl⟩
def ye185 : Ent Tryz.prog tb (stlOf tb psf) := ⟨185, [], _, by cbv, by kernel_rfl⟩
def ye192 : Ent Tryz.prog tb (stlOf tb psf) := ⟨192, [], _, by cbv, by kernel_rfl⟩
def ye205 : Ent Tryz.prog tb (stlOf tb psf) := ⟨205, [], _, by cbv, by kernel_rfl⟩
def ye211 : Ent Tryz.prog tb (stlOf tb psf) := ⟨211, [], _, by cbv, by kernel_rfl⟩
def ye212 : Ent Tryz.prog tb (stlOf tb psf) := ⟨212, [], _, by cbv, by kernel_rfl⟩
def ye215 : Ent Tryz.prog tb (stlOf tb psf) := ⟨215, [], _, by cbv, by kernel_rfl⟩
def ye226 : Ent Tryz.prog tb (stlOf tb psf) := ⟨226, [], _, by cbv, by kernel_rfl⟩
def ye231 : Ent Tryz.prog tb (stlOf tb psf) := ⟨231, [], _, by cbv, by kernel_rfl⟩
def ye251 : Ent Tryz.prog tb (stlOf tb psf) := ⟨251, [], _, by cbv, by kernel_rfl⟩
end Go.Proofs.YtdioidceogjalaaGreatDoor.sessionRuns
