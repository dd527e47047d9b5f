/- Functions compiled ahead, printed by genytab.py. -/
import Derived.Test.YtdioidceogjalaaGreatDoorEnv
import Derived.Test.YtdioidceogjalaaGreatDoorHb
namespace Go.Proofs.YtdioidceogjalaaGreatDoor.sessionRuns
open Go.Dm

def ye9 : Ent Tryz.prog tb (stlOf tb psf) := ⟨9, [], _, by cbv, by kernel_rfl⟩
def ye12 : Ent Tryz.prog tb (stlOf tb psf) := ⟨12, [(4, .go 0 true (.go 1 true (.go 2 true (.go 3 true (.go 4 true (.go 5 true (.go 6 true (.go 7 true (.go 8 true (.go 9 true (.go 10 true (.go 11 true (.go 12 true (.alt 13 (.go 14 true (.done)) (.stop))))))))))))))), (5, .go 0 true (.go 1 true (.go 2 true (.go 3 true (.go 4 true (.go 5 true (.go 6 true (.go 7 true (.go 8 true (.go 9 true (.go 10 true (.go 11 true (.go 12 true (.go 13 true (.go 14 true (.go 15 true (.go 16 true (.done)))))))))))))))))), (12, .go 0 true (.go 1 true (.go 2 true (.go 3 true (.go 4 true (.go 5 true (.go 6 true (.go 7 true (.go 8 true (.go 9 true (.go 10 true (.go 11 true (.go 12 true (.go 13 true (.go 14 true (.go 15 true (.go 16 true (.go 17 true (.go 18 true (.go 19 true (.go 20 true (.go 21 true (.go 22 true (.go 23 true (.go 24 true (.go 25 true (.go 26 true (.alt 27 (.done) (.stop)))))))))))))))))))))))))))))], _, by cbv, by kernel_rfl⟩
def ye13 : Ent Tryz.prog tb (stlOf tb psf) := ⟨13, [], _, by cbv, by kernel_rfl⟩
def ye14 : Ent Tryz.prog tb (stlOf tb psf) := ⟨14, [], _, by cbv, by kernel_rfl⟩
def ye16 : Ent Tryz.prog tb (stlOf tb psf) := ⟨16, [], _, by cbv, by kernel_rfl⟩
def ye17 : Ent Tryz.prog tb (stlOf tb psf) := ⟨17, [(9, .go 0 true (.go 1 true (.go 2 false (.sub (.alt 3 (.alt 4 (.done) (.stop)) (.alt 4 (.go 3 true (.done)) (.stop))) (.go 5 true (.done))))))], _, by cbv, by kernel_rfl⟩
def ye18 : Ent Tryz.prog tb (stlOf tb psf) := ⟨18, [], _, by cbv, by kernel_rfl⟩
def ye19 : Ent Tryz.prog tb (stlOf tb psf) := ⟨19, [], _, by cbv, by kernel_rfl⟩
def ye20 : Ent Tryz.prog tb (stlOf tb psf) := ⟨20, [], _, by cbv, by kernel_rfl⟩
def ye21 : Ent Tryz.prog tb (stlOf tb psf) := ⟨21, [(2, .go 0 true (.go 1 true (.go 2 true (.go 3 true (.go 4 true (.go 5 true (.go 6 true (.go 7 true (.go 8 true (.go 9 true (.go 10 true (.go 11 true (.go 12 true (.go 13 true (.go 14 true (.done))))))))))))))))], _, by cbv, by kernel_rfl⟩
def ye22 : Ent Tryz.prog tb (stlOf tb psf) := ⟨22, [], _, by cbv, by kernel_rfl⟩
def ye23 : Ent Tryz.prog tb (stlOf tb psf) := ⟨23, [], _, by cbv, by kernel_rfl⟩
def ye24 : Ent Tryz.prog tb (stlOf tb psf) := ⟨24, [], _, by cbv, by kernel_rfl⟩
def ye33 : Ent Tryz.prog tb (stlOf tb psf) := ⟨33, [], _, by cbv, by kernel_rfl⟩
def ye34 : Ent Tryz.prog tb (stlOf tb psf) := ⟨34, [(1, .go 0 true (.go 1 true (.go 2 true (.go 3 true (.go 4 true (.alt 5 (.go 6 true (.go 7 true (.go 8 true (.go 9 true (.go 10 true (.done)))))) (.stop))))))), (5, .go 0 true (.go 1 true (.go 2 true (.go 3 true (.go 4 true (.go 5 true (.go 6 true (.done))))))))], _, by cbv, by kernel_rfl⟩
def ye35 : Ent Tryz.prog tb (stlOf tb psf) := ⟨35, [], _, by cbv, by kernel_rfl⟩
def ye36 : Ent Tryz.prog tb (stlOf tb psf) := ⟨36, [], _, by cbv, by kernel_rfl⟩
def ye37 : Ent Tryz.prog tb (stlOf tb psf) := ⟨37, [], _, by cbv, by kernel_rfl⟩
def ye38 : Ent Tryz.prog tb (stlOf tb psf) := ⟨38, [(6, .go 0 true (.go 1 true (.go 2 true (.go 3 true (.go 4 true (.go 5 true (.go 6 true (.go 7 true (.go 8 true (.done))))))))))], _, by cbv, by kernel_rfl⟩
def ye39 : Ent Tryz.prog tb (stlOf tb psf) := ⟨39, [], _, by cbv, by kernel_rfl⟩
def ye45 : Ent Tryz.prog tb (stlOf tb psf) := ⟨45, [], _, by cbv, by kernel_rfl⟩
def ye46 : Ent Tryz.prog tb (stlOf tb psf) := ⟨46, [], _, by cbv, by kernel_rfl⟩
def ye47 : Ent Tryz.prog tb (stlOf tb psf) := ⟨47, [(6, .go 0 true (.go 1 true (.go 2 true (.go 3 true (.go 4 true (.go 5 true (.go 6 true (.go 7 true (.go 8 true (.go 9 true (.go 10 true (.go 11 true (.go 12 true (.go 13 true (.go 14 true (.go 15 true (.go 16 true (.go 17 true (.go 18 true (.go 19 true (.go 20 true (.go 21 true (.go 22 true (.go 23 true (.go 24 true (.go 25 true (.go 26 true (.go 27 true (.go 28 true (.go 29 true (.go 30 true (.go 31 true (.go 32 true (.go 33 true (.go 34 true (.done))))))))))))))))))))))))))))))))))))], _, by cbv, by kernel_rfl⟩
def ye48 : Ent Tryz.prog tb (stlOf tb psf) := ⟨48, [], _, by cbv, by kernel_rfl⟩
def ye49 : Ent Tryz.prog tb (stlOf tb psf) := ⟨49, [], _, by cbv, by kernel_rfl⟩
def ye50 : Ent Tryz.prog tb (stlOf tb psf) := ⟨50, [], _, by cbv, by kernel_rfl⟩
def ye51 : Ent Tryz.prog tb (stlOf tb psf) := ⟨51, [(1, .go 0 false (.go 1 false (.go 5 false (.go 6 false (.sub (.alt 2 (.alt 3 (.alt 4 (.alt 7 (.go 8 true (.go 9 true (.done))) (.stop)) (.alt 7 (.alt 4 (.go 8 true (.go 9 true (.done))) (.alt 8 (.alt 4 (.go 9 true (.done)) (.alt 9 (.alt 4 (.done) (.stop)) (.stop))) (.stop))) (.stop))) (.alt 7 (.go 3 true (.alt 4 (.go 8 true (.go 9 true (.done))) (.alt 8 (.alt 4 (.go 9 true (.done)) (.alt 9 (.alt 4 (.done) (.stop)) (.stop))) (.stop)))) (.stop))) (.alt 7 (.alt 2 (.go 3 true (.alt 4 (.go 8 true (.go 9 true (.done))) (.alt 8 (.alt 4 (.go 9 true (.done)) (.alt 9 (.alt 4 (.done) (.stop)) (.stop))) (.stop)))) (.alt 8 (.alt 2 (.go 3 true (.alt 4 (.go 9 true (.done)) (.alt 9 (.alt 4 (.done) (.stop)) (.stop)))) (.alt 9 (.alt 2 (.go 3 true (.alt 4 (.done) (.stop))) (.stop)) (.stop))) (.stop))) (.stop))) (.alt 10 (.go 11 true (.done)) (.stop)))))))], _, by cbv, by kernel_rfl⟩
def ye52 : Ent Tryz.prog tb (stlOf tb psf) := ⟨52, [], _, by cbv, by kernel_rfl⟩
def ye53 : Ent Tryz.prog tb (stlOf tb psf) := ⟨53, [(14, .go 0 true (.go 1 true (.go 2 true (.go 3 true (.go 4 true (.go 5 true (.go 6 true (.go 7 true (.go 8 true (.go 9 true (.go 10 true (.done))))))))))))], _, by cbv, by kernel_rfl⟩
def ye54 : Ent Tryz.prog tb (stlOf tb psf) := ⟨54, [(3, .go 1 false (.go 2 false (.sub (.alt 0 (.alt 3 (.alt 4 (.alt 5 (.done) (.stop)) (.alt 5 (.alt 4 (.done) (.stop)) (.stop))) (.alt 5 (.go 3 true (.alt 4 (.done) (.stop))) (.stop))) (.alt 5 (.go 0 true (.go 3 true (.alt 4 (.done) (.stop)))) (.stop))) (.go 6 true (.alt 7 (.go 8 true (.done)) (.stop)))))), (8, .go 0 true (.go 1 true (.go 2 true (.go 3 true (.go 4 true (.go 5 true (.go 6 true (.go 7 true (.go 8 true (.go 9 true (.go 10 true (.done))))))))))))], _, by cbv, by kernel_rfl⟩
def ye57 : Ent Tryz.prog tb (stlOf tb psf) := ⟨57, [(6, .go 0 true (.go 1 true (.go 2 false (.go 3 true (.go 4 true (.go 5 false (.go 6 true (.alt 7 (.go 8 true (.alt 9 (.done) (.stop))) (.stop)))))))))], _, by cbv, by kernel_rfl⟩
def ye67 : Ent Tryz.prog tb (stlOf tb psf) := ⟨67, [], _, by cbv, by kernel_rfl⟩
def ye69 : Ent Tryz.prog tb (stlOf tb psf) := ⟨69, [], _, by cbv, by kernel_rfl⟩
def ye70 : Ent Tryz.prog tb (stlOf tb psf) := ⟨70, [(5, .go 0 true (.go 1 true (.go 2 false (.sub (.alt 3 (.alt 4 (.done) (.stop)) (.alt 4 (.go 3 true (.done)) (.stop))) (.go 5 true (.done)))))), (7, .go 0 true (.go 1 true (.go 2 true (.go 3 true (.go 4 true (.go 5 true (.go 6 true (.go 7 true (.go 8 true (.go 9 true (.go 10 true (.alt 11 (.go 12 true (.done)) (.stop))))))))))))), (9, .go 3 true (.go 4 true (.go 5 true (.go 6 true (.go 7 true (.go 0 false (.go 11 false (.sub (.alt 1 (.alt 2 (.alt 8 (.done) (.stop)) (.alt 8 (.go 2 true (.done)) (.stop))) (.alt 8 (.go 1 true (.go 2 true (.done))) (.stop))) (.alt 9 (.alt 10 (.go 12 true (.go 13 true (.go 14 true (.done)))) (.stop)) (.stop)))))))))), (10, .go 0 true (.go 1 true (.go 2 true (.go 3 true (.go 4 true (.go 5 true (.go 6 true (.sub (.alt 7 (.alt 8 (.done) (.stop)) (.alt 8 (.alt 7 (.done) (.stop)) (.stop))) (.alt 9 (.done) (.stop)))))))))), (11, .go 2 true (.go 0 false (.go 1 false (.sub (.alt 3 (.go 4 true (.done)) (.alt 4 (.alt 3 (.done) (.stop)) (.stop))) (.go 5 true (.alt 6 (.alt 7 (.go 8 true (.done)) (.stop)) (.stop))))))), (12, .go 0 true (.go 1 true (.go 2 false (.sub (.alt 3 (.alt 4 (.done) (.stop)) (.alt 4 (.go 3 true (.done)) (.stop))) (.go 5 true (.done))))))], _, by cbv, by kernel_rfl⟩
def ye71 : Ent Tryz.prog tb (stlOf tb psf) := ⟨71, [(7, .go 0 true (.go 1 true (.go 2 true (.go 3 true (.go 4 true (.go 5 true (.go 6 true (.go 7 true (.go 8 true (.go 9 false (.go 10 true (.go 11 true (.go 12 false (.alt 13 (.alt 14 (.go 15 true (.done)) (.stop)) (.stop)))))))))))))))], _, by cbv, by kernel_rfl⟩
def ye72 : Ent Tryz.prog tb (stlOf tb psf) := ⟨72, [], _, by cbv, by kernel_rfl⟩
def ye73 : Ent Tryz.prog tb (stlOf tb psf) := ⟨73, [], _, by cbv, by kernel_rfl⟩
def ye74 : Ent Tryz.prog tb (stlOf tb psf) := ⟨74, [(3, .go 0 true (.go 1 true (.go 2 true (.go 3 true (.go 5 false (.sub (.alt 4 (.go 6 true (.done)) (.alt 6 (.alt 4 (.done) (.stop)) (.stop))) (.alt 7 (.go 8 true (.go 9 true (.go 10 true (.go 11 true (.go 12 true (.done)))))) (.stop)))))))), (10, .go 0 true (.go 1 true (.go 2 true (.go 3 true (.go 4 true (.sub (.alt 5 (.go 6 true (.go 7 true (.go 8 false (.alt 9 (.done) (.stop))))) (.alt 9 (.alt 5 (.go 6 true (.go 7 true (.go 8 false (.done)))) (.stop)) (.stop))) (.alt 10 (.go 11 true (.done)) (.stop))))))))], _, by cbv, by kernel_rfl⟩
def ye75 : Ent Tryz.prog tb (stlOf tb psf) := ⟨75, [(2, .go 0 true (.go 1 true (.go 2 true (.go 3 true (.go 4 true (.go 5 true (.go 6 true (.go 7 true (.go 8 true (.go 9 true (.go 10 true (.go 11 true (.go 12 true (.go 13 true (.go 14 true (.go 15 true (.go 16 true (.go 17 true (.go 18 true (.go 19 true (.go 20 true (.go 21 true (.go 22 true (.go 23 true (.go 24 true (.go 25 true (.go 26 true (.go 27 true (.go 28 true (.go 29 true (.go 30 true (.done)))))))))))))))))))))))))))))))), (4, .go 0 true (.go 1 true (.go 2 true (.go 3 true (.go 4 true (.go 5 true (.go 6 true (.go 7 true (.go 8 true (.done))))))))))], _, by cbv, by kernel_rfl⟩
def ye82 : Ent Tryz.prog tb (stlOf tb psf) := ⟨82, [(1, .go 0 true (.go 1 true (.go 2 true (.go 3 true (.go 4 true (.go 5 true (.go 6 true (.go 7 true (.go 8 true (.go 9 true (.go 10 true (.go 11 true (.go 12 true (.go 13 true (.go 14 true (.done))))))))))))))))], _, by cbv, by kernel_rfl⟩
def ye83 : Ent Tryz.prog tb (stlOf tb psf) := ⟨83, [], _, by cbv, by kernel_rfl⟩
def ye84 : Ent Tryz.prog tb (stlOf tb psf) := ⟨84, [], _, by cbv, by kernel_rfl⟩
def ye85 : Ent Tryz.prog tb (stlOf tb psf) := ⟨85, [], _, by cbv, by kernel_rfl⟩
def ye86 : Ent Tryz.prog tb (stlOf tb psf) := ⟨86, [], _, by cbv, by kernel_rfl⟩
def ye88 : Ent Tryz.prog tb (stlOf tb psf) := ⟨88, [], _, by cbv, by kernel_rfl⟩
def ye89 : Ent Tryz.prog tb (stlOf tb psf) := ⟨89, [(4, .go 5 true (.go 6 true (.go 0 false (.go 1 false (.go 2 false (.go 3 false (.sub (.alt 4 (.alt 7 (.done) (.stop)) (.alt 7 (.go 4 true (.done)) (.stop))) (.alt 8 (.go 9 true (.go 10 true (.alt 11 (.done) (.stop)))) (.stop)))))))))], _, by cbv, by kernel_rfl⟩
def ye90 : Ent Tryz.prog tb (stlOf tb psf) := ⟨90, [], _, by cbv, by kernel_rfl⟩
def ye91 : Ent Tryz.prog tb (stlOf tb psf) := ⟨91, [], _, by cbv, by kernel_rfl⟩
end Go.Proofs.YtdioidceogjalaaGreatDoor.sessionRuns
