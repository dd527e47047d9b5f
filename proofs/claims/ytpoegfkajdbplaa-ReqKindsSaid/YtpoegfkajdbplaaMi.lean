/- Printed by merge.py: many texts in one. -/
import Derived.Test.YtpoegfkajdbplaaMh
import Derived.Test.YtpoegfkajdbplaaMc

namespace Go.Proofs.Ytpoegfkajdbplaa
open Go.Dm
set_option linter.unusedVariables false
def modeL : List Nat := [1, 1, 1, 1, 1, 1, 1, 1, 1, 1, 1, 1, 1, 1, 1, 1, 1, 1, 1, 1, 1, 2, 1, 2, 2, 2, 1, 1, 1, 1, 2, 1, 2, 1, 1, 1, 1, 1, 1, 1, 1, 2, 2, 0, 0, 0, 0, 0, 0, 0, 1, 1, 1, 1, 2, 2, 2, 2, 1, 1, 1, 1, 1, 1, 1, 1, 1, 2, 1, 2, 2, 0, 0, 1, 1, 2, 2, 2, 1, 1, 1, 2, 1, 2, 2, 2, 2, 1, 1, 1, 1, 2, 1, 0, 0, 2, 2, 1, 1, 2, 1, 1, 1, 2, 2, 0, 2, 0, 1, 2, 1, 2, 0, 1, 1, 0, 1, 0, 1, 1, 1, 1, 1, 1, 1, 1, 1, 1, 1, 0, 0, 0, 0, 0, 1, 1, 1]
def mode (f : FuncId) : Dm.Mode := match nth modeL f with | some 0 => .im | some 1 => .ps | some 3 => .pg | _ => .pf
theorem ext64 : Ext Try.prog 64 Extern.BytealgCount.count := ext_of Try.func64 (by kernel_rfl) (by kernel_rfl) (by kernel_rfl) (by kernel_rfl)
theorem ext97 : Ext Try.prog 97 Extern.BytealgIndexByte.indexByte := ext_of Try.func97 (by kernel_rfl) (by kernel_rfl) (by kernel_rfl) (by kernel_rfl)
def specs : List (Nat × Dm.Spec) := [(64, spCount),(97, spIndex)]
def psf (f : FuncId) : Bool := match specOf specs f with | some _ => false | none => isPs (mode f)
def env : Env := ⟨mode, stlOf tb psf, 400, specOf specs, []⟩
theorem specs_ok : SpecOk Try.prog env := specOf_ok (l := specs) rfl (by
  intro p hp a σ o h
  simp only [specs, List.mem_cons, List.not_mem_nil, or_false] at hp
  rcases hp with rfl | rfl
  · exact count_ok ext64 h
  · exact index_ok' ext97 h)
theorem all_okM {L : List (Nat × List V × St × List (V × St))} (hM : MemoOk Try.prog (env.with L)) (n : Nat) : CallOk Try.prog (xcall Try.prog tb (env.with L) n) :=
  xcall_ok mixed tok (E := env.with L) rfl specs_ok hM n
theorem all_ok (n : Nat) : CallOk Try.prog (xcall Try.prog tb env n) := all_okM (L := []) memo_nil n
end Go.Proofs.Ytpoegfkajdbplaa
set_option maxHeartbeats 4000000
namespace Go.Proofs.Ytpoegfkajdbplaa.reqRuns
open Go.Dm
def ye23 : Ent Try.prog tb (stlOf tb psf) := ⟨23, [(4, .go 4 true (.go 5 true (.go 0 false (.go 2 false (.sub (.alt 1 (.go 7 false (.alt 3 (.alt 6 (.alt 8 (.done) (.stop)) (.stop)) (.alt 6 (.alt 3 (.alt 8 (.done) (.stop)) (.alt 8 (.go 3 true (.done)) (.stop))) (.stop)))) (.alt 3 (.sub (.alt 1 (.go 7 false (.alt 6 (.done) (.stop))) (.alt 6 (.go 1 true (.go 7 true (.done))) (.stop))) (.alt 8 (.done) (.stop))) (.alt 6 (.go 1 true (.go 7 true (.alt 3 (.alt 8 (.done) (.stop)) (.alt 8 (.go 3 true (.done)) (.stop))))) (.stop)))) (.go 9 true (.alt 10 (.go 11 true (.alt 12 (.done) (.stop))) (.stop)))))))), (13, .go 0 true (.go 1 true (.go 6 true (.go 2 false (.go 4 false (.sub (.alt 3 (.alt 5 (.alt 7 (.go 8 true (.alt 9 (.done) (.stop))) (.stop)) (.alt 7 (.go 8 true (.alt 5 (.alt 9 (.done) (.stop)) (.alt 9 (.go 5 true (.done)) (.stop)))) (.stop))) (.alt 5 (.sub (.alt 3 (.alt 7 (.done) (.stop)) (.alt 7 (.go 3 true (.done)) (.stop))) (.go 8 true (.alt 9 (.done) (.stop)))) (.alt 7 (.go 3 true (.go 8 true (.alt 5 (.alt 9 (.done) (.stop)) (.alt 9 (.go 5 true (.done)) (.stop))))) (.stop)))) (.go 10 true (.alt 11 (.done) (.stop)))))))))], _, by cbv, by kernel_rfl⟩
def ye24 : Ent Try.prog tb (stlOf tb psf) := ⟨24, [], _, by cbv, by kernel_rfl⟩
def ye25 : Ent Try.prog tb (stlOf tb psf) := ⟨25, [(6, .go 0 true (.sub (.alt 1 (.go 3 true (.done)) (.alt 3 (.alt 1 (.done) (.stop)) (.stop))) (.go 2 false (.alt 4 (.go 5 true (.go 6 true (.go 7 true (.alt 8 (.done) (.stop))))) (.stop))))), (11, .go 0 true (.sub (.alt 1 (.go 2 true (.go 6 false (.alt 3 (.go 4 true (.done)) (.alt 4 (.alt 3 (.done) (.stop)) (.stop))))) (.alt 2 (.alt 1 (.go 6 false (.alt 3 (.go 4 true (.done)) (.alt 4 (.alt 3 (.done) (.stop)) (.stop)))) (.alt 4 (.alt 1 (.go 6 false (.alt 3 (.done) (.stop))) (.stop)) (.stop))) (.alt 4 (.sub (.alt 1 (.go 2 true (.done)) (.alt 2 (.alt 1 (.done) (.stop)) (.stop))) (.go 6 false (.alt 3 (.done) (.stop)))) (.stop)))) (.alt 5 (.alt 7 (.go 8 true (.alt 9 (.go 10 true (.alt 11 (.done) (.stop))) (.stop))) (.stop)) (.stop))))], _, by cbv, by kernel_rfl⟩
def ye27 : Ent Try.prog tb (stlOf tb psf) := ⟨27, [], _, by cbv, by kernel_rfl⟩
def ye28 : Ent Try.prog tb (stlOf tb psf) := ⟨28, [(6, .go 0 true (.go 1 true (.go 2 true (.go 3 true (.go 4 true (.go 5 true (.go 6 true (.go 7 true (.go 8 true (.done))))))))))], _, by cbv, by kernel_rfl⟩
def ye29 : Ent Try.prog tb (stlOf tb psf) := ⟨29, [], _, by cbv, by kernel_rfl⟩
def ye42 : Ent Try.prog tb (stlOf tb psf) := ⟨42, [(5, .go 1 true (.go 2 true (.go 3 true (.go 4 true (.go 5 true (.go 6 true (.go 7 true (.go 8 true (.go 0 false (.alt 9 (.alt 10 (.go 11 true (.done)) (.stop)) (.stop)))))))))))], _, by cbv, by kernel_rfl⟩
def ye43 : Ent Try.prog tb (stlOf tb psf) := ⟨43, [], _, by cbv, by kernel_rfl⟩
def ye49 : Ent Try.prog tb (stlOf tb psf) := ⟨49, [], _, by cbv, by kernel_rfl⟩
def ye50 : Ent Try.prog tb (stlOf tb psf) := ⟨50, [(6, .go 0 true (.go 1 true (.go 2 true (.go 3 true (.go 4 true (.go 5 true (.go 6 true (.go 7 true (.go 8 true (.done))))))))))], _, by cbv, by kernel_rfl⟩
def ye53 : Ent Try.prog tb (stlOf tb psf) := ⟨53, [], _, by cbv, by kernel_rfl⟩
def ye70 : Ent Try.prog tb (stlOf tb psf) := ⟨70, [], _, by cbv, by kernel_rfl⟩
def ye71 : Ent Try.prog tb (stlOf tb psf) := ⟨71, [], _, by cbv, by kernel_rfl⟩
def ye73 : Ent Try.prog tb (stlOf tb psf) := ⟨73, [], _, by cbv, by kernel_rfl⟩
def ye74 : Ent Try.prog tb (stlOf tb psf) := ⟨74, [], _, by cbv, by kernel_rfl⟩
def ye79 : Ent Try.prog tb (stlOf tb psf) := ⟨79, [], _, by cbv, by kernel_rfl⟩
end Go.Proofs.Ytpoegfkajdbplaa.reqRuns
namespace Go.Proofs.Ytpoegfkajdbplaa.reqRuns
open Go.Dm
def ytl : List (List (Option (Ent Try.prog tb (stlOf tb psf)))) := [
  [none, none, none, none, none, none, none, none, none, none, none, none, none, none, none, none],
  [none, none, none, none, none, none, none, some ye23, some ye24, some ye25, none, some ye27, some ye28, some ye29, none, none],
  [none, none, none, none, none, none, none, none, none, none, some ye42, some ye43, none, none, none, none],
  [none, some ye49, some ye50, none, none, some ye53, none, none, none, none, none, none, none, none, none, none],
  [none, none, none, none, none, none, some ye70, some ye71, none, some ye73, some ye74, none, none, none, none, some ye79]]
noncomputable def bd : Bodies := bodies 400 ytl
theorem bd_ok : BodiesOk Try.prog psf bd := bodies_ok mixed tok 400 ytl
theorem yall_ok {L : List (Nat × List V × St × List (V × St))} (hM : MemoOk Try.prog (env.with L)) (n : Nat) : CallOk Try.prog (ycall bd (env.with L) n) :=
  ycall_ok (E := env.with L) bd_ok specs_ok hM n
theorem ymemo {L : List (Nat × List V × St × List (V × St))} (hM : MemoOk Try.prog (env.with L)) {n : Nat} {c : Nat × List V × St × List (V × St)} (h : ycall bd (env.with L) n c.1 c.2.1 c.2.2.1 = some c.2.2.2) : MemoOk Try.prog (env.with (c :: L)) := by
  intro d hd
  rcases List.mem_cons.1 hd with rfl | hd
  · exact ⟨yall_ok hM n _ _ _ _ h, fun hp p hpo => ycall_still (E := env.with L) hM n _ hp _ _ _ h p hpo⟩
  · exact hM d hd
end Go.Proofs.Ytpoegfkajdbplaa.reqRuns
namespace Go.Proofs.Ytpoegfkajdbplaa.reqRuns
open Go.Dm
abbrev KT := Nat × List V × St × List (V × St)
def M0 : List KT := []
theorem m0 : MemoOk Try.prog (env.with M0) := memo_nil
def MM : List KT := M0
theorem mm : MemoOk Try.prog (env.with MM) := m0
theorem ran : ycall bd (env.with MM) 200 29 [] [] = some [(.c (.f (.bool true)), [])] := by kernel_rfl
end Go.Proofs.Ytpoegfkajdbplaa.reqRuns
