/- Printed by merge.py: many texts in one. -/
import Derived.Test.YtpoegfkajdbplaaMh
import Derived.Test.YtpoegfkajdbplaaMc

namespace Go.Proofs.Ytpoegfkajdbplaa
open Go.Dm
set_option linter.unusedVariables false
def modeL : List Nat := [1, 1, 1, 1, 1, 1, 1, 1, 1, 1, 1, 1, 1, 1, 1, 1, 1, 1, 1, 1, 1, 2, 1, 2, 2, 2, 1, 1, 1, 1, 2, 1, 2, 1, 1, 1, 1, 1, 1, 1, 1, 2, 2, 0, 0, 0, 0, 0, 0, 0, 1, 1, 1, 1, 2, 2, 2, 2, 1, 1, 1, 1, 1, 1, 1, 1, 1, 2, 1, 2, 2, 0, 0, 1, 1, 2, 2, 2, 1, 1, 1, 2, 1, 2, 2, 2, 2, 1, 1, 1, 1, 2, 1, 0, 0, 2, 2, 1, 1, 2, 1, 1, 1, 2, 2, 0, 2, 0, 1, 2, 1, 2, 0, 1, 1, 0, 1, 0, 1, 1, 1, 1, 1, 1, 1, 1, 1, 1, 1, 0, 0, 0, 0, 0, 1, 1, 1]
def mode (f : FuncId) : Dm.Mode := match nth modeL f with | some 0 => .im | some 1 => .ps | some 3 => .pg | _ => .pf
theorem ext64 : Ext Try.prog 64 Extern.BytealgCount.count := ext_of Try.func64 (by kernel_rfl) (by kernel_rfl) (by kernel_rfl) (by kernel_rfl)
theorem ext97 : Ext Try.prog 97 Extern.BytealgIndexByte.indexByte := ext_of Try.func97 (by kernel_rfl) (by kernel_rfl) (by kernel_rfl) (by kernel_rfl)
def specs : List (Nat × Dm.Spec) := [(64, spCount),(97, spIndex)]
def psf (f : FuncId) : Bool := match specOf specs f with | some _ => false | none => isPs (mode f)
def env : Env := ⟨mode, stlOf tb psf, 400, specOf specs, []⟩
theorem specs_ok : SpecOk Try.prog env := specOf_ok (l := specs) rfl (by
  intro p hp a σ o h
  simp only [specs, List.mem_cons, List.not_mem_nil, or_false] at hp
  rcases hp with rfl | rfl
  · exact count_ok ext64 h
  · exact index_ok' ext97 h)
theorem all_okM {L : List (Nat × List V × St × List (V × St))} (hM : MemoOk Try.prog (env.with L)) (n : Nat) : CallOk Try.prog (xcall Try.prog tb (env.with L) n) :=
  xcall_ok mixed tok (E := env.with L) rfl specs_ok hM n
theorem all_ok (n : Nat) : CallOk Try.prog (xcall Try.prog tb env n) := all_okM (L := []) memo_nil n
end Go.Proofs.Ytpoegfkajdbplaa
set_option maxHeartbeats 4000000
namespace Go.Proofs.Ytpoegfkajdbplaa.pickRuns
open Go.Dm
def ye34 : Ent Try.prog tb (stlOf tb psf) := ⟨34, [], _, by cbv, by kernel_rfl⟩
def ye35 : Ent Try.prog tb (stlOf tb psf) := ⟨35, [], _, by cbv, by kernel_rfl⟩
def ye36 : Ent Try.prog tb (stlOf tb psf) := ⟨36, [], _, by cbv, by kernel_rfl⟩
def ye59 : Ent Try.prog tb (stlOf tb psf) := ⟨59, [], _, by cbv, by kernel_rfl⟩
def ye61 : Ent Try.prog tb (stlOf tb psf) := ⟨61, [(6, .go 0 true (.go 1 true (.go 2 true (.go 3 true (.go 4 true (.go 5 true (.go 6 true (.go 7 true (.go 8 true (.done))))))))))], _, by cbv, by kernel_rfl⟩
end Go.Proofs.Ytpoegfkajdbplaa.pickRuns
namespace Go.Proofs.Ytpoegfkajdbplaa.pickRuns
open Go.Dm
def ytl : List (List (Option (Ent Try.prog tb (stlOf tb psf)))) := [
  [none, none, none, none, none, none, none, none, none, none, none, none, none, none, none, none],
  [none, none, none, none, none, none, none, none, none, none, none, none, none, none, none, none],
  [none, none, some ye34, some ye35, some ye36, none, none, none, none, none, none, none, none, none, none, none],
  [none, none, none, none, none, none, none, none, none, none, none, some ye59, none, some ye61]]
noncomputable def bd : Bodies := bodies 400 ytl
theorem bd_ok : BodiesOk Try.prog psf bd := bodies_ok mixed tok 400 ytl
theorem yall_ok {L : List (Nat × List V × St × List (V × St))} (hM : MemoOk Try.prog (env.with L)) (n : Nat) : CallOk Try.prog (ycall bd (env.with L) n) :=
  ycall_ok (E := env.with L) bd_ok specs_ok hM n
theorem ymemo {L : List (Nat × List V × St × List (V × St))} (hM : MemoOk Try.prog (env.with L)) {n : Nat} {c : Nat × List V × St × List (V × St)} (h : ycall bd (env.with L) n c.1 c.2.1 c.2.2.1 = some c.2.2.2) : MemoOk Try.prog (env.with (c :: L)) := by
  intro d hd
  rcases List.mem_cons.1 hd with rfl | hd
  · exact ⟨yall_ok hM n _ _ _ _ h, fun hp p hpo => ycall_still (E := env.with L) hM n _ hp _ _ _ h p hpo⟩
  · exact hM d hd
end Go.Proofs.Ytpoegfkajdbplaa.pickRuns
namespace Go.Proofs.Ytpoegfkajdbplaa.pickRuns
open Go.Dm
abbrev KT := Nat × List V × St × List (V × St)
def M0 : List KT := []
theorem m0 : MemoOk Try.prog (env.with M0) := memo_nil
def MM : List KT := M0
theorem mm : MemoOk Try.prog (env.with MM) := m0
theorem ran : ycall bd (env.with MM) 200 36 [] [] = some [(.c (.f (.bool true)), [])] := by kernel_rfl
end Go.Proofs.Ytpoegfkajdbplaa.pickRuns
