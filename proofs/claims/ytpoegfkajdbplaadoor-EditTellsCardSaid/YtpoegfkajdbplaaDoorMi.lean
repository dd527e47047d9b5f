import Derived.Test.YtpoegfkajdbplaaDoorMh
import Derived.Test.YtpoegfkajdbplaaDoorMc

/- How each function is run: 0 in the store as it is, 1 as a look, 2 from frozen data. (Printed by genenv.sh.) -/
namespace Go.Proofs.YtpoegfkajdbplaaDoor
open Go.Dm
set_option linter.unusedVariables false

def modeL : List Nat := [1, 1, 1, 1, 1, 1, 2, 2, 2, 1, 1, 1, 1, 1, 2, 2, 2, 2, 1, 1, 2, 1, 2, 2, 1, 0, 0, 0, 1, 1, 1, 2, 1, 0, 1, 1, 2, 1, 1, 2, 1, 1, 1, 1, 1, 1, 1, 1, 1, 1, 1, 1, 1, 1, 1, 1, 1, 1, 1, 0, 0, 0, 0, 0, 1, 1, 0, 1, 1, 1, 1, 1, 1]
def mode (f : FuncId) : Dm.Mode := match nth modeL f with | some 0 => .im | some 1 => .ps | some 3 => .pg | _ => .pf
theorem ext39 : Ext Tryd.prog 39 Extern.AbiNoEscape.same := ext_of Tryd.func39 (by kernel_rfl) (by kernel_rfl) (by kernel_rfl) (by kernel_rfl)
theorem ext43 : Ext Tryd.prog 43 Extern.BytealgCount.count := ext_of Tryd.func43 (by kernel_rfl) (by kernel_rfl) (by kernel_rfl) (by kernel_rfl)
theorem ext49 : Ext Tryd.prog 49 Extern.BytealgIndexByte.indexByte := ext_of Tryd.func49 (by kernel_rfl) (by kernel_rfl) (by kernel_rfl) (by kernel_rfl)

def specs : List (Nat × Dm.Spec) := [(39, spSame),(43, spCount),(49, spIndex)]

def psf (f : FuncId) : Bool := match specOf specs f with | some _ => false | none => isPs (mode f)
def env : Env := ⟨mode, stlOf tb psf, 400, specOf specs, []⟩

theorem specs_ok : SpecOk Tryd.prog env := specOf_ok (l := specs) rfl (by
  intro p hp a σ o h
  simp only [specs, List.mem_cons, List.not_mem_nil, or_false] at hp
  rcases hp with rfl | rfl | rfl
  · exact same_ok ext39 h
  · exact count_ok ext43 h
  · exact index_ok' ext49 h)

theorem all_okM {L : List (Nat × List V × St × List (V × St))} (hM : MemoOk Tryd.prog (env.with L)) (n : Nat) : CallOk Tryd.prog (xcall Tryd.prog tb (env.with L) n) :=
  xcall_ok mixed tok (E := env.with L) rfl specs_ok hM n

theorem all_ok (n : Nat) : CallOk Tryd.prog (xcall Tryd.prog tb env n) := all_okM (L := []) memo_nil n
end Go.Proofs.YtpoegfkajdbplaaDoor

/- Functions compiled ahead, printed by genytab.py. -/
set_option maxHeartbeats 4000000
namespace Go.Proofs.YtpoegfkajdbplaaDoor.editRuns
open Go.Dm

def ye9 : Ent Tryd.prog tb (stlOf tb psf) := ⟨9, [(6, .go 0 true (.go 1 true (.go 2 true (.go 3 true (.go 4 true (.go 5 true (.go 6 true (.go 7 true (.go 8 true (.done))))))))))], _, by cbv, by kernel_rfl⟩
def ye11 : Ent Tryd.prog tb (stlOf tb psf) := ⟨11, [], _, by cbv, by kernel_rfl⟩
def ye12 : Ent Tryd.prog tb (stlOf tb psf) := ⟨12, [], _, by cbv, by kernel_rfl⟩
def ye15 : Ent Tryd.prog tb (stlOf tb psf) := ⟨15, [(3, .go 5 true (.go 6 true (.go 7 true (.go 8 true (.go 9 true (.go 10 true (.go 11 true (.go 12 true (.go 0 false (.go 2 false (.sub (.alt 1 (.alt 3 (.alt 4 (.alt 13 (.alt 14 (.done) (.stop)) (.stop)) (.alt 13 (.alt 4 (.alt 14 (.done) (.stop)) (.alt 14 (.go 4 true (.done)) (.stop))) (.stop))) (.alt 13 (.alt 3 (.alt 4 (.alt 14 (.done) (.stop)) (.alt 14 (.go 4 true (.done)) (.stop))) (.alt 14 (.go 3 true (.go 4 true (.done))) (.stop))) (.stop))) (.alt 3 (.alt 1 (.alt 4 (.alt 13 (.alt 14 (.done) (.stop)) (.stop)) (.alt 13 (.alt 4 (.alt 14 (.done) (.stop)) (.alt 14 (.go 4 true (.done)) (.stop))) (.stop))) (.alt 4 (.alt 1 (.alt 13 (.alt 14 (.done) (.stop)) (.stop)) (.alt 13 (.alt 1 (.alt 14 (.done) (.stop)) (.alt 14 (.go 1 true (.done)) (.stop))) (.stop))) (.alt 13 (.alt 1 (.alt 4 (.alt 14 (.done) (.stop)) (.alt 14 (.go 4 true (.done)) (.stop))) (.alt 4 (.alt 1 (.alt 14 (.done) (.stop)) (.alt 14 (.go 1 true (.done)) (.stop))) (.alt 14 (.go 1 true (.go 4 true (.done))) (.stop)))) (.stop)))) (.alt 13 (.alt 1 (.alt 3 (.alt 4 (.alt 14 (.done) (.stop)) (.alt 14 (.go 4 true (.done)) (.stop))) (.alt 14 (.go 3 true (.go 4 true (.done))) (.stop))) (.alt 3 (.alt 1 (.alt 4 (.alt 14 (.done) (.stop)) (.alt 14 (.go 4 true (.done)) (.stop))) (.alt 4 (.alt 1 (.alt 14 (.done) (.stop)) (.alt 14 (.go 1 true (.done)) (.stop))) (.alt 14 (.go 1 true (.go 4 true (.done))) (.stop)))) (.alt 14 (.go 1 true (.go 3 true (.go 4 true (.done)))) (.stop)))) (.stop)))) (.go 15 true (.alt 16 (.done) (.stop))))))))))))))], _, by cbv, by kernel_rfl⟩
def ye17 : Ent Tryd.prog tb (stlOf tb psf) := ⟨17, [], _, by cbv, by kernel_rfl⟩
def ye18 : Ent Tryd.prog tb (stlOf tb psf) := ⟨18, [], _, by cbv, by kernel_rfl⟩
def ye20 : Ent Tryd.prog tb (stlOf tb psf) := ⟨20, [], _, by cbv, by kernel_rfl⟩
def ye21 : Ent Tryd.prog tb (stlOf tb psf) := ⟨21, [], _, by cbv, by kernel_rfl⟩
def ye22 : Ent Tryd.prog tb (stlOf tb psf) := ⟨22, [], _, by cbv, by kernel_rfl⟩
def ye23 : Ent Tryd.prog tb (stlOf tb psf) := ⟨23, [], _, by cbv, by kernel_rfl⟩
def ye24 : Ent Tryd.prog tb (stlOf tb psf) := ⟨24, [], _, by cbv, by kernel_rfl⟩
def ye25 : Ent Tryd.prog tb (stlOf tb psf) := ⟨25, [], _, by cbv, by kernel_rfl⟩
def ye26 : Ent Tryd.prog tb (stlOf tb psf) := ⟨26, [(1, .go 0 false (.go 1 false (.go 5 false (.go 6 false (.sub (.alt 2 (.alt 3 (.alt 4 (.alt 7 (.go 8 true (.go 9 true (.done))) (.stop)) (.alt 7 (.alt 4 (.go 8 true (.go 9 true (.done))) (.alt 8 (.alt 4 (.go 9 true (.done)) (.alt 9 (.alt 4 (.done) (.stop)) (.stop))) (.stop))) (.stop))) (.alt 7 (.go 3 true (.alt 4 (.go 8 true (.go 9 true (.done))) (.alt 8 (.alt 4 (.go 9 true (.done)) (.alt 9 (.alt 4 (.done) (.stop)) (.stop))) (.stop)))) (.stop))) (.alt 7 (.alt 2 (.go 3 true (.alt 4 (.go 8 true (.go 9 true (.done))) (.alt 8 (.alt 4 (.go 9 true (.done)) (.alt 9 (.alt 4 (.done) (.stop)) (.stop))) (.stop)))) (.alt 8 (.alt 2 (.go 3 true (.alt 4 (.go 9 true (.done)) (.alt 9 (.alt 4 (.done) (.stop)) (.stop)))) (.alt 9 (.alt 2 (.go 3 true (.alt 4 (.done) (.stop))) (.stop)) (.stop))) (.stop))) (.stop))) (.alt 10 (.go 11 true (.done)) (.stop)))))))], _, by cbv, by kernel_rfl⟩
def ye27 : Ent Tryd.prog tb (stlOf tb psf) := ⟨27, [], _, by cbv, by kernel_rfl⟩
def ye28 : Ent Tryd.prog tb (stlOf tb psf) := ⟨28, [], _, by cbv, by kernel_rfl⟩
def ye29 : Ent Tryd.prog tb (stlOf tb psf) := ⟨29, [], _, by cbv, by kernel_rfl⟩
def ye30 : Ent Tryd.prog tb (stlOf tb psf) := ⟨30, [], _, by cbv, by kernel_rfl⟩
def ye31 : Ent Tryd.prog tb (stlOf tb psf) := ⟨31, [], _, by cbv, by kernel_rfl⟩
def ye32 : Ent Tryd.prog tb (stlOf tb psf) := ⟨32, [], _, by cbv, by kernel_rfl⟩
def ye33 : Ent Tryd.prog tb (stlOf tb psf) := ⟨33, [], _, by cbv, by kernel_rfl⟩
def ye34 : Ent Tryd.prog tb (stlOf tb psf) := ⟨34, [], _, by cbv, by kernel_rfl⟩
def ye35 : Ent Tryd.prog tb (stlOf tb psf) := ⟨35, [], _, by cbv, by kernel_rfl⟩
def ye37 : Ent Tryd.prog tb (stlOf tb psf) := ⟨37, [], _, by cbv, by kernel_rfl⟩
def ye38 : Ent Tryd.prog tb (stlOf tb psf) := ⟨38, [], _, by cbv, by kernel_rfl⟩
def ye40 : Ent Tryd.prog tb (stlOf tb psf) := ⟨40, [], _, by cbv, by kernel_rfl⟩
def ye44 : Ent Tryd.prog tb (stlOf tb psf) := ⟨44, [], _, by cbv, by kernel_rfl⟩
end Go.Proofs.YtpoegfkajdbplaaDoor.editRuns

/- Functions compiled ahead, printed by genytab.py. -/
set_option maxHeartbeats 4000000
namespace Go.Proofs.YtpoegfkajdbplaaDoor.editRuns
open Go.Dm

def ye8 : Ent Tryd.prog tb (stlOf tb psf) := ⟨8, [(3, .go 0 false (.go 1 false (.go 4 false (.go 6 false (.go 7 false (.go 9 false (.sub (.alt 2 (.alt 3 (.go 8 true (.go 10 true (.go 11 true (.alt 5 (.alt 12 (.done) (.stop)) (.alt 12 (.go 5 true (.done)) (.stop)))))) (.alt 5 (.alt 3 (.go 8 true (.go 10 true (.go 11 true (.alt 12 (.done) (.stop))))) (.alt 8 (.alt 3 (.go 10 true (.go 11 true (.alt 12 (.done) (.stop)))) (.alt 10 (.go 11 false (.alt 3 (.alt 12 (.done) (.stop)) (.alt 12 (.alt 3 (.done) (.stop)) (.stop)))) (.stop))) (.alt 10 (.alt 3 (.go 8 true (.go 11 true (.alt 12 (.done) (.stop)))) (.alt 8 (.go 11 false (.alt 3 (.alt 12 (.done) (.stop)) (.alt 12 (.alt 3 (.done) (.stop)) (.stop)))) (.stop))) (.stop)))) (.alt 8 (.alt 3 (.go 10 true (.go 11 true (.alt 5 (.alt 12 (.done) (.stop)) (.alt 12 (.go 5 true (.done)) (.stop))))) (.alt 5 (.alt 3 (.go 10 true (.go 11 true (.alt 12 (.done) (.stop)))) (.alt 10 (.go 11 false (.alt 3 (.alt 12 (.done) (.stop)) (.alt 12 (.alt 3 (.done) (.stop)) (.stop)))) (.stop))) (.alt 10 (.go 11 false (.alt 3 (.alt 5 (.alt 12 (.done) (.stop)) (.alt 12 (.go 5 true (.done)) (.stop))) (.alt 5 (.alt 3 (.alt 12 (.done) (.stop)) (.alt 12 (.alt 3 (.done) (.stop)) (.stop))) (.alt 12 (.alt 3 (.go 5 true (.done)) (.alt 5 (.alt 3 (.done) (.stop)) (.stop))) (.stop))))) (.stop)))) (.alt 10 (.alt 3 (.go 8 true (.go 11 true (.alt 5 (.alt 12 (.done) (.stop)) (.alt 12 (.go 5 true (.done)) (.stop))))) (.alt 5 (.alt 3 (.go 8 true (.go 11 true (.alt 12 (.done) (.stop)))) (.alt 8 (.go 11 false (.alt 3 (.alt 12 (.done) (.stop)) (.alt 12 (.alt 3 (.done) (.stop)) (.stop)))) (.stop))) (.alt 8 (.go 11 false (.alt 3 (.alt 5 (.alt 12 (.done) (.stop)) (.alt 12 (.go 5 true (.done)) (.stop))) (.alt 5 (.alt 3 (.alt 12 (.done) (.stop)) (.alt 12 (.alt 3 (.done) (.stop)) (.stop))) (.alt 12 (.alt 3 (.go 5 true (.done)) (.alt 5 (.alt 3 (.done) (.stop)) (.stop))) (.stop))))) (.stop)))) (.stop))))) (.alt 5 (.alt 2 (.alt 3 (.go 8 true (.go 10 true (.go 11 true (.alt 12 (.done) (.stop))))) (.alt 8 (.alt 3 (.go 10 true (.go 11 true (.alt 12 (.done) (.stop)))) (.alt 10 (.go 11 false (.alt 3 (.alt 12 (.done) (.stop)) (.alt 12 (.alt 3 (.done) (.stop)) (.stop)))) (.stop))) (.alt 10 (.alt 3 (.go 8 true (.go 11 true (.alt 12 (.done) (.stop)))) (.alt 8 (.go 11 false (.alt 3 (.alt 12 (.done) (.stop)) (.alt 12 (.alt 3 (.done) (.stop)) (.stop)))) (.stop))) (.stop)))) (.alt 8 (.alt 2 (.alt 3 (.go 10 true (.go 11 true (.alt 12 (.done) (.stop)))) (.alt 10 (.go 11 false (.alt 3 (.alt 12 (.done) (.stop)) (.alt 12 (.alt 3 (.done) (.stop)) (.stop)))) (.stop))) (.alt 10 (.go 11 false (.alt 2 (.alt 3 (.alt 12 (.done) (.stop)) (.alt 12 (.alt 3 (.done) (.stop)) (.stop))) (.alt 12 (.go 2 true (.alt 3 (.done) (.stop))) (.stop)))) (.stop))) (.alt 10 (.alt 2 (.alt 3 (.go 8 true (.go 11 true (.alt 12 (.done) (.stop)))) (.alt 8 (.go 11 false (.alt 3 (.alt 12 (.done) (.stop)) (.alt 12 (.alt 3 (.done) (.stop)) (.stop)))) (.stop))) (.alt 8 (.go 11 false (.alt 2 (.alt 3 (.alt 12 (.done) (.stop)) (.alt 12 (.alt 3 (.done) (.stop)) (.stop))) (.alt 12 (.go 2 true (.alt 3 (.done) (.stop))) (.stop)))) (.stop))) (.stop)))) (.alt 8 (.alt 2 (.alt 3 (.go 10 true (.go 11 true (.alt 5 (.alt 12 (.done) (.stop)) (.alt 12 (.go 5 true (.done)) (.stop))))) (.alt 5 (.alt 3 (.go 10 true (.go 11 true (.alt 12 (.done) (.stop)))) (.alt 10 (.go 11 false (.alt 3 (.alt 12 (.done) (.stop)) (.alt 12 (.alt 3 (.done) (.stop)) (.stop)))) (.stop))) (.alt 10 (.go 11 false (.alt 3 (.alt 5 (.alt 12 (.done) (.stop)) (.alt 12 (.go 5 true (.done)) (.stop))) (.alt 5 (.alt 3 (.alt 12 (.done) (.stop)) (.alt 12 (.alt 3 (.done) (.stop)) (.stop))) (.alt 12 (.alt 3 (.go 5 true (.done)) (.alt 5 (.alt 3 (.done) (.stop)) (.stop))) (.stop))))) (.stop)))) (.alt 5 (.alt 2 (.alt 3 (.go 10 true (.go 11 true (.alt 12 (.done) (.stop)))) (.alt 10 (.go 11 false (.alt 3 (.alt 12 (.done) (.stop)) (.alt 12 (.alt 3 (.done) (.stop)) (.stop)))) (.stop))) (.alt 10 (.go 11 false (.alt 2 (.alt 3 (.alt 12 (.done) (.stop)) (.alt 12 (.alt 3 (.done) (.stop)) (.stop))) (.alt 12 (.go 2 true (.alt 3 (.done) (.stop))) (.stop)))) (.stop))) (.alt 10 (.go 11 false (.alt 2 (.alt 3 (.alt 5 (.alt 12 (.done) (.stop)) (.alt 12 (.go 5 true (.done)) (.stop))) (.alt 5 (.alt 3 (.alt 12 (.done) (.stop)) (.alt 12 (.alt 3 (.done) (.stop)) (.stop))) (.alt 12 (.alt 3 (.go 5 true (.done)) (.alt 5 (.alt 3 (.done) (.stop)) (.stop))) (.stop)))) (.alt 5 (.alt 2 (.alt 3 (.alt 12 (.done) (.stop)) (.alt 12 (.alt 3 (.done) (.stop)) (.stop))) (.alt 12 (.go 2 true (.alt 3 (.done) (.stop))) (.stop))) (.alt 12 (.go 2 true (.alt 3 (.go 5 true (.done)) (.alt 5 (.alt 3 (.done) (.stop)) (.stop)))) (.stop))))) (.stop)))) (.alt 10 (.alt 2 (.alt 3 (.go 8 true (.go 11 true (.alt 5 (.alt 12 (.done) (.stop)) (.alt 12 (.go 5 true (.done)) (.stop))))) (.alt 5 (.alt 3 (.go 8 true (.go 11 true (.alt 12 (.done) (.stop)))) (.alt 8 (.go 11 false (.alt 3 (.alt 12 (.done) (.stop)) (.alt 12 (.alt 3 (.done) (.stop)) (.stop)))) (.stop))) (.alt 8 (.go 11 false (.alt 3 (.alt 5 (.alt 12 (.done) (.stop)) (.alt 12 (.go 5 true (.done)) (.stop))) (.alt 5 (.alt 3 (.alt 12 (.done) (.stop)) (.alt 12 (.alt 3 (.done) (.stop)) (.stop))) (.alt 12 (.alt 3 (.go 5 true (.done)) (.alt 5 (.alt 3 (.done) (.stop)) (.stop))) (.stop))))) (.stop)))) (.alt 5 (.alt 2 (.alt 3 (.go 8 true (.go 11 true (.alt 12 (.done) (.stop)))) (.alt 8 (.go 11 false (.alt 3 (.alt 12 (.done) (.stop)) (.alt 12 (.alt 3 (.done) (.stop)) (.stop)))) (.stop))) (.alt 8 (.go 11 false (.alt 2 (.alt 3 (.alt 12 (.done) (.stop)) (.alt 12 (.alt 3 (.done) (.stop)) (.stop))) (.alt 12 (.go 2 true (.alt 3 (.done) (.stop))) (.stop)))) (.stop))) (.alt 8 (.go 11 false (.alt 2 (.alt 3 (.alt 5 (.alt 12 (.done) (.stop)) (.alt 12 (.go 5 true (.done)) (.stop))) (.alt 5 (.alt 3 (.alt 12 (.done) (.stop)) (.alt 12 (.alt 3 (.done) (.stop)) (.stop))) (.alt 12 (.alt 3 (.go 5 true (.done)) (.alt 5 (.alt 3 (.done) (.stop)) (.stop))) (.stop)))) (.alt 5 (.alt 2 (.alt 3 (.alt 12 (.done) (.stop)) (.alt 12 (.alt 3 (.done) (.stop)) (.stop))) (.alt 12 (.go 2 true (.alt 3 (.done) (.stop))) (.stop))) (.alt 12 (.go 2 true (.alt 3 (.go 5 true (.done)) (.alt 5 (.alt 3 (.done) (.stop)) (.stop)))) (.stop))))) (.stop)))) (.stop))))) (.alt 13 (.alt 14 (.go 15 true (.go 16 true (.done))) (.stop)) (.stop)))))))))], _, by cbv, by kernel_rfl⟩
end Go.Proofs.YtpoegfkajdbplaaDoor.editRuns

/- The table of functions compiled ahead, printed by genytab.py. -/
namespace Go.Proofs.YtpoegfkajdbplaaDoor.editRuns
open Go.Dm

def ytl : List (List (Option (Ent Tryd.prog tb (stlOf tb psf)))) := [
  [none, none, none, none, none, none, none, none, some ye8, some ye9, none, some ye11, some ye12, none, none, some ye15],
  [none, some ye17, some ye18, none, some ye20, some ye21, some ye22, some ye23, some ye24, some ye25, some ye26, some ye27, some ye28, some ye29, some ye30, some ye31],
  [some ye32, some ye33, some ye34, some ye35, none, some ye37, some ye38, none, some ye40, none, none, none, some ye44]]

noncomputable def bd : Bodies := bodies 400 ytl

theorem bd_ok : BodiesOk Tryd.prog psf bd := bodies_ok mixed tok 400 ytl

theorem yall_ok {L : List (Nat × List V × St × List (V × St))} (hM : MemoOk Tryd.prog (env.with L)) (n : Nat) : CallOk Tryd.prog (ycall bd (env.with L) n) :=
  ycall_ok (E := env.with L) bd_ok specs_ok hM n
theorem ymemo {L : List (Nat × List V × St × List (V × St))} (hM : MemoOk Tryd.prog (env.with L)) {n : Nat} {c : Nat × List V × St × List (V × St)} (h : ycall bd (env.with L) n c.1 c.2.1 c.2.2.1 = some c.2.2.2) : MemoOk Tryd.prog (env.with (c :: L)) := by
  intro d hd
  rcases List.mem_cons.1 hd with rfl | hd
  · exact ⟨yall_ok hM n _ _ _ _ h, fun hp p hpo => ycall_still (E := env.with L) hM n _ hp _ _ _ h p hpo⟩
  · exact hM d hd

end Go.Proofs.YtpoegfkajdbplaaDoor.editRuns

/- The calls of EditRuns's run, each by itself. (Printed by chunk.sh and mkchunks.py.) -/
namespace Go.Proofs.YtpoegfkajdbplaaDoor.editRuns
open Go.Dm

abbrev KT := Nat × List V × St × List (V × St)
def M0 : List KT := []
theorem m0 : MemoOk Tryd.prog (env.with M0) := memo_nil

def MM : List KT := M0
theorem mm : MemoOk Tryd.prog (env.with MM) := m0

theorem ran : ycall bd (env.with MM) 200 12 [] [] = some [(.c (.f (.bool true)), [])] := by kernel_rfl
end Go.Proofs.YtpoegfkajdbplaaDoor.editRuns
