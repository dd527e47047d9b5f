/- The table of functions compiled ahead, printed by genytab.py. -/
import Derived.Test.YtdioidceogjalaaGreatDoorYSessionRunsa
import Derived.Test.YtdioidceogjalaaGreatDoorYSessionRunsb
import Derived.Test.YtdioidceogjalaaGreatDoorYSessionRunsc
namespace Go.Proofs.YtdioidceogjalaaGreatDoor.sessionRuns
open Go.Dm

def ytl : List (List (Option (Ent Tryz.prog tb (stlOf tb psf)))) := [
  [none, none, none, none, none, none, none, none, none, some ye9, none, none, some ye12, some ye13, some ye14, none],
  [some ye16, some ye17, some ye18, some ye19, some ye20, some ye21, some ye22, some ye23, some ye24, none, none, none, none, none, none, none],
  [none, some ye33, some ye34, some ye35, some ye36, some ye37, some ye38, some ye39, none, none, none, none, none, some ye45, some ye46, some ye47],
  [some ye48, some ye49, some ye50, some ye51, some ye52, some ye53, some ye54, none, none, some ye57, none, none, none, none, none, none],
  [none, none, none, some ye67, some ye68, some ye69, some ye70, some ye71, some ye72, some ye73, some ye74, some ye75, some ye76, none, none, none],
  [none, none, some ye82, some ye83, some ye84, some ye85, some ye86, none, some ye88, some ye89, some ye90, some ye91, some ye92, some ye93, none, some ye95],
  [some ye96, some ye97, some ye98, some ye99, some ye100, some ye101, some ye102, none, none, some ye105, none, none, none, none, none, none],
  [some ye112, some ye113, some ye114, some ye115, some ye116, some ye117, some ye118, some ye119, some ye120, none, none, none, none, none, none, some ye127],
  [some ye128, none, none, none, none, none, none, none, none, none, some ye138, none, some ye140, some ye141, some ye142, some ye143],
  [some ye144, some ye145, some ye146, none, none, none, some ye150, some ye151, some ye152, none, none, none, none, none, none, none],
  [none, none, none, none, none, none, none, none, some ye168, none, none, none, none, some ye173, none, some ye175],
  [some ye176, none, none, none, none, none, none, some ye183, some ye184, some ye185, none, none, none, none, none, none],
  [some ye192, none, none, none, none, none, none, none, none, none, none, none, none, some ye205, none, none],
  [none, none, none, some ye211, some ye212, none, none, some ye215, none, none, none, none, none, none, none, none],
  [none, none, some ye226, none, none, none, none, some ye231, none, none, none, none, none, none, none, none],
  [none, none, none, none, none, none, none, none, none, none, none, some ye251]]

noncomputable def bd : Bodies := bodies 400 ytl

theorem bd_ok : BodiesOk Tryz.prog psf bd := bodies_ok mixed tok 400 ytl

theorem yall_ok {L : List (Nat × List V × St × List (V × St))} (hM : MemoOk Tryz.prog (env.with L)) (n : Nat) : CallOk Tryz.prog (ycall bd (env.with L) n) :=
  ycall_ok (E := env.with L) bd_ok specs_ok hM n
theorem ymemo {L : List (Nat × List V × St × List (V × St))} (hM : MemoOk Tryz.prog (env.with L)) {n : Nat} {c : Nat × List V × St × List (V × St)} (h : ycall bd (env.with L) n c.1 c.2.1 c.2.2.1 = some c.2.2.2) : MemoOk Tryz.prog (env.with (c :: L)) := by
  intro d hd
  rcases List.mem_cons.1 hd with rfl | hd
  · exact ⟨yall_ok hM n _ _ _ _ h, fun hp p hpo => ycall_still (E := env.with L) hM n _ hp _ _ _ h p hpo⟩
  · exact hM d hd

end Go.Proofs.YtdioidceogjalaaGreatDoor.sessionRuns
