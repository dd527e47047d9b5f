/- The table of functions compiled ahead, printed by genytab.py. -/
import Derived.Test.YtdioidceogjalaaGreatDoorYRunRunsa
import Derived.Test.YtdioidceogjalaaGreatDoorYRunRunsb
import Derived.Test.YtdioidceogjalaaGreatDoorYRunRunsc
import Derived.Test.YtdioidceogjalaaGreatDoorYRunRunsd
namespace Go.Proofs.YtdioidceogjalaaGreatDoor.runRuns
open Go.Dm

def ytl : List (List (Option (Ent Tryz.prog tb (stlOf tb psf)))) := [
  [none, none, none, none, some ye4, none, none, none, none, none, none, none, some ye12, some ye13, some ye14, some ye15],
  [some ye16, some ye17, some ye18, some ye19, none, none, none, none, none, none, none, none, none, none, none, none],
  [none, none, none, none, none, none, none, none, none, none, none, none, none, some ye45, some ye46, some ye47],
  [some ye48, some ye49, some ye50, some ye51, some ye52, some ye53, some ye54, none, none, none, none, none, none, none, none, none],
  [none, none, none, none, none, none, none, none, none, none, none, none, none, none, none, none],
  [none, none, some ye82, some ye83, some ye84, some ye85, some ye86, none, some ye88, some ye89, some ye90, some ye91, some ye92, some ye93, none, some ye95],
  [some ye96, some ye97, some ye98, some ye99, some ye100, some ye101, some ye102, none, none, none, none, none, none, none, none, none],
  [none, none, none, none, none, none, none, none, none, none, none, none, none, none, none, some ye127],
  [some ye128, some ye129, none, none, some ye132, none, none, some ye135, none, none, none, none, some ye140, some ye141, some ye142, some ye143],
  [some ye144, some ye145, some ye146, none, none, none, none, none, none, none, none, none, none, none, none, none],
  [none, none, none, none, none, none, none, none, some ye168, none, none, some ye171, none, some ye173, none, some ye175],
  [some ye176, none, none, none, some ye180, some ye181, none, some ye183, some ye184, some ye185, none, none, none, none, none, none],
  [some ye192, none, none, none, some ye196, none, some ye198, some ye199, some ye200, none, none, some ye203, some ye204, some ye205, none, some ye207],
  [some ye208, some ye209, some ye210, some ye211, some ye212, some ye213, none, some ye215, none, none, none, none, some ye220, some ye221, some ye222, none],
  [none, some ye225, some ye226, none, none, some ye229, some ye230, some ye231, some ye232, none, some ye234, some ye235, some ye236, some ye237, none, none],
  [none, none, some ye242, none, none, none, none, none, none, none, none, some ye251, some ye252, some ye253, some ye254, some ye255],
  [none, none, none, none, none, none, none, none, none, none, some ye266, some ye267, none, none, none, none],
  [some ye272, none, none, none, none, none, some ye278, some ye279, some ye280, some ye281, some ye282, none, none, none, some ye286, none],
  [none, none, none, none, some ye292, none, none, some ye295, some ye296, some ye297, none, none, none, none, some ye302, some ye303],
  [some ye304, none, some ye306, none, none, none, none, none, none, some ye313, none, some ye315]]

noncomputable def bd : Bodies := bodies 400 ytl

theorem bd_ok : BodiesOk Tryz.prog psf bd := bodies_ok mixed tok 400 ytl

theorem yall_ok {L : List (Nat × List V × St × List (V × St))} (hM : MemoOk Tryz.prog (env.with L)) (n : Nat) : CallOk Tryz.prog (ycall bd (env.with L) n) :=
  ycall_ok (E := env.with L) bd_ok specs_ok hM n
theorem ymemo {L : List (Nat × List V × St × List (V × St))} (hM : MemoOk Tryz.prog (env.with L)) {n : Nat} {c : Nat × List V × St × List (V × St)} (h : ycall bd (env.with L) n c.1 c.2.1 c.2.2.1 = some c.2.2.2) : MemoOk Tryz.prog (env.with (c :: L)) := by
  intro d hd
  rcases List.mem_cons.1 hd with rfl | hd
  · exact ⟨yall_ok hM n _ _ _ _ h, fun hp p hpo => ycall_still (E := env.with L) hM n _ hp _ _ _ h p hpo⟩
  · exact hM d hd

end Go.Proofs.YtdioidceogjalaaGreatDoor.runRuns
