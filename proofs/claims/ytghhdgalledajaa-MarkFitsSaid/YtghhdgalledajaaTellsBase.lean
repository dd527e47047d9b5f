/- glosslaw1.MarkTells: lemmas of its walk. -/
import Derived.Test.YtghhdgalledajaaRuns
import Derived.Test.YtghhdgalledajaaRows
import Derived.ProofKit
import Derived.OpenShut
namespace Go.Proofs.Ytghhdgalledajaa.markTells
open Go.ChangeShapes Go.WideShapes Go.ChangeAt Go.RowKit
set_option linter.unusedVariables false
set_option linter.unusedSimpArgs false

theorem within_bd (n lo hi : Int) (h : lo ≤ hi) : lo ≤ within n lo hi ∧ within n lo hi ≤ hi := by
  unfold within
  have h1 := Int.emod_nonneg n (b := hi - lo + 1) (by omega)
  have h2 := Int.emod_lt_of_pos n (b := hi - lo + 1) (by omega)
  omega

theorem grown_trans {A B C : World} (h : Grown A B) (g : Grown B C) : Grown A C :=
  ⟨World.keptBut_trans h.1 (World.keptBut_mono (fun _ f => f.elim) g.1), fun a => (g.2.1 a).trans (h.2.1 a), Nat.le_trans h.2.2 g.2.2⟩
theorem ret_bool {a b : Bool} (h : a = b) : Ending.returned (.bool a) = .returned (.bool b) := by rw [h]
theorem order_flo (x y : Int) (hx : 0 ≤ x ∧ x < 9007199254740992) (hy : 0 ≤ y ∧ y < 9007199254740992) : FloatKind.f64.format.order (flo x) (flo y) = some (compare x.toNat y.toNat) :=
  Fl.order_fl _ _ (by omega) (by omega)
theorem order_eq (x : Int) (h : 0 ≤ x) (h' : x < 9007199254740992) : FloatKind.f64.format.order (flo x) (flo x) = some .eq := by
  rw [order_flo x x ⟨h, h'⟩ ⟨h, h'⟩]; simp
theorem order_lt (x y : Int) (h : 0 ≤ x) (h' : y < 9007199254740992) (l : x < y) : FloatKind.f64.format.order (flo x) (flo y) = some .lt := by
  rw [order_flo x y (by omega) (by omega)]; simp [Nat.compare_eq_lt]; omega
theorem order_gt (x y : Int) (h : 0 ≤ y) (h' : x < 9007199254740992) (l : y < x) : FloatKind.f64.format.order (flo x) (flo y) = some .gt := by
  rw [order_flo x y (by omega) (by omega)]; simp [Nat.compare_eq_gt]; omega

end Go.Proofs.Ytghhdgalledajaa.markTells
