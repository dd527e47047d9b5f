/-
  DERIVED. GIVEN WITH THE SEED: THE CARDS: each row of YtpoegfkajdbplabDoorRows.lean that lists a variable, with what it lists TIED to the program's text (the seventh form; the later family's looks); each row that meets fmt, with fmt's text TOLD by the authors' own Lean function (tested against real Go, not proved from fmt's source: count such statements apart). THE CARD IS WHAT COUNTS. Prove the row's statement (the work); the ties are given (YtpoegfkajdbplabDoorTie.lean); close each card by the builder's one call (the guide's Derived/Test/ToyasCard.lean, 'card_holds'). Laid BY PROGRAM, IN A SANDBOX (cutbox-door.mjs). By AI agents, Wed Nov 11 2026. No macro, syntax, notation, axiom, sorry.
-/
import Derived.Test.YtpoegfkajdbplabDoorRows
import GoSem.ClaimSeven
namespace Go.Proofs.YtpoegfkajdbplabDoor
namespace Rows

/-- THE TIED CARD OF 'glosslaw16.EditApart'. -/
def editApartCard : Claim7 := { stood := { row := editApartRow, standIns := [], harness := (true, "e327d921c36f6257d680b050568a677511945d888f7b9622c814337a49a2ce46"), looks := false }, kinds := [], alts := [], laidByText := true, laidKinds := [.data, .pinned], laidTests := true, laidLooks := .later }
def EditApartCardSaid : Prop := Claim7.holds Tryd.pinned (.plain (OpenSpec.ofChange editApartSpec)) editApartCard

/-- THE SECOND FORM's CARD OF 'glosslaw16.EditApart'. -/
def editApartUptoCard : Claim7 := { stood := { row := editApartUptoRow, standIns := [], harness := (true, "e327d921c36f6257d680b050568a677511945d888f7b9622c814337a49a2ce46"), looks := false }, kinds := [], alts := [], laidByText := true, laidKinds := [.data, .pinned], laidTests := true, laidLooks := .later }
def EditApartUptoCardSaid : Prop := Claim7.holds Tryd.pinned (.plain (OpenSpec.upto editApartSpec)) editApartUptoCard
end Rows
end Go.Proofs.YtpoegfkajdbplabDoor
