/-
  DERIVED. GIVEN WITH THE SEED: THE CARDS: each row of YtpoegfkajdbplaaDoorRows.lean that lists a variable, with what it lists TIED to the program's text (the seventh form; the later family's looks); each row that meets fmt, with fmt's text TOLD by the authors' own Lean function (tested against real Go, not proved from fmt's source: count such statements apart). THE CARD IS WHAT COUNTS. Prove the row's statement (the work); the ties are given (YtpoegfkajdbplaaDoorTie.lean); close each card by the builder's one call (the guide's Derived/Test/ToyasCard.lean, 'card_holds'). Laid BY PROGRAM, IN A SANDBOX (cutbox-door.mjs). By AI agents, Wed Nov 11 2026. No macro, syntax, notation, axiom, sorry.
-/
import Derived.Test.YtpoegfkajdbplaaDoorRows
import GoSem.ClaimSeven
namespace Go.Proofs.YtpoegfkajdbplaaDoor
namespace Rows

/-- THE TIED CARD OF 'glosslaw16.EditShift'. -/
def editShiftCard : Claim7 := { stood := { row := editShiftRow, standIns := [], harness := (true, "92cf880a7773a7b95158c529ee79018231491539e86fff47c2f964316b174078"), looks := false }, kinds := [], alts := [], laidByText := true, laidKinds := [.data, .pinned], laidTests := true, laidLooks := .later }
def EditShiftCardSaid : Prop := Claim7.holds Tryd.pinned (.plain (OpenSpec.ofChange editShiftSpec)) editShiftCard

/-- THE TIED CARD OF 'glosslaw16.EditTells'. -/
def editTellsCard : Claim7 := { stood := { row := editTellsRow, standIns := [], harness := (true, "92cf880a7773a7b95158c529ee79018231491539e86fff47c2f964316b174078"), looks := false }, kinds := [], alts := [], laidByText := true, laidKinds := [.data, .pinned], laidTests := true, laidLooks := .later }
def EditTellsCardSaid : Prop := Claim7.holds Tryd.pinned (.plain (OpenSpec.ofChange editTellsSpec)) editTellsCard

/-- THE TIED CARD OF 'glosslaw16.EditMany'. -/
def editManyCard : Claim7 := { stood := { row := editManyRow, standIns := [], harness := (true, "92cf880a7773a7b95158c529ee79018231491539e86fff47c2f964316b174078"), looks := false }, kinds := [], alts := [], laidByText := true, laidKinds := [.data, .pinned], laidTests := true, laidLooks := .later }
def EditManyCardSaid : Prop := Claim7.holds Tryd.pinned (.plain (OpenSpec.ofChange editManySpec)) editManyCard

/-- THE SECOND FORM's CARD OF 'glosslaw16.EditShift'. -/
def editShiftUptoCard : Claim7 := { stood := { row := editShiftUptoRow, standIns := [], harness := (true, "92cf880a7773a7b95158c529ee79018231491539e86fff47c2f964316b174078"), looks := false }, kinds := [], alts := [], laidByText := true, laidKinds := [.data, .pinned], laidTests := true, laidLooks := .later }
def EditShiftUptoCardSaid : Prop := Claim7.holds Tryd.pinned (.plain (OpenSpec.upto editShiftSpec)) editShiftUptoCard

/-- THE SECOND FORM's CARD OF 'glosslaw16.EditTells'. -/
def editTellsUptoCard : Claim7 := { stood := { row := editTellsUptoRow, standIns := [], harness := (true, "92cf880a7773a7b95158c529ee79018231491539e86fff47c2f964316b174078"), looks := false }, kinds := [], alts := [], laidByText := true, laidKinds := [.data, .pinned], laidTests := true, laidLooks := .later }
def EditTellsUptoCardSaid : Prop := Claim7.holds Tryd.pinned (.plain (OpenSpec.upto editTellsSpec)) editTellsUptoCard

/-- THE SECOND FORM's CARD OF 'glosslaw16.EditMany'. -/
def editManyUptoCard : Claim7 := { stood := { row := editManyUptoRow, standIns := [], harness := (true, "92cf880a7773a7b95158c529ee79018231491539e86fff47c2f964316b174078"), looks := false }, kinds := [], alts := [], laidByText := true, laidKinds := [.data, .pinned], laidTests := true, laidLooks := .later }
def EditManyUptoCardSaid : Prop := Claim7.holds Tryd.pinned (.plain (OpenSpec.upto editManySpec)) editManyUptoCard
end Rows
end Go.Proofs.YtpoegfkajdbplaaDoor
