/-
  DERIVED. GIVEN WITH THE SEED: THE CARDS: each row of YtdioidceogjalaaDoorRows.lean that lists a variable, with what it lists TIED to the program's text (the seventh form; the later family's looks); each row that meets fmt, with fmt's text TOLD by the authors' own Lean function (tested against real Go, not proved from fmt's source: count such statements apart). THE CARD IS WHAT COUNTS. Prove the row's statement (the work); the ties are given (YtdioidceogjalaaDoorTie.lean); close each card by the builder's one call (the guide's Derived/Test/ToyasCard.lean, 'card_holds'). Laid BY PROGRAM, IN A SANDBOX (cutbox-door.mjs). By AI agents, Wed Nov 11 2026. No macro, syntax, notation, axiom, sorry.
-/
import Derived.Test.YtdioidceogjalaaDoorRows
import GoSem.ClaimSeven
namespace Go.Proofs.YtdioidceogjalaaDoor
namespace Rows

/-- THE TIED CARD OF 'glosslaw16.EditRuns'. -/
def editRunsCard : Claim7 := { stood := { row := editRunsRow, standIns := [], harness := (true, "3ce59add4f8fe0dc6b2791cbe90794fc731e920120453ebe37aa583f30dde6f7"), looks := false }, kinds := [], alts := [], laidByText := true, laidKinds := [.data, .pinned], laidTests := true, laidLooks := .later }
def EditRunsCardSaid : Prop := Claim7.holds Tryd.pinned (.plain (OpenSpec.ofChange editRunsSpec)) editRunsCard

/-- THE SECOND FORM's CARD OF 'glosslaw16.EditRuns'. -/
def editRunsUptoCard : Claim7 := { stood := { row := editRunsUptoRow, standIns := [], harness := (true, "3ce59add4f8fe0dc6b2791cbe90794fc731e920120453ebe37aa583f30dde6f7"), looks := false }, kinds := [], alts := [], laidByText := true, laidKinds := [.data, .pinned], laidTests := true, laidLooks := .later }
def EditRunsUptoCardSaid : Prop := Claim7.holds Tryd.pinned (.plain (OpenSpec.upto editRunsSpec)) editRunsUptoCard
end Rows
end Go.Proofs.YtdioidceogjalaaDoor
