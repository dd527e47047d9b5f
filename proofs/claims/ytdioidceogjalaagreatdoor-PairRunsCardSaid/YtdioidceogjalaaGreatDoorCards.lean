/-
  DERIVED. GIVEN WITH THE SEED: THE CARDS: each row of YtdioidceogjalaaGreatDoorRows.lean that lists a variable, with what it lists TIED to the program's text (the seventh form; the later family's looks); each row that meets fmt, with fmt's text TOLD by the authors' own Lean function (tested against real Go, not proved from fmt's source: count such statements apart). THE CARD IS WHAT COUNTS. Prove the row's statement (the work); the ties are given (YtdioidceogjalaaGreatDoorTie.lean); close each card by the builder's one call (the guide's Derived/Test/ToyasCard.lean, 'card_holds'). Laid BY PROGRAM, IN A SANDBOX (cutbox-door.mjs). By AI agents, Wed Nov 11 2026. No macro, syntax, notation, axiom, sorry.
-/
import Derived.Test.YtdioidceogjalaaGreatDoorRows
import GoSem.ClaimSeven
namespace Go.Proofs.YtdioidceogjalaaGreatDoor
namespace Rows

/-- THE TIED CARD OF 'glosslaw14.CycleRuns'. -/
def cycleRunsCard : Claim7 := { stood := { row := cycleRunsRow, standIns := [], harness := (true, "c19cda196e8dd517a814e1bf13d675829bf58163d0889a56c18cce1a6ec50466"), looks := false }, kinds := [], alts := [], laidByText := true, laidKinds := [.data, .data, .data, .data, .pinned], laidTests := true, laidLooks := .later }
def CycleRunsCardSaid : Prop := Claim7.holds Tryz.pinned (.plain (OpenSpec.ofChange cycleRunsSpec)) cycleRunsCard

/-- THE TIED CARD OF 'glosslaw15.RunRuns'. -/
def runRunsCard : Claim7 := { stood := { row := runRunsRow, standIns := [], harness := (true, "c19cda196e8dd517a814e1bf13d675829bf58163d0889a56c18cce1a6ec50466"), looks := false }, kinds := [], alts := [], laidByText := true, laidKinds := [.data, .data, .data, .data, .pinned], laidTests := true, laidLooks := .later }
def RunRunsCardSaid : Prop := Claim7.holds Tryz.pinned (.plain (OpenSpec.ofChange runRunsSpec)) runRunsCard

/-- THE TIED CARD OF 'glosslaw18.ReuseRuns'. -/
def reuseRunsCard : Claim7 := { stood := { row := reuseRunsRow, standIns := [], harness := (true, "c19cda196e8dd517a814e1bf13d675829bf58163d0889a56c18cce1a6ec50466"), looks := false }, kinds := [], alts := [], laidByText := true, laidKinds := [.data, .data, .data, .data, .pinned], laidTests := true, laidLooks := .later }
def ReuseRunsCardSaid : Prop := Claim7.holds Tryz.pinned (.plain (OpenSpec.ofChange reuseRunsSpec)) reuseRunsCard

/-- THE TIED CARD OF 'glosslaw17.TraceRuns'. -/
def traceRunsCard : Claim7 := { stood := { row := traceRunsRow, standIns := [], harness := (true, "c19cda196e8dd517a814e1bf13d675829bf58163d0889a56c18cce1a6ec50466"), looks := false }, kinds := [], alts := [], laidByText := true, laidKinds := [.data, .data, .data, .data, .pinned], laidTests := true, laidLooks := .later }
def TraceRunsCardSaid : Prop := Claim7.holds Tryz.pinned (.plain (OpenSpec.ofChange traceRunsSpec)) traceRunsCard

/-- THE TIED CARD OF 'glosslaw20.IndexRuns'. -/
def indexRunsCard : Claim7 := { stood := { row := indexRunsRow, standIns := [], harness := (true, "c19cda196e8dd517a814e1bf13d675829bf58163d0889a56c18cce1a6ec50466"), looks := false }, kinds := [], alts := [], laidByText := true, laidKinds := [.data, .data, .data, .data, .pinned], laidTests := true, laidLooks := .later }
def IndexRunsCardSaid : Prop := Claim7.holds Tryz.pinned (.plain (OpenSpec.ofChange indexRunsSpec)) indexRunsCard

/-- THE TIED CARD OF 'glosslaw21.IncrRuns'. -/
def incrRunsCard : Claim7 := { stood := { row := incrRunsRow, standIns := [], harness := (true, "c19cda196e8dd517a814e1bf13d675829bf58163d0889a56c18cce1a6ec50466"), looks := false }, kinds := [], alts := [], laidByText := true, laidKinds := [.data, .data, .data, .data, .pinned], laidTests := true, laidLooks := .later }
def IncrRunsCardSaid : Prop := Claim7.holds Tryz.pinned (.plain (OpenSpec.ofChange incrRunsSpec)) incrRunsCard

/-- THE TIED CARD OF 'glosslaw24.SessionRuns'. -/
def sessionRunsCard : Claim7 := { stood := { row := sessionRunsRow, standIns := [], harness := (true, "c19cda196e8dd517a814e1bf13d675829bf58163d0889a56c18cce1a6ec50466"), looks := false }, kinds := [], alts := [], laidByText := true, laidKinds := [.data, .data, .data, .data, .pinned], laidTests := true, laidLooks := .later }
def SessionRunsCardSaid : Prop := Claim7.holds Tryz.pinned (.plain (OpenSpec.ofChange sessionRunsSpec)) sessionRunsCard

/-- THE TIED CARD OF 'glosslaw25.PairRuns'. -/
def pairRunsCard : Claim7 := { stood := { row := pairRunsRow, standIns := [], harness := (true, "c19cda196e8dd517a814e1bf13d675829bf58163d0889a56c18cce1a6ec50466"), looks := false }, kinds := [], alts := [], laidByText := true, laidKinds := [.data, .data, .data, .data, .pinned], laidTests := true, laidLooks := .later }
def PairRunsCardSaid : Prop := Claim7.holds Tryz.pinned (.plain (OpenSpec.ofChange pairRunsSpec)) pairRunsCard

/-- THE SECOND FORM's CARD OF 'glosslaw14.CycleRuns'. -/
def cycleRunsUptoCard : Claim7 := { stood := { row := cycleRunsUptoRow, standIns := [], harness := (true, "c19cda196e8dd517a814e1bf13d675829bf58163d0889a56c18cce1a6ec50466"), looks := false }, kinds := [], alts := [], laidByText := true, laidKinds := [.data, .data, .data, .data, .pinned], laidTests := true, laidLooks := .later }
def CycleRunsUptoCardSaid : Prop := Claim7.holds Tryz.pinned (.plain (OpenSpec.upto cycleRunsSpec)) cycleRunsUptoCard

/-- THE SECOND FORM's CARD OF 'glosslaw15.RunRuns'. -/
def runRunsUptoCard : Claim7 := { stood := { row := runRunsUptoRow, standIns := [], harness := (true, "c19cda196e8dd517a814e1bf13d675829bf58163d0889a56c18cce1a6ec50466"), looks := false }, kinds := [], alts := [], laidByText := true, laidKinds := [.data, .data, .data, .data, .pinned], laidTests := true, laidLooks := .later }
def RunRunsUptoCardSaid : Prop := Claim7.holds Tryz.pinned (.plain (OpenSpec.upto runRunsSpec)) runRunsUptoCard

/-- THE SECOND FORM's CARD OF 'glosslaw18.ReuseRuns'. -/
def reuseRunsUptoCard : Claim7 := { stood := { row := reuseRunsUptoRow, standIns := [], harness := (true, "c19cda196e8dd517a814e1bf13d675829bf58163d0889a56c18cce1a6ec50466"), looks := false }, kinds := [], alts := [], laidByText := true, laidKinds := [.data, .data, .data, .data, .pinned], laidTests := true, laidLooks := .later }
def ReuseRunsUptoCardSaid : Prop := Claim7.holds Tryz.pinned (.plain (OpenSpec.upto reuseRunsSpec)) reuseRunsUptoCard

/-- THE SECOND FORM's CARD OF 'glosslaw17.TraceRuns'. -/
def traceRunsUptoCard : Claim7 := { stood := { row := traceRunsUptoRow, standIns := [], harness := (true, "c19cda196e8dd517a814e1bf13d675829bf58163d0889a56c18cce1a6ec50466"), looks := false }, kinds := [], alts := [], laidByText := true, laidKinds := [.data, .data, .data, .data, .pinned], laidTests := true, laidLooks := .later }
def TraceRunsUptoCardSaid : Prop := Claim7.holds Tryz.pinned (.plain (OpenSpec.upto traceRunsSpec)) traceRunsUptoCard

/-- THE SECOND FORM's CARD OF 'glosslaw20.IndexRuns'. -/
def indexRunsUptoCard : Claim7 := { stood := { row := indexRunsUptoRow, standIns := [], harness := (true, "c19cda196e8dd517a814e1bf13d675829bf58163d0889a56c18cce1a6ec50466"), looks := false }, kinds := [], alts := [], laidByText := true, laidKinds := [.data, .data, .data, .data, .pinned], laidTests := true, laidLooks := .later }
def IndexRunsUptoCardSaid : Prop := Claim7.holds Tryz.pinned (.plain (OpenSpec.upto indexRunsSpec)) indexRunsUptoCard

/-- THE SECOND FORM's CARD OF 'glosslaw21.IncrRuns'. -/
def incrRunsUptoCard : Claim7 := { stood := { row := incrRunsUptoRow, standIns := [], harness := (true, "c19cda196e8dd517a814e1bf13d675829bf58163d0889a56c18cce1a6ec50466"), looks := false }, kinds := [], alts := [], laidByText := true, laidKinds := [.data, .data, .data, .data, .pinned], laidTests := true, laidLooks := .later }
def IncrRunsUptoCardSaid : Prop := Claim7.holds Tryz.pinned (.plain (OpenSpec.upto incrRunsSpec)) incrRunsUptoCard

/-- THE SECOND FORM's CARD OF 'glosslaw24.SessionRuns'. -/
def sessionRunsUptoCard : Claim7 := { stood := { row := sessionRunsUptoRow, standIns := [], harness := (true, "c19cda196e8dd517a814e1bf13d675829bf58163d0889a56c18cce1a6ec50466"), looks := false }, kinds := [], alts := [], laidByText := true, laidKinds := [.data, .data, .data, .data, .pinned], laidTests := true, laidLooks := .later }
def SessionRunsUptoCardSaid : Prop := Claim7.holds Tryz.pinned (.plain (OpenSpec.upto sessionRunsSpec)) sessionRunsUptoCard

/-- THE SECOND FORM's CARD OF 'glosslaw25.PairRuns'. -/
def pairRunsUptoCard : Claim7 := { stood := { row := pairRunsUptoRow, standIns := [], harness := (true, "c19cda196e8dd517a814e1bf13d675829bf58163d0889a56c18cce1a6ec50466"), looks := false }, kinds := [], alts := [], laidByText := true, laidKinds := [.data, .data, .data, .data, .pinned], laidTests := true, laidLooks := .later }
def PairRunsUptoCardSaid : Prop := Claim7.holds Tryz.pinned (.plain (OpenSpec.upto pairRunsSpec)) pairRunsUptoCard
end Rows
end Go.Proofs.YtdioidceogjalaaGreatDoor
