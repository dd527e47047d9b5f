/-
  No cell of these rows narrows 'for every input' (looked for: loops, veiled, ifaces, maps, wideKeys, modest, calm, conditions, laid).
  DERIVED. THE GIVEN ROWS OF THIS SEAT. 5 by the template 'for every input the law returns true; each argument reads behind the call as it read before'; 0 by the template 'total and deterministic' (their statements: YtghhdgalledajaaTotals.lean).
  GIVEN WITH THE SEED: the statements are not yours to turn. If you find one false, say at which input.
  Laid BY PROGRAM, IN A SANDBOX (cutbox-rows.mjs): the forced cells as the released guide's own fill.sh prints them over the translation f2eb4ee7d24cbd80… (all of the seat's roots in one cut). By AI agents, Wed Nov 11 2026. No macro, syntax, notation, axiom, sorry.
-/
import Derived.Test.YtghhdgalledajaaChecked
import GoSem.Claim
import GoSem.ClaimJoined
import GoSem.ClaimMapViews
import Derived.JoinedTies
import Derived.KernelRfl
namespace Go.Proofs.Ytghhdgalledajaa
/- THE CELL 'sum', in the pinned program and in every row, IS THE sha256 OF THE DUMP (.gsa) THAT YtghhdgalledajaaProg.lean LOADS. Nothing in Lean hashes anything: it is a label: what it is worth is what the hold of that sum in a sandbox is worth. -/
noncomputable def Try.pinned : Pinned := { name := "ytghhdgalledajaa", sum := "f2eb4ee7d24cbd80cf36f67951201bdcba41e1a9c0fc1c200830b6a005fdedd9", checked := Try.checked }
namespace Rows
def none {H : Type} : Left H := { results := [], args := [] }

/-- 'glosslaw1.MarkRuns': WHATEVER THE INPUT: true; the input reads as it did. -/
def markRunsSpec : ChangeSpec := { name := "markRuns", fn := fun _ => fun
  | [] => { results := [.lit (.bool true)], args := [] }
  | _ => none }
def markRunsRow : OpenClaim := { program := "ytghhdgalledajaa", sum := "f2eb4ee7d24cbd80cf36f67951201bdcba41e1a9c0fc1c200830b6a005fdedd9", func := "gloss/glosslaw1.MarkRuns", spec := "markRuns", inPlace := ["internal/bytealg.CountString", "internal/bytealg.IndexByteString", "internal/bytealg.IndexString"], named := ["internal/bytealg.MaxLen"], apart := false }
def MarkRunsSaid : Prop := markRunsRow.holds Try.pinned (OpenSpec.ofChange markRunsSpec)

/-- ITS FALSE NEIGHBOUR: 'it returns false'. Refute it at one input. -/
def markRunsWrong : ChangeSpec := { name := "markRuns", fn := fun _ => fun
  | [] => { results := [.lit (.bool false)], args := [] }
  | _ => none }
def MarkRunsWrongFalsely : Prop := markRunsRow.holds Try.pinned (OpenSpec.ofChange markRunsWrong)

/-- 'glosslaw1.MarkTexts': WHATEVER THE INPUT: true; the input reads as it did. -/
def markTextsSpec : ChangeSpec := { name := "markTexts", fn := fun _ => fun
  | [d1, d2] => { results := [.lit (.bool true)], args := [d1, d2] }
  | _ => none }
def markTextsRow : OpenClaim := { program := "ytghhdgalledajaa", sum := "f2eb4ee7d24cbd80cf36f67951201bdcba41e1a9c0fc1c200830b6a005fdedd9", func := "gloss/glosslaw1.MarkTexts", spec := "markTexts", inPlace := ["internal/bytealg.CountString", "internal/bytealg.IndexByteString", "internal/bytealg.IndexString"], named := ["internal/bytealg.MaxLen"], apart := false }
def MarkTextsSaid : Prop := markTextsRow.holds Try.pinned (OpenSpec.ofChange markTextsSpec)

/-- ITS FALSE NEIGHBOUR: 'it returns false'. Refute it at one input. -/
def markTextsWrong : ChangeSpec := { name := "markTexts", fn := fun _ => fun
  | [d1, d2] => { results := [.lit (.bool false)], args := [d1, d2] }
  | _ => none }
def MarkTextsWrongFalsely : Prop := markTextsRow.holds Try.pinned (OpenSpec.ofChange markTextsWrong)

/-- 'glosslaw1.MarkSums': WHATEVER THE INPUT: true; the input reads as it did. -/
def markSumsSpec : ChangeSpec := { name := "markSums", fn := fun _ => fun
  | [d1, d2, d3] => { results := [.lit (.bool true)], args := [d1, d2, d3] }
  | _ => none }
def markSumsRow : OpenClaim := { program := "ytghhdgalledajaa", sum := "f2eb4ee7d24cbd80cf36f67951201bdcba41e1a9c0fc1c200830b6a005fdedd9", func := "gloss/glosslaw1.MarkSums", spec := "markSums", inPlace := ["internal/bytealg.CountString", "internal/bytealg.IndexByteString", "internal/bytealg.IndexString"], named := ["internal/bytealg.MaxLen"], apart := false }
def MarkSumsSaid : Prop := markSumsRow.holds Try.pinned (OpenSpec.ofChange markSumsSpec)

/-- ITS FALSE NEIGHBOUR: 'it returns false'. Refute it at one input. -/
def markSumsWrong : ChangeSpec := { name := "markSums", fn := fun _ => fun
  | [d1, d2, d3] => { results := [.lit (.bool false)], args := [d1, d2, d3] }
  | _ => none }
def MarkSumsWrongFalsely : Prop := markSumsRow.holds Try.pinned (OpenSpec.ofChange markSumsWrong)

/-- 'glosslaw1.MarkTells': WHATEVER THE INPUT: true; the input reads as it did. -/
def markTellsSpec : ChangeSpec := { name := "markTells", fn := fun _ => fun
  | [d1, d2, d3, d4] => { results := [.lit (.bool true)], args := [d1, d2, d3, d4] }
  | _ => none }
def markTellsRow : OpenClaim := { program := "ytghhdgalledajaa", sum := "f2eb4ee7d24cbd80cf36f67951201bdcba41e1a9c0fc1c200830b6a005fdedd9", func := "gloss/glosslaw1.MarkTells", spec := "markTells", inPlace := ["internal/bytealg.CountString", "internal/bytealg.IndexByteString", "internal/bytealg.IndexString"], named := ["internal/bytealg.MaxLen"], apart := false }
def MarkTellsSaid : Prop := markTellsRow.holds Try.pinned (OpenSpec.ofChange markTellsSpec)

/-- ITS FALSE NEIGHBOUR: 'it returns false'. Refute it at one input. -/
def markTellsWrong : ChangeSpec := { name := "markTells", fn := fun _ => fun
  | [d1, d2, d3, d4] => { results := [.lit (.bool false)], args := [d1, d2, d3, d4] }
  | _ => none }
def MarkTellsWrongFalsely : Prop := markTellsRow.holds Try.pinned (OpenSpec.ofChange markTellsWrong)

/-- 'glosslaw1.MarkFits': WHATEVER THE INPUT: true; the input reads as it did. -/
def markFitsSpec : ChangeSpec := { name := "markFits", fn := fun _ => fun
  | [d1, d2, d3, d4, d5, d6, d7] => { results := [.lit (.bool true)], args := [d1, d2, d3, d4, d5, d6, d7] }
  | _ => none }
def markFitsRow : OpenClaim := { program := "ytghhdgalledajaa", sum := "f2eb4ee7d24cbd80cf36f67951201bdcba41e1a9c0fc1c200830b6a005fdedd9", func := "gloss/glosslaw1.MarkFits", spec := "markFits", inPlace := ["internal/bytealg.CountString", "internal/bytealg.IndexByteString", "internal/bytealg.IndexString"], named := ["internal/bytealg.MaxLen"], apart := false }
def MarkFitsSaid : Prop := markFitsRow.holds Try.pinned (OpenSpec.ofChange markFitsSpec)

/-- ITS FALSE NEIGHBOUR: 'it returns false'. Refute it at one input. -/
def markFitsWrong : ChangeSpec := { name := "markFits", fn := fun _ => fun
  | [d1, d2, d3, d4, d5, d6, d7] => { results := [.lit (.bool false)], args := [d1, d2, d3, d4, d5, d6, d7] }
  | _ => none }
def MarkFitsWrongFalsely : Prop := markFitsRow.holds Try.pinned (OpenSpec.ofChange markFitsWrong)

/- THE SECOND FORM. 'bulk': how many values and letters a reading holds, each counted each time it is reached (what is shared counts as often as it is met; a slice's spare places count too). A statement '..UptoSaid' is the law's where the arguments, and the package variables that the reading takes, are together of bulk at most 1048576: NARROWER than '..Said'. Prove '..Said' where nothing that the law and all that it calls make is longer than what came in: it says more and counts as full. Else prove '..UptoSaid'. A law counts once. -/
mutual
def uptoBulk {H : Type} : DataW H → Nat
  | .lit (.string bytes) => bytes.length + 1
  | .lit _ => 1
  | .nil => 1
  | .ptr d => uptoBulk d + 1
  | .slice elems spare => uptoBulkAll elems + uptoBulkAll spare + 1
  | .agg parts => uptoBulkAll parts + 1
  | .iface _ d => uptoBulk d + 1
  | .map entries => uptoBulkEntries entries + 1
  | .held _ => 1
def uptoBulkAll {H : Type} : List (DataW H) → Nat
  | [] => 0
  | d :: r => uptoBulk d + uptoBulkAll r
def uptoBulkEntries {H : Type} : List (Lit × DataW H) → Nat
  | [] => 0
  | x :: r => uptoBulkEntry x + uptoBulkEntries r
def uptoBulkEntry {H : Type} : Lit × DataW H → Nat
  | (.string bytes, d) => bytes.length + uptoBulk d + 1
  | (_, d) => uptoBulk d + 1
 end
def uptoSmall : (H : Type) → List (DataW H) → Bool := fun _ ds => decide (uptoBulkAll ds ≤ 1048576)
def OpenSpec.upto (s : _root_.Go.ChangeSpec) : _root_.Go.OpenSpec := { _root_.Go.OpenSpec.ofChange s with cond := some uptoSmall }

/-- 'glosslaw1.MarkRuns', WHERE WHAT IT READS IS OF BULK AT MOST 1048576: true; the input reads as it did. -/
def markRunsUptoRow : OpenClaim := { program := "ytghhdgalledajaa", sum := "f2eb4ee7d24cbd80cf36f67951201bdcba41e1a9c0fc1c200830b6a005fdedd9", func := "gloss/glosslaw1.MarkRuns", spec := "markRuns", inPlace := ["internal/bytealg.CountString", "internal/bytealg.IndexByteString", "internal/bytealg.IndexString"], named := ["internal/bytealg.MaxLen"], apart := false, narrowed := true }
def MarkRunsUptoSaid : Prop := markRunsUptoRow.holds Try.pinned (OpenSpec.upto markRunsSpec)

/-- 'glosslaw1.MarkTexts', WHERE WHAT IT READS IS OF BULK AT MOST 1048576: true; the input reads as it did. -/
def markTextsUptoRow : OpenClaim := { program := "ytghhdgalledajaa", sum := "f2eb4ee7d24cbd80cf36f67951201bdcba41e1a9c0fc1c200830b6a005fdedd9", func := "gloss/glosslaw1.MarkTexts", spec := "markTexts", inPlace := ["internal/bytealg.CountString", "internal/bytealg.IndexByteString", "internal/bytealg.IndexString"], named := ["internal/bytealg.MaxLen"], apart := false, narrowed := true }
def MarkTextsUptoSaid : Prop := markTextsUptoRow.holds Try.pinned (OpenSpec.upto markTextsSpec)

/-- 'glosslaw1.MarkSums', WHERE WHAT IT READS IS OF BULK AT MOST 1048576: true; the input reads as it did. -/
def markSumsUptoRow : OpenClaim := { program := "ytghhdgalledajaa", sum := "f2eb4ee7d24cbd80cf36f67951201bdcba41e1a9c0fc1c200830b6a005fdedd9", func := "gloss/glosslaw1.MarkSums", spec := "markSums", inPlace := ["internal/bytealg.CountString", "internal/bytealg.IndexByteString", "internal/bytealg.IndexString"], named := ["internal/bytealg.MaxLen"], apart := false, narrowed := true }
def MarkSumsUptoSaid : Prop := markSumsUptoRow.holds Try.pinned (OpenSpec.upto markSumsSpec)

/-- 'glosslaw1.MarkTells', WHERE WHAT IT READS IS OF BULK AT MOST 1048576: true; the input reads as it did. -/
def markTellsUptoRow : OpenClaim := { program := "ytghhdgalledajaa", sum := "f2eb4ee7d24cbd80cf36f67951201bdcba41e1a9c0fc1c200830b6a005fdedd9", func := "gloss/glosslaw1.MarkTells", spec := "markTells", inPlace := ["internal/bytealg.CountString", "internal/bytealg.IndexByteString", "internal/bytealg.IndexString"], named := ["internal/bytealg.MaxLen"], apart := false, narrowed := true }
def MarkTellsUptoSaid : Prop := markTellsUptoRow.holds Try.pinned (OpenSpec.upto markTellsSpec)

/-- 'glosslaw1.MarkFits', WHERE WHAT IT READS IS OF BULK AT MOST 1048576: true; the input reads as it did. -/
def markFitsUptoRow : OpenClaim := { program := "ytghhdgalledajaa", sum := "f2eb4ee7d24cbd80cf36f67951201bdcba41e1a9c0fc1c200830b6a005fdedd9", func := "gloss/glosslaw1.MarkFits", spec := "markFits", inPlace := ["internal/bytealg.CountString", "internal/bytealg.IndexByteString", "internal/bytealg.IndexString"], named := ["internal/bytealg.MaxLen"], apart := false, narrowed := true }
def MarkFitsUptoSaid : Prop := markFitsUptoRow.holds Try.pinned (OpenSpec.upto markFitsSpec)

end Rows
end Go.Proofs.Ytghhdgalledajaa
