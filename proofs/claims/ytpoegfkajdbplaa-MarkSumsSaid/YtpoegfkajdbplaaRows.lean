/-
  No cell of these rows narrows 'for every input' (looked for: loops, veiled, ifaces, maps, wideKeys, modest, calm, conditions, laid).
  DERIVED. THE GIVEN ROWS OF THIS SEAT. 9 by the template 'for every input the law returns true; each argument reads behind the call as it read before'; 0 by the template 'total and deterministic' (their statements: YtpoegfkajdbplaaTotals.lean).
  GIVEN WITH THE SEED: the statements are not yours to turn. If you find one false, say at which input.
  Laid BY PROGRAM, IN A SANDBOX (cutbox-rows.mjs): the forced cells as the released guide's own fill.sh prints them over the translation 45cccdd8af02e21e… (all of the seat's roots in one cut). By AI agents, Wed Nov 11 2026. No macro, syntax, notation, axiom, sorry.
-/
import Derived.Test.YtpoegfkajdbplaaChecked
import GoSem.Claim
import GoSem.ClaimJoined
import GoSem.ClaimMapViews
import Derived.JoinedTies
import Derived.KernelRfl
namespace Go.Proofs.Ytpoegfkajdbplaa
/- THE CELL 'sum', in the pinned program and in every row, IS THE sha256 OF THE DUMP (.gsa) THAT YtpoegfkajdbplaaProg.lean LOADS. Nothing in Lean hashes anything: it is a label: what it is worth is what the hold of that sum in a sandbox is worth. -/
noncomputable def Try.pinned : Pinned := { name := "ytpoegfkajdbplaa", sum := "45cccdd8af02e21efe8bd3ff9768f1268947184fb21bcd36d5521b16ed59c644", checked := Try.checked }
namespace Rows
def none {H : Type} : Left H := { results := [], args := [] }

/-- 'glosslaw1.MarkTexts': WHATEVER THE INPUT: true; the input reads as it did. -/
def markTextsSpec : ChangeSpec := { name := "markTexts", fn := fun _ => fun
  | [d1, d2] => { results := [.lit (.bool true)], args := [d1, d2] }
  | _ => none }
def markTextsRow : OpenClaim := { program := "ytpoegfkajdbplaa", sum := "45cccdd8af02e21efe8bd3ff9768f1268947184fb21bcd36d5521b16ed59c644", func := "gloss/glosslaw1.MarkTexts", spec := "markTexts", inPlace := ["internal/bytealg.CountString", "internal/bytealg.IndexByteString", "internal/bytealg.IndexString"], named := ["internal/bytealg.MaxLen"], plainKeys := false, apart := false }
def MarkTextsSaid : Prop := markTextsRow.holds Try.pinned (OpenSpec.ofChange markTextsSpec)

/-- ITS FALSE NEIGHBOUR: 'it returns false'. Refute it at one input. -/
def markTextsWrong : ChangeSpec := { name := "markTexts", fn := fun _ => fun
  | [d1, d2] => { results := [.lit (.bool false)], args := [d1, d2] }
  | _ => none }
def MarkTextsWrongFalsely : Prop := markTextsRow.holds Try.pinned (OpenSpec.ofChange markTextsWrong)

/-- 'glosslaw1.MarkSums': WHATEVER THE INPUT: true; the input reads as it did. -/
def markSumsSpec : ChangeSpec := { name := "markSums", fn := fun _ => fun
  | [d1, d2, d3] => { results := [.lit (.bool true)], args := [d1, d2, d3] }
  | _ => none }
def markSumsRow : OpenClaim := { program := "ytpoegfkajdbplaa", sum := "45cccdd8af02e21efe8bd3ff9768f1268947184fb21bcd36d5521b16ed59c644", func := "gloss/glosslaw1.MarkSums", spec := "markSums", inPlace := ["internal/bytealg.CountString", "internal/bytealg.IndexByteString", "internal/bytealg.IndexString"], named := ["internal/bytealg.MaxLen"], plainKeys := false, apart := false }
def MarkSumsSaid : Prop := markSumsRow.holds Try.pinned (OpenSpec.ofChange markSumsSpec)

/-- ITS FALSE NEIGHBOUR: 'it returns false'. Refute it at one input. -/
def markSumsWrong : ChangeSpec := { name := "markSums", fn := fun _ => fun
  | [d1, d2, d3] => { results := [.lit (.bool false)], args := [d1, d2, d3] }
  | _ => none }
def MarkSumsWrongFalsely : Prop := markSumsRow.holds Try.pinned (OpenSpec.ofChange markSumsWrong)

/-- 'glosslaw23.ReqBack': WHATEVER THE INPUT: true; the input reads as it did. -/
def reqBackSpec : ChangeSpec := { name := "reqBack", fn := fun _ => fun
  | [d1, d2] => { results := [.lit (.bool true)], args := [d1, d2] }
  | _ => none }
def reqBackRow : OpenClaim := { program := "ytpoegfkajdbplaa", sum := "45cccdd8af02e21efe8bd3ff9768f1268947184fb21bcd36d5521b16ed59c644", func := "gloss/glosslaw23.ReqBack", spec := "reqBack", unfollowed := true, recurses := true, plainKeys := false, apart := false }
def ReqBackSaid : Prop := reqBackRow.holds Try.pinned (OpenSpec.ofChange reqBackSpec)

/-- ITS FALSE NEIGHBOUR: 'it returns false'. Refute it at one input. -/
def reqBackWrong : ChangeSpec := { name := "reqBack", fn := fun _ => fun
  | [d1, d2] => { results := [.lit (.bool false)], args := [d1, d2] }
  | _ => none }
def ReqBackWrongFalsely : Prop := reqBackRow.holds Try.pinned (OpenSpec.ofChange reqBackWrong)

/-- 'glosslaw23.ReqOnly': WHATEVER THE INPUT: true; the input reads as it did. -/
def reqOnlySpec : ChangeSpec := { name := "reqOnly", fn := fun _ => fun
  | [d1, d2, d3, d4, d5] => { results := [.lit (.bool true)], args := [d1, d2, d3, d4, d5] }
  | _ => none }
def reqOnlyRow : OpenClaim := { program := "ytpoegfkajdbplaa", sum := "45cccdd8af02e21efe8bd3ff9768f1268947184fb21bcd36d5521b16ed59c644", func := "gloss/glosslaw23.ReqOnly", spec := "reqOnly", unfollowed := true, recurses := true, plainKeys := false, apart := false }
def ReqOnlySaid : Prop := reqOnlyRow.holds Try.pinned (OpenSpec.ofChange reqOnlySpec)

/-- ITS FALSE NEIGHBOUR: 'it returns false'. Refute it at one input. -/
def reqOnlyWrong : ChangeSpec := { name := "reqOnly", fn := fun _ => fun
  | [d1, d2, d3, d4, d5] => { results := [.lit (.bool false)], args := [d1, d2, d3, d4, d5] }
  | _ => none }
def ReqOnlyWrongFalsely : Prop := reqOnlyRow.holds Try.pinned (OpenSpec.ofChange reqOnlyWrong)

/-- 'glosslaw23.ReqBig': WHATEVER THE INPUT: true; the input reads as it did. -/
def reqBigSpec : ChangeSpec := { name := "reqBig", fn := fun _ => fun
  | [d] => { results := [.lit (.bool true)], args := [d] }
  | _ => none }
def reqBigRow : OpenClaim := { program := "ytpoegfkajdbplaa", sum := "45cccdd8af02e21efe8bd3ff9768f1268947184fb21bcd36d5521b16ed59c644", func := "gloss/glosslaw23.ReqBig", spec := "reqBig", unfollowed := true, recurses := true, plainKeys := false, apart := false }
def ReqBigSaid : Prop := reqBigRow.holds Try.pinned (OpenSpec.ofChange reqBigSpec)

/-- ITS FALSE NEIGHBOUR: 'it returns false'. Refute it at one input. -/
def reqBigWrong : ChangeSpec := { name := "reqBig", fn := fun _ => fun
  | [d] => { results := [.lit (.bool false)], args := [d] }
  | _ => none }
def ReqBigWrongFalsely : Prop := reqBigRow.holds Try.pinned (OpenSpec.ofChange reqBigWrong)

/-- 'glosslaw23.ReqKinds': WHATEVER THE INPUT: true; the input reads as it did. -/
def reqKindsSpec : ChangeSpec := { name := "reqKinds", fn := fun _ => fun
  | [d1, d2] => { results := [.lit (.bool true)], args := [d1, d2] }
  | _ => none }
def reqKindsRow : OpenClaim := { program := "ytpoegfkajdbplaa", sum := "45cccdd8af02e21efe8bd3ff9768f1268947184fb21bcd36d5521b16ed59c644", func := "gloss/glosslaw23.ReqKinds", spec := "reqKinds", unfollowed := true, recurses := true, plainKeys := false, apart := false }
def ReqKindsSaid : Prop := reqKindsRow.holds Try.pinned (OpenSpec.ofChange reqKindsSpec)

/-- ITS FALSE NEIGHBOUR: 'it returns false'. Refute it at one input. -/
def reqKindsWrong : ChangeSpec := { name := "reqKinds", fn := fun _ => fun
  | [d1, d2] => { results := [.lit (.bool false)], args := [d1, d2] }
  | _ => none }
def ReqKindsWrongFalsely : Prop := reqKindsRow.holds Try.pinned (OpenSpec.ofChange reqKindsWrong)

/-- 'glosslaw12.PickRanges': WHATEVER THE INPUT: true; the input reads as it did. -/
def pickRangesSpec : ChangeSpec := { name := "pickRanges", fn := fun _ => fun
  | [d1, d2, d3] => { results := [.lit (.bool true)], args := [d1, d2, d3] }
  | _ => none }
def pickRangesRow : OpenClaim := { program := "ytpoegfkajdbplaa", sum := "45cccdd8af02e21efe8bd3ff9768f1268947184fb21bcd36d5521b16ed59c644", func := "gloss/glosslaw12.PickRanges", spec := "pickRanges", unfollowed := true, recurses := true, plainKeys := false, apart := false }
def PickRangesSaid : Prop := pickRangesRow.holds Try.pinned (OpenSpec.ofChange pickRangesSpec)

/-- ITS FALSE NEIGHBOUR: 'it returns false'. Refute it at one input. -/
def pickRangesWrong : ChangeSpec := { name := "pickRanges", fn := fun _ => fun
  | [d1, d2, d3] => { results := [.lit (.bool false)], args := [d1, d2, d3] }
  | _ => none }
def PickRangesWrongFalsely : Prop := pickRangesRow.holds Try.pinned (OpenSpec.ofChange pickRangesWrong)

/-- 'glosslaw12.PickLines': WHATEVER THE INPUT: true; the input reads as it did. -/
def pickLinesSpec : ChangeSpec := { name := "pickLines", fn := fun _ => fun
  | [d1, d2, d3, d4] => { results := [.lit (.bool true)], args := [d1, d2, d3, d4] }
  | _ => none }
def pickLinesRow : OpenClaim := { program := "ytpoegfkajdbplaa", sum := "45cccdd8af02e21efe8bd3ff9768f1268947184fb21bcd36d5521b16ed59c644", func := "gloss/glosslaw12.PickLines", spec := "pickLines", unfollowed := true, recurses := true, plainKeys := false, apart := false }
def PickLinesSaid : Prop := pickLinesRow.holds Try.pinned (OpenSpec.ofChange pickLinesSpec)

/-- ITS FALSE NEIGHBOUR: 'it returns false'. Refute it at one input. -/
def pickLinesWrong : ChangeSpec := { name := "pickLines", fn := fun _ => fun
  | [d1, d2, d3, d4] => { results := [.lit (.bool false)], args := [d1, d2, d3, d4] }
  | _ => none }
def PickLinesWrongFalsely : Prop := pickLinesRow.holds Try.pinned (OpenSpec.ofChange pickLinesWrong)

/-- 'glosslaw12.PickTells': WHATEVER THE INPUT: true; the input reads as it did. -/
def pickTellsSpec : ChangeSpec := { name := "pickTells", fn := fun _ => fun
  | [d1, d2, d3, d4, d5, d6] => { results := [.lit (.bool true)], args := [d1, d2, d3, d4, d5, d6] }
  | _ => none }
def pickTellsRow : OpenClaim := { program := "ytpoegfkajdbplaa", sum := "45cccdd8af02e21efe8bd3ff9768f1268947184fb21bcd36d5521b16ed59c644", func := "gloss/glosslaw12.PickTells", spec := "pickTells", unfollowed := true, recurses := true, plainKeys := false, apart := false }
def PickTellsSaid : Prop := pickTellsRow.holds Try.pinned (OpenSpec.ofChange pickTellsSpec)

/-- ITS FALSE NEIGHBOUR: 'it returns false'. Refute it at one input. -/
def pickTellsWrong : ChangeSpec := { name := "pickTells", fn := fun _ => fun
  | [d1, d2, d3, d4, d5, d6] => { results := [.lit (.bool false)], args := [d1, d2, d3, d4, d5, d6] }
  | _ => none }
def PickTellsWrongFalsely : Prop := pickTellsRow.holds Try.pinned (OpenSpec.ofChange pickTellsWrong)

/- THE SECOND FORM. 'bulk': how many values and letters a reading holds, each counted each time it is reached (what is shared counts as often as it is met; a slice's spare places count too). A statement '..UptoSaid' is the law's where the arguments, and the package variables that the reading takes, are together of bulk at most 1048576: NARROWER than '..Said'. Prove '..Said' where nothing that the law and all that it calls make is longer than what came in: it says more and counts as full. Else prove '..UptoSaid'. A law counts once. -/
mutual
def uptoBulk {H : Type} : DataW H → Nat
  | .lit (.string bytes) => bytes.length + 1
  | .lit _ => 1
  | .nil => 1
  | .ptr d => uptoBulk d + 1
  | .slice elems spare => uptoBulkAll elems + uptoBulkAll spare + 1
  | .agg parts => uptoBulkAll parts + 1
  | .iface _ d => uptoBulk d + 1
  | .map entries => uptoBulkEntries entries + 1
  | .held _ => 1
def uptoBulkAll {H : Type} : List (DataW H) → Nat
  | [] => 0
  | d :: r => uptoBulk d + uptoBulkAll r
def uptoBulkEntries {H : Type} : List (Lit × DataW H) → Nat
  | [] => 0
  | x :: r => uptoBulkEntry x + uptoBulkEntries r
def uptoBulkEntry {H : Type} : Lit × DataW H → Nat
  | (.string bytes, d) => bytes.length + uptoBulk d + 1
  | (_, d) => uptoBulk d + 1
 end
def uptoSmall : (H : Type) → List (DataW H) → Bool := fun _ ds => decide (uptoBulkAll ds ≤ 1048576)
def OpenSpec.upto (s : _root_.Go.ChangeSpec) : _root_.Go.OpenSpec := { _root_.Go.OpenSpec.ofChange s with cond := some uptoSmall }

/-- 'glosslaw1.MarkTexts', WHERE WHAT IT READS IS OF BULK AT MOST 1048576: true; the input reads as it did. -/
def markTextsUptoRow : OpenClaim := { program := "ytpoegfkajdbplaa", sum := "45cccdd8af02e21efe8bd3ff9768f1268947184fb21bcd36d5521b16ed59c644", func := "gloss/glosslaw1.MarkTexts", spec := "markTexts", inPlace := ["internal/bytealg.CountString", "internal/bytealg.IndexByteString", "internal/bytealg.IndexString"], named := ["internal/bytealg.MaxLen"], plainKeys := false, apart := false, narrowed := true }
def MarkTextsUptoSaid : Prop := markTextsUptoRow.holds Try.pinned (OpenSpec.upto markTextsSpec)

/-- 'glosslaw1.MarkSums', WHERE WHAT IT READS IS OF BULK AT MOST 1048576: true; the input reads as it did. -/
def markSumsUptoRow : OpenClaim := { program := "ytpoegfkajdbplaa", sum := "45cccdd8af02e21efe8bd3ff9768f1268947184fb21bcd36d5521b16ed59c644", func := "gloss/glosslaw1.MarkSums", spec := "markSums", inPlace := ["internal/bytealg.CountString", "internal/bytealg.IndexByteString", "internal/bytealg.IndexString"], named := ["internal/bytealg.MaxLen"], plainKeys := false, apart := false, narrowed := true }
def MarkSumsUptoSaid : Prop := markSumsUptoRow.holds Try.pinned (OpenSpec.upto markSumsSpec)

/-- 'glosslaw23.ReqBack', WHERE WHAT IT READS IS OF BULK AT MOST 1048576: true; the input reads as it did. -/
def reqBackUptoRow : OpenClaim := { program := "ytpoegfkajdbplaa", sum := "45cccdd8af02e21efe8bd3ff9768f1268947184fb21bcd36d5521b16ed59c644", func := "gloss/glosslaw23.ReqBack", spec := "reqBack", unfollowed := true, recurses := true, plainKeys := false, apart := false, narrowed := true }
def ReqBackUptoSaid : Prop := reqBackUptoRow.holds Try.pinned (OpenSpec.upto reqBackSpec)

/-- 'glosslaw23.ReqOnly', WHERE WHAT IT READS IS OF BULK AT MOST 1048576: true; the input reads as it did. -/
def reqOnlyUptoRow : OpenClaim := { program := "ytpoegfkajdbplaa", sum := "45cccdd8af02e21efe8bd3ff9768f1268947184fb21bcd36d5521b16ed59c644", func := "gloss/glosslaw23.ReqOnly", spec := "reqOnly", unfollowed := true, recurses := true, plainKeys := false, apart := false, narrowed := true }
def ReqOnlyUptoSaid : Prop := reqOnlyUptoRow.holds Try.pinned (OpenSpec.upto reqOnlySpec)

/-- 'glosslaw23.ReqBig', WHERE WHAT IT READS IS OF BULK AT MOST 1048576: true; the input reads as it did. -/
def reqBigUptoRow : OpenClaim := { program := "ytpoegfkajdbplaa", sum := "45cccdd8af02e21efe8bd3ff9768f1268947184fb21bcd36d5521b16ed59c644", func := "gloss/glosslaw23.ReqBig", spec := "reqBig", unfollowed := true, recurses := true, plainKeys := false, apart := false, narrowed := true }
def ReqBigUptoSaid : Prop := reqBigUptoRow.holds Try.pinned (OpenSpec.upto reqBigSpec)

/-- 'glosslaw23.ReqKinds', WHERE WHAT IT READS IS OF BULK AT MOST 1048576: true; the input reads as it did. -/
def reqKindsUptoRow : OpenClaim := { program := "ytpoegfkajdbplaa", sum := "45cccdd8af02e21efe8bd3ff9768f1268947184fb21bcd36d5521b16ed59c644", func := "gloss/glosslaw23.ReqKinds", spec := "reqKinds", unfollowed := true, recurses := true, plainKeys := false, apart := false, narrowed := true }
def ReqKindsUptoSaid : Prop := reqKindsUptoRow.holds Try.pinned (OpenSpec.upto reqKindsSpec)

/-- 'glosslaw12.PickRanges', WHERE WHAT IT READS IS OF BULK AT MOST 1048576: true; the input reads as it did. -/
def pickRangesUptoRow : OpenClaim := { program := "ytpoegfkajdbplaa", sum := "45cccdd8af02e21efe8bd3ff9768f1268947184fb21bcd36d5521b16ed59c644", func := "gloss/glosslaw12.PickRanges", spec := "pickRanges", unfollowed := true, recurses := true, plainKeys := false, apart := false, narrowed := true }
def PickRangesUptoSaid : Prop := pickRangesUptoRow.holds Try.pinned (OpenSpec.upto pickRangesSpec)

/-- 'glosslaw12.PickLines', WHERE WHAT IT READS IS OF BULK AT MOST 1048576: true; the input reads as it did. -/
def pickLinesUptoRow : OpenClaim := { program := "ytpoegfkajdbplaa", sum := "45cccdd8af02e21efe8bd3ff9768f1268947184fb21bcd36d5521b16ed59c644", func := "gloss/glosslaw12.PickLines", spec := "pickLines", unfollowed := true, recurses := true, plainKeys := false, apart := false, narrowed := true }
def PickLinesUptoSaid : Prop := pickLinesUptoRow.holds Try.pinned (OpenSpec.upto pickLinesSpec)

/-- 'glosslaw12.PickTells', WHERE WHAT IT READS IS OF BULK AT MOST 1048576: true; the input reads as it did. -/
def pickTellsUptoRow : OpenClaim := { program := "ytpoegfkajdbplaa", sum := "45cccdd8af02e21efe8bd3ff9768f1268947184fb21bcd36d5521b16ed59c644", func := "gloss/glosslaw12.PickTells", spec := "pickTells", unfollowed := true, recurses := true, plainKeys := false, apart := false, narrowed := true }
def PickTellsUptoSaid : Prop := pickTellsUptoRow.holds Try.pinned (OpenSpec.upto pickTellsSpec)

end Rows
end Go.Proofs.Ytpoegfkajdbplaa
