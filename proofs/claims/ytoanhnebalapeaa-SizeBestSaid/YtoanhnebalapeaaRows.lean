/-
  No cell of these rows narrows 'for every input' (looked for: loops, veiled, ifaces, maps, wideKeys, modest, calm, conditions, laid).
  DERIVED. THE GIVEN ROWS OF THIS SEAT. 19 by the template 'for every input the law returns true; each argument reads behind the call as it read before'; 0 by the template 'total and deterministic' (their statements: YtoanhnebalapeaaTotals.lean).
  GIVEN WITH THE SEED: the statements are not yours to turn. If you find one false, say at which input.
  Laid BY PROGRAM, IN A SANDBOX (cutbox-rows.mjs): the forced cells as the released guide's own fill.sh prints them over the translation 6174ed89d39b22aa… (all of the seat's roots in one cut). By AI agents, Wed Nov 11 2026. No macro, syntax, notation, axiom, sorry.
-/
import Derived.Test.YtoanhnebalapeaaChecked
import GoSem.Claim
import GoSem.ClaimJoined
import GoSem.ClaimMapViews
import Derived.JoinedTies
import Derived.KernelRfl
namespace Go.Proofs.Ytoanhnebalapeaa
/- THE CELL 'sum', in the pinned program and in every row, IS THE sha256 OF THE DUMP (.gsa) THAT YtoanhnebalapeaaProg.lean LOADS. Nothing in Lean hashes anything: it is a label: what it is worth is what the hold of that sum in a sandbox is worth. -/
noncomputable def Try.pinned : Pinned := { name := "ytoanhnebalapeaa", sum := "6174ed89d39b22aaaa6d56c7221a49a11ab03412900a62fc51a4d639d99514fe", checked := Try.checked }
namespace Rows
def none {H : Type} : Left H := { results := [], args := [] }

/-- 'marquetrylaw21.FrameHeads': WHATEVER THE INPUT: true; the input reads as it did. -/
def frameHeadsSpec : ChangeSpec := { name := "frameHeads", fn := fun _ => fun
  | [d] => { results := [.lit (.bool true)], args := [d] }
  | _ => none }
def frameHeadsRow : OpenClaim := { program := "ytoanhnebalapeaa", sum := "6174ed89d39b22aaaa6d56c7221a49a11ab03412900a62fc51a4d639d99514fe", func := "marquetry/marquetrylaw21.FrameHeads", spec := "frameHeads", apart := false }
def FrameHeadsSaid : Prop := frameHeadsRow.holds Try.pinned (OpenSpec.ofChange frameHeadsSpec)

/-- ITS FALSE NEIGHBOUR: 'it returns false'. Refute it at one input. -/
def frameHeadsWrong : ChangeSpec := { name := "frameHeads", fn := fun _ => fun
  | [d] => { results := [.lit (.bool false)], args := [d] }
  | _ => none }
def FrameHeadsWrongFalsely : Prop := frameHeadsRow.holds Try.pinned (OpenSpec.ofChange frameHeadsWrong)

/-- 'marquetrylaw04.CodeChecks': WHATEVER THE INPUT: true; the input reads as it did. -/
def codeChecksSpec : ChangeSpec := { name := "codeChecks", fn := fun _ => fun
  | [d] => { results := [.lit (.bool true)], args := [d] }
  | _ => none }
def codeChecksRow : OpenClaim := { program := "ytoanhnebalapeaa", sum := "6174ed89d39b22aaaa6d56c7221a49a11ab03412900a62fc51a4d639d99514fe", func := "marquetry/marquetrylaw04.CodeChecks", spec := "codeChecks", unfollowed := true, recurses := true, apart := false }
def CodeChecksSaid : Prop := codeChecksRow.holds Try.pinned (OpenSpec.ofChange codeChecksSpec)

/-- ITS FALSE NEIGHBOUR: 'it returns false'. Refute it at one input. -/
def codeChecksWrong : ChangeSpec := { name := "codeChecks", fn := fun _ => fun
  | [d] => { results := [.lit (.bool false)], args := [d] }
  | _ => none }
def CodeChecksWrongFalsely : Prop := codeChecksRow.holds Try.pinned (OpenSpec.ofChange codeChecksWrong)

/-- 'marquetrylaw04.CodeApart': WHATEVER THE INPUT: true; the input reads as it did. -/
def codeApartSpec : ChangeSpec := { name := "codeApart", fn := fun _ => fun
  | [d] => { results := [.lit (.bool true)], args := [d] }
  | _ => none }
def codeApartRow : OpenClaim := { program := "ytoanhnebalapeaa", sum := "6174ed89d39b22aaaa6d56c7221a49a11ab03412900a62fc51a4d639d99514fe", func := "marquetry/marquetrylaw04.CodeApart", spec := "codeApart", unfollowed := true, recurses := true, apart := false }
def CodeApartSaid : Prop := codeApartRow.holds Try.pinned (OpenSpec.ofChange codeApartSpec)

/-- ITS FALSE NEIGHBOUR: 'it returns false'. Refute it at one input. -/
def codeApartWrong : ChangeSpec := { name := "codeApart", fn := fun _ => fun
  | [d] => { results := [.lit (.bool false)], args := [d] }
  | _ => none }
def CodeApartWrongFalsely : Prop := codeApartRow.holds Try.pinned (OpenSpec.ofChange codeApartWrong)

/-- 'marquetrylaw04.CodeSplits': WHATEVER THE INPUT: true; the input reads as it did. -/
def codeSplitsSpec : ChangeSpec := { name := "codeSplits", fn := fun _ => fun
  | [d1, d2, d3] => { results := [.lit (.bool true)], args := [d1, d2, d3] }
  | _ => none }
def codeSplitsRow : OpenClaim := { program := "ytoanhnebalapeaa", sum := "6174ed89d39b22aaaa6d56c7221a49a11ab03412900a62fc51a4d639d99514fe", func := "marquetry/marquetrylaw04.CodeSplits", spec := "codeSplits", unfollowed := true, recurses := true, apart := false }
def CodeSplitsSaid : Prop := codeSplitsRow.holds Try.pinned (OpenSpec.ofChange codeSplitsSpec)

/-- ITS FALSE NEIGHBOUR: 'it returns false'. Refute it at one input. -/
def codeSplitsWrong : ChangeSpec := { name := "codeSplits", fn := fun _ => fun
  | [d1, d2, d3] => { results := [.lit (.bool false)], args := [d1, d2, d3] }
  | _ => none }
def CodeSplitsWrongFalsely : Prop := codeSplitsRow.holds Try.pinned (OpenSpec.ofChange codeSplitsWrong)

/-- 'marquetrylaw04.CodeLow': WHATEVER THE INPUT: true; the input reads as it did. -/
def codeLowSpec : ChangeSpec := { name := "codeLow", fn := fun _ => fun
  | [d] => { results := [.lit (.bool true)], args := [d] }
  | _ => none }
def codeLowRow : OpenClaim := { program := "ytoanhnebalapeaa", sum := "6174ed89d39b22aaaa6d56c7221a49a11ab03412900a62fc51a4d639d99514fe", func := "marquetry/marquetrylaw04.CodeLow", spec := "codeLow", unfollowed := true, recurses := true, apart := false }
def CodeLowSaid : Prop := codeLowRow.holds Try.pinned (OpenSpec.ofChange codeLowSpec)

/-- ITS FALSE NEIGHBOUR: 'it returns false'. Refute it at one input. -/
def codeLowWrong : ChangeSpec := { name := "codeLow", fn := fun _ => fun
  | [d] => { results := [.lit (.bool false)], args := [d] }
  | _ => none }
def CodeLowWrongFalsely : Prop := codeLowRow.holds Try.pinned (OpenSpec.ofChange codeLowWrong)

/-- 'marquetrylaw06.SizeBest': WHATEVER THE INPUT: true; the input reads as it did. -/
def sizeBestSpec : ChangeSpec := { name := "sizeBest", fn := fun _ => fun
  | [d1, d2] => { results := [.lit (.bool true)], args := [d1, d2] }
  | _ => none }
def sizeBestRow : OpenClaim := { program := "ytoanhnebalapeaa", sum := "6174ed89d39b22aaaa6d56c7221a49a11ab03412900a62fc51a4d639d99514fe", func := "marquetry/marquetrylaw06.SizeBest", spec := "sizeBest", unfollowed := true, recurses := true, apart := false }
def SizeBestSaid : Prop := sizeBestRow.holds Try.pinned (OpenSpec.ofChange sizeBestSpec)

/-- ITS FALSE NEIGHBOUR: 'it returns false'. Refute it at one input. -/
def sizeBestWrong : ChangeSpec := { name := "sizeBest", fn := fun _ => fun
  | [d1, d2] => { results := [.lit (.bool false)], args := [d1, d2] }
  | _ => none }
def SizeBestWrongFalsely : Prop := sizeBestRow.holds Try.pinned (OpenSpec.ofChange sizeBestWrong)

/-- 'marquetrylaw06.SizeTotals': WHATEVER THE INPUT: true; the input reads as it did. -/
def sizeTotalsSpec : ChangeSpec := { name := "sizeTotals", fn := fun _ => fun
  | [d1, d2] => { results := [.lit (.bool true)], args := [d1, d2] }
  | _ => none }
def sizeTotalsRow : OpenClaim := { program := "ytoanhnebalapeaa", sum := "6174ed89d39b22aaaa6d56c7221a49a11ab03412900a62fc51a4d639d99514fe", func := "marquetry/marquetrylaw06.SizeTotals", spec := "sizeTotals", unfollowed := true, recurses := true, apart := false }
def SizeTotalsSaid : Prop := sizeTotalsRow.holds Try.pinned (OpenSpec.ofChange sizeTotalsSpec)

/-- ITS FALSE NEIGHBOUR: 'it returns false'. Refute it at one input. -/
def sizeTotalsWrong : ChangeSpec := { name := "sizeTotals", fn := fun _ => fun
  | [d1, d2] => { results := [.lit (.bool false)], args := [d1, d2] }
  | _ => none }
def SizeTotalsWrongFalsely : Prop := sizeTotalsRow.holds Try.pinned (OpenSpec.ofChange sizeTotalsWrong)

/-- 'marquetrylaw06.SizeOrder': WHATEVER THE INPUT: true; the input reads as it did. -/
def sizeOrderSpec : ChangeSpec := { name := "sizeOrder", fn := fun _ => fun
  | [d] => { results := [.lit (.bool true)], args := [d] }
  | _ => none }
def sizeOrderRow : OpenClaim := { program := "ytoanhnebalapeaa", sum := "6174ed89d39b22aaaa6d56c7221a49a11ab03412900a62fc51a4d639d99514fe", func := "marquetry/marquetrylaw06.SizeOrder", spec := "sizeOrder", unfollowed := true, recurses := true, apart := false }
def SizeOrderSaid : Prop := sizeOrderRow.holds Try.pinned (OpenSpec.ofChange sizeOrderSpec)

/-- ITS FALSE NEIGHBOUR: 'it returns false'. Refute it at one input. -/
def sizeOrderWrong : ChangeSpec := { name := "sizeOrder", fn := fun _ => fun
  | [d] => { results := [.lit (.bool false)], args := [d] }
  | _ => none }
def SizeOrderWrongFalsely : Prop := sizeOrderRow.holds Try.pinned (OpenSpec.ofChange sizeOrderWrong)

/-- 'marquetrylaw06.SizeWide': WHATEVER THE INPUT: true; the input reads as it did. -/
def sizeWideSpec : ChangeSpec := { name := "sizeWide", fn := fun _ => fun
  | [d1, d2] => { results := [.lit (.bool true)], args := [d1, d2] }
  | _ => none }
def sizeWideRow : OpenClaim := { program := "ytoanhnebalapeaa", sum := "6174ed89d39b22aaaa6d56c7221a49a11ab03412900a62fc51a4d639d99514fe", func := "marquetry/marquetrylaw06.SizeWide", spec := "sizeWide", unfollowed := true, recurses := true, apart := false }
def SizeWideSaid : Prop := sizeWideRow.holds Try.pinned (OpenSpec.ofChange sizeWideSpec)

/-- ITS FALSE NEIGHBOUR: 'it returns false'. Refute it at one input. -/
def sizeWideWrong : ChangeSpec := { name := "sizeWide", fn := fun _ => fun
  | [d1, d2] => { results := [.lit (.bool false)], args := [d1, d2] }
  | _ => none }
def SizeWideWrongFalsely : Prop := sizeWideRow.holds Try.pinned (OpenSpec.ofChange sizeWideWrong)

/-- 'marquetrylaw06.SizeFlat': WHATEVER THE INPUT: true; the input reads as it did. -/
def sizeFlatSpec : ChangeSpec := { name := "sizeFlat", fn := fun _ => fun
  | [d1, d2, d3] => { results := [.lit (.bool true)], args := [d1, d2, d3] }
  | _ => none }
def sizeFlatRow : OpenClaim := { program := "ytoanhnebalapeaa", sum := "6174ed89d39b22aaaa6d56c7221a49a11ab03412900a62fc51a4d639d99514fe", func := "marquetry/marquetrylaw06.SizeFlat", spec := "sizeFlat", unfollowed := true, recurses := true, apart := false }
def SizeFlatSaid : Prop := sizeFlatRow.holds Try.pinned (OpenSpec.ofChange sizeFlatSpec)

/-- ITS FALSE NEIGHBOUR: 'it returns false'. Refute it at one input. -/
def sizeFlatWrong : ChangeSpec := { name := "sizeFlat", fn := fun _ => fun
  | [d1, d2, d3] => { results := [.lit (.bool false)], args := [d1, d2, d3] }
  | _ => none }
def SizeFlatWrongFalsely : Prop := sizeFlatRow.holds Try.pinned (OpenSpec.ofChange sizeFlatWrong)

/-- 'marquetrylaw05.TreeReads': WHATEVER THE INPUT: true; the input reads as it did. -/
def treeReadsSpec : ChangeSpec := { name := "treeReads", fn := fun _ => fun
  | [d1, d2] => { results := [.lit (.bool true)], args := [d1, d2] }
  | _ => none }
def treeReadsRow : OpenClaim := { program := "ytoanhnebalapeaa", sum := "6174ed89d39b22aaaa6d56c7221a49a11ab03412900a62fc51a4d639d99514fe", func := "marquetry/marquetrylaw05.TreeReads", spec := "treeReads", unfollowed := true, recurses := true, apart := false }
def TreeReadsSaid : Prop := treeReadsRow.holds Try.pinned (OpenSpec.ofChange treeReadsSpec)

/-- ITS FALSE NEIGHBOUR: 'it returns false'. Refute it at one input. -/
def treeReadsWrong : ChangeSpec := { name := "treeReads", fn := fun _ => fun
  | [d1, d2] => { results := [.lit (.bool false)], args := [d1, d2] }
  | _ => none }
def TreeReadsWrongFalsely : Prop := treeReadsRow.holds Try.pinned (OpenSpec.ofChange treeReadsWrong)

/-- 'marquetrylaw05.TreeOne': WHATEVER THE INPUT: true; the input reads as it did. -/
def treeOneSpec : ChangeSpec := { name := "treeOne", fn := fun _ => fun
  | [d1, d2, d3, d4] => { results := [.lit (.bool true)], args := [d1, d2, d3, d4] }
  | _ => none }
def treeOneRow : OpenClaim := { program := "ytoanhnebalapeaa", sum := "6174ed89d39b22aaaa6d56c7221a49a11ab03412900a62fc51a4d639d99514fe", func := "marquetry/marquetrylaw05.TreeOne", spec := "treeOne", unfollowed := true, recurses := true, apart := false }
def TreeOneSaid : Prop := treeOneRow.holds Try.pinned (OpenSpec.ofChange treeOneSpec)

/-- ITS FALSE NEIGHBOUR: 'it returns false'. Refute it at one input. -/
def treeOneWrong : ChangeSpec := { name := "treeOne", fn := fun _ => fun
  | [d1, d2, d3, d4] => { results := [.lit (.bool false)], args := [d1, d2, d3, d4] }
  | _ => none }
def TreeOneWrongFalsely : Prop := treeOneRow.holds Try.pinned (OpenSpec.ofChange treeOneWrong)

/-- 'marquetrylaw05.TreeNone': WHATEVER THE INPUT: true; the input reads as it did. -/
def treeNoneSpec : ChangeSpec := { name := "treeNone", fn := fun _ => fun
  | [d1, d2] => { results := [.lit (.bool true)], args := [d1, d2] }
  | _ => none }
def treeNoneRow : OpenClaim := { program := "ytoanhnebalapeaa", sum := "6174ed89d39b22aaaa6d56c7221a49a11ab03412900a62fc51a4d639d99514fe", func := "marquetry/marquetrylaw05.TreeNone", spec := "treeNone", unfollowed := true, recurses := true, apart := false }
def TreeNoneSaid : Prop := treeNoneRow.holds Try.pinned (OpenSpec.ofChange treeNoneSpec)

/-- ITS FALSE NEIGHBOUR: 'it returns false'. Refute it at one input. -/
def treeNoneWrong : ChangeSpec := { name := "treeNone", fn := fun _ => fun
  | [d1, d2] => { results := [.lit (.bool false)], args := [d1, d2] }
  | _ => none }
def TreeNoneWrongFalsely : Prop := treeNoneRow.holds Try.pinned (OpenSpec.ofChange treeNoneWrong)

/-- 'marquetrylaw05.TreeBack': WHATEVER THE INPUT: true; the input reads as it did. -/
def treeBackSpec : ChangeSpec := { name := "treeBack", fn := fun _ => fun
  | [d1, d2] => { results := [.lit (.bool true)], args := [d1, d2] }
  | _ => none }
def treeBackRow : OpenClaim := { program := "ytoanhnebalapeaa", sum := "6174ed89d39b22aaaa6d56c7221a49a11ab03412900a62fc51a4d639d99514fe", func := "marquetry/marquetrylaw05.TreeBack", spec := "treeBack", unfollowed := true, recurses := true, apart := false }
def TreeBackSaid : Prop := treeBackRow.holds Try.pinned (OpenSpec.ofChange treeBackSpec)

/-- ITS FALSE NEIGHBOUR: 'it returns false'. Refute it at one input. -/
def treeBackWrong : ChangeSpec := { name := "treeBack", fn := fun _ => fun
  | [d1, d2] => { results := [.lit (.bool false)], args := [d1, d2] }
  | _ => none }
def TreeBackWrongFalsely : Prop := treeBackRow.holds Try.pinned (OpenSpec.ofChange treeBackWrong)

/-- 'marquetrylaw16.TableSizes': WHATEVER THE INPUT: true; the input reads as it did. -/
def tableSizesSpec : ChangeSpec := { name := "tableSizes", fn := fun _ => fun
  | [d] => { results := [.lit (.bool true)], args := [d] }
  | _ => none }
def tableSizesRow : OpenClaim := { program := "ytoanhnebalapeaa", sum := "6174ed89d39b22aaaa6d56c7221a49a11ab03412900a62fc51a4d639d99514fe", func := "marquetry/marquetrylaw16.TableSizes", spec := "tableSizes", unfollowed := true, recurses := true, apart := false }
def TableSizesSaid : Prop := tableSizesRow.holds Try.pinned (OpenSpec.ofChange tableSizesSpec)

/-- ITS FALSE NEIGHBOUR: 'it returns false'. Refute it at one input. -/
def tableSizesWrong : ChangeSpec := { name := "tableSizes", fn := fun _ => fun
  | [d] => { results := [.lit (.bool false)], args := [d] }
  | _ => none }
def TableSizesWrongFalsely : Prop := tableSizesRow.holds Try.pinned (OpenSpec.ofChange tableSizesWrong)

/-- 'marquetrylaw16.TablePacks': WHATEVER THE INPUT: true; the input reads as it did. -/
def tablePacksSpec : ChangeSpec := { name := "tablePacks", fn := fun _ => fun
  | [d1, d2, d3] => { results := [.lit (.bool true)], args := [d1, d2, d3] }
  | _ => none }
def tablePacksRow : OpenClaim := { program := "ytoanhnebalapeaa", sum := "6174ed89d39b22aaaa6d56c7221a49a11ab03412900a62fc51a4d639d99514fe", func := "marquetry/marquetrylaw16.TablePacks", spec := "tablePacks", unfollowed := true, recurses := true, apart := false }
def TablePacksSaid : Prop := tablePacksRow.holds Try.pinned (OpenSpec.ofChange tablePacksSpec)

/-- ITS FALSE NEIGHBOUR: 'it returns false'. Refute it at one input. -/
def tablePacksWrong : ChangeSpec := { name := "tablePacks", fn := fun _ => fun
  | [d1, d2, d3] => { results := [.lit (.bool false)], args := [d1, d2, d3] }
  | _ => none }
def TablePacksWrongFalsely : Prop := tablePacksRow.holds Try.pinned (OpenSpec.ofChange tablePacksWrong)

/-- 'marquetrylaw16.TableBack': WHATEVER THE INPUT: true; the input reads as it did. -/
def tableBackSpec : ChangeSpec := { name := "tableBack", fn := fun _ => fun
  | [d] => { results := [.lit (.bool true)], args := [d] }
  | _ => none }
def tableBackRow : OpenClaim := { program := "ytoanhnebalapeaa", sum := "6174ed89d39b22aaaa6d56c7221a49a11ab03412900a62fc51a4d639d99514fe", func := "marquetry/marquetrylaw16.TableBack", spec := "tableBack", unfollowed := true, recurses := true, apart := false }
def TableBackSaid : Prop := tableBackRow.holds Try.pinned (OpenSpec.ofChange tableBackSpec)

/-- ITS FALSE NEIGHBOUR: 'it returns false'. Refute it at one input. -/
def tableBackWrong : ChangeSpec := { name := "tableBack", fn := fun _ => fun
  | [d] => { results := [.lit (.bool false)], args := [d] }
  | _ => none }
def TableBackWrongFalsely : Prop := tableBackRow.holds Try.pinned (OpenSpec.ofChange tableBackWrong)

/-- 'marquetrylaw16.TableBeyond': WHATEVER THE INPUT: true; the input reads as it did. -/
def tableBeyondSpec : ChangeSpec := { name := "tableBeyond", fn := fun _ => fun
  | [d1, d2] => { results := [.lit (.bool true)], args := [d1, d2] }
  | _ => none }
def tableBeyondRow : OpenClaim := { program := "ytoanhnebalapeaa", sum := "6174ed89d39b22aaaa6d56c7221a49a11ab03412900a62fc51a4d639d99514fe", func := "marquetry/marquetrylaw16.TableBeyond", spec := "tableBeyond", unfollowed := true, recurses := true, apart := false }
def TableBeyondSaid : Prop := tableBeyondRow.holds Try.pinned (OpenSpec.ofChange tableBeyondSpec)

/-- ITS FALSE NEIGHBOUR: 'it returns false'. Refute it at one input. -/
def tableBeyondWrong : ChangeSpec := { name := "tableBeyond", fn := fun _ => fun
  | [d1, d2] => { results := [.lit (.bool false)], args := [d1, d2] }
  | _ => none }
def TableBeyondWrongFalsely : Prop := tableBeyondRow.holds Try.pinned (OpenSpec.ofChange tableBeyondWrong)

/-- 'marquetrylaw16.TableColors': WHATEVER THE INPUT: true; the input reads as it did. -/
def tableColorsSpec : ChangeSpec := { name := "tableColors", fn := fun _ => fun
  | [d1, d2, d3] => { results := [.lit (.bool true)], args := [d1, d2, d3] }
  | _ => none }
def tableColorsRow : OpenClaim := { program := "ytoanhnebalapeaa", sum := "6174ed89d39b22aaaa6d56c7221a49a11ab03412900a62fc51a4d639d99514fe", func := "marquetry/marquetrylaw16.TableColors", spec := "tableColors", unfollowed := true, recurses := true, apart := false }
def TableColorsSaid : Prop := tableColorsRow.holds Try.pinned (OpenSpec.ofChange tableColorsSpec)

/-- ITS FALSE NEIGHBOUR: 'it returns false'. Refute it at one input. -/
def tableColorsWrong : ChangeSpec := { name := "tableColors", fn := fun _ => fun
  | [d1, d2, d3] => { results := [.lit (.bool false)], args := [d1, d2, d3] }
  | _ => none }
def TableColorsWrongFalsely : Prop := tableColorsRow.holds Try.pinned (OpenSpec.ofChange tableColorsWrong)

/- THE SECOND FORM. 'bulk': how many values and letters a reading holds, each counted each time it is reached (what is shared counts as often as it is met; a slice's spare places count too). A statement '..UptoSaid' is the law's where the arguments, and the package variables that the reading takes, are together of bulk at most 1048576: NARROWER than '..Said'. Prove '..Said' where nothing that the law and all that it calls make is longer than what came in: it says more and counts as full. Else prove '..UptoSaid'. A law counts once. -/
mutual
def uptoBulk {H : Type} : DataW H → Nat
  | .lit (.string bytes) => bytes.length + 1
  | .lit _ => 1
  | .nil => 1
  | .ptr d => uptoBulk d + 1
  | .slice elems spare => uptoBulkAll elems + uptoBulkAll spare + 1
  | .agg parts => uptoBulkAll parts + 1
  | .iface _ d => uptoBulk d + 1
  | .map entries => uptoBulkEntries entries + 1
  | .held _ => 1
def uptoBulkAll {H : Type} : List (DataW H) → Nat
  | [] => 0
  | d :: r => uptoBulk d + uptoBulkAll r
def uptoBulkEntries {H : Type} : List (Lit × DataW H) → Nat
  | [] => 0
  | x :: r => uptoBulkEntry x + uptoBulkEntries r
def uptoBulkEntry {H : Type} : Lit × DataW H → Nat
  | (.string bytes, d) => bytes.length + uptoBulk d + 1
  | (_, d) => uptoBulk d + 1
 end
def uptoSmall : (H : Type) → List (DataW H) → Bool := fun _ ds => decide (uptoBulkAll ds ≤ 1048576)
def OpenSpec.upto (s : _root_.Go.ChangeSpec) : _root_.Go.OpenSpec := { _root_.Go.OpenSpec.ofChange s with cond := some uptoSmall }

/-- 'marquetrylaw21.FrameHeads', WHERE WHAT IT READS IS OF BULK AT MOST 1048576: true; the input reads as it did. -/
def frameHeadsUptoRow : OpenClaim := { program := "ytoanhnebalapeaa", sum := "6174ed89d39b22aaaa6d56c7221a49a11ab03412900a62fc51a4d639d99514fe", func := "marquetry/marquetrylaw21.FrameHeads", spec := "frameHeads", apart := false, narrowed := true }
def FrameHeadsUptoSaid : Prop := frameHeadsUptoRow.holds Try.pinned (OpenSpec.upto frameHeadsSpec)

/-- 'marquetrylaw04.CodeChecks', WHERE WHAT IT READS IS OF BULK AT MOST 1048576: true; the input reads as it did. -/
def codeChecksUptoRow : OpenClaim := { program := "ytoanhnebalapeaa", sum := "6174ed89d39b22aaaa6d56c7221a49a11ab03412900a62fc51a4d639d99514fe", func := "marquetry/marquetrylaw04.CodeChecks", spec := "codeChecks", unfollowed := true, recurses := true, apart := false, narrowed := true }
def CodeChecksUptoSaid : Prop := codeChecksUptoRow.holds Try.pinned (OpenSpec.upto codeChecksSpec)

/-- 'marquetrylaw04.CodeApart', WHERE WHAT IT READS IS OF BULK AT MOST 1048576: true; the input reads as it did. -/
def codeApartUptoRow : OpenClaim := { program := "ytoanhnebalapeaa", sum := "6174ed89d39b22aaaa6d56c7221a49a11ab03412900a62fc51a4d639d99514fe", func := "marquetry/marquetrylaw04.CodeApart", spec := "codeApart", unfollowed := true, recurses := true, apart := false, narrowed := true }
def CodeApartUptoSaid : Prop := codeApartUptoRow.holds Try.pinned (OpenSpec.upto codeApartSpec)

/-- 'marquetrylaw04.CodeSplits', WHERE WHAT IT READS IS OF BULK AT MOST 1048576: true; the input reads as it did. -/
def codeSplitsUptoRow : OpenClaim := { program := "ytoanhnebalapeaa", sum := "6174ed89d39b22aaaa6d56c7221a49a11ab03412900a62fc51a4d639d99514fe", func := "marquetry/marquetrylaw04.CodeSplits", spec := "codeSplits", unfollowed := true, recurses := true, apart := false, narrowed := true }
def CodeSplitsUptoSaid : Prop := codeSplitsUptoRow.holds Try.pinned (OpenSpec.upto codeSplitsSpec)

/-- 'marquetrylaw04.CodeLow', WHERE WHAT IT READS IS OF BULK AT MOST 1048576: true; the input reads as it did. -/
def codeLowUptoRow : OpenClaim := { program := "ytoanhnebalapeaa", sum := "6174ed89d39b22aaaa6d56c7221a49a11ab03412900a62fc51a4d639d99514fe", func := "marquetry/marquetrylaw04.CodeLow", spec := "codeLow", unfollowed := true, recurses := true, apart := false, narrowed := true }
def CodeLowUptoSaid : Prop := codeLowUptoRow.holds Try.pinned (OpenSpec.upto codeLowSpec)

/-- 'marquetrylaw06.SizeBest', WHERE WHAT IT READS IS OF BULK AT MOST 1048576: true; the input reads as it did. -/
def sizeBestUptoRow : OpenClaim := { program := "ytoanhnebalapeaa", sum := "6174ed89d39b22aaaa6d56c7221a49a11ab03412900a62fc51a4d639d99514fe", func := "marquetry/marquetrylaw06.SizeBest", spec := "sizeBest", unfollowed := true, recurses := true, apart := false, narrowed := true }
def SizeBestUptoSaid : Prop := sizeBestUptoRow.holds Try.pinned (OpenSpec.upto sizeBestSpec)

/-- 'marquetrylaw06.SizeTotals', WHERE WHAT IT READS IS OF BULK AT MOST 1048576: true; the input reads as it did. -/
def sizeTotalsUptoRow : OpenClaim := { program := "ytoanhnebalapeaa", sum := "6174ed89d39b22aaaa6d56c7221a49a11ab03412900a62fc51a4d639d99514fe", func := "marquetry/marquetrylaw06.SizeTotals", spec := "sizeTotals", unfollowed := true, recurses := true, apart := false, narrowed := true }
def SizeTotalsUptoSaid : Prop := sizeTotalsUptoRow.holds Try.pinned (OpenSpec.upto sizeTotalsSpec)

/-- 'marquetrylaw06.SizeOrder', WHERE WHAT IT READS IS OF BULK AT MOST 1048576: true; the input reads as it did. -/
def sizeOrderUptoRow : OpenClaim := { program := "ytoanhnebalapeaa", sum := "6174ed89d39b22aaaa6d56c7221a49a11ab03412900a62fc51a4d639d99514fe", func := "marquetry/marquetrylaw06.SizeOrder", spec := "sizeOrder", unfollowed := true, recurses := true, apart := false, narrowed := true }
def SizeOrderUptoSaid : Prop := sizeOrderUptoRow.holds Try.pinned (OpenSpec.upto sizeOrderSpec)

/-- 'marquetrylaw06.SizeWide', WHERE WHAT IT READS IS OF BULK AT MOST 1048576: true; the input reads as it did. -/
def sizeWideUptoRow : OpenClaim := { program := "ytoanhnebalapeaa", sum := "6174ed89d39b22aaaa6d56c7221a49a11ab03412900a62fc51a4d639d99514fe", func := "marquetry/marquetrylaw06.SizeWide", spec := "sizeWide", unfollowed := true, recurses := true, apart := false, narrowed := true }
def SizeWideUptoSaid : Prop := sizeWideUptoRow.holds Try.pinned (OpenSpec.upto sizeWideSpec)

/-- 'marquetrylaw06.SizeFlat', WHERE WHAT IT READS IS OF BULK AT MOST 1048576: true; the input reads as it did. -/
def sizeFlatUptoRow : OpenClaim := { program := "ytoanhnebalapeaa", sum := "6174ed89d39b22aaaa6d56c7221a49a11ab03412900a62fc51a4d639d99514fe", func := "marquetry/marquetrylaw06.SizeFlat", spec := "sizeFlat", unfollowed := true, recurses := true, apart := false, narrowed := true }
def SizeFlatUptoSaid : Prop := sizeFlatUptoRow.holds Try.pinned (OpenSpec.upto sizeFlatSpec)

/-- 'marquetrylaw05.TreeReads', WHERE WHAT IT READS IS OF BULK AT MOST 1048576: true; the input reads as it did. -/
def treeReadsUptoRow : OpenClaim := { program := "ytoanhnebalapeaa", sum := "6174ed89d39b22aaaa6d56c7221a49a11ab03412900a62fc51a4d639d99514fe", func := "marquetry/marquetrylaw05.TreeReads", spec := "treeReads", unfollowed := true, recurses := true, apart := false, narrowed := true }
def TreeReadsUptoSaid : Prop := treeReadsUptoRow.holds Try.pinned (OpenSpec.upto treeReadsSpec)

/-- 'marquetrylaw05.TreeOne', WHERE WHAT IT READS IS OF BULK AT MOST 1048576: true; the input reads as it did. -/
def treeOneUptoRow : OpenClaim := { program := "ytoanhnebalapeaa", sum := "6174ed89d39b22aaaa6d56c7221a49a11ab03412900a62fc51a4d639d99514fe", func := "marquetry/marquetrylaw05.TreeOne", spec := "treeOne", unfollowed := true, recurses := true, apart := false, narrowed := true }
def TreeOneUptoSaid : Prop := treeOneUptoRow.holds Try.pinned (OpenSpec.upto treeOneSpec)

/-- 'marquetrylaw05.TreeNone', WHERE WHAT IT READS IS OF BULK AT MOST 1048576: true; the input reads as it did. -/
def treeNoneUptoRow : OpenClaim := { program := "ytoanhnebalapeaa", sum := "6174ed89d39b22aaaa6d56c7221a49a11ab03412900a62fc51a4d639d99514fe", func := "marquetry/marquetrylaw05.TreeNone", spec := "treeNone", unfollowed := true, recurses := true, apart := false, narrowed := true }
def TreeNoneUptoSaid : Prop := treeNoneUptoRow.holds Try.pinned (OpenSpec.upto treeNoneSpec)

/-- 'marquetrylaw05.TreeBack', WHERE WHAT IT READS IS OF BULK AT MOST 1048576: true; the input reads as it did. -/
def treeBackUptoRow : OpenClaim := { program := "ytoanhnebalapeaa", sum := "6174ed89d39b22aaaa6d56c7221a49a11ab03412900a62fc51a4d639d99514fe", func := "marquetry/marquetrylaw05.TreeBack", spec := "treeBack", unfollowed := true, recurses := true, apart := false, narrowed := true }
def TreeBackUptoSaid : Prop := treeBackUptoRow.holds Try.pinned (OpenSpec.upto treeBackSpec)

/-- 'marquetrylaw16.TableSizes', WHERE WHAT IT READS IS OF BULK AT MOST 1048576: true; the input reads as it did. -/
def tableSizesUptoRow : OpenClaim := { program := "ytoanhnebalapeaa", sum := "6174ed89d39b22aaaa6d56c7221a49a11ab03412900a62fc51a4d639d99514fe", func := "marquetry/marquetrylaw16.TableSizes", spec := "tableSizes", unfollowed := true, recurses := true, apart := false, narrowed := true }
def TableSizesUptoSaid : Prop := tableSizesUptoRow.holds Try.pinned (OpenSpec.upto tableSizesSpec)

/-- 'marquetrylaw16.TablePacks', WHERE WHAT IT READS IS OF BULK AT MOST 1048576: true; the input reads as it did. -/
def tablePacksUptoRow : OpenClaim := { program := "ytoanhnebalapeaa", sum := "6174ed89d39b22aaaa6d56c7221a49a11ab03412900a62fc51a4d639d99514fe", func := "marquetry/marquetrylaw16.TablePacks", spec := "tablePacks", unfollowed := true, recurses := true, apart := false, narrowed := true }
def TablePacksUptoSaid : Prop := tablePacksUptoRow.holds Try.pinned (OpenSpec.upto tablePacksSpec)

/-- 'marquetrylaw16.TableBack', WHERE WHAT IT READS IS OF BULK AT MOST 1048576: true; the input reads as it did. -/
def tableBackUptoRow : OpenClaim := { program := "ytoanhnebalapeaa", sum := "6174ed89d39b22aaaa6d56c7221a49a11ab03412900a62fc51a4d639d99514fe", func := "marquetry/marquetrylaw16.TableBack", spec := "tableBack", unfollowed := true, recurses := true, apart := false, narrowed := true }
def TableBackUptoSaid : Prop := tableBackUptoRow.holds Try.pinned (OpenSpec.upto tableBackSpec)

/-- 'marquetrylaw16.TableBeyond', WHERE WHAT IT READS IS OF BULK AT MOST 1048576: true; the input reads as it did. -/
def tableBeyondUptoRow : OpenClaim := { program := "ytoanhnebalapeaa", sum := "6174ed89d39b22aaaa6d56c7221a49a11ab03412900a62fc51a4d639d99514fe", func := "marquetry/marquetrylaw16.TableBeyond", spec := "tableBeyond", unfollowed := true, recurses := true, apart := false, narrowed := true }
def TableBeyondUptoSaid : Prop := tableBeyondUptoRow.holds Try.pinned (OpenSpec.upto tableBeyondSpec)

/-- 'marquetrylaw16.TableColors', WHERE WHAT IT READS IS OF BULK AT MOST 1048576: true; the input reads as it did. -/
def tableColorsUptoRow : OpenClaim := { program := "ytoanhnebalapeaa", sum := "6174ed89d39b22aaaa6d56c7221a49a11ab03412900a62fc51a4d639d99514fe", func := "marquetry/marquetrylaw16.TableColors", spec := "tableColors", unfollowed := true, recurses := true, apart := false, narrowed := true }
def TableColorsUptoSaid : Prop := tableColorsUptoRow.holds Try.pinned (OpenSpec.upto tableColorsSpec)

end Rows
end Go.Proofs.Ytoanhnebalapeaa
