/-
  No cell of these rows narrows 'for every input' (looked for: loops, veiled, ifaces, maps, wideKeys, modest, calm, conditions, laid).
  DERIVED. THE GIVEN ROWS OF THIS SEAT. 5 by the template 'for every input the law returns true; each argument reads behind the call as it read before'; 0 by the template 'total and deterministic' (their statements: YtmgkdlkjcncniaaTotals.lean).
  GIVEN WITH THE SEED: the statements are not yours to turn. If you find one false, say at which input.
  Laid BY PROGRAM, IN A SANDBOX (cutbox-rows.mjs): the forced cells as the released guide's own fill.sh prints them over the translation d4aaddc026d349ab… (all of the seat's roots in one cut). By AI agents, Wed Nov 11 2026. No macro, syntax, notation, axiom, sorry.
-/
import Derived.Test.YtmgkdlkjcncniaaChecked
import GoSem.Claim
import GoSem.ClaimJoined
import GoSem.ClaimMapViews
import Derived.JoinedTies
import Derived.KernelRfl
namespace Go.Proofs.Ytmgkdlkjcncniaa
/- THE CELL 'sum', in the pinned program and in every row, IS THE sha256 OF THE DUMP (.gsa) THAT YtmgkdlkjcncniaaProg.lean LOADS. Nothing in Lean hashes anything: it is a label: what it is worth is what the hold of that sum in a sandbox is worth. -/
noncomputable def Try.pinned : Pinned := { name := "ytmgkdlkjcncniaa", sum := "d4aaddc026d349abc938bc1498ee234044a609d6b1cc88a25a57199b83556668", checked := Try.checked }
namespace Rows
def none {H : Type} : Left H := { results := [], args := [] }

/-- 'marquetrylaw16.TableSizes': WHATEVER THE INPUT: true; the input reads as it did. -/
def tableSizesSpec : ChangeSpec := { name := "tableSizes", fn := fun _ => fun
  | [d] => { results := [.lit (.bool true)], args := [d] }
  | _ => none }
def tableSizesRow : OpenClaim := { program := "ytmgkdlkjcncniaa", sum := "d4aaddc026d349abc938bc1498ee234044a609d6b1cc88a25a57199b83556668", func := "marquetry/marquetrylaw16.TableSizes", spec := "tableSizes", unfollowed := true, recurses := true, apart := false }
def TableSizesSaid : Prop := tableSizesRow.holds Try.pinned (OpenSpec.ofChange tableSizesSpec)

/-- ITS FALSE NEIGHBOUR: 'it returns false'. Refute it at one input. -/
def tableSizesWrong : ChangeSpec := { name := "tableSizes", fn := fun _ => fun
  | [d] => { results := [.lit (.bool false)], args := [d] }
  | _ => none }
def TableSizesWrongFalsely : Prop := tableSizesRow.holds Try.pinned (OpenSpec.ofChange tableSizesWrong)

/-- 'marquetrylaw16.TablePacks': WHATEVER THE INPUT: true; the input reads as it did. -/
def tablePacksSpec : ChangeSpec := { name := "tablePacks", fn := fun _ => fun
  | [d1, d2, d3] => { results := [.lit (.bool true)], args := [d1, d2, d3] }
  | _ => none }
def tablePacksRow : OpenClaim := { program := "ytmgkdlkjcncniaa", sum := "d4aaddc026d349abc938bc1498ee234044a609d6b1cc88a25a57199b83556668", func := "marquetry/marquetrylaw16.TablePacks", spec := "tablePacks", unfollowed := true, recurses := true, apart := false }
def TablePacksSaid : Prop := tablePacksRow.holds Try.pinned (OpenSpec.ofChange tablePacksSpec)

/-- ITS FALSE NEIGHBOUR: 'it returns false'. Refute it at one input. -/
def tablePacksWrong : ChangeSpec := { name := "tablePacks", fn := fun _ => fun
  | [d1, d2, d3] => { results := [.lit (.bool false)], args := [d1, d2, d3] }
  | _ => none }
def TablePacksWrongFalsely : Prop := tablePacksRow.holds Try.pinned (OpenSpec.ofChange tablePacksWrong)

/-- 'marquetrylaw16.TableBack': WHATEVER THE INPUT: true; the input reads as it did. -/
def tableBackSpec : ChangeSpec := { name := "tableBack", fn := fun _ => fun
  | [d] => { results := [.lit (.bool true)], args := [d] }
  | _ => none }
def tableBackRow : OpenClaim := { program := "ytmgkdlkjcncniaa", sum := "d4aaddc026d349abc938bc1498ee234044a609d6b1cc88a25a57199b83556668", func := "marquetry/marquetrylaw16.TableBack", spec := "tableBack", unfollowed := true, recurses := true, apart := false }
def TableBackSaid : Prop := tableBackRow.holds Try.pinned (OpenSpec.ofChange tableBackSpec)

/-- ITS FALSE NEIGHBOUR: 'it returns false'. Refute it at one input. -/
def tableBackWrong : ChangeSpec := { name := "tableBack", fn := fun _ => fun
  | [d] => { results := [.lit (.bool false)], args := [d] }
  | _ => none }
def TableBackWrongFalsely : Prop := tableBackRow.holds Try.pinned (OpenSpec.ofChange tableBackWrong)

/-- 'marquetrylaw16.TableBeyond': WHATEVER THE INPUT: true; the input reads as it did. -/
def tableBeyondSpec : ChangeSpec := { name := "tableBeyond", fn := fun _ => fun
  | [d1, d2] => { results := [.lit (.bool true)], args := [d1, d2] }
  | _ => none }
def tableBeyondRow : OpenClaim := { program := "ytmgkdlkjcncniaa", sum := "d4aaddc026d349abc938bc1498ee234044a609d6b1cc88a25a57199b83556668", func := "marquetry/marquetrylaw16.TableBeyond", spec := "tableBeyond", unfollowed := true, recurses := true, apart := false }
def TableBeyondSaid : Prop := tableBeyondRow.holds Try.pinned (OpenSpec.ofChange tableBeyondSpec)

/-- ITS FALSE NEIGHBOUR: 'it returns false'. Refute it at one input. -/
def tableBeyondWrong : ChangeSpec := { name := "tableBeyond", fn := fun _ => fun
  | [d1, d2] => { results := [.lit (.bool false)], args := [d1, d2] }
  | _ => none }
def TableBeyondWrongFalsely : Prop := tableBeyondRow.holds Try.pinned (OpenSpec.ofChange tableBeyondWrong)

/-- 'marquetrylaw16.TableColors': WHATEVER THE INPUT: true; the input reads as it did. -/
def tableColorsSpec : ChangeSpec := { name := "tableColors", fn := fun _ => fun
  | [d1, d2, d3] => { results := [.lit (.bool true)], args := [d1, d2, d3] }
  | _ => none }
def tableColorsRow : OpenClaim := { program := "ytmgkdlkjcncniaa", sum := "d4aaddc026d349abc938bc1498ee234044a609d6b1cc88a25a57199b83556668", func := "marquetry/marquetrylaw16.TableColors", spec := "tableColors", unfollowed := true, recurses := true, apart := false }
def TableColorsSaid : Prop := tableColorsRow.holds Try.pinned (OpenSpec.ofChange tableColorsSpec)

/-- ITS FALSE NEIGHBOUR: 'it returns false'. Refute it at one input. -/
def tableColorsWrong : ChangeSpec := { name := "tableColors", fn := fun _ => fun
  | [d1, d2, d3] => { results := [.lit (.bool false)], args := [d1, d2, d3] }
  | _ => none }
def TableColorsWrongFalsely : Prop := tableColorsRow.holds Try.pinned (OpenSpec.ofChange tableColorsWrong)

/- THE SECOND FORM. 'bulk': how many values and letters a reading holds, each counted each time it is reached (what is shared counts as often as it is met; a slice's spare places count too). A statement '..UptoSaid' is the law's where the arguments, and the package variables that the reading takes, are together of bulk at most 1048576: NARROWER than '..Said'. Prove '..Said' where nothing that the law and all that it calls make is longer than what came in: it says more and counts as full. Else prove '..UptoSaid'. A law counts once. -/
mutual
def uptoBulk {H : Type} : DataW H → Nat
  | .lit (.string bytes) => bytes.length + 1
  | .lit _ => 1
  | .nil => 1
  | .ptr d => uptoBulk d + 1
  | .slice elems spare => uptoBulkAll elems + uptoBulkAll spare + 1
  | .agg parts => uptoBulkAll parts + 1
  | .iface _ d => uptoBulk d + 1
  | .map entries => uptoBulkEntries entries + 1
  | .held _ => 1
def uptoBulkAll {H : Type} : List (DataW H) → Nat
  | [] => 0
  | d :: r => uptoBulk d + uptoBulkAll r
def uptoBulkEntries {H : Type} : List (Lit × DataW H) → Nat
  | [] => 0
  | x :: r => uptoBulkEntry x + uptoBulkEntries r
def uptoBulkEntry {H : Type} : Lit × DataW H → Nat
  | (.string bytes, d) => bytes.length + uptoBulk d + 1
  | (_, d) => uptoBulk d + 1
 end
def uptoSmall : (H : Type) → List (DataW H) → Bool := fun _ ds => decide (uptoBulkAll ds ≤ 1048576)
def OpenSpec.upto (s : _root_.Go.ChangeSpec) : _root_.Go.OpenSpec := { _root_.Go.OpenSpec.ofChange s with cond := some uptoSmall }

/-- 'marquetrylaw16.TableSizes', WHERE WHAT IT READS IS OF BULK AT MOST 1048576: true; the input reads as it did. -/
def tableSizesUptoRow : OpenClaim := { program := "ytmgkdlkjcncniaa", sum := "d4aaddc026d349abc938bc1498ee234044a609d6b1cc88a25a57199b83556668", func := "marquetry/marquetrylaw16.TableSizes", spec := "tableSizes", unfollowed := true, recurses := true, apart := false, narrowed := true }
def TableSizesUptoSaid : Prop := tableSizesUptoRow.holds Try.pinned (OpenSpec.upto tableSizesSpec)

/-- 'marquetrylaw16.TablePacks', WHERE WHAT IT READS IS OF BULK AT MOST 1048576: true; the input reads as it did. -/
def tablePacksUptoRow : OpenClaim := { program := "ytmgkdlkjcncniaa", sum := "d4aaddc026d349abc938bc1498ee234044a609d6b1cc88a25a57199b83556668", func := "marquetry/marquetrylaw16.TablePacks", spec := "tablePacks", unfollowed := true, recurses := true, apart := false, narrowed := true }
def TablePacksUptoSaid : Prop := tablePacksUptoRow.holds Try.pinned (OpenSpec.upto tablePacksSpec)

/-- 'marquetrylaw16.TableBack', WHERE WHAT IT READS IS OF BULK AT MOST 1048576: true; the input reads as it did. -/
def tableBackUptoRow : OpenClaim := { program := "ytmgkdlkjcncniaa", sum := "d4aaddc026d349abc938bc1498ee234044a609d6b1cc88a25a57199b83556668", func := "marquetry/marquetrylaw16.TableBack", spec := "tableBack", unfollowed := true, recurses := true, apart := false, narrowed := true }
def TableBackUptoSaid : Prop := tableBackUptoRow.holds Try.pinned (OpenSpec.upto tableBackSpec)

/-- 'marquetrylaw16.TableBeyond', WHERE WHAT IT READS IS OF BULK AT MOST 1048576: true; the input reads as it did. -/
def tableBeyondUptoRow : OpenClaim := { program := "ytmgkdlkjcncniaa", sum := "d4aaddc026d349abc938bc1498ee234044a609d6b1cc88a25a57199b83556668", func := "marquetry/marquetrylaw16.TableBeyond", spec := "tableBeyond", unfollowed := true, recurses := true, apart := false, narrowed := true }
def TableBeyondUptoSaid : Prop := tableBeyondUptoRow.holds Try.pinned (OpenSpec.upto tableBeyondSpec)

/-- 'marquetrylaw16.TableColors', WHERE WHAT IT READS IS OF BULK AT MOST 1048576: true; the input reads as it did. -/
def tableColorsUptoRow : OpenClaim := { program := "ytmgkdlkjcncniaa", sum := "d4aaddc026d349abc938bc1498ee234044a609d6b1cc88a25a57199b83556668", func := "marquetry/marquetrylaw16.TableColors", spec := "tableColors", unfollowed := true, recurses := true, apart := false, narrowed := true }
def TableColorsUptoSaid : Prop := tableColorsUptoRow.holds Try.pinned (OpenSpec.upto tableColorsSpec)

end Rows
end Go.Proofs.Ytmgkdlkjcncniaa
