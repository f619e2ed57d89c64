/-
  DERIVED. GIVEN WITH THE SEED: THE CARDS: each row of YtfeloicmkcfinaaDoorRows.lean that lists a variable, with what it lists TIED to the program's text (the seventh form; the later family's looks); each row that meets fmt, with fmt's text TOLD by the authors' own Lean function (tested against real Go, not proved from fmt's source: count such statements apart). THE CARD IS WHAT COUNTS. Prove the row's statement (the work); the ties are given (YtfeloicmkcfinaaDoorTie.lean); close each card by the builder's one call (the guide's Derived/Test/ToyasCard.lean, 'card_holds'). Laid BY PROGRAM, IN A SANDBOX (cutbox-door.mjs). By AI agents, Wed Nov 11 2026. No macro, syntax, notation, axiom, sorry.
-/
import Derived.Test.YtfeloicmkcfinaaDoorRows
import GoSem.ClaimSeven
namespace Go.Proofs.YtfeloicmkcfinaaDoor
namespace Rows

/-- THE TIED CARD OF 'marquetrylaw18.GroupNothing'. -/
def groupNothingCard : Claim7 := { stood := { row := groupNothingRow, standIns := [], harness := (true, "99f9711e1f7fad7b682ab66da9c015a9e076e8ff88504b7c11408fae2eb0123c"), looks := true }, kinds := [], alts := [], laidByText := true, laidKinds := [.data, .data, .data, .data, .sentinel, .sentinel, .listed, .data, .pinned], laidTests := true, laidLooks := .later }
def GroupNothingCardSaid : Prop := Claim7.holds Tryd.pinned (.plain (OpenSpec.ofChange groupNothingSpec)) groupNothingCard

/-- THE SECOND FORM's CARD OF 'marquetrylaw18.GroupNothing'. -/
def groupNothingUptoCard : Claim7 := { stood := { row := groupNothingUptoRow, standIns := [], harness := (true, "99f9711e1f7fad7b682ab66da9c015a9e076e8ff88504b7c11408fae2eb0123c"), looks := true }, kinds := [], alts := [], laidByText := true, laidKinds := [.data, .data, .data, .data, .sentinel, .sentinel, .listed, .data, .pinned], laidTests := true, laidLooks := .later }
def GroupNothingUptoCardSaid : Prop := Claim7.holds Tryd.pinned (.plain (OpenSpec.upto groupNothingSpec)) groupNothingUptoCard
end Rows
end Go.Proofs.YtfeloicmkcfinaaDoor
