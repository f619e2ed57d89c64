/-
  DERIVED. GIVEN WITH THE SEED: THE CARDS: each row of YtodpognmkbjlmaaGreatDoorRows.lean that lists a variable, with what it lists TIED to the program's text (the seventh form; the later family's looks); each row that meets fmt, with fmt's text TOLD by the authors' own Lean function (tested against real Go, not proved from fmt's source: count such statements apart). THE CARD IS WHAT COUNTS. Prove the row's statement (the work); the ties are given (YtodpognmkbjlmaaGreatDoorTie.lean); close each card by the builder's one call (the guide's Derived/Test/ToyasCard.lean, 'card_holds'). Laid BY PROGRAM, IN A SANDBOX (cutbox-door.mjs). By AI agents, Wed Nov 11 2026. No macro, syntax, notation, axiom, sorry.
-/
import Derived.Test.YtodpognmkbjlmaaGreatDoorRows
import GoSem.ClaimSeven
namespace Go.Proofs.YtodpognmkbjlmaaGreatDoor
namespace Rows

/-- THE TIED CARD OF 'marquetrylaw26.AlphaFilters'. -/
def alphaFiltersCard : Claim7 := { stood := { row := alphaFiltersRow, standIns := [], harness := (true, "d8126f84c3598f028252b6a1c39ccb1a9d6f8ff8bba0233b98f6ca3979ff72ec"), looks := true }, kinds := [], alts := [], laidByText := true, laidKinds := [.data, .data, .data, .data, .sentinel, .sentinel, .listed, .data, .pinned], laidTests := true, laidLooks := .later }
def AlphaFiltersCardSaid : Prop := Claim7.holds Tryz.pinned (.plain (OpenSpec.ofChange alphaFiltersSpec)) alphaFiltersCard

/-- THE TIED CARD OF 'marquetrylaw26.AlphaFlat'. -/
def alphaFlatCard : Claim7 := { stood := { row := alphaFlatRow, standIns := [], harness := (true, "d8126f84c3598f028252b6a1c39ccb1a9d6f8ff8bba0233b98f6ca3979ff72ec"), looks := true }, kinds := [], alts := [], laidByText := true, laidKinds := [.data, .data, .data, .data, .sentinel, .sentinel, .listed, .data, .pinned], laidTests := true, laidLooks := .later }
def AlphaFlatCardSaid : Prop := Claim7.holds Tryz.pinned (.plain (OpenSpec.ofChange alphaFlatSpec)) alphaFlatCard

/-- THE SECOND FORM's CARD OF 'marquetrylaw26.AlphaFilters'. -/
def alphaFiltersUptoCard : Claim7 := { stood := { row := alphaFiltersUptoRow, standIns := [], harness := (true, "d8126f84c3598f028252b6a1c39ccb1a9d6f8ff8bba0233b98f6ca3979ff72ec"), looks := true }, kinds := [], alts := [], laidByText := true, laidKinds := [.data, .data, .data, .data, .sentinel, .sentinel, .listed, .data, .pinned], laidTests := true, laidLooks := .later }
def AlphaFiltersUptoCardSaid : Prop := Claim7.holds Tryz.pinned (.plain (OpenSpec.upto alphaFiltersSpec)) alphaFiltersUptoCard

/-- THE SECOND FORM's CARD OF 'marquetrylaw26.AlphaFlat'. -/
def alphaFlatUptoCard : Claim7 := { stood := { row := alphaFlatUptoRow, standIns := [], harness := (true, "d8126f84c3598f028252b6a1c39ccb1a9d6f8ff8bba0233b98f6ca3979ff72ec"), looks := true }, kinds := [], alts := [], laidByText := true, laidKinds := [.data, .data, .data, .data, .sentinel, .sentinel, .listed, .data, .pinned], laidTests := true, laidLooks := .later }
def AlphaFlatUptoCardSaid : Prop := Claim7.holds Tryz.pinned (.plain (OpenSpec.upto alphaFlatSpec)) alphaFlatUptoCard
end Rows
end Go.Proofs.YtodpognmkbjlmaaGreatDoor
