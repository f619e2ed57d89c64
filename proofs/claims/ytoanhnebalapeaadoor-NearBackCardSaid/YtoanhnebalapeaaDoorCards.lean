/-
  DERIVED. GIVEN WITH THE SEED: THE CARDS: each row of YtoanhnebalapeaaDoorRows.lean that lists a variable, with what it lists TIED to the program's text (the seventh form; the later family's looks); each row that meets fmt, with fmt's text TOLD by the authors' own Lean function (tested against real Go, not proved from fmt's source: count such statements apart). THE CARD IS WHAT COUNTS. Prove the row's statement (the work); the ties are given (YtoanhnebalapeaaDoorTie.lean); close each card by the builder's one call (the guide's Derived/Test/ToyasCard.lean, 'card_holds'). Laid BY PROGRAM, IN A SANDBOX (cutbox-door.mjs). By AI agents, Wed Nov 11 2026. No macro, syntax, notation, axiom, sorry.
-/
import Derived.Test.YtoanhnebalapeaaDoorRows
import GoSem.ClaimSeven
namespace Go.Proofs.YtoanhnebalapeaaDoor
namespace Rows

/-- THE TIED CARD OF 'marquetrylaw09.NearCodes'. -/
def nearCodesCard : Claim7 := { stood := { row := nearCodesRow, standIns := [], harness := (true, "338e7eb1fc7ded8691faaa491cdb7e793af39de3aa24abe229c09699224d4fec"), looks := true }, kinds := [], alts := [], laidByText := true, laidKinds := [.data, .data, .data, .data, .sentinel, .sentinel, .listed, .data, .pinned], laidTests := true, laidLooks := .later }
def NearCodesCardSaid : Prop := Claim7.holds Tryd.pinned (.plain (OpenSpec.ofChange nearCodesSpec)) nearCodesCard

/-- THE TIED CARD OF 'marquetrylaw09.NearBack'. -/
def nearBackCard : Claim7 := { stood := { row := nearBackRow, standIns := [], harness := (true, "338e7eb1fc7ded8691faaa491cdb7e793af39de3aa24abe229c09699224d4fec"), looks := true }, kinds := [], alts := [], laidByText := true, laidKinds := [.data, .data, .data, .data, .sentinel, .sentinel, .listed, .data, .pinned], laidTests := true, laidLooks := .later }
def NearBackCardSaid : Prop := Claim7.holds Tryd.pinned (.plain (OpenSpec.ofChange nearBackSpec)) nearBackCard

/-- THE TIED CARD OF 'marquetrylaw09.NearPoints'. -/
def nearPointsCard : Claim7 := { stood := { row := nearPointsRow, standIns := [], harness := (true, "338e7eb1fc7ded8691faaa491cdb7e793af39de3aa24abe229c09699224d4fec"), looks := true }, kinds := [], alts := [], laidByText := true, laidKinds := [.data, .data, .data, .data, .sentinel, .sentinel, .listed, .data, .pinned], laidTests := true, laidLooks := .later }
def NearPointsCardSaid : Prop := Claim7.holds Tryd.pinned (.plain (OpenSpec.ofChange nearPointsSpec)) nearPointsCard

/-- THE TIED CARD OF 'marquetrylaw09.NearWide'. -/
def nearWideCard : Claim7 := { stood := { row := nearWideRow, standIns := [], harness := (true, "338e7eb1fc7ded8691faaa491cdb7e793af39de3aa24abe229c09699224d4fec"), looks := true }, kinds := [], alts := [], laidByText := true, laidKinds := [.data, .data, .data, .data, .sentinel, .sentinel, .listed, .data, .pinned], laidTests := true, laidLooks := .later }
def NearWideCardSaid : Prop := Claim7.holds Tryd.pinned (.plain (OpenSpec.ofChange nearWideSpec)) nearWideCard

/-- THE SECOND FORM's CARD OF 'marquetrylaw09.NearCodes'. -/
def nearCodesUptoCard : Claim7 := { stood := { row := nearCodesUptoRow, standIns := [], harness := (true, "338e7eb1fc7ded8691faaa491cdb7e793af39de3aa24abe229c09699224d4fec"), looks := true }, kinds := [], alts := [], laidByText := true, laidKinds := [.data, .data, .data, .data, .sentinel, .sentinel, .listed, .data, .pinned], laidTests := true, laidLooks := .later }
def NearCodesUptoCardSaid : Prop := Claim7.holds Tryd.pinned (.plain (OpenSpec.upto nearCodesSpec)) nearCodesUptoCard

/-- THE SECOND FORM's CARD OF 'marquetrylaw09.NearBack'. -/
def nearBackUptoCard : Claim7 := { stood := { row := nearBackUptoRow, standIns := [], harness := (true, "338e7eb1fc7ded8691faaa491cdb7e793af39de3aa24abe229c09699224d4fec"), looks := true }, kinds := [], alts := [], laidByText := true, laidKinds := [.data, .data, .data, .data, .sentinel, .sentinel, .listed, .data, .pinned], laidTests := true, laidLooks := .later }
def NearBackUptoCardSaid : Prop := Claim7.holds Tryd.pinned (.plain (OpenSpec.upto nearBackSpec)) nearBackUptoCard

/-- THE SECOND FORM's CARD OF 'marquetrylaw09.NearPoints'. -/
def nearPointsUptoCard : Claim7 := { stood := { row := nearPointsUptoRow, standIns := [], harness := (true, "338e7eb1fc7ded8691faaa491cdb7e793af39de3aa24abe229c09699224d4fec"), looks := true }, kinds := [], alts := [], laidByText := true, laidKinds := [.data, .data, .data, .data, .sentinel, .sentinel, .listed, .data, .pinned], laidTests := true, laidLooks := .later }
def NearPointsUptoCardSaid : Prop := Claim7.holds Tryd.pinned (.plain (OpenSpec.upto nearPointsSpec)) nearPointsUptoCard

/-- THE SECOND FORM's CARD OF 'marquetrylaw09.NearWide'. -/
def nearWideUptoCard : Claim7 := { stood := { row := nearWideUptoRow, standIns := [], harness := (true, "338e7eb1fc7ded8691faaa491cdb7e793af39de3aa24abe229c09699224d4fec"), looks := true }, kinds := [], alts := [], laidByText := true, laidKinds := [.data, .data, .data, .data, .sentinel, .sentinel, .listed, .data, .pinned], laidTests := true, laidLooks := .later }
def NearWideUptoCardSaid : Prop := Claim7.holds Tryd.pinned (.plain (OpenSpec.upto nearWideSpec)) nearWideUptoCard
end Rows
end Go.Proofs.YtoanhnebalapeaaDoor
