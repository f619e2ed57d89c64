/-
  DERIVED. GIVEN WITH THE SEED: THE CARDS: each row of YtcjfipkbjcpbgaaGreatDoorRows.lean that lists a variable, with what it lists TIED to the program's text (the seventh form; the later family's looks); each row that meets fmt, with fmt's text TOLD by the authors' own Lean function (tested against real Go, not proved from fmt's source: count such statements apart). THE CARD IS WHAT COUNTS. Prove the row's statement (the work); the ties are given (YtcjfipkbjcpbgaaGreatDoorTie.lean); close each card by the builder's one call (the guide's Derived/Test/ToyasCard.lean, 'card_holds'). Laid BY PROGRAM, IN A SANDBOX (cutbox-door.mjs). By AI agents, Wed Nov 11 2026. No macro, syntax, notation, axiom, sorry.
-/
import Derived.Test.YtcjfipkbjcpbgaaGreatDoorRows
import GoSem.ClaimSeven
namespace Go.Proofs.YtcjfipkbjcpbgaaGreatDoor
namespace Rows

/-- THE TIED CARD OF 'marquetrylaw21.FrameTwice'. -/
def frameTwiceCard : Claim7 := { stood := { row := frameTwiceRow, standIns := [], harness := (true, "e76e119d6b24516c4aa512d50cde04abf3ad4ce1eb879c730434fba95d56e23a"), looks := true }, kinds := [], alts := [], laidByText := true, laidKinds := [.data, .data, .data, .data, .sentinel, .sentinel, .listed, .data, .pinned], laidTests := true, laidLooks := .later }
def FrameTwiceCardSaid : Prop := Claim7.holds Tryz.pinned (.plain (OpenSpec.ofChange frameTwiceSpec)) frameTwiceCard

/-- THE TIED CARD OF 'marquetrylaw21.FrameMarks'. -/
def frameMarksCard : Claim7 := { stood := { row := frameMarksRow, standIns := [], harness := (true, "e76e119d6b24516c4aa512d50cde04abf3ad4ce1eb879c730434fba95d56e23a"), looks := true }, kinds := [], alts := [], laidByText := true, laidKinds := [.data, .data, .data, .data, .sentinel, .sentinel, .listed, .data, .pinned], laidTests := true, laidLooks := .later }
def FrameMarksCardSaid : Prop := Claim7.holds Tryz.pinned (.plain (OpenSpec.ofChange frameMarksSpec)) frameMarksCard

/-- THE SECOND FORM's CARD OF 'marquetrylaw21.FrameTwice'. -/
def frameTwiceUptoCard : Claim7 := { stood := { row := frameTwiceUptoRow, standIns := [], harness := (true, "e76e119d6b24516c4aa512d50cde04abf3ad4ce1eb879c730434fba95d56e23a"), looks := true }, kinds := [], alts := [], laidByText := true, laidKinds := [.data, .data, .data, .data, .sentinel, .sentinel, .listed, .data, .pinned], laidTests := true, laidLooks := .later }
def FrameTwiceUptoCardSaid : Prop := Claim7.holds Tryz.pinned (.plain (OpenSpec.upto frameTwiceSpec)) frameTwiceUptoCard

/-- THE SECOND FORM's CARD OF 'marquetrylaw21.FrameMarks'. -/
def frameMarksUptoCard : Claim7 := { stood := { row := frameMarksUptoRow, standIns := [], harness := (true, "e76e119d6b24516c4aa512d50cde04abf3ad4ce1eb879c730434fba95d56e23a"), looks := true }, kinds := [], alts := [], laidByText := true, laidKinds := [.data, .data, .data, .data, .sentinel, .sentinel, .listed, .data, .pinned], laidTests := true, laidLooks := .later }
def FrameMarksUptoCardSaid : Prop := Claim7.holds Tryz.pinned (.plain (OpenSpec.upto frameMarksSpec)) frameMarksUptoCard
end Rows
end Go.Proofs.YtcjfipkbjcpbgaaGreatDoor
