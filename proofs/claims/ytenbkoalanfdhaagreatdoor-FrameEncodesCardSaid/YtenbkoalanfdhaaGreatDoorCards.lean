/-
  DERIVED. GIVEN WITH THE SEED: THE CARDS: each row of YtenbkoalanfdhaaGreatDoorRows.lean that lists a variable, with what it lists TIED to the program's text (the seventh form; the later family's looks); each row that meets fmt, with fmt's text TOLD by the authors' own Lean function (tested against real Go, not proved from fmt's source: count such statements apart). THE CARD IS WHAT COUNTS. Prove the row's statement (the work); the ties are given (YtenbkoalanfdhaaGreatDoorTie.lean); close each card by the builder's one call (the guide's Derived/Test/ToyasCard.lean, 'card_holds'). Laid BY PROGRAM, IN A SANDBOX (cutbox-door.mjs). By AI agents, Wed Nov 11 2026. No macro, syntax, notation, axiom, sorry.
-/
import Derived.Test.YtenbkoalanfdhaaGreatDoorRows
import GoSem.ClaimSeven
namespace Go.Proofs.YtenbkoalanfdhaaGreatDoor
namespace Rows

/-- THE TIED CARD OF 'squelchlaw07.FrameEncodes'. -/
def frameEncodesCard : Claim7 := { stood := { row := frameEncodesRow, standIns := [], harness := (true, "3ead69c7e61bacd0a74c33179f172a85c4952aa27a0b1205b25b63aab3c1025d"), looks := false }, kinds := [], alts := [], laidByText := true, laidKinds := [.data, .data, .data, .data, .pinned], laidTests := true, laidLooks := .later }
def FrameEncodesCardSaid : Prop := Claim7.holds Tryz.pinned (.plain (OpenSpec.ofChange frameEncodesSpec)) frameEncodesCard

/-- THE SECOND FORM's CARD OF 'squelchlaw07.FrameEncodes'. -/
def frameEncodesUptoCard : Claim7 := { stood := { row := frameEncodesUptoRow, standIns := [], harness := (true, "3ead69c7e61bacd0a74c33179f172a85c4952aa27a0b1205b25b63aab3c1025d"), looks := false }, kinds := [], alts := [], laidByText := true, laidKinds := [.data, .data, .data, .data, .pinned], laidTests := true, laidLooks := .later }
def FrameEncodesUptoCardSaid : Prop := Claim7.holds Tryz.pinned (.plain (OpenSpec.upto frameEncodesSpec)) frameEncodesUptoCard
end Rows
end Go.Proofs.YtenbkoalanfdhaaGreatDoor
