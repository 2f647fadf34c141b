/-
  DERIVED. GIVEN WITH THE SEED: THE CARDS: each row of YtlkecehaajndcaaDoorRows.lean that lists a variable, with what it lists TIED to the program's text (the seventh form; the later family's looks); each row that meets fmt, with fmt's text TOLD by the authors' own Lean function (tested against real Go, not proved from fmt's source: count such statements apart). THE CARD IS WHAT COUNTS. Prove the row's statement (the work); the ties are given (YtlkecehaajndcaaDoorTie.lean); close each card by the builder's one call (the guide's Derived/Test/ToyasCard.lean, 'card_holds'). Laid BY PROGRAM, IN A SANDBOX (cutbox-door.mjs). By AI agents, Wed Nov 11 2026. No macro, syntax, notation, axiom, sorry.
-/
import Derived.Test.YtlkecehaajndcaaDoorRows
import GoSem.ClaimSeven
namespace Go.Proofs.YtlkecehaajndcaaDoor
namespace Rows

/-- THE TIED CARD OF 'squelchlaw07.FrameSent'. -/
def frameSentCard : Claim7 := { stood := { row := frameSentRow, standIns := [], harness := (true, "0d3991614e30d5bdca735bae30f2e199884ae5290ce3b866deae580744cc4a13"), looks := false }, kinds := [], alts := [], laidByText := true, laidKinds := [.data, .data, .data, .data, .pinned], laidTests := true, laidLooks := .later }
def FrameSentCardSaid : Prop := Claim7.holds Tryd.pinned (.plain (OpenSpec.ofChange frameSentSpec)) frameSentCard

/-- THE SECOND FORM's CARD OF 'squelchlaw07.FrameSent'. -/
def frameSentUptoCard : Claim7 := { stood := { row := frameSentUptoRow, standIns := [], harness := (true, "0d3991614e30d5bdca735bae30f2e199884ae5290ce3b866deae580744cc4a13"), looks := false }, kinds := [], alts := [], laidByText := true, laidKinds := [.data, .data, .data, .data, .pinned], laidTests := true, laidLooks := .later }
def FrameSentUptoCardSaid : Prop := Claim7.holds Tryd.pinned (.plain (OpenSpec.upto frameSentSpec)) frameSentUptoCard
end Rows
end Go.Proofs.YtlkecehaajndcaaDoor
