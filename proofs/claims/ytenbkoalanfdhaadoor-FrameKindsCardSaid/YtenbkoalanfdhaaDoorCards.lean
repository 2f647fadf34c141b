/-
  DERIVED. GIVEN WITH THE SEED: THE CARDS: each row of YtenbkoalanfdhaaDoorRows.lean that lists a variable, with what it lists TIED to the program's text (the seventh form; the later family's looks); each row that meets fmt, with fmt's text TOLD by the authors' own Lean function (tested against real Go, not proved from fmt's source: count such statements apart). THE CARD IS WHAT COUNTS. Prove the row's statement (the work); the ties are given (YtenbkoalanfdhaaDoorTie.lean); close each card by the builder's one call (the guide's Derived/Test/ToyasCard.lean, 'card_holds'). Laid BY PROGRAM, IN A SANDBOX (cutbox-door.mjs). By AI agents, Wed Nov 11 2026. No macro, syntax, notation, axiom, sorry.
-/
import Derived.Test.YtenbkoalanfdhaaDoorRows
import GoSem.ClaimSeven
namespace Go.Proofs.YtenbkoalanfdhaaDoor
namespace Rows

/-- THE TIED CARD OF 'squelchlaw22.UiPuts'. -/
def uiPutsCard : Claim7 := { stood := { row := uiPutsRow, standIns := [], harness := (true, "032125aae3294537cdd256d285d81d3826d60ceacdea1fa28bbd2e54cfac819c"), looks := false }, kinds := [], alts := [], laidByText := true, laidKinds := [.data, .pinned], laidTests := true, laidLooks := .later }
def UiPutsCardSaid : Prop := Claim7.holds Tryd.pinned (.plain (OpenSpec.ofChange uiPutsSpec)) uiPutsCard

/-- THE TIED CARD OF 'squelchlaw22.UiBeacons'. -/
def uiBeaconsCard : Claim7 := { stood := { row := uiBeaconsRow, standIns := [], harness := (true, "032125aae3294537cdd256d285d81d3826d60ceacdea1fa28bbd2e54cfac819c"), looks := false }, kinds := [], alts := [], laidByText := true, laidKinds := [.data, .pinned], laidTests := true, laidLooks := .later }
def UiBeaconsCardSaid : Prop := Claim7.holds Tryd.pinned (.plain (OpenSpec.ofChange uiBeaconsSpec)) uiBeaconsCard

/-- THE TIED CARD OF 'squelchlaw22.UiNone'. -/
def uiNoneCard : Claim7 := { stood := { row := uiNoneRow, standIns := [], harness := (true, "032125aae3294537cdd256d285d81d3826d60ceacdea1fa28bbd2e54cfac819c"), looks := false }, kinds := [], alts := [], laidByText := true, laidKinds := [.data, .pinned], laidTests := true, laidLooks := .later }
def UiNoneCardSaid : Prop := Claim7.holds Tryd.pinned (.plain (OpenSpec.ofChange uiNoneSpec)) uiNoneCard

/-- THE TIED CARD OF 'squelchlaw18.DigiOnce'. -/
def digiOnceCard : Claim7 := { stood := { row := digiOnceRow, standIns := [], harness := (true, "032125aae3294537cdd256d285d81d3826d60ceacdea1fa28bbd2e54cfac819c"), looks := false }, kinds := [], alts := [], laidByText := true, laidKinds := [.data, .pinned], laidTests := true, laidLooks := .later }
def DigiOnceCardSaid : Prop := Claim7.holds Tryd.pinned (.plain (OpenSpec.ofChange digiOnceSpec)) digiOnceCard

/-- THE TIED CARD OF 'squelchlaw18.DigiSends'. -/
def digiSendsCard : Claim7 := { stood := { row := digiSendsRow, standIns := [], harness := (true, "032125aae3294537cdd256d285d81d3826d60ceacdea1fa28bbd2e54cfac819c"), looks := false }, kinds := [], alts := [], laidByText := true, laidKinds := [.data, .pinned], laidTests := true, laidLooks := .later }
def DigiSendsCardSaid : Prop := Claim7.holds Tryd.pinned (.plain (OpenSpec.ofChange digiSendsSpec)) digiSendsCard

/-- THE TIED CARD OF 'squelchlaw18.DigiNone'. -/
def digiNoneCard : Claim7 := { stood := { row := digiNoneRow, standIns := [], harness := (true, "032125aae3294537cdd256d285d81d3826d60ceacdea1fa28bbd2e54cfac819c"), looks := false }, kinds := [], alts := [], laidByText := true, laidKinds := [.data, .pinned], laidTests := true, laidLooks := .later }
def DigiNoneCardSaid : Prop := Claim7.holds Tryd.pinned (.plain (OpenSpec.ofChange digiNoneSpec)) digiNoneCard

/-- THE TIED CARD OF 'squelchlaw23.HeardLast'. -/
def heardLastCard : Claim7 := { stood := { row := heardLastRow, standIns := [], harness := (true, "032125aae3294537cdd256d285d81d3826d60ceacdea1fa28bbd2e54cfac819c"), looks := false }, kinds := [], alts := [], laidByText := true, laidKinds := [.data, .pinned], laidTests := true, laidLooks := .later }
def HeardLastCardSaid : Prop := Claim7.holds Tryd.pinned (.plain (OpenSpec.ofChange heardLastSpec)) heardLastCard

/-- THE TIED CARD OF 'squelchlaw23.HeardNone'. -/
def heardNoneCard : Claim7 := { stood := { row := heardNoneRow, standIns := [], harness := (true, "032125aae3294537cdd256d285d81d3826d60ceacdea1fa28bbd2e54cfac819c"), looks := false }, kinds := [], alts := [], laidByText := true, laidKinds := [.data, .pinned], laidTests := true, laidLooks := .later }
def HeardNoneCardSaid : Prop := Claim7.holds Tryd.pinned (.plain (OpenSpec.ofChange heardNoneSpec)) heardNoneCard

/-- THE TIED CARD OF 'squelchlaw07.FrameKinds'. -/
def frameKindsCard : Claim7 := { stood := { row := frameKindsRow, standIns := [], harness := (true, "032125aae3294537cdd256d285d81d3826d60ceacdea1fa28bbd2e54cfac819c"), looks := false }, kinds := [], alts := [], laidByText := true, laidKinds := [.data, .data, .data, .data, .pinned], laidTests := true, laidLooks := .later }
def FrameKindsCardSaid : Prop := Claim7.holds Tryd.pinned (.plain (OpenSpec.ofChange frameKindsSpec)) frameKindsCard

/-- THE TIED CARD OF 'squelchlaw07.FrameSent'. -/
def frameSentCard : Claim7 := { stood := { row := frameSentRow, standIns := [], harness := (true, "032125aae3294537cdd256d285d81d3826d60ceacdea1fa28bbd2e54cfac819c"), looks := false }, kinds := [], alts := [], laidByText := true, laidKinds := [.data, .data, .data, .data, .pinned], laidTests := true, laidLooks := .later }
def FrameSentCardSaid : Prop := Claim7.holds Tryd.pinned (.plain (OpenSpec.ofChange frameSentSpec)) frameSentCard

/-- THE SECOND FORM's CARD OF 'squelchlaw22.UiPuts'. -/
def uiPutsUptoCard : Claim7 := { stood := { row := uiPutsUptoRow, standIns := [], harness := (true, "032125aae3294537cdd256d285d81d3826d60ceacdea1fa28bbd2e54cfac819c"), looks := false }, kinds := [], alts := [], laidByText := true, laidKinds := [.data, .pinned], laidTests := true, laidLooks := .later }
def UiPutsUptoCardSaid : Prop := Claim7.holds Tryd.pinned (.plain (OpenSpec.upto uiPutsSpec)) uiPutsUptoCard

/-- THE SECOND FORM's CARD OF 'squelchlaw22.UiBeacons'. -/
def uiBeaconsUptoCard : Claim7 := { stood := { row := uiBeaconsUptoRow, standIns := [], harness := (true, "032125aae3294537cdd256d285d81d3826d60ceacdea1fa28bbd2e54cfac819c"), looks := false }, kinds := [], alts := [], laidByText := true, laidKinds := [.data, .pinned], laidTests := true, laidLooks := .later }
def UiBeaconsUptoCardSaid : Prop := Claim7.holds Tryd.pinned (.plain (OpenSpec.upto uiBeaconsSpec)) uiBeaconsUptoCard

/-- THE SECOND FORM's CARD OF 'squelchlaw22.UiNone'. -/
def uiNoneUptoCard : Claim7 := { stood := { row := uiNoneUptoRow, standIns := [], harness := (true, "032125aae3294537cdd256d285d81d3826d60ceacdea1fa28bbd2e54cfac819c"), looks := false }, kinds := [], alts := [], laidByText := true, laidKinds := [.data, .pinned], laidTests := true, laidLooks := .later }
def UiNoneUptoCardSaid : Prop := Claim7.holds Tryd.pinned (.plain (OpenSpec.upto uiNoneSpec)) uiNoneUptoCard

/-- THE SECOND FORM's CARD OF 'squelchlaw18.DigiOnce'. -/
def digiOnceUptoCard : Claim7 := { stood := { row := digiOnceUptoRow, standIns := [], harness := (true, "032125aae3294537cdd256d285d81d3826d60ceacdea1fa28bbd2e54cfac819c"), looks := false }, kinds := [], alts := [], laidByText := true, laidKinds := [.data, .pinned], laidTests := true, laidLooks := .later }
def DigiOnceUptoCardSaid : Prop := Claim7.holds Tryd.pinned (.plain (OpenSpec.upto digiOnceSpec)) digiOnceUptoCard

/-- THE SECOND FORM's CARD OF 'squelchlaw18.DigiSends'. -/
def digiSendsUptoCard : Claim7 := { stood := { row := digiSendsUptoRow, standIns := [], harness := (true, "032125aae3294537cdd256d285d81d3826d60ceacdea1fa28bbd2e54cfac819c"), looks := false }, kinds := [], alts := [], laidByText := true, laidKinds := [.data, .pinned], laidTests := true, laidLooks := .later }
def DigiSendsUptoCardSaid : Prop := Claim7.holds Tryd.pinned (.plain (OpenSpec.upto digiSendsSpec)) digiSendsUptoCard

/-- THE SECOND FORM's CARD OF 'squelchlaw18.DigiNone'. -/
def digiNoneUptoCard : Claim7 := { stood := { row := digiNoneUptoRow, standIns := [], harness := (true, "032125aae3294537cdd256d285d81d3826d60ceacdea1fa28bbd2e54cfac819c"), looks := false }, kinds := [], alts := [], laidByText := true, laidKinds := [.data, .pinned], laidTests := true, laidLooks := .later }
def DigiNoneUptoCardSaid : Prop := Claim7.holds Tryd.pinned (.plain (OpenSpec.upto digiNoneSpec)) digiNoneUptoCard

/-- THE SECOND FORM's CARD OF 'squelchlaw23.HeardLast'. -/
def heardLastUptoCard : Claim7 := { stood := { row := heardLastUptoRow, standIns := [], harness := (true, "032125aae3294537cdd256d285d81d3826d60ceacdea1fa28bbd2e54cfac819c"), looks := false }, kinds := [], alts := [], laidByText := true, laidKinds := [.data, .pinned], laidTests := true, laidLooks := .later }
def HeardLastUptoCardSaid : Prop := Claim7.holds Tryd.pinned (.plain (OpenSpec.upto heardLastSpec)) heardLastUptoCard

/-- THE SECOND FORM's CARD OF 'squelchlaw23.HeardNone'. -/
def heardNoneUptoCard : Claim7 := { stood := { row := heardNoneUptoRow, standIns := [], harness := (true, "032125aae3294537cdd256d285d81d3826d60ceacdea1fa28bbd2e54cfac819c"), looks := false }, kinds := [], alts := [], laidByText := true, laidKinds := [.data, .pinned], laidTests := true, laidLooks := .later }
def HeardNoneUptoCardSaid : Prop := Claim7.holds Tryd.pinned (.plain (OpenSpec.upto heardNoneSpec)) heardNoneUptoCard

/-- THE SECOND FORM's CARD OF 'squelchlaw07.FrameKinds'. -/
def frameKindsUptoCard : Claim7 := { stood := { row := frameKindsUptoRow, standIns := [], harness := (true, "032125aae3294537cdd256d285d81d3826d60ceacdea1fa28bbd2e54cfac819c"), looks := false }, kinds := [], alts := [], laidByText := true, laidKinds := [.data, .data, .data, .data, .pinned], laidTests := true, laidLooks := .later }
def FrameKindsUptoCardSaid : Prop := Claim7.holds Tryd.pinned (.plain (OpenSpec.upto frameKindsSpec)) frameKindsUptoCard

/-- THE SECOND FORM's CARD OF 'squelchlaw07.FrameSent'. -/
def frameSentUptoCard : Claim7 := { stood := { row := frameSentUptoRow, standIns := [], harness := (true, "032125aae3294537cdd256d285d81d3826d60ceacdea1fa28bbd2e54cfac819c"), looks := false }, kinds := [], alts := [], laidByText := true, laidKinds := [.data, .data, .data, .data, .pinned], laidTests := true, laidLooks := .later }
def FrameSentUptoCardSaid : Prop := Claim7.holds Tryd.pinned (.plain (OpenSpec.upto frameSentSpec)) frameSentUptoCard
end Rows
end Go.Proofs.YtenbkoalanfdhaaDoor
