/-
  DERIVED. GIVEN WITH THE SEED: THE CARDS: each row of YtadkdihbbngbfaaDoorRows.lean that lists a variable, with what it lists TIED to the program's text (the seventh form; the later family's looks); each row that meets fmt, with fmt's text TOLD by the authors' own Lean function (tested against real Go, not proved from fmt's source: count such statements apart). THE CARD IS WHAT COUNTS. Prove the row's statement (the work); the ties are given (YtadkdihbbngbfaaDoorTie.lean); close each card by the builder's one call (the guide's Derived/Test/ToyasCard.lean, 'card_holds'). Laid BY PROGRAM, IN A SANDBOX (cutbox-door.mjs). By AI agents, Wed Nov 11 2026. No macro, syntax, notation, axiom, sorry.
-/
import Derived.Test.YtadkdihbbngbfaaDoorRows
import GoSem.ClaimSeven
namespace Go.Proofs.YtadkdihbbngbfaaDoor
namespace Rows

/-- THE TIED CARD OF 'squelchlaw18.DigiOnce'. -/
def digiOnceCard : Claim7 := { stood := { row := digiOnceRow, standIns := [], harness := (true, "469488b5a4b145622f00c7f726a42d8b33aa9df73b7e52b821362e4ead52c1f7"), looks := false }, kinds := [], alts := [], laidByText := true, laidKinds := [.data, .pinned], laidTests := true, laidLooks := .later }
def DigiOnceCardSaid : Prop := Claim7.holds Tryd.pinned (.plain (OpenSpec.ofChange digiOnceSpec)) digiOnceCard

/-- THE TIED CARD OF 'squelchlaw18.DigiSends'. -/
def digiSendsCard : Claim7 := { stood := { row := digiSendsRow, standIns := [], harness := (true, "469488b5a4b145622f00c7f726a42d8b33aa9df73b7e52b821362e4ead52c1f7"), looks := false }, kinds := [], alts := [], laidByText := true, laidKinds := [.data, .pinned], laidTests := true, laidLooks := .later }
def DigiSendsCardSaid : Prop := Claim7.holds Tryd.pinned (.plain (OpenSpec.ofChange digiSendsSpec)) digiSendsCard

/-- THE TIED CARD OF 'squelchlaw18.DigiNone'. -/
def digiNoneCard : Claim7 := { stood := { row := digiNoneRow, standIns := [], harness := (true, "469488b5a4b145622f00c7f726a42d8b33aa9df73b7e52b821362e4ead52c1f7"), looks := false }, kinds := [], alts := [], laidByText := true, laidKinds := [.data, .pinned], laidTests := true, laidLooks := .later }
def DigiNoneCardSaid : Prop := Claim7.holds Tryd.pinned (.plain (OpenSpec.ofChange digiNoneSpec)) digiNoneCard

/-- THE SECOND FORM's CARD OF 'squelchlaw18.DigiOnce'. -/
def digiOnceUptoCard : Claim7 := { stood := { row := digiOnceUptoRow, standIns := [], harness := (true, "469488b5a4b145622f00c7f726a42d8b33aa9df73b7e52b821362e4ead52c1f7"), looks := false }, kinds := [], alts := [], laidByText := true, laidKinds := [.data, .pinned], laidTests := true, laidLooks := .later }
def DigiOnceUptoCardSaid : Prop := Claim7.holds Tryd.pinned (.plain (OpenSpec.upto digiOnceSpec)) digiOnceUptoCard

/-- THE SECOND FORM's CARD OF 'squelchlaw18.DigiSends'. -/
def digiSendsUptoCard : Claim7 := { stood := { row := digiSendsUptoRow, standIns := [], harness := (true, "469488b5a4b145622f00c7f726a42d8b33aa9df73b7e52b821362e4ead52c1f7"), looks := false }, kinds := [], alts := [], laidByText := true, laidKinds := [.data, .pinned], laidTests := true, laidLooks := .later }
def DigiSendsUptoCardSaid : Prop := Claim7.holds Tryd.pinned (.plain (OpenSpec.upto digiSendsSpec)) digiSendsUptoCard

/-- THE SECOND FORM's CARD OF 'squelchlaw18.DigiNone'. -/
def digiNoneUptoCard : Claim7 := { stood := { row := digiNoneUptoRow, standIns := [], harness := (true, "469488b5a4b145622f00c7f726a42d8b33aa9df73b7e52b821362e4ead52c1f7"), looks := false }, kinds := [], alts := [], laidByText := true, laidKinds := [.data, .pinned], laidTests := true, laidLooks := .later }
def DigiNoneUptoCardSaid : Prop := Claim7.holds Tryd.pinned (.plain (OpenSpec.upto digiNoneSpec)) digiNoneUptoCard
end Rows
end Go.Proofs.YtadkdihbbngbfaaDoor
