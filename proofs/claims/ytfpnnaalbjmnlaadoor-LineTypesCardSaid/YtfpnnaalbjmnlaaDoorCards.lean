/-
  DERIVED. GIVEN WITH THE SEED: THE CARDS: each row of YtfpnnaalbjmnlaaDoorRows.lean that lists a variable, with what it lists TIED to the program's text (the seventh form; the later family's looks); each row that meets fmt, with fmt's text TOLD by the authors' own Lean function (tested against real Go, not proved from fmt's source: count such statements apart). THE CARD IS WHAT COUNTS. Prove the row's statement (the work); the ties are given (YtfpnnaalbjmnlaaDoorTie.lean); close each card by the builder's one call (the guide's Derived/Test/ToyasCard.lean, 'card_holds'). Laid BY PROGRAM, IN A SANDBOX (cutbox-door.mjs). By AI agents, Wed Nov 11 2026. No macro, syntax, notation, axiom, sorry.
-/
import Derived.Test.YtfpnnaalbjmnlaaDoorRows
import GoSem.ClaimSeven
namespace Go.Proofs.YtfpnnaalbjmnlaaDoor
namespace Rows

/-- THE TIED CARD OF 'squelchlaw24.LinePlain'. -/
def linePlainCard : Claim7 := { stood := { row := linePlainRow, standIns := [], harness := (true, "837b57ec537eb2ae4326212254d2b9853647d55bac19f61d349113d72899eb06"), looks := false }, kinds := [], alts := [], laidByText := true, laidKinds := [.data, .pinned], laidTests := true, laidLooks := .later }
def LinePlainCardSaid : Prop := Claim7.holds Tryd.pinned (.plain (OpenSpec.ofChange linePlainSpec)) linePlainCard

/-- THE TIED CARD OF 'squelchlaw24.LineTypes'. -/
def lineTypesCard : Claim7 := { stood := { row := lineTypesRow, standIns := [], harness := (true, "837b57ec537eb2ae4326212254d2b9853647d55bac19f61d349113d72899eb06"), looks := false }, kinds := [], alts := [], laidByText := true, laidKinds := [.data, .pinned], laidTests := true, laidLooks := .later }
def LineTypesCardSaid : Prop := Claim7.holds Tryd.pinned (.plain (OpenSpec.ofChange lineTypesSpec)) lineTypesCard

/-- THE TIED CARD OF 'squelchlaw24.LineNone'. -/
def lineNoneCard : Claim7 := { stood := { row := lineNoneRow, standIns := [], harness := (true, "837b57ec537eb2ae4326212254d2b9853647d55bac19f61d349113d72899eb06"), looks := false }, kinds := [], alts := [], laidByText := true, laidKinds := [.data, .pinned], laidTests := true, laidLooks := .later }
def LineNoneCardSaid : Prop := Claim7.holds Tryd.pinned (.plain (OpenSpec.ofChange lineNoneSpec)) lineNoneCard

/-- THE SECOND FORM's CARD OF 'squelchlaw24.LinePlain'. -/
def linePlainUptoCard : Claim7 := { stood := { row := linePlainUptoRow, standIns := [], harness := (true, "837b57ec537eb2ae4326212254d2b9853647d55bac19f61d349113d72899eb06"), looks := false }, kinds := [], alts := [], laidByText := true, laidKinds := [.data, .pinned], laidTests := true, laidLooks := .later }
def LinePlainUptoCardSaid : Prop := Claim7.holds Tryd.pinned (.plain (OpenSpec.upto linePlainSpec)) linePlainUptoCard

/-- THE SECOND FORM's CARD OF 'squelchlaw24.LineTypes'. -/
def lineTypesUptoCard : Claim7 := { stood := { row := lineTypesUptoRow, standIns := [], harness := (true, "837b57ec537eb2ae4326212254d2b9853647d55bac19f61d349113d72899eb06"), looks := false }, kinds := [], alts := [], laidByText := true, laidKinds := [.data, .pinned], laidTests := true, laidLooks := .later }
def LineTypesUptoCardSaid : Prop := Claim7.holds Tryd.pinned (.plain (OpenSpec.upto lineTypesSpec)) lineTypesUptoCard

/-- THE SECOND FORM's CARD OF 'squelchlaw24.LineNone'. -/
def lineNoneUptoCard : Claim7 := { stood := { row := lineNoneUptoRow, standIns := [], harness := (true, "837b57ec537eb2ae4326212254d2b9853647d55bac19f61d349113d72899eb06"), looks := false }, kinds := [], alts := [], laidByText := true, laidKinds := [.data, .pinned], laidTests := true, laidLooks := .later }
def LineNoneUptoCardSaid : Prop := Claim7.holds Tryd.pinned (.plain (OpenSpec.upto lineNoneSpec)) lineNoneUptoCard
end Rows
end Go.Proofs.YtfpnnaalbjmnlaaDoor
