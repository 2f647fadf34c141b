/-
  DERIVED. GIVEN WITH THE SEED: THE CARDS: each row of YtijndljfpiomhaaDoorRows.lean that lists a variable, with what it lists TIED to the program's text (the seventh form; the later family's looks); each row that meets fmt, with fmt's text TOLD by the authors' own Lean function (tested against real Go, not proved from fmt's source: count such statements apart). THE CARD IS WHAT COUNTS. Prove the row's statement (the work); the ties are given (YtijndljfpiomhaaDoorTie.lean); close each card by the builder's one call (the guide's Derived/Test/ToyasCard.lean, 'card_holds'). Laid BY PROGRAM, IN A SANDBOX (cutbox-door.mjs). By AI agents, Wed Nov 11 2026. No macro, syntax, notation, axiom, sorry.
-/
import Derived.Test.YtijndljfpiomhaaDoorRows
import GoSem.ClaimSeven
namespace Go.Proofs.YtijndljfpiomhaaDoor
namespace Rows

/-- THE TIED CARD OF 'squelchlaw23.HeardLast'. -/
def heardLastCard : Claim7 := { stood := { row := heardLastRow, standIns := [], harness := (true, "624ff0be10b8376e59a746f4839986bd8a0e3f49d6ae1531a074c24725649d9f"), looks := false }, kinds := [], alts := [], laidByText := true, laidKinds := [.data, .pinned], laidTests := true, laidLooks := .later }
def HeardLastCardSaid : Prop := Claim7.holds Tryd.pinned (.plain (OpenSpec.ofChange heardLastSpec)) heardLastCard

/-- THE TIED CARD OF 'squelchlaw23.HeardNone'. -/
def heardNoneCard : Claim7 := { stood := { row := heardNoneRow, standIns := [], harness := (true, "624ff0be10b8376e59a746f4839986bd8a0e3f49d6ae1531a074c24725649d9f"), looks := false }, kinds := [], alts := [], laidByText := true, laidKinds := [.data, .pinned], laidTests := true, laidLooks := .later }
def HeardNoneCardSaid : Prop := Claim7.holds Tryd.pinned (.plain (OpenSpec.ofChange heardNoneSpec)) heardNoneCard

/-- THE SECOND FORM's CARD OF 'squelchlaw23.HeardLast'. -/
def heardLastUptoCard : Claim7 := { stood := { row := heardLastUptoRow, standIns := [], harness := (true, "624ff0be10b8376e59a746f4839986bd8a0e3f49d6ae1531a074c24725649d9f"), looks := false }, kinds := [], alts := [], laidByText := true, laidKinds := [.data, .pinned], laidTests := true, laidLooks := .later }
def HeardLastUptoCardSaid : Prop := Claim7.holds Tryd.pinned (.plain (OpenSpec.upto heardLastSpec)) heardLastUptoCard

/-- THE SECOND FORM's CARD OF 'squelchlaw23.HeardNone'. -/
def heardNoneUptoCard : Claim7 := { stood := { row := heardNoneUptoRow, standIns := [], harness := (true, "624ff0be10b8376e59a746f4839986bd8a0e3f49d6ae1531a074c24725649d9f"), looks := false }, kinds := [], alts := [], laidByText := true, laidKinds := [.data, .pinned], laidTests := true, laidLooks := .later }
def HeardNoneUptoCardSaid : Prop := Claim7.holds Tryd.pinned (.plain (OpenSpec.upto heardNoneSpec)) heardNoneUptoCard
end Rows
end Go.Proofs.YtijndljfpiomhaaDoor
