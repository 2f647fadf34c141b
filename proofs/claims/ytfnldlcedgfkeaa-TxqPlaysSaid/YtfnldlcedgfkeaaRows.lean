/-
  No cell of these rows narrows 'for every input' (looked for: loops, veiled, ifaces, maps, wideKeys, modest, calm, conditions, laid).
  DERIVED. THE GIVEN ROWS OF THIS SEAT. 8 by the template 'for every input the law returns true; each argument reads behind the call as it read before'; 0 by the template 'total and deterministic' (their statements: YtfnldlcedgfkeaaTotals.lean).
  GIVEN WITH THE SEED: the statements are not yours to turn. If you find one false, say at which input.
  Laid BY PROGRAM, IN A SANDBOX (cutbox-rows.mjs): the forced cells as the released guide's own fill.sh prints them over the translation 39d323d751d39cab… (all of the seat's roots in one cut). By AI agents, Wed Nov 11 2026. No macro, syntax, notation, axiom, sorry.
-/
import Derived.Test.YtfnldlcedgfkeaaChecked
import GoSem.Claim
import GoSem.ClaimJoined
import GoSem.ClaimMapViews
import Derived.JoinedTies
import Derived.KernelRfl
namespace Go.Proofs.Ytfnldlcedgfkeaa
/- THE CELL 'sum', in the pinned program and in every row, IS THE sha256 OF THE DUMP (.gsa) THAT YtfnldlcedgfkeaaProg.lean LOADS. Nothing in Lean hashes anything: it is a label: what it is worth is what the hold of that sum in a sandbox is worth. -/
noncomputable def Try.pinned : Pinned := { name := "ytfnldlcedgfkeaa", sum := "39d323d751d39cabb81062fc794694fc5d48ece164d8e1f11d133d95fcdc13b8", checked := Try.checked }
namespace Rows
def none {H : Type} : Left H := { results := [], args := [] }

/-- 'squelchlaw16.TxqOrder': WHATEVER THE INPUT: true; the input reads as it did. -/
def txqOrderSpec : ChangeSpec := { name := "txqOrder", fn := fun _ => fun
  | [d] => { results := [.lit (.bool true)], args := [d] }
  | _ => none }
def txqOrderRow : OpenClaim := { program := "ytfnldlcedgfkeaa", sum := "39d323d751d39cabb81062fc794694fc5d48ece164d8e1f11d133d95fcdc13b8", func := "squelch/squelchlaw16.TxqOrder", spec := "txqOrder", apart := false }
def TxqOrderSaid : Prop := txqOrderRow.holds Try.pinned (OpenSpec.ofChange txqOrderSpec)

/-- ITS FALSE NEIGHBOUR: 'it returns false'. Refute it at one input. -/
def txqOrderWrong : ChangeSpec := { name := "txqOrder", fn := fun _ => fun
  | [d] => { results := [.lit (.bool false)], args := [d] }
  | _ => none }
def TxqOrderWrongFalsely : Prop := txqOrderRow.holds Try.pinned (OpenSpec.ofChange txqOrderWrong)

/-- 'squelchlaw09.FrmrPuts': WHATEVER THE INPUT: true; the input reads as it did. -/
def frmrPutsSpec : ChangeSpec := { name := "frmrPuts", fn := fun _ => fun
  | [d1, d2] => { results := [.lit (.bool true)], args := [d1, d2] }
  | _ => none }
def frmrPutsRow : OpenClaim := { program := "ytfnldlcedgfkeaa", sum := "39d323d751d39cabb81062fc794694fc5d48ece164d8e1f11d133d95fcdc13b8", func := "squelch/squelchlaw09.FrmrPuts", spec := "frmrPuts", apart := false }
def FrmrPutsSaid : Prop := frmrPutsRow.holds Try.pinned (OpenSpec.ofChange frmrPutsSpec)

/-- ITS FALSE NEIGHBOUR: 'it returns false'. Refute it at one input. -/
def frmrPutsWrong : ChangeSpec := { name := "frmrPuts", fn := fun _ => fun
  | [d1, d2] => { results := [.lit (.bool false)], args := [d1, d2] }
  | _ => none }
def FrmrPutsWrongFalsely : Prop := frmrPutsRow.holds Try.pinned (OpenSpec.ofChange frmrPutsWrong)

/-- 'squelchlaw09.FrmrReads': WHATEVER THE INPUT: true; the input reads as it did. -/
def frmrReadsSpec : ChangeSpec := { name := "frmrReads", fn := fun _ => fun
  | [d1, d2] => { results := [.lit (.bool true)], args := [d1, d2] }
  | _ => none }
def frmrReadsRow : OpenClaim := { program := "ytfnldlcedgfkeaa", sum := "39d323d751d39cabb81062fc794694fc5d48ece164d8e1f11d133d95fcdc13b8", func := "squelch/squelchlaw09.FrmrReads", spec := "frmrReads", apart := false }
def FrmrReadsSaid : Prop := frmrReadsRow.holds Try.pinned (OpenSpec.ofChange frmrReadsSpec)

/-- ITS FALSE NEIGHBOUR: 'it returns false'. Refute it at one input. -/
def frmrReadsWrong : ChangeSpec := { name := "frmrReads", fn := fun _ => fun
  | [d1, d2] => { results := [.lit (.bool false)], args := [d1, d2] }
  | _ => none }
def FrmrReadsWrongFalsely : Prop := frmrReadsRow.holds Try.pinned (OpenSpec.ofChange frmrReadsWrong)

/-- 'squelchlaw13.ClockPlays': WHATEVER THE INPUT: true; the input reads as it did. -/
def clockPlaysSpec : ChangeSpec := { name := "clockPlays", fn := fun _ => fun
  | [d] => { results := [.lit (.bool true)], args := [d] }
  | _ => none }
def clockPlaysRow : OpenClaim := { program := "ytfnldlcedgfkeaa", sum := "39d323d751d39cabb81062fc794694fc5d48ece164d8e1f11d133d95fcdc13b8", func := "squelch/squelchlaw13.ClockPlays", spec := "clockPlays", unfollowed := true, recurses := true, apart := false }
def ClockPlaysSaid : Prop := clockPlaysRow.holds Try.pinned (OpenSpec.ofChange clockPlaysSpec)

/-- ITS FALSE NEIGHBOUR: 'it returns false'. Refute it at one input. -/
def clockPlaysWrong : ChangeSpec := { name := "clockPlays", fn := fun _ => fun
  | [d] => { results := [.lit (.bool false)], args := [d] }
  | _ => none }
def ClockPlaysWrongFalsely : Prop := clockPlaysRow.holds Try.pinned (OpenSpec.ofChange clockPlaysWrong)

/-- 'squelchlaw13.ClockDue': WHATEVER THE INPUT: true; the input reads as it did. -/
def clockDueSpec : ChangeSpec := { name := "clockDue", fn := fun _ => fun
  | [d1, d2] => { results := [.lit (.bool true)], args := [d1, d2] }
  | _ => none }
def clockDueRow : OpenClaim := { program := "ytfnldlcedgfkeaa", sum := "39d323d751d39cabb81062fc794694fc5d48ece164d8e1f11d133d95fcdc13b8", func := "squelch/squelchlaw13.ClockDue", spec := "clockDue", unfollowed := true, recurses := true, apart := false }
def ClockDueSaid : Prop := clockDueRow.holds Try.pinned (OpenSpec.ofChange clockDueSpec)

/-- ITS FALSE NEIGHBOUR: 'it returns false'. Refute it at one input. -/
def clockDueWrong : ChangeSpec := { name := "clockDue", fn := fun _ => fun
  | [d1, d2] => { results := [.lit (.bool false)], args := [d1, d2] }
  | _ => none }
def ClockDueWrongFalsely : Prop := clockDueRow.holds Try.pinned (OpenSpec.ofChange clockDueWrong)

/-- 'squelchlaw13.ClockNone': WHATEVER THE INPUT: true; the input reads as it did. -/
def clockNoneSpec : ChangeSpec := { name := "clockNone", fn := fun _ => fun
  | [d1, d2] => { results := [.lit (.bool true)], args := [d1, d2] }
  | _ => none }
def clockNoneRow : OpenClaim := { program := "ytfnldlcedgfkeaa", sum := "39d323d751d39cabb81062fc794694fc5d48ece164d8e1f11d133d95fcdc13b8", func := "squelch/squelchlaw13.ClockNone", spec := "clockNone", unfollowed := true, recurses := true, apart := false }
def ClockNoneSaid : Prop := clockNoneRow.holds Try.pinned (OpenSpec.ofChange clockNoneSpec)

/-- ITS FALSE NEIGHBOUR: 'it returns false'. Refute it at one input. -/
def clockNoneWrong : ChangeSpec := { name := "clockNone", fn := fun _ => fun
  | [d1, d2] => { results := [.lit (.bool false)], args := [d1, d2] }
  | _ => none }
def ClockNoneWrongFalsely : Prop := clockNoneRow.holds Try.pinned (OpenSpec.ofChange clockNoneWrong)

/-- 'squelchlaw16.TxqPlays': WHATEVER THE INPUT: true; the input reads as it did. -/
def txqPlaysSpec : ChangeSpec := { name := "txqPlays", fn := fun _ => fun
  | [d] => { results := [.lit (.bool true)], args := [d] }
  | _ => none }
def txqPlaysRow : OpenClaim := { program := "ytfnldlcedgfkeaa", sum := "39d323d751d39cabb81062fc794694fc5d48ece164d8e1f11d133d95fcdc13b8", func := "squelch/squelchlaw16.TxqPlays", spec := "txqPlays", unfollowed := true, recurses := true, apart := false }
def TxqPlaysSaid : Prop := txqPlaysRow.holds Try.pinned (OpenSpec.ofChange txqPlaysSpec)

/-- ITS FALSE NEIGHBOUR: 'it returns false'. Refute it at one input. -/
def txqPlaysWrong : ChangeSpec := { name := "txqPlays", fn := fun _ => fun
  | [d] => { results := [.lit (.bool false)], args := [d] }
  | _ => none }
def TxqPlaysWrongFalsely : Prop := txqPlaysRow.holds Try.pinned (OpenSpec.ofChange txqPlaysWrong)

/-- 'squelchlaw16.TxqNone': WHATEVER THE INPUT: true; the input reads as it did. -/
def txqNoneSpec : ChangeSpec := { name := "txqNone", fn := fun _ => fun
  | [d] => { results := [.lit (.bool true)], args := [d] }
  | _ => none }
def txqNoneRow : OpenClaim := { program := "ytfnldlcedgfkeaa", sum := "39d323d751d39cabb81062fc794694fc5d48ece164d8e1f11d133d95fcdc13b8", func := "squelch/squelchlaw16.TxqNone", spec := "txqNone", unfollowed := true, recurses := true, apart := false }
def TxqNoneSaid : Prop := txqNoneRow.holds Try.pinned (OpenSpec.ofChange txqNoneSpec)

/-- ITS FALSE NEIGHBOUR: 'it returns false'. Refute it at one input. -/
def txqNoneWrong : ChangeSpec := { name := "txqNone", fn := fun _ => fun
  | [d] => { results := [.lit (.bool false)], args := [d] }
  | _ => none }
def TxqNoneWrongFalsely : Prop := txqNoneRow.holds Try.pinned (OpenSpec.ofChange txqNoneWrong)

/- THE SECOND FORM. 'bulk': how many values and letters a reading holds, each counted each time it is reached (what is shared counts as often as it is met; a slice's spare places count too). A statement '..UptoSaid' is the law's where the arguments, and the package variables that the reading takes, are together of bulk at most 1048576: NARROWER than '..Said'. Prove '..Said' where nothing that the law and all that it calls make is longer than what came in: it says more and counts as full. Else prove '..UptoSaid'. A law counts once. -/
mutual
def uptoBulk {H : Type} : DataW H → Nat
  | .lit (.string bytes) => bytes.length + 1
  | .lit _ => 1
  | .nil => 1
  | .ptr d => uptoBulk d + 1
  | .slice elems spare => uptoBulkAll elems + uptoBulkAll spare + 1
  | .agg parts => uptoBulkAll parts + 1
  | .iface _ d => uptoBulk d + 1
  | .map entries => uptoBulkEntries entries + 1
  | .held _ => 1
def uptoBulkAll {H : Type} : List (DataW H) → Nat
  | [] => 0
  | d :: r => uptoBulk d + uptoBulkAll r
def uptoBulkEntries {H : Type} : List (Lit × DataW H) → Nat
  | [] => 0
  | x :: r => uptoBulkEntry x + uptoBulkEntries r
def uptoBulkEntry {H : Type} : Lit × DataW H → Nat
  | (.string bytes, d) => bytes.length + uptoBulk d + 1
  | (_, d) => uptoBulk d + 1
 end
def uptoSmall : (H : Type) → List (DataW H) → Bool := fun _ ds => decide (uptoBulkAll ds ≤ 1048576)
def OpenSpec.upto (s : _root_.Go.ChangeSpec) : _root_.Go.OpenSpec := { _root_.Go.OpenSpec.ofChange s with cond := some uptoSmall }

/-- 'squelchlaw16.TxqOrder', WHERE WHAT IT READS IS OF BULK AT MOST 1048576: true; the input reads as it did. -/
def txqOrderUptoRow : OpenClaim := { program := "ytfnldlcedgfkeaa", sum := "39d323d751d39cabb81062fc794694fc5d48ece164d8e1f11d133d95fcdc13b8", func := "squelch/squelchlaw16.TxqOrder", spec := "txqOrder", apart := false, narrowed := true }
def TxqOrderUptoSaid : Prop := txqOrderUptoRow.holds Try.pinned (OpenSpec.upto txqOrderSpec)

/-- 'squelchlaw09.FrmrPuts', WHERE WHAT IT READS IS OF BULK AT MOST 1048576: true; the input reads as it did. -/
def frmrPutsUptoRow : OpenClaim := { program := "ytfnldlcedgfkeaa", sum := "39d323d751d39cabb81062fc794694fc5d48ece164d8e1f11d133d95fcdc13b8", func := "squelch/squelchlaw09.FrmrPuts", spec := "frmrPuts", apart := false, narrowed := true }
def FrmrPutsUptoSaid : Prop := frmrPutsUptoRow.holds Try.pinned (OpenSpec.upto frmrPutsSpec)

/-- 'squelchlaw09.FrmrReads', WHERE WHAT IT READS IS OF BULK AT MOST 1048576: true; the input reads as it did. -/
def frmrReadsUptoRow : OpenClaim := { program := "ytfnldlcedgfkeaa", sum := "39d323d751d39cabb81062fc794694fc5d48ece164d8e1f11d133d95fcdc13b8", func := "squelch/squelchlaw09.FrmrReads", spec := "frmrReads", apart := false, narrowed := true }
def FrmrReadsUptoSaid : Prop := frmrReadsUptoRow.holds Try.pinned (OpenSpec.upto frmrReadsSpec)

/-- 'squelchlaw13.ClockPlays', WHERE WHAT IT READS IS OF BULK AT MOST 1048576: true; the input reads as it did. -/
def clockPlaysUptoRow : OpenClaim := { program := "ytfnldlcedgfkeaa", sum := "39d323d751d39cabb81062fc794694fc5d48ece164d8e1f11d133d95fcdc13b8", func := "squelch/squelchlaw13.ClockPlays", spec := "clockPlays", unfollowed := true, recurses := true, apart := false, narrowed := true }
def ClockPlaysUptoSaid : Prop := clockPlaysUptoRow.holds Try.pinned (OpenSpec.upto clockPlaysSpec)

/-- 'squelchlaw13.ClockDue', WHERE WHAT IT READS IS OF BULK AT MOST 1048576: true; the input reads as it did. -/
def clockDueUptoRow : OpenClaim := { program := "ytfnldlcedgfkeaa", sum := "39d323d751d39cabb81062fc794694fc5d48ece164d8e1f11d133d95fcdc13b8", func := "squelch/squelchlaw13.ClockDue", spec := "clockDue", unfollowed := true, recurses := true, apart := false, narrowed := true }
def ClockDueUptoSaid : Prop := clockDueUptoRow.holds Try.pinned (OpenSpec.upto clockDueSpec)

/-- 'squelchlaw13.ClockNone', WHERE WHAT IT READS IS OF BULK AT MOST 1048576: true; the input reads as it did. -/
def clockNoneUptoRow : OpenClaim := { program := "ytfnldlcedgfkeaa", sum := "39d323d751d39cabb81062fc794694fc5d48ece164d8e1f11d133d95fcdc13b8", func := "squelch/squelchlaw13.ClockNone", spec := "clockNone", unfollowed := true, recurses := true, apart := false, narrowed := true }
def ClockNoneUptoSaid : Prop := clockNoneUptoRow.holds Try.pinned (OpenSpec.upto clockNoneSpec)

/-- 'squelchlaw16.TxqPlays', WHERE WHAT IT READS IS OF BULK AT MOST 1048576: true; the input reads as it did. -/
def txqPlaysUptoRow : OpenClaim := { program := "ytfnldlcedgfkeaa", sum := "39d323d751d39cabb81062fc794694fc5d48ece164d8e1f11d133d95fcdc13b8", func := "squelch/squelchlaw16.TxqPlays", spec := "txqPlays", unfollowed := true, recurses := true, apart := false, narrowed := true }
def TxqPlaysUptoSaid : Prop := txqPlaysUptoRow.holds Try.pinned (OpenSpec.upto txqPlaysSpec)

/-- 'squelchlaw16.TxqNone', WHERE WHAT IT READS IS OF BULK AT MOST 1048576: true; the input reads as it did. -/
def txqNoneUptoRow : OpenClaim := { program := "ytfnldlcedgfkeaa", sum := "39d323d751d39cabb81062fc794694fc5d48ece164d8e1f11d133d95fcdc13b8", func := "squelch/squelchlaw16.TxqNone", spec := "txqNone", unfollowed := true, recurses := true, apart := false, narrowed := true }
def TxqNoneUptoSaid : Prop := txqNoneUptoRow.holds Try.pinned (OpenSpec.upto txqNoneSpec)

end Rows
end Go.Proofs.Ytfnldlcedgfkeaa
