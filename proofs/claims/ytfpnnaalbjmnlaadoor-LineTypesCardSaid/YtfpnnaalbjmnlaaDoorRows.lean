/-
  NARROWER THAN 'FOR EVERY INPUT', by the rows' own cells (each row's printed sentence says how): LinePlain: laid · LineTypes: laid · LineNone: laid.
  DERIVED. THE GIVEN ROWS OF THIS SEAT. 3 by the template 'for every input the law returns true; each argument reads behind the call as it read before'; 0 by the template 'total and deterministic' (their statements: YtfpnnaalbjmnlaaDoorTotals.lean).
  GIVEN WITH THE SEED: the statements are not yours to turn. If you find one false, say at which input.
  Laid BY PROGRAM, IN A SANDBOX (cutbox-rows.mjs): the forced cells as the released guide's own fill.sh prints them over the translation 3dd1c22ec0025f45… (all of the seat's roots in one cut). By AI agents, Wed Nov 11 2026. No macro, syntax, notation, axiom, sorry.
-/
import Derived.Test.YtfpnnaalbjmnlaaDoorChecked
import GoSem.PinnedTables
import GoSem.Claim
import GoSem.ClaimJoined
import GoSem.ClaimMapViews
import Derived.JoinedTies
import Derived.KernelRfl
namespace Go.Proofs.YtfpnnaalbjmnlaaDoor
/- THE CELL 'sum', in the pinned program and in every row, IS THE sha256 OF THE DUMP (.gsa) THAT YtfpnnaalbjmnlaaDoorProg.lean LOADS. Nothing in Lean hashes anything: it is a label: what it is worth is what the hold of that sum in a sandbox is worth. -/
noncomputable def Tryd.pinned : Pinned := { name := "ytfpnnaalbjmnlaadoor", sum := "3dd1c22ec0025f45c60c751a340b04806811ebf35626c8c1365c316e6b922a88", checked := Tryd.checked }
namespace Rows
def none {H : Type} : Left H := { results := [], args := [] }

/- WHAT THE LISTED PACKAGE-LEVEL VARIABLES READ AS WHEN THE CALL BEGINS. Each datum BY PROGRAM (the guide's laid-datum.mjs) off the statement by which the dump's own 'gosem.cut.vars' lays the variable. In a bare row this is a premise. The card (YtfpnnaalbjmnlaaDoorCards.lean) ties it to the program's text. -/
def laid_unicode_utf8_acceptRanges {H : Type} : DataW H := .agg [.agg [.lit (.int .u8 128), .lit (.int .u8 191)], .agg [.lit (.int .u8 160), .lit (.int .u8 191)], .agg [.lit (.int .u8 128), .lit (.int .u8 159)], .agg [.lit (.int .u8 144), .lit (.int .u8 191)], .agg [.lit (.int .u8 128), .lit (.int .u8 143)], .agg [.lit (.int .u8 0), .lit (.int .u8 0)], .agg [.lit (.int .u8 0), .lit (.int .u8 0)], .agg [.lit (.int .u8 0), .lit (.int .u8 0)], .agg [.lit (.int .u8 0), .lit (.int .u8 0)], .agg [.lit (.int .u8 0), .lit (.int .u8 0)], .agg [.lit (.int .u8 0), .lit (.int .u8 0)], .agg [.lit (.int .u8 0), .lit (.int .u8 0)], .agg [.lit (.int .u8 0), .lit (.int .u8 0)], .agg [.lit (.int .u8 0), .lit (.int .u8 0)], .agg [.lit (.int .u8 0), .lit (.int .u8 0)], .agg [.lit (.int .u8 0), .lit (.int .u8 0)]]
/-- One of Go's own tables, pinned by name: the form's constant. -/
def laid_unicode_utf8_first : DataW Unit := Go.Pinned.utf8First

/-- 'squelchlaw24.LinePlain': WHATEVER THE INPUT: true; the input reads as it did. -/
def linePlainSpec : ChangeSpec := { name := "linePlain", fn := fun _ => fun
  | [d] => { results := [.lit (.bool true)], args := [d] }
  | _ => none }
def linePlainRow : OpenClaim := { program := "ytfpnnaalbjmnlaadoor", sum := "3dd1c22ec0025f45c60c751a340b04806811ebf35626c8c1365c316e6b922a88", func := "squelch/squelchlaw24.LinePlain", spec := "linePlain", named := ["unicode/utf8.first", "unicode/utf8.acceptRanges"], apart := false, laid := [("unicode/utf8.acceptRanges", laid_unicode_utf8_acceptRanges), ("unicode/utf8.first", laid_unicode_utf8_first)] }
def LinePlainSaid : Prop := linePlainRow.holds Tryd.pinned (OpenSpec.ofChange linePlainSpec)

/-- ITS FALSE NEIGHBOUR: 'it returns false'. Refute it at one input. -/
def linePlainWrong : ChangeSpec := { name := "linePlain", fn := fun _ => fun
  | [d] => { results := [.lit (.bool false)], args := [d] }
  | _ => none }
def LinePlainWrongFalsely : Prop := linePlainRow.holds Tryd.pinned (OpenSpec.ofChange linePlainWrong)

/-- 'squelchlaw24.LineTypes': WHATEVER THE INPUT: true; the input reads as it did. -/
def lineTypesSpec : ChangeSpec := { name := "lineTypes", fn := fun _ => fun
  | [d] => { results := [.lit (.bool true)], args := [d] }
  | _ => none }
def lineTypesRow : OpenClaim := { program := "ytfpnnaalbjmnlaadoor", sum := "3dd1c22ec0025f45c60c751a340b04806811ebf35626c8c1365c316e6b922a88", func := "squelch/squelchlaw24.LineTypes", spec := "lineTypes", named := ["unicode/utf8.first", "unicode/utf8.acceptRanges"], apart := false, laid := [("unicode/utf8.acceptRanges", laid_unicode_utf8_acceptRanges), ("unicode/utf8.first", laid_unicode_utf8_first)] }
def LineTypesSaid : Prop := lineTypesRow.holds Tryd.pinned (OpenSpec.ofChange lineTypesSpec)

/-- ITS FALSE NEIGHBOUR: 'it returns false'. Refute it at one input. -/
def lineTypesWrong : ChangeSpec := { name := "lineTypes", fn := fun _ => fun
  | [d] => { results := [.lit (.bool false)], args := [d] }
  | _ => none }
def LineTypesWrongFalsely : Prop := lineTypesRow.holds Tryd.pinned (OpenSpec.ofChange lineTypesWrong)

/-- 'squelchlaw24.LineNone': WHATEVER THE INPUT: true; the input reads as it did. -/
def lineNoneSpec : ChangeSpec := { name := "lineNone", fn := fun _ => fun
  | [d] => { results := [.lit (.bool true)], args := [d] }
  | _ => none }
def lineNoneRow : OpenClaim := { program := "ytfpnnaalbjmnlaadoor", sum := "3dd1c22ec0025f45c60c751a340b04806811ebf35626c8c1365c316e6b922a88", func := "squelch/squelchlaw24.LineNone", spec := "lineNone", named := ["unicode/utf8.first", "unicode/utf8.acceptRanges"], apart := false, laid := [("unicode/utf8.acceptRanges", laid_unicode_utf8_acceptRanges), ("unicode/utf8.first", laid_unicode_utf8_first)] }
def LineNoneSaid : Prop := lineNoneRow.holds Tryd.pinned (OpenSpec.ofChange lineNoneSpec)

/-- ITS FALSE NEIGHBOUR: 'it returns false'. Refute it at one input. -/
def lineNoneWrong : ChangeSpec := { name := "lineNone", fn := fun _ => fun
  | [d] => { results := [.lit (.bool false)], args := [d] }
  | _ => none }
def LineNoneWrongFalsely : Prop := lineNoneRow.holds Tryd.pinned (OpenSpec.ofChange lineNoneWrong)

/- THE SECOND FORM. 'bulk': how many values and letters a reading holds, each counted each time it is reached (what is shared counts as often as it is met; a slice's spare places count too). A statement '..UptoSaid' is the law's where the arguments, and the package variables that the reading takes, are together of bulk at most 1048576: NARROWER than '..Said'. Prove '..Said' where nothing that the law and all that it calls make is longer than what came in: it says more and counts as full. Else prove '..UptoSaid'. A law counts once. -/
mutual
def uptoBulk {H : Type} : DataW H → Nat
  | .lit (.string bytes) => bytes.length + 1
  | .lit _ => 1
  | .nil => 1
  | .ptr d => uptoBulk d + 1
  | .slice elems spare => uptoBulkAll elems + uptoBulkAll spare + 1
  | .agg parts => uptoBulkAll parts + 1
  | .iface _ d => uptoBulk d + 1
  | .map entries => uptoBulkEntries entries + 1
  | .held _ => 1
def uptoBulkAll {H : Type} : List (DataW H) → Nat
  | [] => 0
  | d :: r => uptoBulk d + uptoBulkAll r
def uptoBulkEntries {H : Type} : List (Lit × DataW H) → Nat
  | [] => 0
  | x :: r => uptoBulkEntry x + uptoBulkEntries r
def uptoBulkEntry {H : Type} : Lit × DataW H → Nat
  | (.string bytes, d) => bytes.length + uptoBulk d + 1
  | (_, d) => uptoBulk d + 1
 end
def uptoSmall : (H : Type) → List (DataW H) → Bool := fun _ ds => decide (uptoBulkAll ds ≤ 1048576)
def OpenSpec.upto (s : _root_.Go.ChangeSpec) : _root_.Go.OpenSpec := { _root_.Go.OpenSpec.ofChange s with cond := some uptoSmall }

/-- 'squelchlaw24.LinePlain', WHERE WHAT IT READS IS OF BULK AT MOST 1048576: true; the input reads as it did. -/
def linePlainUptoRow : OpenClaim := { program := "ytfpnnaalbjmnlaadoor", sum := "3dd1c22ec0025f45c60c751a340b04806811ebf35626c8c1365c316e6b922a88", func := "squelch/squelchlaw24.LinePlain", spec := "linePlain", named := ["unicode/utf8.first", "unicode/utf8.acceptRanges"], apart := false, laid := [("unicode/utf8.acceptRanges", laid_unicode_utf8_acceptRanges), ("unicode/utf8.first", laid_unicode_utf8_first)], narrowed := true }
def LinePlainUptoSaid : Prop := linePlainUptoRow.holds Tryd.pinned (OpenSpec.upto linePlainSpec)

/-- 'squelchlaw24.LineTypes', WHERE WHAT IT READS IS OF BULK AT MOST 1048576: true; the input reads as it did. -/
def lineTypesUptoRow : OpenClaim := { program := "ytfpnnaalbjmnlaadoor", sum := "3dd1c22ec0025f45c60c751a340b04806811ebf35626c8c1365c316e6b922a88", func := "squelch/squelchlaw24.LineTypes", spec := "lineTypes", named := ["unicode/utf8.first", "unicode/utf8.acceptRanges"], apart := false, laid := [("unicode/utf8.acceptRanges", laid_unicode_utf8_acceptRanges), ("unicode/utf8.first", laid_unicode_utf8_first)], narrowed := true }
def LineTypesUptoSaid : Prop := lineTypesUptoRow.holds Tryd.pinned (OpenSpec.upto lineTypesSpec)

/-- 'squelchlaw24.LineNone', WHERE WHAT IT READS IS OF BULK AT MOST 1048576: true; the input reads as it did. -/
def lineNoneUptoRow : OpenClaim := { program := "ytfpnnaalbjmnlaadoor", sum := "3dd1c22ec0025f45c60c751a340b04806811ebf35626c8c1365c316e6b922a88", func := "squelch/squelchlaw24.LineNone", spec := "lineNone", named := ["unicode/utf8.first", "unicode/utf8.acceptRanges"], apart := false, laid := [("unicode/utf8.acceptRanges", laid_unicode_utf8_acceptRanges), ("unicode/utf8.first", laid_unicode_utf8_first)], narrowed := true }
def LineNoneUptoSaid : Prop := lineNoneUptoRow.holds Tryd.pinned (OpenSpec.upto lineNoneSpec)

end Rows
end Go.Proofs.YtfpnnaalbjmnlaaDoor
