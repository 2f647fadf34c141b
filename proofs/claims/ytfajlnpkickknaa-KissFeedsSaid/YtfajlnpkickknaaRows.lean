/-
  No cell of these rows narrows 'for every input' (looked for: loops, veiled, ifaces, maps, wideKeys, modest, calm, conditions, laid).
  DERIVED. THE GIVEN ROWS OF THIS SEAT. 9 by the template 'for every input the law returns true; each argument reads behind the call as it read before'; 0 by the template 'total and deterministic' (their statements: YtfajlnpkickknaaTotals.lean).
  GIVEN WITH THE SEED: the statements are not yours to turn. If you find one false, say at which input.
  Laid BY PROGRAM, IN A SANDBOX (cutbox-rows.mjs): the forced cells as the released guide's own fill.sh prints them over the translation 2391b8903368520a… (all of the seat's roots in one cut). By AI agents, Wed Nov 11 2026. No macro, syntax, notation, axiom, sorry.
-/
import Derived.Test.YtfajlnpkickknaaChecked
import GoSem.Claim
import GoSem.ClaimJoined
import GoSem.ClaimMapViews
import Derived.JoinedTies
import Derived.KernelRfl
namespace Go.Proofs.Ytfajlnpkickknaa
/- THE CELL 'sum', in the pinned program and in every row, IS THE sha256 OF THE DUMP (.gsa) THAT YtfajlnpkickknaaProg.lean LOADS. Nothing in Lean hashes anything: it is a label: what it is worth is what the hold of that sum in a sandbox is worth. -/
noncomputable def Try.pinned : Pinned := { name := "ytfajlnpkickknaa", sum := "2391b8903368520aacb24f98da37b0a508d8129b5a6e7cbc134580f43e438de9", checked := Try.checked }
namespace Rows
def none {H : Type} : Left H := { results := [], args := [] }

/-- 'squelchlaw02.KissEncodes': WHATEVER THE INPUT: true; the input reads as it did. -/
def kissEncodesSpec : ChangeSpec := { name := "kissEncodes", fn := fun _ => fun
  | [d] => { results := [.lit (.bool true)], args := [d] }
  | _ => none }
def kissEncodesRow : OpenClaim := { program := "ytfajlnpkickknaa", sum := "2391b8903368520aacb24f98da37b0a508d8129b5a6e7cbc134580f43e438de9", func := "squelch/squelchlaw02.KissEncodes", spec := "kissEncodes", inPlace := ["internal/abi.NoEscape"], apart := false }
def KissEncodesSaid : Prop := kissEncodesRow.holds Try.pinned (OpenSpec.ofChange kissEncodesSpec)

/-- ITS FALSE NEIGHBOUR: 'it returns false'. Refute it at one input. -/
def kissEncodesWrong : ChangeSpec := { name := "kissEncodes", fn := fun _ => fun
  | [d] => { results := [.lit (.bool false)], args := [d] }
  | _ => none }
def KissEncodesWrongFalsely : Prop := kissEncodesRow.holds Try.pinned (OpenSpec.ofChange kissEncodesWrong)

/-- 'squelchlaw02.KissEnds': WHATEVER THE INPUT: true; the input reads as it did. -/
def kissEndsSpec : ChangeSpec := { name := "kissEnds", fn := fun _ => fun
  | [d] => { results := [.lit (.bool true)], args := [d] }
  | _ => none }
def kissEndsRow : OpenClaim := { program := "ytfajlnpkickknaa", sum := "2391b8903368520aacb24f98da37b0a508d8129b5a6e7cbc134580f43e438de9", func := "squelch/squelchlaw02.KissEnds", spec := "kissEnds", inPlace := ["internal/abi.NoEscape"], apart := false }
def KissEndsSaid : Prop := kissEndsRow.holds Try.pinned (OpenSpec.ofChange kissEndsSpec)

/-- ITS FALSE NEIGHBOUR: 'it returns false'. Refute it at one input. -/
def kissEndsWrong : ChangeSpec := { name := "kissEnds", fn := fun _ => fun
  | [d] => { results := [.lit (.bool false)], args := [d] }
  | _ => none }
def KissEndsWrongFalsely : Prop := kissEndsRow.holds Try.pinned (OpenSpec.ofChange kissEndsWrong)

/-- 'squelchlaw02.KissFeeds': WHATEVER THE INPUT: true; the input reads as it did. -/
def kissFeedsSpec : ChangeSpec := { name := "kissFeeds", fn := fun _ => fun
  | [d1, d2, d3] => { results := [.lit (.bool true)], args := [d1, d2, d3] }
  | _ => none }
def kissFeedsRow : OpenClaim := { program := "ytfajlnpkickknaa", sum := "2391b8903368520aacb24f98da37b0a508d8129b5a6e7cbc134580f43e438de9", func := "squelch/squelchlaw02.KissFeeds", spec := "kissFeeds", inPlace := ["internal/abi.NoEscape"], apart := false }
def KissFeedsSaid : Prop := kissFeedsRow.holds Try.pinned (OpenSpec.ofChange kissFeedsSpec)

/-- ITS FALSE NEIGHBOUR: 'it returns false'. Refute it at one input. -/
def kissFeedsWrong : ChangeSpec := { name := "kissFeeds", fn := fun _ => fun
  | [d1, d2, d3] => { results := [.lit (.bool false)], args := [d1, d2, d3] }
  | _ => none }
def KissFeedsWrongFalsely : Prop := kissFeedsRow.holds Try.pinned (OpenSpec.ofChange kissFeedsWrong)

/-- 'squelchlaw02.KissThrough': WHATEVER THE INPUT: true; the input reads as it did. -/
def kissThroughSpec : ChangeSpec := { name := "kissThrough", fn := fun _ => fun
  | [d1, d2, d3] => { results := [.lit (.bool true)], args := [d1, d2, d3] }
  | _ => none }
def kissThroughRow : OpenClaim := { program := "ytfajlnpkickknaa", sum := "2391b8903368520aacb24f98da37b0a508d8129b5a6e7cbc134580f43e438de9", func := "squelch/squelchlaw02.KissThrough", spec := "kissThrough", inPlace := ["internal/abi.NoEscape"], apart := false }
def KissThroughSaid : Prop := kissThroughRow.holds Try.pinned (OpenSpec.ofChange kissThroughSpec)

/-- ITS FALSE NEIGHBOUR: 'it returns false'. Refute it at one input. -/
def kissThroughWrong : ChangeSpec := { name := "kissThrough", fn := fun _ => fun
  | [d1, d2, d3] => { results := [.lit (.bool false)], args := [d1, d2, d3] }
  | _ => none }
def KissThroughWrongFalsely : Prop := kissThroughRow.holds Try.pinned (OpenSpec.ofChange kissThroughWrong)

/-- 'squelchlaw02.KissCuts': WHATEVER THE INPUT: true; the input reads as it did. -/
def kissCutsSpec : ChangeSpec := { name := "kissCuts", fn := fun _ => fun
  | [d1, d2] => { results := [.lit (.bool true)], args := [d1, d2] }
  | _ => none }
def kissCutsRow : OpenClaim := { program := "ytfajlnpkickknaa", sum := "2391b8903368520aacb24f98da37b0a508d8129b5a6e7cbc134580f43e438de9", func := "squelch/squelchlaw02.KissCuts", spec := "kissCuts", inPlace := ["internal/abi.NoEscape"], apart := false }
def KissCutsSaid : Prop := kissCutsRow.holds Try.pinned (OpenSpec.ofChange kissCutsSpec)

/-- ITS FALSE NEIGHBOUR: 'it returns false'. Refute it at one input. -/
def kissCutsWrong : ChangeSpec := { name := "kissCuts", fn := fun _ => fun
  | [d1, d2] => { results := [.lit (.bool false)], args := [d1, d2] }
  | _ => none }
def KissCutsWrongFalsely : Prop := kissCutsRow.holds Try.pinned (OpenSpec.ofChange kissCutsWrong)

/-- 'squelchlaw10.SegSplits': WHATEVER THE INPUT: true; the input reads as it did. -/
def segSplitsSpec : ChangeSpec := { name := "segSplits", fn := fun _ => fun
  | [d1, d2, d3] => { results := [.lit (.bool true)], args := [d1, d2, d3] }
  | _ => none }
def segSplitsRow : OpenClaim := { program := "ytfajlnpkickknaa", sum := "2391b8903368520aacb24f98da37b0a508d8129b5a6e7cbc134580f43e438de9", func := "squelch/squelchlaw10.SegSplits", spec := "segSplits", inPlace := ["internal/abi.NoEscape", "internal/bytealg.MakeNoZero"], apart := false }
def SegSplitsSaid : Prop := segSplitsRow.holds Try.pinned (OpenSpec.ofChange segSplitsSpec)

/-- ITS FALSE NEIGHBOUR: 'it returns false'. Refute it at one input. -/
def segSplitsWrong : ChangeSpec := { name := "segSplits", fn := fun _ => fun
  | [d1, d2, d3] => { results := [.lit (.bool false)], args := [d1, d2, d3] }
  | _ => none }
def SegSplitsWrongFalsely : Prop := segSplitsRow.holds Try.pinned (OpenSpec.ofChange segSplitsWrong)

/-- 'squelchlaw10.SegThrough': WHATEVER THE INPUT: true; the input reads as it did. -/
def segThroughSpec : ChangeSpec := { name := "segThrough", fn := fun _ => fun
  | [d1, d2, d3] => { results := [.lit (.bool true)], args := [d1, d2, d3] }
  | _ => none }
def segThroughRow : OpenClaim := { program := "ytfajlnpkickknaa", sum := "2391b8903368520aacb24f98da37b0a508d8129b5a6e7cbc134580f43e438de9", func := "squelch/squelchlaw10.SegThrough", spec := "segThrough", inPlace := ["internal/abi.NoEscape", "internal/bytealg.MakeNoZero"], apart := false }
def SegThroughSaid : Prop := segThroughRow.holds Try.pinned (OpenSpec.ofChange segThroughSpec)

/-- ITS FALSE NEIGHBOUR: 'it returns false'. Refute it at one input. -/
def segThroughWrong : ChangeSpec := { name := "segThrough", fn := fun _ => fun
  | [d1, d2, d3] => { results := [.lit (.bool false)], args := [d1, d2, d3] }
  | _ => none }
def SegThroughWrongFalsely : Prop := segThroughRow.holds Try.pinned (OpenSpec.ofChange segThroughWrong)

/-- 'squelchlaw10.SegMissing': WHATEVER THE INPUT: true; the input reads as it did. -/
def segMissingSpec : ChangeSpec := { name := "segMissing", fn := fun _ => fun
  | [d1, d2, d3] => { results := [.lit (.bool true)], args := [d1, d2, d3] }
  | _ => none }
def segMissingRow : OpenClaim := { program := "ytfajlnpkickknaa", sum := "2391b8903368520aacb24f98da37b0a508d8129b5a6e7cbc134580f43e438de9", func := "squelch/squelchlaw10.SegMissing", spec := "segMissing", inPlace := ["internal/abi.NoEscape", "internal/bytealg.MakeNoZero"], apart := false }
def SegMissingSaid : Prop := segMissingRow.holds Try.pinned (OpenSpec.ofChange segMissingSpec)

/-- ITS FALSE NEIGHBOUR: 'it returns false'. Refute it at one input. -/
def segMissingWrong : ChangeSpec := { name := "segMissing", fn := fun _ => fun
  | [d1, d2, d3] => { results := [.lit (.bool false)], args := [d1, d2, d3] }
  | _ => none }
def SegMissingWrongFalsely : Prop := segMissingRow.holds Try.pinned (OpenSpec.ofChange segMissingWrong)

/-- 'squelchlaw10.SegTakes': WHATEVER THE INPUT: true; the input reads as it did. -/
def segTakesSpec : ChangeSpec := { name := "segTakes", fn := fun _ => fun
  | [d] => { results := [.lit (.bool true)], args := [d] }
  | _ => none }
def segTakesRow : OpenClaim := { program := "ytfajlnpkickknaa", sum := "2391b8903368520aacb24f98da37b0a508d8129b5a6e7cbc134580f43e438de9", func := "squelch/squelchlaw10.SegTakes", spec := "segTakes", inPlace := ["internal/abi.NoEscape", "internal/bytealg.MakeNoZero"], apart := false }
def SegTakesSaid : Prop := segTakesRow.holds Try.pinned (OpenSpec.ofChange segTakesSpec)

/-- ITS FALSE NEIGHBOUR: 'it returns false'. Refute it at one input. -/
def segTakesWrong : ChangeSpec := { name := "segTakes", fn := fun _ => fun
  | [d] => { results := [.lit (.bool false)], args := [d] }
  | _ => none }
def SegTakesWrongFalsely : Prop := segTakesRow.holds Try.pinned (OpenSpec.ofChange segTakesWrong)

/- THE SECOND FORM. 'bulk': how many values and letters a reading holds, each counted each time it is reached (what is shared counts as often as it is met; a slice's spare places count too). A statement '..UptoSaid' is the law's where the arguments, and the package variables that the reading takes, are together of bulk at most 1048576: NARROWER than '..Said'. Prove '..Said' where nothing that the law and all that it calls make is longer than what came in: it says more and counts as full. Else prove '..UptoSaid'. A law counts once. -/
mutual
def uptoBulk {H : Type} : DataW H → Nat
  | .lit (.string bytes) => bytes.length + 1
  | .lit _ => 1
  | .nil => 1
  | .ptr d => uptoBulk d + 1
  | .slice elems spare => uptoBulkAll elems + uptoBulkAll spare + 1
  | .agg parts => uptoBulkAll parts + 1
  | .iface _ d => uptoBulk d + 1
  | .map entries => uptoBulkEntries entries + 1
  | .held _ => 1
def uptoBulkAll {H : Type} : List (DataW H) → Nat
  | [] => 0
  | d :: r => uptoBulk d + uptoBulkAll r
def uptoBulkEntries {H : Type} : List (Lit × DataW H) → Nat
  | [] => 0
  | x :: r => uptoBulkEntry x + uptoBulkEntries r
def uptoBulkEntry {H : Type} : Lit × DataW H → Nat
  | (.string bytes, d) => bytes.length + uptoBulk d + 1
  | (_, d) => uptoBulk d + 1
 end
def uptoSmall : (H : Type) → List (DataW H) → Bool := fun _ ds => decide (uptoBulkAll ds ≤ 1048576)
def OpenSpec.upto (s : _root_.Go.ChangeSpec) : _root_.Go.OpenSpec := { _root_.Go.OpenSpec.ofChange s with cond := some uptoSmall }

/-- 'squelchlaw02.KissEncodes', WHERE WHAT IT READS IS OF BULK AT MOST 1048576: true; the input reads as it did. -/
def kissEncodesUptoRow : OpenClaim := { program := "ytfajlnpkickknaa", sum := "2391b8903368520aacb24f98da37b0a508d8129b5a6e7cbc134580f43e438de9", func := "squelch/squelchlaw02.KissEncodes", spec := "kissEncodes", inPlace := ["internal/abi.NoEscape"], apart := false, narrowed := true }
def KissEncodesUptoSaid : Prop := kissEncodesUptoRow.holds Try.pinned (OpenSpec.upto kissEncodesSpec)

/-- 'squelchlaw02.KissEnds', WHERE WHAT IT READS IS OF BULK AT MOST 1048576: true; the input reads as it did. -/
def kissEndsUptoRow : OpenClaim := { program := "ytfajlnpkickknaa", sum := "2391b8903368520aacb24f98da37b0a508d8129b5a6e7cbc134580f43e438de9", func := "squelch/squelchlaw02.KissEnds", spec := "kissEnds", inPlace := ["internal/abi.NoEscape"], apart := false, narrowed := true }
def KissEndsUptoSaid : Prop := kissEndsUptoRow.holds Try.pinned (OpenSpec.upto kissEndsSpec)

/-- 'squelchlaw02.KissFeeds', WHERE WHAT IT READS IS OF BULK AT MOST 1048576: true; the input reads as it did. -/
def kissFeedsUptoRow : OpenClaim := { program := "ytfajlnpkickknaa", sum := "2391b8903368520aacb24f98da37b0a508d8129b5a6e7cbc134580f43e438de9", func := "squelch/squelchlaw02.KissFeeds", spec := "kissFeeds", inPlace := ["internal/abi.NoEscape"], apart := false, narrowed := true }
def KissFeedsUptoSaid : Prop := kissFeedsUptoRow.holds Try.pinned (OpenSpec.upto kissFeedsSpec)

/-- 'squelchlaw02.KissThrough', WHERE WHAT IT READS IS OF BULK AT MOST 1048576: true; the input reads as it did. -/
def kissThroughUptoRow : OpenClaim := { program := "ytfajlnpkickknaa", sum := "2391b8903368520aacb24f98da37b0a508d8129b5a6e7cbc134580f43e438de9", func := "squelch/squelchlaw02.KissThrough", spec := "kissThrough", inPlace := ["internal/abi.NoEscape"], apart := false, narrowed := true }
def KissThroughUptoSaid : Prop := kissThroughUptoRow.holds Try.pinned (OpenSpec.upto kissThroughSpec)

/-- 'squelchlaw02.KissCuts', WHERE WHAT IT READS IS OF BULK AT MOST 1048576: true; the input reads as it did. -/
def kissCutsUptoRow : OpenClaim := { program := "ytfajlnpkickknaa", sum := "2391b8903368520aacb24f98da37b0a508d8129b5a6e7cbc134580f43e438de9", func := "squelch/squelchlaw02.KissCuts", spec := "kissCuts", inPlace := ["internal/abi.NoEscape"], apart := false, narrowed := true }
def KissCutsUptoSaid : Prop := kissCutsUptoRow.holds Try.pinned (OpenSpec.upto kissCutsSpec)

/-- 'squelchlaw10.SegSplits', WHERE WHAT IT READS IS OF BULK AT MOST 1048576: true; the input reads as it did. -/
def segSplitsUptoRow : OpenClaim := { program := "ytfajlnpkickknaa", sum := "2391b8903368520aacb24f98da37b0a508d8129b5a6e7cbc134580f43e438de9", func := "squelch/squelchlaw10.SegSplits", spec := "segSplits", inPlace := ["internal/abi.NoEscape", "internal/bytealg.MakeNoZero"], apart := false, narrowed := true }
def SegSplitsUptoSaid : Prop := segSplitsUptoRow.holds Try.pinned (OpenSpec.upto segSplitsSpec)

/-- 'squelchlaw10.SegThrough', WHERE WHAT IT READS IS OF BULK AT MOST 1048576: true; the input reads as it did. -/
def segThroughUptoRow : OpenClaim := { program := "ytfajlnpkickknaa", sum := "2391b8903368520aacb24f98da37b0a508d8129b5a6e7cbc134580f43e438de9", func := "squelch/squelchlaw10.SegThrough", spec := "segThrough", inPlace := ["internal/abi.NoEscape", "internal/bytealg.MakeNoZero"], apart := false, narrowed := true }
def SegThroughUptoSaid : Prop := segThroughUptoRow.holds Try.pinned (OpenSpec.upto segThroughSpec)

/-- 'squelchlaw10.SegMissing', WHERE WHAT IT READS IS OF BULK AT MOST 1048576: true; the input reads as it did. -/
def segMissingUptoRow : OpenClaim := { program := "ytfajlnpkickknaa", sum := "2391b8903368520aacb24f98da37b0a508d8129b5a6e7cbc134580f43e438de9", func := "squelch/squelchlaw10.SegMissing", spec := "segMissing", inPlace := ["internal/abi.NoEscape", "internal/bytealg.MakeNoZero"], apart := false, narrowed := true }
def SegMissingUptoSaid : Prop := segMissingUptoRow.holds Try.pinned (OpenSpec.upto segMissingSpec)

/-- 'squelchlaw10.SegTakes', WHERE WHAT IT READS IS OF BULK AT MOST 1048576: true; the input reads as it did. -/
def segTakesUptoRow : OpenClaim := { program := "ytfajlnpkickknaa", sum := "2391b8903368520aacb24f98da37b0a508d8129b5a6e7cbc134580f43e438de9", func := "squelch/squelchlaw10.SegTakes", spec := "segTakes", inPlace := ["internal/abi.NoEscape", "internal/bytealg.MakeNoZero"], apart := false, narrowed := true }
def SegTakesUptoSaid : Prop := segTakesUptoRow.holds Try.pinned (OpenSpec.upto segTakesSpec)

end Rows
end Go.Proofs.Ytfajlnpkickknaa
