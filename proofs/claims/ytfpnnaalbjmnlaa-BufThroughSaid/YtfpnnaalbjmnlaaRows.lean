/-
  No cell of these rows narrows 'for every input' (looked for: loops, veiled, ifaces, maps, wideKeys, modest, calm, conditions, laid).
  DERIVED. THE GIVEN ROWS OF THIS SEAT. 3 by the template 'for every input the law returns true; each argument reads behind the call as it read before'; 0 by the template 'total and deterministic' (their statements: YtfpnnaalbjmnlaaTotals.lean).
  GIVEN WITH THE SEED: the statements are not yours to turn. If you find one false, say at which input.
  Laid BY PROGRAM, IN A SANDBOX (cutbox-rows.mjs): the forced cells as the released guide's own fill.sh prints them over the translation a1ebeebdd30646ac… (all of the seat's roots in one cut). By AI agents, Wed Nov 11 2026. No macro, syntax, notation, axiom, sorry.
-/
import Derived.Test.YtfpnnaalbjmnlaaChecked
import GoSem.Claim
import GoSem.ClaimJoined
import GoSem.ClaimMapViews
import Derived.JoinedTies
import Derived.KernelRfl
namespace Go.Proofs.Ytfpnnaalbjmnlaa
/- THE CELL 'sum', in the pinned program and in every row, IS THE sha256 OF THE DUMP (.gsa) THAT YtfpnnaalbjmnlaaProg.lean LOADS. Nothing in Lean hashes anything: it is a label: what it is worth is what the hold of that sum in a sandbox is worth. -/
noncomputable def Try.pinned : Pinned := { name := "ytfpnnaalbjmnlaa", sum := "a1ebeebdd30646acd62be19089881ca6b8a598866233496bd70deb62839610c9", checked := Try.checked }
namespace Rows
def none {H : Type} : Left H := { results := [], args := [] }

/-- 'squelchlaw19.BufPlays': WHATEVER THE INPUT: true; the input reads as it did. -/
def bufPlaysSpec : ChangeSpec := { name := "bufPlays", fn := fun _ => fun
  | [d1, d2] => { results := [.lit (.bool true)], args := [d1, d2] }
  | _ => none }
def bufPlaysRow : OpenClaim := { program := "ytfpnnaalbjmnlaa", sum := "a1ebeebdd30646acd62be19089881ca6b8a598866233496bd70deb62839610c9", func := "squelch/squelchlaw19.BufPlays", spec := "bufPlays", inPlace := ["internal/abi.NoEscape", "internal/bytealg.MakeNoZero"], apart := false }
def BufPlaysSaid : Prop := bufPlaysRow.holds Try.pinned (OpenSpec.ofChange bufPlaysSpec)

/-- ITS FALSE NEIGHBOUR: 'it returns false'. Refute it at one input. -/
def bufPlaysWrong : ChangeSpec := { name := "bufPlays", fn := fun _ => fun
  | [d1, d2] => { results := [.lit (.bool false)], args := [d1, d2] }
  | _ => none }
def BufPlaysWrongFalsely : Prop := bufPlaysRow.holds Try.pinned (OpenSpec.ofChange bufPlaysWrong)

/-- 'squelchlaw19.BufNone': WHATEVER THE INPUT: true; the input reads as it did. -/
def bufNoneSpec : ChangeSpec := { name := "bufNone", fn := fun _ => fun
  | [d] => { results := [.lit (.bool true)], args := [d] }
  | _ => none }
def bufNoneRow : OpenClaim := { program := "ytfpnnaalbjmnlaa", sum := "a1ebeebdd30646acd62be19089881ca6b8a598866233496bd70deb62839610c9", func := "squelch/squelchlaw19.BufNone", spec := "bufNone", inPlace := ["internal/abi.NoEscape", "internal/bytealg.MakeNoZero"], apart := false }
def BufNoneSaid : Prop := bufNoneRow.holds Try.pinned (OpenSpec.ofChange bufNoneSpec)

/-- ITS FALSE NEIGHBOUR: 'it returns false'. Refute it at one input. -/
def bufNoneWrong : ChangeSpec := { name := "bufNone", fn := fun _ => fun
  | [d] => { results := [.lit (.bool false)], args := [d] }
  | _ => none }
def BufNoneWrongFalsely : Prop := bufNoneRow.holds Try.pinned (OpenSpec.ofChange bufNoneWrong)

/-- 'squelchlaw19.BufThrough': WHATEVER THE INPUT: true; the input reads as it did. -/
def bufThroughSpec : ChangeSpec := { name := "bufThrough", fn := fun _ => fun
  | [d1, d2] => { results := [.lit (.bool true)], args := [d1, d2] }
  | _ => none }
def bufThroughRow : OpenClaim := { program := "ytfpnnaalbjmnlaa", sum := "a1ebeebdd30646acd62be19089881ca6b8a598866233496bd70deb62839610c9", func := "squelch/squelchlaw19.BufThrough", spec := "bufThrough", inPlace := ["internal/abi.NoEscape", "internal/bytealg.MakeNoZero"], unfollowed := true, recurses := true, apart := false }
def BufThroughSaid : Prop := bufThroughRow.holds Try.pinned (OpenSpec.ofChange bufThroughSpec)

/-- ITS FALSE NEIGHBOUR: 'it returns false'. Refute it at one input. -/
def bufThroughWrong : ChangeSpec := { name := "bufThrough", fn := fun _ => fun
  | [d1, d2] => { results := [.lit (.bool false)], args := [d1, d2] }
  | _ => none }
def BufThroughWrongFalsely : Prop := bufThroughRow.holds Try.pinned (OpenSpec.ofChange bufThroughWrong)

/- THE SECOND FORM. 'bulk': how many values and letters a reading holds, each counted each time it is reached (what is shared counts as often as it is met; a slice's spare places count too). A statement '..UptoSaid' is the law's where the arguments, and the package variables that the reading takes, are together of bulk at most 1048576: NARROWER than '..Said'. Prove '..Said' where nothing that the law and all that it calls make is longer than what came in: it says more and counts as full. Else prove '..UptoSaid'. A law counts once. -/
mutual
def uptoBulk {H : Type} : DataW H → Nat
  | .lit (.string bytes) => bytes.length + 1
  | .lit _ => 1
  | .nil => 1
  | .ptr d => uptoBulk d + 1
  | .slice elems spare => uptoBulkAll elems + uptoBulkAll spare + 1
  | .agg parts => uptoBulkAll parts + 1
  | .iface _ d => uptoBulk d + 1
  | .map entries => uptoBulkEntries entries + 1
  | .held _ => 1
def uptoBulkAll {H : Type} : List (DataW H) → Nat
  | [] => 0
  | d :: r => uptoBulk d + uptoBulkAll r
def uptoBulkEntries {H : Type} : List (Lit × DataW H) → Nat
  | [] => 0
  | x :: r => uptoBulkEntry x + uptoBulkEntries r
def uptoBulkEntry {H : Type} : Lit × DataW H → Nat
  | (.string bytes, d) => bytes.length + uptoBulk d + 1
  | (_, d) => uptoBulk d + 1
 end
def uptoSmall : (H : Type) → List (DataW H) → Bool := fun _ ds => decide (uptoBulkAll ds ≤ 1048576)
def OpenSpec.upto (s : _root_.Go.ChangeSpec) : _root_.Go.OpenSpec := { _root_.Go.OpenSpec.ofChange s with cond := some uptoSmall }

/-- 'squelchlaw19.BufPlays', WHERE WHAT IT READS IS OF BULK AT MOST 1048576: true; the input reads as it did. -/
def bufPlaysUptoRow : OpenClaim := { program := "ytfpnnaalbjmnlaa", sum := "a1ebeebdd30646acd62be19089881ca6b8a598866233496bd70deb62839610c9", func := "squelch/squelchlaw19.BufPlays", spec := "bufPlays", inPlace := ["internal/abi.NoEscape", "internal/bytealg.MakeNoZero"], apart := false, narrowed := true }
def BufPlaysUptoSaid : Prop := bufPlaysUptoRow.holds Try.pinned (OpenSpec.upto bufPlaysSpec)

/-- 'squelchlaw19.BufNone', WHERE WHAT IT READS IS OF BULK AT MOST 1048576: true; the input reads as it did. -/
def bufNoneUptoRow : OpenClaim := { program := "ytfpnnaalbjmnlaa", sum := "a1ebeebdd30646acd62be19089881ca6b8a598866233496bd70deb62839610c9", func := "squelch/squelchlaw19.BufNone", spec := "bufNone", inPlace := ["internal/abi.NoEscape", "internal/bytealg.MakeNoZero"], apart := false, narrowed := true }
def BufNoneUptoSaid : Prop := bufNoneUptoRow.holds Try.pinned (OpenSpec.upto bufNoneSpec)

/-- 'squelchlaw19.BufThrough', WHERE WHAT IT READS IS OF BULK AT MOST 1048576: true; the input reads as it did. -/
def bufThroughUptoRow : OpenClaim := { program := "ytfpnnaalbjmnlaa", sum := "a1ebeebdd30646acd62be19089881ca6b8a598866233496bd70deb62839610c9", func := "squelch/squelchlaw19.BufThrough", spec := "bufThrough", inPlace := ["internal/abi.NoEscape", "internal/bytealg.MakeNoZero"], unfollowed := true, recurses := true, apart := false, narrowed := true }
def BufThroughUptoSaid : Prop := bufThroughUptoRow.holds Try.pinned (OpenSpec.upto bufThroughSpec)

end Rows
end Go.Proofs.Ytfpnnaalbjmnlaa
