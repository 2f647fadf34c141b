/-
  No cell of these rows narrows 'for every input' (looked for: loops, veiled, ifaces, maps, wideKeys, modest, calm, conditions, laid).
  DERIVED. THE GIVEN ROWS OF THIS SEAT. 7 by the template 'for every input the law returns true; each argument reads behind the call as it read before'; 0 by the template 'total and deterministic' (their statements: YtnlmpeklbjnjnaaTotals.lean).
  GIVEN WITH THE SEED: the statements are not yours to turn. If you find one false, say at which input.
  Laid BY PROGRAM, IN A SANDBOX (cutbox-rows.mjs): the forced cells as the released guide's own fill.sh prints them over the translation 08068c3343310df7… (all of the seat's roots in one cut). By AI agents, Wed Nov 11 2026. No macro, syntax, notation, axiom, sorry.
-/
import Derived.Test.YtnlmpeklbjnjnaaChecked
import GoSem.Claim
import GoSem.ClaimJoined
import GoSem.ClaimMapViews
import Derived.JoinedTies
import Derived.KernelRfl
namespace Go.Proofs.Ytnlmpeklbjnjnaa
/- THE CELL 'sum', in the pinned program and in every row, IS THE sha256 OF THE DUMP (.gsa) THAT YtnlmpeklbjnjnaaProg.lean LOADS. Nothing in Lean hashes anything: it is a label: what it is worth is what the hold of that sum in a sandbox is worth. -/
noncomputable def Try.pinned : Pinned := { name := "ytnlmpeklbjnjnaa", sum := "08068c3343310df759cf061a8a6714ce8ae0d7feb3b9465f43792512cafb19d2", checked := Try.checked }
namespace Rows
def none {H : Type} : Left H := { results := [], args := [] }

/-- 'squelchlaw01.FcsTable': WHATEVER THE INPUT: true; the input reads as it did. -/
def fcsTableSpec : ChangeSpec := { name := "fcsTable", fn := fun _ => fun
  | [d1, d2] => { results := [.lit (.bool true)], args := [d1, d2] }
  | _ => none }
def fcsTableRow : OpenClaim := { program := "ytnlmpeklbjnjnaa", sum := "08068c3343310df759cf061a8a6714ce8ae0d7feb3b9465f43792512cafb19d2", func := "squelch/squelchlaw01.FcsTable", spec := "fcsTable", apart := false }
def FcsTableSaid : Prop := fcsTableRow.holds Try.pinned (OpenSpec.ofChange fcsTableSpec)

/-- ITS FALSE NEIGHBOUR: 'it returns false'. Refute it at one input. -/
def fcsTableWrong : ChangeSpec := { name := "fcsTable", fn := fun _ => fun
  | [d1, d2] => { results := [.lit (.bool false)], args := [d1, d2] }
  | _ => none }
def FcsTableWrongFalsely : Prop := fcsTableRow.holds Try.pinned (OpenSpec.ofChange fcsTableWrong)

/-- 'squelchlaw01.FcsTries': WHATEVER THE INPUT: true; the input reads as it did. -/
def fcsTriesSpec : ChangeSpec := { name := "fcsTries", fn := fun _ => fun
  | [d] => { results := [.lit (.bool true)], args := [d] }
  | _ => none }
def fcsTriesRow : OpenClaim := { program := "ytnlmpeklbjnjnaa", sum := "08068c3343310df759cf061a8a6714ce8ae0d7feb3b9465f43792512cafb19d2", func := "squelch/squelchlaw01.FcsTries", spec := "fcsTries", apart := false }
def FcsTriesSaid : Prop := fcsTriesRow.holds Try.pinned (OpenSpec.ofChange fcsTriesSpec)

/-- ITS FALSE NEIGHBOUR: 'it returns false'. Refute it at one input. -/
def fcsTriesWrong : ChangeSpec := { name := "fcsTries", fn := fun _ => fun
  | [d] => { results := [.lit (.bool false)], args := [d] }
  | _ => none }
def FcsTriesWrongFalsely : Prop := fcsTriesRow.holds Try.pinned (OpenSpec.ofChange fcsTriesWrong)

/-- 'squelchlaw01.FcsSums': WHATEVER THE INPUT: true; the input reads as it did. -/
def fcsSumsSpec : ChangeSpec := { name := "fcsSums", fn := fun _ => fun
  | [d] => { results := [.lit (.bool true)], args := [d] }
  | _ => none }
def fcsSumsRow : OpenClaim := { program := "ytnlmpeklbjnjnaa", sum := "08068c3343310df759cf061a8a6714ce8ae0d7feb3b9465f43792512cafb19d2", func := "squelch/squelchlaw01.FcsSums", spec := "fcsSums", inPlace := ["internal/abi.NoEscape", "internal/bytealg.MakeNoZero"], apart := false }
def FcsSumsSaid : Prop := fcsSumsRow.holds Try.pinned (OpenSpec.ofChange fcsSumsSpec)

/-- ITS FALSE NEIGHBOUR: 'it returns false'. Refute it at one input. -/
def fcsSumsWrong : ChangeSpec := { name := "fcsSums", fn := fun _ => fun
  | [d] => { results := [.lit (.bool false)], args := [d] }
  | _ => none }
def FcsSumsWrongFalsely : Prop := fcsSumsRow.holds Try.pinned (OpenSpec.ofChange fcsSumsWrong)

/-- 'squelchlaw01.FcsOpens': WHATEVER THE INPUT: true; the input reads as it did. -/
def fcsOpensSpec : ChangeSpec := { name := "fcsOpens", fn := fun _ => fun
  | [d] => { results := [.lit (.bool true)], args := [d] }
  | _ => none }
def fcsOpensRow : OpenClaim := { program := "ytnlmpeklbjnjnaa", sum := "08068c3343310df759cf061a8a6714ce8ae0d7feb3b9465f43792512cafb19d2", func := "squelch/squelchlaw01.FcsOpens", spec := "fcsOpens", inPlace := ["internal/abi.NoEscape", "internal/bytealg.MakeNoZero"], apart := false }
def FcsOpensSaid : Prop := fcsOpensRow.holds Try.pinned (OpenSpec.ofChange fcsOpensSpec)

/-- ITS FALSE NEIGHBOUR: 'it returns false'. Refute it at one input. -/
def fcsOpensWrong : ChangeSpec := { name := "fcsOpens", fn := fun _ => fun
  | [d] => { results := [.lit (.bool false)], args := [d] }
  | _ => none }
def FcsOpensWrongFalsely : Prop := fcsOpensRow.holds Try.pinned (OpenSpec.ofChange fcsOpensWrong)

/-- 'squelchlaw01.FcsTells': WHATEVER THE INPUT: true; the input reads as it did. -/
def fcsTellsSpec : ChangeSpec := { name := "fcsTells", fn := fun _ => fun
  | [d1, d2, d3] => { results := [.lit (.bool true)], args := [d1, d2, d3] }
  | _ => none }
def fcsTellsRow : OpenClaim := { program := "ytnlmpeklbjnjnaa", sum := "08068c3343310df759cf061a8a6714ce8ae0d7feb3b9465f43792512cafb19d2", func := "squelch/squelchlaw01.FcsTells", spec := "fcsTells", inPlace := ["internal/abi.NoEscape", "internal/bytealg.MakeNoZero"], apart := false }
def FcsTellsSaid : Prop := fcsTellsRow.holds Try.pinned (OpenSpec.ofChange fcsTellsSpec)

/-- ITS FALSE NEIGHBOUR: 'it returns false'. Refute it at one input. -/
def fcsTellsWrong : ChangeSpec := { name := "fcsTells", fn := fun _ => fun
  | [d1, d2, d3] => { results := [.lit (.bool false)], args := [d1, d2, d3] }
  | _ => none }
def FcsTellsWrongFalsely : Prop := fcsTellsRow.holds Try.pinned (OpenSpec.ofChange fcsTellsWrong)

/-- 'squelchlaw01.FcsNone': WHATEVER THE INPUT: true; the input reads as it did. -/
def fcsNoneSpec : ChangeSpec := { name := "fcsNone", fn := fun _ => fun
  | [d] => { results := [.lit (.bool true)], args := [d] }
  | _ => none }
def fcsNoneRow : OpenClaim := { program := "ytnlmpeklbjnjnaa", sum := "08068c3343310df759cf061a8a6714ce8ae0d7feb3b9465f43792512cafb19d2", func := "squelch/squelchlaw01.FcsNone", spec := "fcsNone", inPlace := ["internal/abi.NoEscape", "internal/bytealg.MakeNoZero"], apart := false }
def FcsNoneSaid : Prop := fcsNoneRow.holds Try.pinned (OpenSpec.ofChange fcsNoneSpec)

/-- ITS FALSE NEIGHBOUR: 'it returns false'. Refute it at one input. -/
def fcsNoneWrong : ChangeSpec := { name := "fcsNone", fn := fun _ => fun
  | [d] => { results := [.lit (.bool false)], args := [d] }
  | _ => none }
def FcsNoneWrongFalsely : Prop := fcsNoneRow.holds Try.pinned (OpenSpec.ofChange fcsNoneWrong)

/-- 'squelchlaw01.FcsFixes': WHATEVER THE INPUT: true; the input reads as it did. -/
def fcsFixesSpec : ChangeSpec := { name := "fcsFixes", fn := fun _ => fun
  | [d1, d2] => { results := [.lit (.bool true)], args := [d1, d2] }
  | _ => none }
def fcsFixesRow : OpenClaim := { program := "ytnlmpeklbjnjnaa", sum := "08068c3343310df759cf061a8a6714ce8ae0d7feb3b9465f43792512cafb19d2", func := "squelch/squelchlaw01.FcsFixes", spec := "fcsFixes", inPlace := ["internal/abi.NoEscape", "internal/bytealg.MakeNoZero"], apart := false }
def FcsFixesSaid : Prop := fcsFixesRow.holds Try.pinned (OpenSpec.ofChange fcsFixesSpec)

/-- ITS FALSE NEIGHBOUR: 'it returns false'. Refute it at one input. -/
def fcsFixesWrong : ChangeSpec := { name := "fcsFixes", fn := fun _ => fun
  | [d1, d2] => { results := [.lit (.bool false)], args := [d1, d2] }
  | _ => none }
def FcsFixesWrongFalsely : Prop := fcsFixesRow.holds Try.pinned (OpenSpec.ofChange fcsFixesWrong)

/- THE SECOND FORM. 'bulk': how many values and letters a reading holds, each counted each time it is reached (what is shared counts as often as it is met; a slice's spare places count too). A statement '..UptoSaid' is the law's where the arguments, and the package variables that the reading takes, are together of bulk at most 1048576: NARROWER than '..Said'. Prove '..Said' where nothing that the law and all that it calls make is longer than what came in: it says more and counts as full. Else prove '..UptoSaid'. A law counts once. -/
mutual
def uptoBulk {H : Type} : DataW H → Nat
  | .lit (.string bytes) => bytes.length + 1
  | .lit _ => 1
  | .nil => 1
  | .ptr d => uptoBulk d + 1
  | .slice elems spare => uptoBulkAll elems + uptoBulkAll spare + 1
  | .agg parts => uptoBulkAll parts + 1
  | .iface _ d => uptoBulk d + 1
  | .map entries => uptoBulkEntries entries + 1
  | .held _ => 1
def uptoBulkAll {H : Type} : List (DataW H) → Nat
  | [] => 0
  | d :: r => uptoBulk d + uptoBulkAll r
def uptoBulkEntries {H : Type} : List (Lit × DataW H) → Nat
  | [] => 0
  | x :: r => uptoBulkEntry x + uptoBulkEntries r
def uptoBulkEntry {H : Type} : Lit × DataW H → Nat
  | (.string bytes, d) => bytes.length + uptoBulk d + 1
  | (_, d) => uptoBulk d + 1
 end
def uptoSmall : (H : Type) → List (DataW H) → Bool := fun _ ds => decide (uptoBulkAll ds ≤ 1048576)
def OpenSpec.upto (s : _root_.Go.ChangeSpec) : _root_.Go.OpenSpec := { _root_.Go.OpenSpec.ofChange s with cond := some uptoSmall }

/-- 'squelchlaw01.FcsTable', WHERE WHAT IT READS IS OF BULK AT MOST 1048576: true; the input reads as it did. -/
def fcsTableUptoRow : OpenClaim := { program := "ytnlmpeklbjnjnaa", sum := "08068c3343310df759cf061a8a6714ce8ae0d7feb3b9465f43792512cafb19d2", func := "squelch/squelchlaw01.FcsTable", spec := "fcsTable", apart := false, narrowed := true }
def FcsTableUptoSaid : Prop := fcsTableUptoRow.holds Try.pinned (OpenSpec.upto fcsTableSpec)

/-- 'squelchlaw01.FcsTries', WHERE WHAT IT READS IS OF BULK AT MOST 1048576: true; the input reads as it did. -/
def fcsTriesUptoRow : OpenClaim := { program := "ytnlmpeklbjnjnaa", sum := "08068c3343310df759cf061a8a6714ce8ae0d7feb3b9465f43792512cafb19d2", func := "squelch/squelchlaw01.FcsTries", spec := "fcsTries", apart := false, narrowed := true }
def FcsTriesUptoSaid : Prop := fcsTriesUptoRow.holds Try.pinned (OpenSpec.upto fcsTriesSpec)

/-- 'squelchlaw01.FcsSums', WHERE WHAT IT READS IS OF BULK AT MOST 1048576: true; the input reads as it did. -/
def fcsSumsUptoRow : OpenClaim := { program := "ytnlmpeklbjnjnaa", sum := "08068c3343310df759cf061a8a6714ce8ae0d7feb3b9465f43792512cafb19d2", func := "squelch/squelchlaw01.FcsSums", spec := "fcsSums", inPlace := ["internal/abi.NoEscape", "internal/bytealg.MakeNoZero"], apart := false, narrowed := true }
def FcsSumsUptoSaid : Prop := fcsSumsUptoRow.holds Try.pinned (OpenSpec.upto fcsSumsSpec)

/-- 'squelchlaw01.FcsOpens', WHERE WHAT IT READS IS OF BULK AT MOST 1048576: true; the input reads as it did. -/
def fcsOpensUptoRow : OpenClaim := { program := "ytnlmpeklbjnjnaa", sum := "08068c3343310df759cf061a8a6714ce8ae0d7feb3b9465f43792512cafb19d2", func := "squelch/squelchlaw01.FcsOpens", spec := "fcsOpens", inPlace := ["internal/abi.NoEscape", "internal/bytealg.MakeNoZero"], apart := false, narrowed := true }
def FcsOpensUptoSaid : Prop := fcsOpensUptoRow.holds Try.pinned (OpenSpec.upto fcsOpensSpec)

/-- 'squelchlaw01.FcsTells', WHERE WHAT IT READS IS OF BULK AT MOST 1048576: true; the input reads as it did. -/
def fcsTellsUptoRow : OpenClaim := { program := "ytnlmpeklbjnjnaa", sum := "08068c3343310df759cf061a8a6714ce8ae0d7feb3b9465f43792512cafb19d2", func := "squelch/squelchlaw01.FcsTells", spec := "fcsTells", inPlace := ["internal/abi.NoEscape", "internal/bytealg.MakeNoZero"], apart := false, narrowed := true }
def FcsTellsUptoSaid : Prop := fcsTellsUptoRow.holds Try.pinned (OpenSpec.upto fcsTellsSpec)

/-- 'squelchlaw01.FcsNone', WHERE WHAT IT READS IS OF BULK AT MOST 1048576: true; the input reads as it did. -/
def fcsNoneUptoRow : OpenClaim := { program := "ytnlmpeklbjnjnaa", sum := "08068c3343310df759cf061a8a6714ce8ae0d7feb3b9465f43792512cafb19d2", func := "squelch/squelchlaw01.FcsNone", spec := "fcsNone", inPlace := ["internal/abi.NoEscape", "internal/bytealg.MakeNoZero"], apart := false, narrowed := true }
def FcsNoneUptoSaid : Prop := fcsNoneUptoRow.holds Try.pinned (OpenSpec.upto fcsNoneSpec)

/-- 'squelchlaw01.FcsFixes', WHERE WHAT IT READS IS OF BULK AT MOST 1048576: true; the input reads as it did. -/
def fcsFixesUptoRow : OpenClaim := { program := "ytnlmpeklbjnjnaa", sum := "08068c3343310df759cf061a8a6714ce8ae0d7feb3b9465f43792512cafb19d2", func := "squelch/squelchlaw01.FcsFixes", spec := "fcsFixes", inPlace := ["internal/abi.NoEscape", "internal/bytealg.MakeNoZero"], apart := false, narrowed := true }
def FcsFixesUptoSaid : Prop := fcsFixesUptoRow.holds Try.pinned (OpenSpec.upto fcsFixesSpec)

end Rows
end Go.Proofs.Ytnlmpeklbjnjnaa
