/-
  No cell of these rows narrows 'for every input' (looked for: loops, veiled, ifaces, maps, wideKeys, modest, calm, conditions, laid).
  DERIVED. THE GIVEN ROWS OF THIS SEAT. 10 by the template 'for every input the law returns true; each argument reads behind the call as it read before'; 0 by the template 'total and deterministic' (their statements: YtfefieicnmglcaaTotals.lean).
  GIVEN WITH THE SEED: the statements are not yours to turn. If you find one false, say at which input.
  Laid BY PROGRAM, IN A SANDBOX (cutbox-rows.mjs): the forced cells as the released guide's own fill.sh prints them over the translation 705b96fca8261315… (all of the seat's roots in one cut). By AI agents, Wed Nov 11 2026. No macro, syntax, notation, axiom, sorry.
-/
import Derived.Test.YtfefieicnmglcaaChecked
import GoSem.Claim
import GoSem.ClaimJoined
import GoSem.ClaimMapViews
import Derived.JoinedTies
import Derived.KernelRfl
namespace Go.Proofs.Ytfefieicnmglcaa
/- THE CELL 'sum', in the pinned program and in every row, IS THE sha256 OF THE DUMP (.gsa) THAT YtfefieicnmglcaaProg.lean LOADS. Nothing in Lean hashes anything: it is a label: what it is worth is what the hold of that sum in a sandbox is worth. -/
noncomputable def Try.pinned : Pinned := { name := "ytfefieicnmglcaa", sum := "705b96fca82613151f783649edeae104afa96d7c0f617710403b73e4cd6e15aa", checked := Try.checked }
namespace Rows
def none {H : Type} : Left H := { results := [], args := [] }

/-- 'squelchlaw17.CsmaWins': WHATEVER THE INPUT: true; the input reads as it did. -/
def csmaWinsSpec : ChangeSpec := { name := "csmaWins", fn := fun _ => fun
  | [d1, d2] => { results := [.lit (.bool true)], args := [d1, d2] }
  | _ => none }
def csmaWinsRow : OpenClaim := { program := "ytfefieicnmglcaa", sum := "705b96fca82613151f783649edeae104afa96d7c0f617710403b73e4cd6e15aa", func := "squelch/squelchlaw17.CsmaWins", spec := "csmaWins", apart := false }
def CsmaWinsSaid : Prop := csmaWinsRow.holds Try.pinned (OpenSpec.ofChange csmaWinsSpec)

/-- ITS FALSE NEIGHBOUR: 'it returns false'. Refute it at one input. -/
def csmaWinsWrong : ChangeSpec := { name := "csmaWins", fn := fun _ => fun
  | [d1, d2] => { results := [.lit (.bool false)], args := [d1, d2] }
  | _ => none }
def CsmaWinsWrongFalsely : Prop := csmaWinsRow.holds Try.pinned (OpenSpec.ofChange csmaWinsWrong)

/-- 'squelchlaw03.TncApplies': WHATEVER THE INPUT: true; the input reads as it did. -/
def tncAppliesSpec : ChangeSpec := { name := "tncApplies", fn := fun _ => fun
  | [d1, d2] => { results := [.lit (.bool true)], args := [d1, d2] }
  | _ => none }
def tncAppliesRow : OpenClaim := { program := "ytfefieicnmglcaa", sum := "705b96fca82613151f783649edeae104afa96d7c0f617710403b73e4cd6e15aa", func := "squelch/squelchlaw03.TncApplies", spec := "tncApplies", apart := false }
def TncAppliesSaid : Prop := tncAppliesRow.holds Try.pinned (OpenSpec.ofChange tncAppliesSpec)

/-- ITS FALSE NEIGHBOUR: 'it returns false'. Refute it at one input. -/
def tncAppliesWrong : ChangeSpec := { name := "tncApplies", fn := fun _ => fun
  | [d1, d2] => { results := [.lit (.bool false)], args := [d1, d2] }
  | _ => none }
def TncAppliesWrongFalsely : Prop := tncAppliesRow.holds Try.pinned (OpenSpec.ofChange tncAppliesWrong)

/-- 'squelchlaw03.TncWins': WHATEVER THE INPUT: true; the input reads as it did. -/
def tncWinsSpec : ChangeSpec := { name := "tncWins", fn := fun _ => fun
  | [d1, d2] => { results := [.lit (.bool true)], args := [d1, d2] }
  | _ => none }
def tncWinsRow : OpenClaim := { program := "ytfefieicnmglcaa", sum := "705b96fca82613151f783649edeae104afa96d7c0f617710403b73e4cd6e15aa", func := "squelch/squelchlaw03.TncWins", spec := "tncWins", apart := false }
def TncWinsSaid : Prop := tncWinsRow.holds Try.pinned (OpenSpec.ofChange tncWinsSpec)

/-- ITS FALSE NEIGHBOUR: 'it returns false'. Refute it at one input. -/
def tncWinsWrong : ChangeSpec := { name := "tncWins", fn := fun _ => fun
  | [d1, d2] => { results := [.lit (.bool false)], args := [d1, d2] }
  | _ => none }
def TncWinsWrongFalsely : Prop := tncWinsRow.holds Try.pinned (OpenSpec.ofChange tncWinsWrong)

/-- 'squelchlaw17.CsmaSteps': WHATEVER THE INPUT: true; the input reads as it did. -/
def csmaStepsSpec : ChangeSpec := { name := "csmaSteps", fn := fun _ => fun
  | [d] => { results := [.lit (.bool true)], args := [d] }
  | _ => none }
def csmaStepsRow : OpenClaim := { program := "ytfefieicnmglcaa", sum := "705b96fca82613151f783649edeae104afa96d7c0f617710403b73e4cd6e15aa", func := "squelch/squelchlaw17.CsmaSteps", spec := "csmaSteps", apart := false }
def CsmaStepsSaid : Prop := csmaStepsRow.holds Try.pinned (OpenSpec.ofChange csmaStepsSpec)

/-- ITS FALSE NEIGHBOUR: 'it returns false'. Refute it at one input. -/
def csmaStepsWrong : ChangeSpec := { name := "csmaSteps", fn := fun _ => fun
  | [d] => { results := [.lit (.bool false)], args := [d] }
  | _ => none }
def CsmaStepsWrongFalsely : Prop := csmaStepsRow.holds Try.pinned (OpenSpec.ofChange csmaStepsWrong)

/-- 'squelchlaw17.CsmaNone': WHATEVER THE INPUT: true; the input reads as it did. -/
def csmaNoneSpec : ChangeSpec := { name := "csmaNone", fn := fun _ => fun
  | [d] => { results := [.lit (.bool true)], args := [d] }
  | _ => none }
def csmaNoneRow : OpenClaim := { program := "ytfefieicnmglcaa", sum := "705b96fca82613151f783649edeae104afa96d7c0f617710403b73e4cd6e15aa", func := "squelch/squelchlaw17.CsmaNone", spec := "csmaNone", apart := false }
def CsmaNoneSaid : Prop := csmaNoneRow.holds Try.pinned (OpenSpec.ofChange csmaNoneSpec)

/-- ITS FALSE NEIGHBOUR: 'it returns false'. Refute it at one input. -/
def csmaNoneWrong : ChangeSpec := { name := "csmaNone", fn := fun _ => fun
  | [d] => { results := [.lit (.bool false)], args := [d] }
  | _ => none }
def CsmaNoneWrongFalsely : Prop := csmaNoneRow.holds Try.pinned (OpenSpec.ofChange csmaNoneWrong)

/-- 'squelchlaw06.CtlUnlike': WHATEVER THE INPUT: true; the input reads as it did. -/
def ctlUnlikeSpec : ChangeSpec := { name := "ctlUnlike", fn := fun _ => fun
  | [d1, d2, d3] => { results := [.lit (.bool true)], args := [d1, d2, d3] }
  | _ => none }
def ctlUnlikeRow : OpenClaim := { program := "ytfefieicnmglcaa", sum := "705b96fca82613151f783649edeae104afa96d7c0f617710403b73e4cd6e15aa", func := "squelch/squelchlaw06.CtlUnlike", spec := "ctlUnlike", apart := false }
def CtlUnlikeSaid : Prop := ctlUnlikeRow.holds Try.pinned (OpenSpec.ofChange ctlUnlikeSpec)

/-- ITS FALSE NEIGHBOUR: 'it returns false'. Refute it at one input. -/
def ctlUnlikeWrong : ChangeSpec := { name := "ctlUnlike", fn := fun _ => fun
  | [d1, d2, d3] => { results := [.lit (.bool false)], args := [d1, d2, d3] }
  | _ => none }
def CtlUnlikeWrongFalsely : Prop := ctlUnlikeRow.holds Try.pinned (OpenSpec.ofChange ctlUnlikeWrong)

/-- 'squelchlaw06.CtlKinds': WHATEVER THE INPUT: true; the input reads as it did. -/
def ctlKindsSpec : ChangeSpec := { name := "ctlKinds", fn := fun _ => fun
  | [d1, d2] => { results := [.lit (.bool true)], args := [d1, d2] }
  | _ => none }
def ctlKindsRow : OpenClaim := { program := "ytfefieicnmglcaa", sum := "705b96fca82613151f783649edeae104afa96d7c0f617710403b73e4cd6e15aa", func := "squelch/squelchlaw06.CtlKinds", spec := "ctlKinds", apart := false }
def CtlKindsSaid : Prop := ctlKindsRow.holds Try.pinned (OpenSpec.ofChange ctlKindsSpec)

/-- ITS FALSE NEIGHBOUR: 'it returns false'. Refute it at one input. -/
def ctlKindsWrong : ChangeSpec := { name := "ctlKinds", fn := fun _ => fun
  | [d1, d2] => { results := [.lit (.bool false)], args := [d1, d2] }
  | _ => none }
def CtlKindsWrongFalsely : Prop := ctlKindsRow.holds Try.pinned (OpenSpec.ofChange ctlKindsWrong)

/-- 'squelchlaw06.CtlPuts': WHATEVER THE INPUT: true; the input reads as it did. -/
def ctlPutsSpec : ChangeSpec := { name := "ctlPuts", fn := fun _ => fun
  | [d1, d2, d3] => { results := [.lit (.bool true)], args := [d1, d2, d3] }
  | _ => none }
def ctlPutsRow : OpenClaim := { program := "ytfefieicnmglcaa", sum := "705b96fca82613151f783649edeae104afa96d7c0f617710403b73e4cd6e15aa", func := "squelch/squelchlaw06.CtlPuts", spec := "ctlPuts", apart := false }
def CtlPutsSaid : Prop := ctlPutsRow.holds Try.pinned (OpenSpec.ofChange ctlPutsSpec)

/-- ITS FALSE NEIGHBOUR: 'it returns false'. Refute it at one input. -/
def ctlPutsWrong : ChangeSpec := { name := "ctlPuts", fn := fun _ => fun
  | [d1, d2, d3] => { results := [.lit (.bool false)], args := [d1, d2, d3] }
  | _ => none }
def CtlPutsWrongFalsely : Prop := ctlPutsRow.holds Try.pinned (OpenSpec.ofChange ctlPutsWrong)

/-- 'squelchlaw06.CtlModes': WHATEVER THE INPUT: true; the input reads as it did. -/
def ctlModesSpec : ChangeSpec := { name := "ctlModes", fn := fun _ => fun
  | [d1, d2] => { results := [.lit (.bool true)], args := [d1, d2] }
  | _ => none }
def ctlModesRow : OpenClaim := { program := "ytfefieicnmglcaa", sum := "705b96fca82613151f783649edeae104afa96d7c0f617710403b73e4cd6e15aa", func := "squelch/squelchlaw06.CtlModes", spec := "ctlModes", apart := false }
def CtlModesSaid : Prop := ctlModesRow.holds Try.pinned (OpenSpec.ofChange ctlModesSpec)

/-- ITS FALSE NEIGHBOUR: 'it returns false'. Refute it at one input. -/
def ctlModesWrong : ChangeSpec := { name := "ctlModes", fn := fun _ => fun
  | [d1, d2] => { results := [.lit (.bool false)], args := [d1, d2] }
  | _ => none }
def CtlModesWrongFalsely : Prop := ctlModesRow.holds Try.pinned (OpenSpec.ofChange ctlModesWrong)

/-- 'squelchlaw03.TncFrames': WHATEVER THE INPUT: true; the input reads as it did. -/
def tncFramesSpec : ChangeSpec := { name := "tncFrames", fn := fun _ => fun
  | [d1, d2, d3] => { results := [.lit (.bool true)], args := [d1, d2, d3] }
  | _ => none }
def tncFramesRow : OpenClaim := { program := "ytfefieicnmglcaa", sum := "705b96fca82613151f783649edeae104afa96d7c0f617710403b73e4cd6e15aa", func := "squelch/squelchlaw03.TncFrames", spec := "tncFrames", inPlace := ["internal/abi.NoEscape"], apart := false }
def TncFramesSaid : Prop := tncFramesRow.holds Try.pinned (OpenSpec.ofChange tncFramesSpec)

/-- ITS FALSE NEIGHBOUR: 'it returns false'. Refute it at one input. -/
def tncFramesWrong : ChangeSpec := { name := "tncFrames", fn := fun _ => fun
  | [d1, d2, d3] => { results := [.lit (.bool false)], args := [d1, d2, d3] }
  | _ => none }
def TncFramesWrongFalsely : Prop := tncFramesRow.holds Try.pinned (OpenSpec.ofChange tncFramesWrong)

/- THE SECOND FORM. 'bulk': how many values and letters a reading holds, each counted each time it is reached (what is shared counts as often as it is met; a slice's spare places count too). A statement '..UptoSaid' is the law's where the arguments, and the package variables that the reading takes, are together of bulk at most 1048576: NARROWER than '..Said'. Prove '..Said' where nothing that the law and all that it calls make is longer than what came in: it says more and counts as full. Else prove '..UptoSaid'. A law counts once. -/
mutual
def uptoBulk {H : Type} : DataW H → Nat
  | .lit (.string bytes) => bytes.length + 1
  | .lit _ => 1
  | .nil => 1
  | .ptr d => uptoBulk d + 1
  | .slice elems spare => uptoBulkAll elems + uptoBulkAll spare + 1
  | .agg parts => uptoBulkAll parts + 1
  | .iface _ d => uptoBulk d + 1
  | .map entries => uptoBulkEntries entries + 1
  | .held _ => 1
def uptoBulkAll {H : Type} : List (DataW H) → Nat
  | [] => 0
  | d :: r => uptoBulk d + uptoBulkAll r
def uptoBulkEntries {H : Type} : List (Lit × DataW H) → Nat
  | [] => 0
  | x :: r => uptoBulkEntry x + uptoBulkEntries r
def uptoBulkEntry {H : Type} : Lit × DataW H → Nat
  | (.string bytes, d) => bytes.length + uptoBulk d + 1
  | (_, d) => uptoBulk d + 1
 end
def uptoSmall : (H : Type) → List (DataW H) → Bool := fun _ ds => decide (uptoBulkAll ds ≤ 1048576)
def OpenSpec.upto (s : _root_.Go.ChangeSpec) : _root_.Go.OpenSpec := { _root_.Go.OpenSpec.ofChange s with cond := some uptoSmall }

/-- 'squelchlaw17.CsmaWins', WHERE WHAT IT READS IS OF BULK AT MOST 1048576: true; the input reads as it did. -/
def csmaWinsUptoRow : OpenClaim := { program := "ytfefieicnmglcaa", sum := "705b96fca82613151f783649edeae104afa96d7c0f617710403b73e4cd6e15aa", func := "squelch/squelchlaw17.CsmaWins", spec := "csmaWins", apart := false, narrowed := true }
def CsmaWinsUptoSaid : Prop := csmaWinsUptoRow.holds Try.pinned (OpenSpec.upto csmaWinsSpec)

/-- 'squelchlaw03.TncApplies', WHERE WHAT IT READS IS OF BULK AT MOST 1048576: true; the input reads as it did. -/
def tncAppliesUptoRow : OpenClaim := { program := "ytfefieicnmglcaa", sum := "705b96fca82613151f783649edeae104afa96d7c0f617710403b73e4cd6e15aa", func := "squelch/squelchlaw03.TncApplies", spec := "tncApplies", apart := false, narrowed := true }
def TncAppliesUptoSaid : Prop := tncAppliesUptoRow.holds Try.pinned (OpenSpec.upto tncAppliesSpec)

/-- 'squelchlaw03.TncWins', WHERE WHAT IT READS IS OF BULK AT MOST 1048576: true; the input reads as it did. -/
def tncWinsUptoRow : OpenClaim := { program := "ytfefieicnmglcaa", sum := "705b96fca82613151f783649edeae104afa96d7c0f617710403b73e4cd6e15aa", func := "squelch/squelchlaw03.TncWins", spec := "tncWins", apart := false, narrowed := true }
def TncWinsUptoSaid : Prop := tncWinsUptoRow.holds Try.pinned (OpenSpec.upto tncWinsSpec)

/-- 'squelchlaw17.CsmaSteps', WHERE WHAT IT READS IS OF BULK AT MOST 1048576: true; the input reads as it did. -/
def csmaStepsUptoRow : OpenClaim := { program := "ytfefieicnmglcaa", sum := "705b96fca82613151f783649edeae104afa96d7c0f617710403b73e4cd6e15aa", func := "squelch/squelchlaw17.CsmaSteps", spec := "csmaSteps", apart := false, narrowed := true }
def CsmaStepsUptoSaid : Prop := csmaStepsUptoRow.holds Try.pinned (OpenSpec.upto csmaStepsSpec)

/-- 'squelchlaw17.CsmaNone', WHERE WHAT IT READS IS OF BULK AT MOST 1048576: true; the input reads as it did. -/
def csmaNoneUptoRow : OpenClaim := { program := "ytfefieicnmglcaa", sum := "705b96fca82613151f783649edeae104afa96d7c0f617710403b73e4cd6e15aa", func := "squelch/squelchlaw17.CsmaNone", spec := "csmaNone", apart := false, narrowed := true }
def CsmaNoneUptoSaid : Prop := csmaNoneUptoRow.holds Try.pinned (OpenSpec.upto csmaNoneSpec)

/-- 'squelchlaw06.CtlUnlike', WHERE WHAT IT READS IS OF BULK AT MOST 1048576: true; the input reads as it did. -/
def ctlUnlikeUptoRow : OpenClaim := { program := "ytfefieicnmglcaa", sum := "705b96fca82613151f783649edeae104afa96d7c0f617710403b73e4cd6e15aa", func := "squelch/squelchlaw06.CtlUnlike", spec := "ctlUnlike", apart := false, narrowed := true }
def CtlUnlikeUptoSaid : Prop := ctlUnlikeUptoRow.holds Try.pinned (OpenSpec.upto ctlUnlikeSpec)

/-- 'squelchlaw06.CtlKinds', WHERE WHAT IT READS IS OF BULK AT MOST 1048576: true; the input reads as it did. -/
def ctlKindsUptoRow : OpenClaim := { program := "ytfefieicnmglcaa", sum := "705b96fca82613151f783649edeae104afa96d7c0f617710403b73e4cd6e15aa", func := "squelch/squelchlaw06.CtlKinds", spec := "ctlKinds", apart := false, narrowed := true }
def CtlKindsUptoSaid : Prop := ctlKindsUptoRow.holds Try.pinned (OpenSpec.upto ctlKindsSpec)

/-- 'squelchlaw06.CtlPuts', WHERE WHAT IT READS IS OF BULK AT MOST 1048576: true; the input reads as it did. -/
def ctlPutsUptoRow : OpenClaim := { program := "ytfefieicnmglcaa", sum := "705b96fca82613151f783649edeae104afa96d7c0f617710403b73e4cd6e15aa", func := "squelch/squelchlaw06.CtlPuts", spec := "ctlPuts", apart := false, narrowed := true }
def CtlPutsUptoSaid : Prop := ctlPutsUptoRow.holds Try.pinned (OpenSpec.upto ctlPutsSpec)

/-- 'squelchlaw06.CtlModes', WHERE WHAT IT READS IS OF BULK AT MOST 1048576: true; the input reads as it did. -/
def ctlModesUptoRow : OpenClaim := { program := "ytfefieicnmglcaa", sum := "705b96fca82613151f783649edeae104afa96d7c0f617710403b73e4cd6e15aa", func := "squelch/squelchlaw06.CtlModes", spec := "ctlModes", apart := false, narrowed := true }
def CtlModesUptoSaid : Prop := ctlModesUptoRow.holds Try.pinned (OpenSpec.upto ctlModesSpec)

/-- 'squelchlaw03.TncFrames', WHERE WHAT IT READS IS OF BULK AT MOST 1048576: true; the input reads as it did. -/
def tncFramesUptoRow : OpenClaim := { program := "ytfefieicnmglcaa", sum := "705b96fca82613151f783649edeae104afa96d7c0f617710403b73e4cd6e15aa", func := "squelch/squelchlaw03.TncFrames", spec := "tncFrames", inPlace := ["internal/abi.NoEscape"], apart := false, narrowed := true }
def TncFramesUptoSaid : Prop := tncFramesUptoRow.holds Try.pinned (OpenSpec.upto tncFramesSpec)

end Rows
end Go.Proofs.Ytfefieicnmglcaa
