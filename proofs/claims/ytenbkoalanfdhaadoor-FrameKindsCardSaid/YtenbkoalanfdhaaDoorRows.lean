/-
  NARROWER THAN 'FOR EVERY INPUT', by the rows' own cells (each row's printed sentence says how): UiPuts: laid · UiBeacons: laid · UiNone: laid · DigiOnce: laid · DigiSends: laid · DigiNone: laid · HeardLast: laid · HeardNone: laid · FrameKinds: laid · FrameSent: laid.
  DERIVED. THE GIVEN ROWS OF THIS SEAT. 10 by the template 'for every input the law returns true; each argument reads behind the call as it read before'; 0 by the template 'total and deterministic' (their statements: YtenbkoalanfdhaaDoorTotals.lean).
  GIVEN WITH THE SEED: the statements are not yours to turn. If you find one false, say at which input.
  Laid BY PROGRAM, IN A SANDBOX (cutbox-rows.mjs): the forced cells as the released guide's own fill.sh prints them over the translation 1fa2e1f8630df23e… (all of the seat's roots in one cut). By AI agents, Wed Nov 11 2026. No macro, syntax, notation, axiom, sorry.
-/
import Derived.Test.YtenbkoalanfdhaaDoorChecked
import GoSem.PinnedTables
import GoSem.Claim
import GoSem.ClaimJoined
import GoSem.ClaimMapViews
import Derived.JoinedTies
import Derived.KernelRfl
namespace Go.Proofs.YtenbkoalanfdhaaDoor
/- THE CELL 'sum', in the pinned program and in every row, IS THE sha256 OF THE DUMP (.gsa) THAT YtenbkoalanfdhaaDoorProg.lean LOADS. Nothing in Lean hashes anything: it is a label: what it is worth is what the hold of that sum in a sandbox is worth. -/
noncomputable def Tryd.pinned : Pinned := { name := "ytenbkoalanfdhaadoor", sum := "1fa2e1f8630df23e540dda06935889428cf8d7fa03d024f01e3a409eee76461a", checked := Tryd.checked }
namespace Rows
def none {H : Type} : Left H := { results := [], args := [] }

/- WHAT THE LISTED PACKAGE-LEVEL VARIABLES READ AS WHEN THE CALL BEGINS. Each datum BY PROGRAM (the guide's laid-datum.mjs) off the statement by which the dump's own 'gosem.cut.vars' lays the variable. In a bare row this is a premise. The card (YtenbkoalanfdhaaDoorCards.lean) ties it to the program's text. -/
def laid_unicode_utf8_acceptRanges {H : Type} : DataW H := .agg [.agg [.lit (.int .u8 128), .lit (.int .u8 191)], .agg [.lit (.int .u8 160), .lit (.int .u8 191)], .agg [.lit (.int .u8 128), .lit (.int .u8 159)], .agg [.lit (.int .u8 144), .lit (.int .u8 191)], .agg [.lit (.int .u8 128), .lit (.int .u8 143)], .agg [.lit (.int .u8 0), .lit (.int .u8 0)], .agg [.lit (.int .u8 0), .lit (.int .u8 0)], .agg [.lit (.int .u8 0), .lit (.int .u8 0)], .agg [.lit (.int .u8 0), .lit (.int .u8 0)], .agg [.lit (.int .u8 0), .lit (.int .u8 0)], .agg [.lit (.int .u8 0), .lit (.int .u8 0)], .agg [.lit (.int .u8 0), .lit (.int .u8 0)], .agg [.lit (.int .u8 0), .lit (.int .u8 0)], .agg [.lit (.int .u8 0), .lit (.int .u8 0)], .agg [.lit (.int .u8 0), .lit (.int .u8 0)], .agg [.lit (.int .u8 0), .lit (.int .u8 0)]]
/-- One of Go's own tables, pinned by name: the form's constant. -/
def laid_unicode_utf8_first : DataW Unit := Go.Pinned.utf8First
def laid_math_bits_deBruijn32tab {H : Type} : DataW H := .agg [.lit (.int .u8 0), .lit (.int .u8 1), .lit (.int .u8 28), .lit (.int .u8 2), .lit (.int .u8 29), .lit (.int .u8 14), .lit (.int .u8 24), .lit (.int .u8 3), .lit (.int .u8 30), .lit (.int .u8 22), .lit (.int .u8 20), .lit (.int .u8 15), .lit (.int .u8 25), .lit (.int .u8 17), .lit (.int .u8 4), .lit (.int .u8 8), .lit (.int .u8 31), .lit (.int .u8 27), .lit (.int .u8 13), .lit (.int .u8 23), .lit (.int .u8 21), .lit (.int .u8 19), .lit (.int .u8 16), .lit (.int .u8 7), .lit (.int .u8 26), .lit (.int .u8 12), .lit (.int .u8 18), .lit (.int .u8 6), .lit (.int .u8 11), .lit (.int .u8 5), .lit (.int .u8 10), .lit (.int .u8 9)]
def laid_math_bits_deBruijn64tab {H : Type} : DataW H := .agg [.lit (.int .u8 0), .lit (.int .u8 1), .lit (.int .u8 56), .lit (.int .u8 2), .lit (.int .u8 57), .lit (.int .u8 49), .lit (.int .u8 28), .lit (.int .u8 3), .lit (.int .u8 61), .lit (.int .u8 58), .lit (.int .u8 42), .lit (.int .u8 50), .lit (.int .u8 38), .lit (.int .u8 29), .lit (.int .u8 17), .lit (.int .u8 4), .lit (.int .u8 62), .lit (.int .u8 47), .lit (.int .u8 59), .lit (.int .u8 36), .lit (.int .u8 45), .lit (.int .u8 43), .lit (.int .u8 51), .lit (.int .u8 22), .lit (.int .u8 53), .lit (.int .u8 39), .lit (.int .u8 33), .lit (.int .u8 30), .lit (.int .u8 24), .lit (.int .u8 18), .lit (.int .u8 12), .lit (.int .u8 5), .lit (.int .u8 63), .lit (.int .u8 55), .lit (.int .u8 48), .lit (.int .u8 27), .lit (.int .u8 60), .lit (.int .u8 41), .lit (.int .u8 37), .lit (.int .u8 16), .lit (.int .u8 46), .lit (.int .u8 35), .lit (.int .u8 44), .lit (.int .u8 21), .lit (.int .u8 52), .lit (.int .u8 32), .lit (.int .u8 23), .lit (.int .u8 11), .lit (.int .u8 54), .lit (.int .u8 26), .lit (.int .u8 40), .lit (.int .u8 15), .lit (.int .u8 34), .lit (.int .u8 20), .lit (.int .u8 31), .lit (.int .u8 10), .lit (.int .u8 25), .lit (.int .u8 14), .lit (.int .u8 19), .lit (.int .u8 9), .lit (.int .u8 13), .lit (.int .u8 8), .lit (.int .u8 7), .lit (.int .u8 6)]
def laid_internal_strconv_uint64pow10 {H : Type} : DataW H := .agg [.lit (.int .u64 1), .lit (.int .u64 10), .lit (.int .u64 100), .lit (.int .u64 1000), .lit (.int .u64 10000), .lit (.int .u64 100000), .lit (.int .u64 1000000), .lit (.int .u64 10000000), .lit (.int .u64 100000000), .lit (.int .u64 1000000000), .lit (.int .u64 10000000000), .lit (.int .u64 100000000000), .lit (.int .u64 1000000000000), .lit (.int .u64 10000000000000), .lit (.int .u64 100000000000000), .lit (.int .u64 1000000000000000), .lit (.int .u64 10000000000000000), .lit (.int .u64 100000000000000000), .lit (.int .u64 1000000000000000000), .lit (.int .u64 10000000000000000000)]

/-- 'squelchlaw22.UiPuts': WHATEVER THE INPUT: true; the input reads as it did. -/
def uiPutsSpec : ChangeSpec := { name := "uiPuts", fn := fun _ => fun
  | [d1, d2] => { results := [.lit (.bool true)], args := [d1, d2] }
  | _ => none }
def uiPutsRow : OpenClaim := { program := "ytenbkoalanfdhaadoor", sum := "1fa2e1f8630df23e540dda06935889428cf8d7fa03d024f01e3a409eee76461a", func := "squelch/squelchlaw22.UiPuts", spec := "uiPuts", inPlace := ["internal/abi.NoEscape", "internal/bytealg.IndexByteString", "internal/bytealg.IndexString"], unfollowed := true, recurses := true, named := ["unicode/utf8.first", "unicode/utf8.acceptRanges", "internal/bytealg.MaxLen"], plainKeys := false, apart := false, laid := [("unicode/utf8.acceptRanges", laid_unicode_utf8_acceptRanges), ("unicode/utf8.first", laid_unicode_utf8_first)] }
def UiPutsSaid : Prop := uiPutsRow.holds Tryd.pinned (OpenSpec.ofChange uiPutsSpec)

/-- ITS FALSE NEIGHBOUR: 'it returns false'. Refute it at one input. -/
def uiPutsWrong : ChangeSpec := { name := "uiPuts", fn := fun _ => fun
  | [d1, d2] => { results := [.lit (.bool false)], args := [d1, d2] }
  | _ => none }
def UiPutsWrongFalsely : Prop := uiPutsRow.holds Tryd.pinned (OpenSpec.ofChange uiPutsWrong)

/-- 'squelchlaw22.UiBeacons': WHATEVER THE INPUT: true; the input reads as it did. -/
def uiBeaconsSpec : ChangeSpec := { name := "uiBeacons", fn := fun _ => fun
  | [d1, d2] => { results := [.lit (.bool true)], args := [d1, d2] }
  | _ => none }
def uiBeaconsRow : OpenClaim := { program := "ytenbkoalanfdhaadoor", sum := "1fa2e1f8630df23e540dda06935889428cf8d7fa03d024f01e3a409eee76461a", func := "squelch/squelchlaw22.UiBeacons", spec := "uiBeacons", inPlace := ["internal/abi.NoEscape", "internal/bytealg.IndexByteString", "internal/bytealg.IndexString"], unfollowed := true, recurses := true, named := ["unicode/utf8.first", "unicode/utf8.acceptRanges", "internal/bytealg.MaxLen"], plainKeys := false, apart := false, laid := [("unicode/utf8.acceptRanges", laid_unicode_utf8_acceptRanges), ("unicode/utf8.first", laid_unicode_utf8_first)] }
def UiBeaconsSaid : Prop := uiBeaconsRow.holds Tryd.pinned (OpenSpec.ofChange uiBeaconsSpec)

/-- ITS FALSE NEIGHBOUR: 'it returns false'. Refute it at one input. -/
def uiBeaconsWrong : ChangeSpec := { name := "uiBeacons", fn := fun _ => fun
  | [d1, d2] => { results := [.lit (.bool false)], args := [d1, d2] }
  | _ => none }
def UiBeaconsWrongFalsely : Prop := uiBeaconsRow.holds Tryd.pinned (OpenSpec.ofChange uiBeaconsWrong)

/-- 'squelchlaw22.UiNone': WHATEVER THE INPUT: true; the input reads as it did. -/
def uiNoneSpec : ChangeSpec := { name := "uiNone", fn := fun _ => fun
  | [d1, d2] => { results := [.lit (.bool true)], args := [d1, d2] }
  | _ => none }
def uiNoneRow : OpenClaim := { program := "ytenbkoalanfdhaadoor", sum := "1fa2e1f8630df23e540dda06935889428cf8d7fa03d024f01e3a409eee76461a", func := "squelch/squelchlaw22.UiNone", spec := "uiNone", inPlace := ["internal/abi.NoEscape", "internal/bytealg.IndexByteString", "internal/bytealg.IndexString"], unfollowed := true, recurses := true, named := ["unicode/utf8.first", "unicode/utf8.acceptRanges", "internal/bytealg.MaxLen"], plainKeys := false, apart := false, laid := [("unicode/utf8.acceptRanges", laid_unicode_utf8_acceptRanges), ("unicode/utf8.first", laid_unicode_utf8_first)] }
def UiNoneSaid : Prop := uiNoneRow.holds Tryd.pinned (OpenSpec.ofChange uiNoneSpec)

/-- ITS FALSE NEIGHBOUR: 'it returns false'. Refute it at one input. -/
def uiNoneWrong : ChangeSpec := { name := "uiNone", fn := fun _ => fun
  | [d1, d2] => { results := [.lit (.bool false)], args := [d1, d2] }
  | _ => none }
def UiNoneWrongFalsely : Prop := uiNoneRow.holds Tryd.pinned (OpenSpec.ofChange uiNoneWrong)

/-- 'squelchlaw18.DigiOnce': WHATEVER THE INPUT: true; the input reads as it did. -/
def digiOnceSpec : ChangeSpec := { name := "digiOnce", fn := fun _ => fun
  | [d] => { results := [.lit (.bool true)], args := [d] }
  | _ => none }
def digiOnceRow : OpenClaim := { program := "ytenbkoalanfdhaadoor", sum := "1fa2e1f8630df23e540dda06935889428cf8d7fa03d024f01e3a409eee76461a", func := "squelch/squelchlaw18.DigiOnce", spec := "digiOnce", inPlace := ["internal/abi.NoEscape", "internal/bytealg.IndexByteString", "internal/bytealg.IndexString"], unfollowed := true, recurses := true, named := ["unicode/utf8.first", "unicode/utf8.acceptRanges", "internal/bytealg.MaxLen"], plainKeys := false, apart := false, laid := [("unicode/utf8.acceptRanges", laid_unicode_utf8_acceptRanges), ("unicode/utf8.first", laid_unicode_utf8_first)] }
def DigiOnceSaid : Prop := digiOnceRow.holds Tryd.pinned (OpenSpec.ofChange digiOnceSpec)

/-- ITS FALSE NEIGHBOUR: 'it returns false'. Refute it at one input. -/
def digiOnceWrong : ChangeSpec := { name := "digiOnce", fn := fun _ => fun
  | [d] => { results := [.lit (.bool false)], args := [d] }
  | _ => none }
def DigiOnceWrongFalsely : Prop := digiOnceRow.holds Tryd.pinned (OpenSpec.ofChange digiOnceWrong)

/-- 'squelchlaw18.DigiSends': WHATEVER THE INPUT: true; the input reads as it did. -/
def digiSendsSpec : ChangeSpec := { name := "digiSends", fn := fun _ => fun
  | [d1, d2, d3] => { results := [.lit (.bool true)], args := [d1, d2, d3] }
  | _ => none }
def digiSendsRow : OpenClaim := { program := "ytenbkoalanfdhaadoor", sum := "1fa2e1f8630df23e540dda06935889428cf8d7fa03d024f01e3a409eee76461a", func := "squelch/squelchlaw18.DigiSends", spec := "digiSends", inPlace := ["internal/abi.NoEscape", "internal/bytealg.IndexByteString", "internal/bytealg.IndexString"], unfollowed := true, recurses := true, named := ["unicode/utf8.first", "unicode/utf8.acceptRanges", "internal/bytealg.MaxLen"], plainKeys := false, apart := false, laid := [("unicode/utf8.acceptRanges", laid_unicode_utf8_acceptRanges), ("unicode/utf8.first", laid_unicode_utf8_first)] }
def DigiSendsSaid : Prop := digiSendsRow.holds Tryd.pinned (OpenSpec.ofChange digiSendsSpec)

/-- ITS FALSE NEIGHBOUR: 'it returns false'. Refute it at one input. -/
def digiSendsWrong : ChangeSpec := { name := "digiSends", fn := fun _ => fun
  | [d1, d2, d3] => { results := [.lit (.bool false)], args := [d1, d2, d3] }
  | _ => none }
def DigiSendsWrongFalsely : Prop := digiSendsRow.holds Tryd.pinned (OpenSpec.ofChange digiSendsWrong)

/-- 'squelchlaw18.DigiNone': WHATEVER THE INPUT: true; the input reads as it did. -/
def digiNoneSpec : ChangeSpec := { name := "digiNone", fn := fun _ => fun
  | [d1, d2] => { results := [.lit (.bool true)], args := [d1, d2] }
  | _ => none }
def digiNoneRow : OpenClaim := { program := "ytenbkoalanfdhaadoor", sum := "1fa2e1f8630df23e540dda06935889428cf8d7fa03d024f01e3a409eee76461a", func := "squelch/squelchlaw18.DigiNone", spec := "digiNone", inPlace := ["internal/abi.NoEscape", "internal/bytealg.IndexByteString", "internal/bytealg.IndexString"], unfollowed := true, recurses := true, named := ["unicode/utf8.first", "unicode/utf8.acceptRanges", "internal/bytealg.MaxLen"], plainKeys := false, apart := false, laid := [("unicode/utf8.acceptRanges", laid_unicode_utf8_acceptRanges), ("unicode/utf8.first", laid_unicode_utf8_first)] }
def DigiNoneSaid : Prop := digiNoneRow.holds Tryd.pinned (OpenSpec.ofChange digiNoneSpec)

/-- ITS FALSE NEIGHBOUR: 'it returns false'. Refute it at one input. -/
def digiNoneWrong : ChangeSpec := { name := "digiNone", fn := fun _ => fun
  | [d1, d2] => { results := [.lit (.bool false)], args := [d1, d2] }
  | _ => none }
def DigiNoneWrongFalsely : Prop := digiNoneRow.holds Tryd.pinned (OpenSpec.ofChange digiNoneWrong)

/-- 'squelchlaw23.HeardLast': WHATEVER THE INPUT: true; the input reads as it did. -/
def heardLastSpec : ChangeSpec := { name := "heardLast", fn := fun _ => fun
  | [d] => { results := [.lit (.bool true)], args := [d] }
  | _ => none }
def heardLastRow : OpenClaim := { program := "ytenbkoalanfdhaadoor", sum := "1fa2e1f8630df23e540dda06935889428cf8d7fa03d024f01e3a409eee76461a", func := "squelch/squelchlaw23.HeardLast", spec := "heardLast", inPlace := ["internal/abi.NoEscape", "internal/bytealg.IndexByteString", "internal/bytealg.IndexString", "slices.overlaps[squelch/heard.Entry]"], unfollowed := true, recurses := true, named := ["unicode/utf8.first", "unicode/utf8.acceptRanges", "internal/bytealg.MaxLen"], plainKeys := false, apart := false, laid := [("unicode/utf8.acceptRanges", laid_unicode_utf8_acceptRanges), ("unicode/utf8.first", laid_unicode_utf8_first)] }
def HeardLastSaid : Prop := heardLastRow.holds Tryd.pinned (OpenSpec.ofChange heardLastSpec)

/-- ITS FALSE NEIGHBOUR: 'it returns false'. Refute it at one input. -/
def heardLastWrong : ChangeSpec := { name := "heardLast", fn := fun _ => fun
  | [d] => { results := [.lit (.bool false)], args := [d] }
  | _ => none }
def HeardLastWrongFalsely : Prop := heardLastRow.holds Tryd.pinned (OpenSpec.ofChange heardLastWrong)

/-- 'squelchlaw23.HeardNone': WHATEVER THE INPUT: true; the input reads as it did. -/
def heardNoneSpec : ChangeSpec := { name := "heardNone", fn := fun _ => fun
  | [d1, d2] => { results := [.lit (.bool true)], args := [d1, d2] }
  | _ => none }
def heardNoneRow : OpenClaim := { program := "ytenbkoalanfdhaadoor", sum := "1fa2e1f8630df23e540dda06935889428cf8d7fa03d024f01e3a409eee76461a", func := "squelch/squelchlaw23.HeardNone", spec := "heardNone", inPlace := ["internal/abi.NoEscape", "internal/bytealg.IndexByteString", "internal/bytealg.IndexString", "slices.overlaps[squelch/heard.Entry]"], unfollowed := true, recurses := true, named := ["unicode/utf8.first", "unicode/utf8.acceptRanges", "internal/bytealg.MaxLen"], plainKeys := false, apart := false, laid := [("unicode/utf8.acceptRanges", laid_unicode_utf8_acceptRanges), ("unicode/utf8.first", laid_unicode_utf8_first)] }
def HeardNoneSaid : Prop := heardNoneRow.holds Tryd.pinned (OpenSpec.ofChange heardNoneSpec)

/-- ITS FALSE NEIGHBOUR: 'it returns false'. Refute it at one input. -/
def heardNoneWrong : ChangeSpec := { name := "heardNone", fn := fun _ => fun
  | [d1, d2] => { results := [.lit (.bool false)], args := [d1, d2] }
  | _ => none }
def HeardNoneWrongFalsely : Prop := heardNoneRow.holds Tryd.pinned (OpenSpec.ofChange heardNoneWrong)

/-- 'squelchlaw07.FrameKinds': WHATEVER THE INPUT: true; the input reads as it did. -/
def frameKindsSpec : ChangeSpec := { name := "frameKinds", fn := fun _ => fun
  | [d] => { results := [.lit (.bool true)], args := [d] }
  | _ => none }
def frameKindsRow : OpenClaim := { program := "ytenbkoalanfdhaadoor", sum := "1fa2e1f8630df23e540dda06935889428cf8d7fa03d024f01e3a409eee76461a", func := "squelch/squelchlaw07.FrameKinds", spec := "frameKinds", inPlace := ["internal/abi.NoEscape", "internal/bytealg.IndexByteString", "internal/bytealg.IndexString"], unfollowed := true, recurses := true, named := ["internal/strconv.uint64pow10", "math/bits.deBruijn32tab", "math/bits.deBruijn64tab", "unicode/utf8.first", "unicode/utf8.acceptRanges", "internal/bytealg.MaxLen"], plainKeys := false, apart := false, laid := [("math/bits.deBruijn32tab", laid_math_bits_deBruijn32tab), ("math/bits.deBruijn64tab", laid_math_bits_deBruijn64tab), ("internal/strconv.uint64pow10", laid_internal_strconv_uint64pow10), ("unicode/utf8.acceptRanges", laid_unicode_utf8_acceptRanges), ("unicode/utf8.first", laid_unicode_utf8_first)] }
def FrameKindsSaid : Prop := frameKindsRow.holds Tryd.pinned (OpenSpec.ofChange frameKindsSpec)

/-- ITS FALSE NEIGHBOUR: 'it returns false'. Refute it at one input. -/
def frameKindsWrong : ChangeSpec := { name := "frameKinds", fn := fun _ => fun
  | [d] => { results := [.lit (.bool false)], args := [d] }
  | _ => none }
def FrameKindsWrongFalsely : Prop := frameKindsRow.holds Tryd.pinned (OpenSpec.ofChange frameKindsWrong)

/-- 'squelchlaw07.FrameSent': WHATEVER THE INPUT: true; the input reads as it did. -/
def frameSentSpec : ChangeSpec := { name := "frameSent", fn := fun _ => fun
  | [d1, d2] => { results := [.lit (.bool true)], args := [d1, d2] }
  | _ => none }
def frameSentRow : OpenClaim := { program := "ytenbkoalanfdhaadoor", sum := "1fa2e1f8630df23e540dda06935889428cf8d7fa03d024f01e3a409eee76461a", func := "squelch/squelchlaw07.FrameSent", spec := "frameSent", inPlace := ["internal/abi.NoEscape", "internal/bytealg.IndexByteString", "internal/bytealg.IndexString"], unfollowed := true, recurses := true, named := ["internal/strconv.uint64pow10", "math/bits.deBruijn32tab", "math/bits.deBruijn64tab", "unicode/utf8.first", "unicode/utf8.acceptRanges", "internal/bytealg.MaxLen"], plainKeys := false, apart := false, laid := [("math/bits.deBruijn32tab", laid_math_bits_deBruijn32tab), ("math/bits.deBruijn64tab", laid_math_bits_deBruijn64tab), ("internal/strconv.uint64pow10", laid_internal_strconv_uint64pow10), ("unicode/utf8.acceptRanges", laid_unicode_utf8_acceptRanges), ("unicode/utf8.first", laid_unicode_utf8_first)] }
def FrameSentSaid : Prop := frameSentRow.holds Tryd.pinned (OpenSpec.ofChange frameSentSpec)

/-- ITS FALSE NEIGHBOUR: 'it returns false'. Refute it at one input. -/
def frameSentWrong : ChangeSpec := { name := "frameSent", fn := fun _ => fun
  | [d1, d2] => { results := [.lit (.bool false)], args := [d1, d2] }
  | _ => none }
def FrameSentWrongFalsely : Prop := frameSentRow.holds Tryd.pinned (OpenSpec.ofChange frameSentWrong)

/- THE SECOND FORM. 'bulk': how many values and letters a reading holds, each counted each time it is reached (what is shared counts as often as it is met; a slice's spare places count too). A statement '..UptoSaid' is the law's where the arguments, and the package variables that the reading takes, are together of bulk at most 1048576: NARROWER than '..Said'. Prove '..Said' where nothing that the law and all that it calls make is longer than what came in: it says more and counts as full. Else prove '..UptoSaid'. A law counts once. -/
mutual
def uptoBulk {H : Type} : DataW H → Nat
  | .lit (.string bytes) => bytes.length + 1
  | .lit _ => 1
  | .nil => 1
  | .ptr d => uptoBulk d + 1
  | .slice elems spare => uptoBulkAll elems + uptoBulkAll spare + 1
  | .agg parts => uptoBulkAll parts + 1
  | .iface _ d => uptoBulk d + 1
  | .map entries => uptoBulkEntries entries + 1
  | .held _ => 1
def uptoBulkAll {H : Type} : List (DataW H) → Nat
  | [] => 0
  | d :: r => uptoBulk d + uptoBulkAll r
def uptoBulkEntries {H : Type} : List (Lit × DataW H) → Nat
  | [] => 0
  | x :: r => uptoBulkEntry x + uptoBulkEntries r
def uptoBulkEntry {H : Type} : Lit × DataW H → Nat
  | (.string bytes, d) => bytes.length + uptoBulk d + 1
  | (_, d) => uptoBulk d + 1
 end
def uptoSmall : (H : Type) → List (DataW H) → Bool := fun _ ds => decide (uptoBulkAll ds ≤ 1048576)
def OpenSpec.upto (s : _root_.Go.ChangeSpec) : _root_.Go.OpenSpec := { _root_.Go.OpenSpec.ofChange s with cond := some uptoSmall }

/-- 'squelchlaw22.UiPuts', WHERE WHAT IT READS IS OF BULK AT MOST 1048576: true; the input reads as it did. -/
def uiPutsUptoRow : OpenClaim := { program := "ytenbkoalanfdhaadoor", sum := "1fa2e1f8630df23e540dda06935889428cf8d7fa03d024f01e3a409eee76461a", func := "squelch/squelchlaw22.UiPuts", spec := "uiPuts", inPlace := ["internal/abi.NoEscape", "internal/bytealg.IndexByteString", "internal/bytealg.IndexString"], unfollowed := true, recurses := true, named := ["unicode/utf8.first", "unicode/utf8.acceptRanges", "internal/bytealg.MaxLen"], plainKeys := false, apart := false, laid := [("unicode/utf8.acceptRanges", laid_unicode_utf8_acceptRanges), ("unicode/utf8.first", laid_unicode_utf8_first)], narrowed := true }
def UiPutsUptoSaid : Prop := uiPutsUptoRow.holds Tryd.pinned (OpenSpec.upto uiPutsSpec)

/-- 'squelchlaw22.UiBeacons', WHERE WHAT IT READS IS OF BULK AT MOST 1048576: true; the input reads as it did. -/
def uiBeaconsUptoRow : OpenClaim := { program := "ytenbkoalanfdhaadoor", sum := "1fa2e1f8630df23e540dda06935889428cf8d7fa03d024f01e3a409eee76461a", func := "squelch/squelchlaw22.UiBeacons", spec := "uiBeacons", inPlace := ["internal/abi.NoEscape", "internal/bytealg.IndexByteString", "internal/bytealg.IndexString"], unfollowed := true, recurses := true, named := ["unicode/utf8.first", "unicode/utf8.acceptRanges", "internal/bytealg.MaxLen"], plainKeys := false, apart := false, laid := [("unicode/utf8.acceptRanges", laid_unicode_utf8_acceptRanges), ("unicode/utf8.first", laid_unicode_utf8_first)], narrowed := true }
def UiBeaconsUptoSaid : Prop := uiBeaconsUptoRow.holds Tryd.pinned (OpenSpec.upto uiBeaconsSpec)

/-- 'squelchlaw22.UiNone', WHERE WHAT IT READS IS OF BULK AT MOST 1048576: true; the input reads as it did. -/
def uiNoneUptoRow : OpenClaim := { program := "ytenbkoalanfdhaadoor", sum := "1fa2e1f8630df23e540dda06935889428cf8d7fa03d024f01e3a409eee76461a", func := "squelch/squelchlaw22.UiNone", spec := "uiNone", inPlace := ["internal/abi.NoEscape", "internal/bytealg.IndexByteString", "internal/bytealg.IndexString"], unfollowed := true, recurses := true, named := ["unicode/utf8.first", "unicode/utf8.acceptRanges", "internal/bytealg.MaxLen"], plainKeys := false, apart := false, laid := [("unicode/utf8.acceptRanges", laid_unicode_utf8_acceptRanges), ("unicode/utf8.first", laid_unicode_utf8_first)], narrowed := true }
def UiNoneUptoSaid : Prop := uiNoneUptoRow.holds Tryd.pinned (OpenSpec.upto uiNoneSpec)

/-- 'squelchlaw18.DigiOnce', WHERE WHAT IT READS IS OF BULK AT MOST 1048576: true; the input reads as it did. -/
def digiOnceUptoRow : OpenClaim := { program := "ytenbkoalanfdhaadoor", sum := "1fa2e1f8630df23e540dda06935889428cf8d7fa03d024f01e3a409eee76461a", func := "squelch/squelchlaw18.DigiOnce", spec := "digiOnce", inPlace := ["internal/abi.NoEscape", "internal/bytealg.IndexByteString", "internal/bytealg.IndexString"], unfollowed := true, recurses := true, named := ["unicode/utf8.first", "unicode/utf8.acceptRanges", "internal/bytealg.MaxLen"], plainKeys := false, apart := false, laid := [("unicode/utf8.acceptRanges", laid_unicode_utf8_acceptRanges), ("unicode/utf8.first", laid_unicode_utf8_first)], narrowed := true }
def DigiOnceUptoSaid : Prop := digiOnceUptoRow.holds Tryd.pinned (OpenSpec.upto digiOnceSpec)

/-- 'squelchlaw18.DigiSends', WHERE WHAT IT READS IS OF BULK AT MOST 1048576: true; the input reads as it did. -/
def digiSendsUptoRow : OpenClaim := { program := "ytenbkoalanfdhaadoor", sum := "1fa2e1f8630df23e540dda06935889428cf8d7fa03d024f01e3a409eee76461a", func := "squelch/squelchlaw18.DigiSends", spec := "digiSends", inPlace := ["internal/abi.NoEscape", "internal/bytealg.IndexByteString", "internal/bytealg.IndexString"], unfollowed := true, recurses := true, named := ["unicode/utf8.first", "unicode/utf8.acceptRanges", "internal/bytealg.MaxLen"], plainKeys := false, apart := false, laid := [("unicode/utf8.acceptRanges", laid_unicode_utf8_acceptRanges), ("unicode/utf8.first", laid_unicode_utf8_first)], narrowed := true }
def DigiSendsUptoSaid : Prop := digiSendsUptoRow.holds Tryd.pinned (OpenSpec.upto digiSendsSpec)

/-- 'squelchlaw18.DigiNone', WHERE WHAT IT READS IS OF BULK AT MOST 1048576: true; the input reads as it did. -/
def digiNoneUptoRow : OpenClaim := { program := "ytenbkoalanfdhaadoor", sum := "1fa2e1f8630df23e540dda06935889428cf8d7fa03d024f01e3a409eee76461a", func := "squelch/squelchlaw18.DigiNone", spec := "digiNone", inPlace := ["internal/abi.NoEscape", "internal/bytealg.IndexByteString", "internal/bytealg.IndexString"], unfollowed := true, recurses := true, named := ["unicode/utf8.first", "unicode/utf8.acceptRanges", "internal/bytealg.MaxLen"], plainKeys := false, apart := false, laid := [("unicode/utf8.acceptRanges", laid_unicode_utf8_acceptRanges), ("unicode/utf8.first", laid_unicode_utf8_first)], narrowed := true }
def DigiNoneUptoSaid : Prop := digiNoneUptoRow.holds Tryd.pinned (OpenSpec.upto digiNoneSpec)

/-- 'squelchlaw23.HeardLast', WHERE WHAT IT READS IS OF BULK AT MOST 1048576: true; the input reads as it did. -/
def heardLastUptoRow : OpenClaim := { program := "ytenbkoalanfdhaadoor", sum := "1fa2e1f8630df23e540dda06935889428cf8d7fa03d024f01e3a409eee76461a", func := "squelch/squelchlaw23.HeardLast", spec := "heardLast", inPlace := ["internal/abi.NoEscape", "internal/bytealg.IndexByteString", "internal/bytealg.IndexString", "slices.overlaps[squelch/heard.Entry]"], unfollowed := true, recurses := true, named := ["unicode/utf8.first", "unicode/utf8.acceptRanges", "internal/bytealg.MaxLen"], plainKeys := false, apart := false, laid := [("unicode/utf8.acceptRanges", laid_unicode_utf8_acceptRanges), ("unicode/utf8.first", laid_unicode_utf8_first)], narrowed := true }
def HeardLastUptoSaid : Prop := heardLastUptoRow.holds Tryd.pinned (OpenSpec.upto heardLastSpec)

/-- 'squelchlaw23.HeardNone', WHERE WHAT IT READS IS OF BULK AT MOST 1048576: true; the input reads as it did. -/
def heardNoneUptoRow : OpenClaim := { program := "ytenbkoalanfdhaadoor", sum := "1fa2e1f8630df23e540dda06935889428cf8d7fa03d024f01e3a409eee76461a", func := "squelch/squelchlaw23.HeardNone", spec := "heardNone", inPlace := ["internal/abi.NoEscape", "internal/bytealg.IndexByteString", "internal/bytealg.IndexString", "slices.overlaps[squelch/heard.Entry]"], unfollowed := true, recurses := true, named := ["unicode/utf8.first", "unicode/utf8.acceptRanges", "internal/bytealg.MaxLen"], plainKeys := false, apart := false, laid := [("unicode/utf8.acceptRanges", laid_unicode_utf8_acceptRanges), ("unicode/utf8.first", laid_unicode_utf8_first)], narrowed := true }
def HeardNoneUptoSaid : Prop := heardNoneUptoRow.holds Tryd.pinned (OpenSpec.upto heardNoneSpec)

/-- 'squelchlaw07.FrameKinds', WHERE WHAT IT READS IS OF BULK AT MOST 1048576: true; the input reads as it did. -/
def frameKindsUptoRow : OpenClaim := { program := "ytenbkoalanfdhaadoor", sum := "1fa2e1f8630df23e540dda06935889428cf8d7fa03d024f01e3a409eee76461a", func := "squelch/squelchlaw07.FrameKinds", spec := "frameKinds", inPlace := ["internal/abi.NoEscape", "internal/bytealg.IndexByteString", "internal/bytealg.IndexString"], unfollowed := true, recurses := true, named := ["internal/strconv.uint64pow10", "math/bits.deBruijn32tab", "math/bits.deBruijn64tab", "unicode/utf8.first", "unicode/utf8.acceptRanges", "internal/bytealg.MaxLen"], plainKeys := false, apart := false, laid := [("math/bits.deBruijn32tab", laid_math_bits_deBruijn32tab), ("math/bits.deBruijn64tab", laid_math_bits_deBruijn64tab), ("internal/strconv.uint64pow10", laid_internal_strconv_uint64pow10), ("unicode/utf8.acceptRanges", laid_unicode_utf8_acceptRanges), ("unicode/utf8.first", laid_unicode_utf8_first)], narrowed := true }
def FrameKindsUptoSaid : Prop := frameKindsUptoRow.holds Tryd.pinned (OpenSpec.upto frameKindsSpec)

/-- 'squelchlaw07.FrameSent', WHERE WHAT IT READS IS OF BULK AT MOST 1048576: true; the input reads as it did. -/
def frameSentUptoRow : OpenClaim := { program := "ytenbkoalanfdhaadoor", sum := "1fa2e1f8630df23e540dda06935889428cf8d7fa03d024f01e3a409eee76461a", func := "squelch/squelchlaw07.FrameSent", spec := "frameSent", inPlace := ["internal/abi.NoEscape", "internal/bytealg.IndexByteString", "internal/bytealg.IndexString"], unfollowed := true, recurses := true, named := ["internal/strconv.uint64pow10", "math/bits.deBruijn32tab", "math/bits.deBruijn64tab", "unicode/utf8.first", "unicode/utf8.acceptRanges", "internal/bytealg.MaxLen"], plainKeys := false, apart := false, laid := [("math/bits.deBruijn32tab", laid_math_bits_deBruijn32tab), ("math/bits.deBruijn64tab", laid_math_bits_deBruijn64tab), ("internal/strconv.uint64pow10", laid_internal_strconv_uint64pow10), ("unicode/utf8.acceptRanges", laid_unicode_utf8_acceptRanges), ("unicode/utf8.first", laid_unicode_utf8_first)], narrowed := true }
def FrameSentUptoSaid : Prop := frameSentUptoRow.holds Tryd.pinned (OpenSpec.upto frameSentSpec)

end Rows
end Go.Proofs.YtenbkoalanfdhaaDoor
