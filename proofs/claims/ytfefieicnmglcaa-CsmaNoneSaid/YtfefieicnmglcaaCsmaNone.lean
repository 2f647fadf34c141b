/- A gate that is not there never lets anything go: the law csmaNone answers true at every input, and leaves its argument as it was. -/
import Derived.Test.YtfefieicnmglcaaRows
import Derived.Test.YtfefieicnmglcaaH
import Derived.Test.YtfefieicnmglcaaLgU
import Derived.WalkKit
import Derived.ProofKit
import Derived.OpenShut
import Derived.ShutString
import Derived.ChangeOld
import Derived.Below
namespace Go.Proofs.Ytfefieicnmglcaa.CsmaNone
open Go.ChangeShapes Go.WideShapes Go.ChangeAt Go.RowKit Go.Lg

set_option maxRecDepth 8000
set_option linter.unusedVariables false

theorem own : ownKnob Try.prog.godebug = none := by kernel_rfl
theorem laidOut : laidOutB Try.prog = true := by kernel_rfl

variable {H : Type} {enc : TypeId × Value → H}

theorem tyOp : okTy Try.prog 4 34 = true := by kernel_rfl

theorem opOf {m : Mem} {xs : List Value} (h : TyL Try.prog m 4 34 xs) : ∃ a b s d f waits busy draw, xs = [.int .i64 a, .int .i64 b, .int .i64 s, .int .i64 d, .bool f, .bool waits, .bool busy, .int .i64 draw] := by
  simp only [TyL, TyAll, Try.underlying34, Try.underlying24, Try.underlying3, Try.underlying4, List.map_cons, List.map_nil] at h
  obtain ⟨_, _, rfl, ⟨_, _, rfl, ⟨a, rfl, ha⟩, _, _, rfl, ⟨b, rfl, hb⟩, _, _, rfl, ⟨s, rfl, hs⟩, _, _, rfl, ⟨d, rfl, hd⟩, _, _, rfl, ⟨f, rfl⟩, rfl⟩, _, _, rfl, ⟨waits, rfl⟩, _, _, rfl, ⟨busy, rfl⟩, _, _, rfl, ⟨draw, rfl, hw⟩, rfl⟩ := h
  exact ⟨a, b, s, d, f, waits, busy, draw, rfl⟩

theorem walk (v : Value) (w : World) (hv : ∃ cs, v = .agg cs) (h : isTrod (H := H) enc Try.prog w true 4 34 v.cells.toList) :
    Calls Try.prog 7 #[v] w fun e w' => e = .returned (.bool true) ∧ Below w.heap.size w w' := by
  obtain ⟨cs, rfl⟩ := hv
  obtain ⟨r, g, xs, h1, h2, _, h3, h4⟩ := opener 4 34 _ h _ _ (MR.nil w)
  obtain ⟨a, b, s, d, f, waits, busy, draw, rfl⟩ := opOf h4
  exact law_below (none_law a b s d f waits busy draw _) h1 (by simpa using h2) (.cons (VR.ofAgg h3) .nil)

set_option maxRecDepth 100000 in
theorem lifted (os : Os) (started : os.Started) (H : Type) (enc : TypeId × Value → H) :
    ReturnsInHanded {} Try.checked os 7 .any (Rows.csmaNoneSpec.pre6 enc Try.prog Try.f7 Rows.csmaNoneRow.domain false) (Rows.csmaNoneSpec.post enc Try.prog Try.f7 false true false false) := by
  refine returnsInHanded_of_change (C := Try.checked) own started (by kernel_rfl) Try.func7
    (ChangeSpec.witness6 (enc := enc) (C := Try.checked) false ⟨#[], #[.agg #[.int .i64 0, .int .i64 0, .int .i64 0, .int .i64 0, .bool false, .bool false, .bool false, .int .i64 0]], []⟩ 8 (by kernel_rfl) (by kernel_rfl) (by kernel_rfl) (by kernel_rfl)) ?_
  intro W base args ds gs before hval0 hW hcnd _
  have hval : ∀ (j : Nat) t v, Try.f7.params[j]? = some t → args[j]? = some v → Value.okWide Try.prog W .any base t v := hval0
  have hW' := hW
  obtain ⟨p, q, hA0, hV, rfl, hfz, hnd⟩ := hW
  have hA : DataW.TrodAll enc Try.prog W 0 (fun _ => true) true Try.f7.params.toList args.toList ds p := hA0
  rw [Try.params7] at hA hval
  obtain ⟨v0, vs0, d0, ds0, p0, q0, hargs, rfl, rfl, h0, r0⟩ := trodAll_cons hA
  obtain ⟨rfl, rfl, rfl⟩ := trodAll_nil r0
  obtain rfl : args = #[v0] := by cases args; simp_all
  obtain ⟨rfl, rfl⟩ := trodVars_none hV
  obtain ⟨cs0, hc0, _⟩ := okWide_struct Try.underlying34 (hval 0 34 v0 rfl rfl)
  have k0 := h0
  have lt0 : ∀ x ∈ p0, x.block < W.heap.size := by obtain ⟨m, hm⟩ := k0; exact DataW.trod_lt m _ _ _ hm
  clear hA0 hval0
  refine (walk v0 W ⟨cs0, hc0⟩ ⟨tyOp, by obtain ⟨F, h⟩ := h0; exact ⟨F, _, h⟩⟩).mono fun e W' ⟨he, bel⟩ => ?_
  subst he
  exact ⟨_, rfl, _, _, _, [], _, [], hW', trodAll_mk1 (shut_bool Try.underlying4 _), (trodAll_cons_mk (Below.trod laidOut (by kernel_rfl) (of_decide_eq_true (by kernel_rfl)) k0 bel lt0) trodAll_mk0), rfl, bel.frame _, fun h => by cases h⟩

theorem proved : Rows.CsmaNoneSaid :=
  OpenClaim.holds_of_wide 7 Try.f7 rfl rfl rfl rfl rfl rfl rfl ⟨rfl, rfl, rfl, rfl, rfl⟩ rfl rfl rfl rfl rfl (by kernel_rfl) Try.func7 (by kernel_rfl)
    (of_decide_eq_true (by kernel_rfl)) (by unfold Func.isWrapper; first | (rw [if_pos (by decide +kernel)]; kernel_rfl) | (rw [if_neg (by decide +kernel)]; exact ⟨rfl, rfl⟩))
    (fun os started H enc _ => lifted os started H enc)
end Go.Proofs.Ytfefieicnmglcaa.CsmaNone
