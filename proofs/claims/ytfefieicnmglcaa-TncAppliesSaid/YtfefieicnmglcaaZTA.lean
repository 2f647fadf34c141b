/- Contracts of the functions that the laws call, each walked once. -/
import Derived.Test.YtfefieicnmglcaaF
import Derived.Test.YtfefieicnmglcaaLgAK
namespace Go.Proofs.Ytfefieicnmglcaa
open Go.Lg
set_option maxRecDepth 8000
set_option linter.unusedSimpArgs false
set_option linter.unnecessarySimpa false
set_option linter.unusedVariables false

theorem in_spec (a b : Int) (m : Mem) (K : Value → Mem → Prop) (hk : K (.bool (decide (0 ≤ a ∧ a ≤ b))) m) : LCall Try.prog 44 [.int .i64 a, .int .i64 b] m K := by
  refine LCall_enter Try.func44 c44 ?_
  simp (contextual := true) (implicitDefEqProofs := false) (maxSteps := 2000000) (disch := first | rfl | exact Nat.le_of_ble_eq_true rfl | omega | (simp only [List.length_append, List.length_cons, List.length_nil, List.length_set]; omega)) only [L44, X1, X2, X3, X4, XA, XB, lc_block, lc_cond, XZ, undef_eq, Nat.reduceAdd, Nat.reduceSub, ↓reduceIte, basic, cellsL, resOf, setAt, below, belowB, belowA, atomB, Nat.reduceLeDiff, Nat.reduceMul, Int.reduceToNat, Int.reduceLT, Int.reduceLE, Int.reduceAdd, Int.reduceNeg, Int.reduceEq, splice, Nat.reduceEqDiff, Nat.reduceLT, isAtom, Int.reduceSub, Int.reduceMul, implies_true]
  exact ifI (fun h => by simpa [h] using hk) (fun h => by simpa [h] using hk)

theorem numbers_spec (i : Nat) (m : Mem) (hi : i < m.length) (K : Value → Mem → Prop) (hk : K (.agg #[.pointer (some ⟨i, 0, none⟩), .pointer (some ⟨i, 1, none⟩), .pointer (some ⟨i, 2, none⟩), .pointer (some ⟨i, 3, none⟩)]) m) : LCall Try.prog 43 [.pointer (some ⟨i, 0, none⟩)] m K := by
  refine LCall_drop (LCall_enter Try.func43 c43 ?_)
  simp (contextual := true) (implicitDefEqProofs := false) (maxSteps := 2000000) (disch := first | rfl | exact Nat.le_of_ble_eq_true rfl | omega | (simp only [List.length_append, List.length_cons, List.length_nil, List.length_set]; omega)) only [L43, X1, X2, X3, X4, XA, XB, lc_block, lc_cond, XZ, undef_eq, Nat.reduceAdd, Nat.reduceSub, ↓reduceIte, basic, cellsL, resOf, setAt, below, belowB, belowA, atomB, Nat.reduceLeDiff, Nat.reduceMul, Int.reduceToNat, Int.reduceLT, Int.reduceLE, Int.reduceAdd, Int.reduceNeg, Int.reduceEq, splice, Nat.reduceEqDiff, Nat.reduceLT, isAtom, Int.reduceSub, Int.reduceMul, implies_true]
  exact ⟨hi, hk⟩

def rightB (a b c d : Int) : Bool := decide ((0 ≤ a ∧ a ≤ 255) ∧ (0 ≤ b ∧ b ≤ 255) ∧ (0 ≤ c ∧ c ≤ 255) ∧ (0 ≤ d ∧ d ≤ 255))

theorem right_spec (a b c d : Int) (f : Bool) (m : Mem) (K : Value → Mem → Prop) (hk : K (.bool (rightB a b c d)) m) : LCall Try.prog 21 [.agg #[.int .i64 a, .int .i64 b, .int .i64 c, .int .i64 d, .bool f]] m K := by
  refine LCall_drop (LCall_enter Try.func21 c21 ?_)
  simp (contextual := true) (implicitDefEqProofs := false) (maxSteps := 2000000) (disch := first | rfl | exact Nat.le_of_ble_eq_true rfl | omega | (simp only [List.length_append, List.length_cons, List.length_nil, List.length_set]; omega)) only [L21, X1, X2, X3, X4, XA, XB, lc_block, lc_cond, XZ, undef_eq, Nat.reduceAdd, Nat.reduceSub, ↓reduceIte, basic, cellsL, resOf, setAt, below, belowB, belowA, atomB, Nat.reduceLeDiff, Nat.reduceMul, Int.reduceToNat, Int.reduceLT, Int.reduceLE, Int.reduceAdd, Int.reduceNeg, Int.reduceEq, splice, Nat.reduceEqDiff, Nat.reduceLT, isAtom, Int.reduceSub, Int.reduceMul, implies_true]
  refine numbers_spec _ _ (by simp) _ ?_
  simp (contextual := true) (implicitDefEqProofs := false) (maxSteps := 2000000) (disch := first | rfl | exact Nat.le_of_ble_eq_true rfl | omega | (simp only [List.length_append, List.length_cons, List.length_nil, List.length_set]; omega)) only [lc_loop, X1, X2, X3, X4, XA, XB, lc_block, lc_cond, XZ, undef_eq, Nat.reduceAdd, Nat.reduceSub, ↓reduceIte, basic, cellsL, resOf, setAt, below, belowB, belowA, atomB, Nat.reduceLeDiff, Nat.reduceMul, Int.reduceToNat, Int.reduceLT, Int.reduceLE, Int.reduceAdd, Int.reduceNeg, Int.reduceEq, splice, Nat.reduceEqDiff, Nat.reduceLT, isAtom, Int.reduceSub, Int.reduceMul, implies_true]
  refine in_spec _ _ _ _ ?_
  simp (contextual := true) (implicitDefEqProofs := false) (maxSteps := 2000000) (disch := first | rfl | exact Nat.le_of_ble_eq_true rfl | omega | (simp only [List.length_append, List.length_cons, List.length_nil, List.length_set]; omega)) only [lc_loop, X1, X2, X3, X4, XA, XB, lc_block, lc_cond, XZ, undef_eq, Nat.reduceAdd, Nat.reduceSub, ↓reduceIte, basic, cellsL, resOf, setAt, below, belowB, belowA, atomB, Nat.reduceLeDiff, Nat.reduceMul, Int.reduceToNat, Int.reduceLT, Int.reduceLE, Int.reduceAdd, Int.reduceNeg, Int.reduceEq, splice, Nat.reduceEqDiff, Nat.reduceLT, isAtom, Int.reduceSub, Int.reduceMul, implies_true]
  refine ifI (fun h1 => ?_) (fun h1 => ?_)
  · simp at h1; rw [show rightB a b c d = false from decide_eq_false (by omega)] at hk; exact hk
  refine in_spec _ _ _ _ ?_
  simp (contextual := true) (implicitDefEqProofs := false) (maxSteps := 2000000) (disch := first | rfl | exact Nat.le_of_ble_eq_true rfl | omega | (simp only [List.length_append, List.length_cons, List.length_nil, List.length_set]; omega)) only [lc_loop, X1, X2, X3, X4, XA, XB, lc_block, lc_cond, XZ, undef_eq, Nat.reduceAdd, Nat.reduceSub, ↓reduceIte, basic, cellsL, resOf, setAt, below, belowB, belowA, atomB, Nat.reduceLeDiff, Nat.reduceMul, Int.reduceToNat, Int.reduceLT, Int.reduceLE, Int.reduceAdd, Int.reduceNeg, Int.reduceEq, splice, Nat.reduceEqDiff, Nat.reduceLT, isAtom, Int.reduceSub, Int.reduceMul, implies_true]
  refine ifI (fun h2 => ?_) (fun h2 => ?_)
  · simp at h2; rw [show rightB a b c d = false from decide_eq_false (by omega)] at hk; exact hk
  refine in_spec _ _ _ _ ?_
  simp (contextual := true) (implicitDefEqProofs := false) (maxSteps := 2000000) (disch := first | rfl | exact Nat.le_of_ble_eq_true rfl | omega | (simp only [List.length_append, List.length_cons, List.length_nil, List.length_set]; omega)) only [lc_loop, X1, X2, X3, X4, XA, XB, lc_block, lc_cond, XZ, undef_eq, Nat.reduceAdd, Nat.reduceSub, ↓reduceIte, basic, cellsL, resOf, setAt, below, belowB, belowA, atomB, Nat.reduceLeDiff, Nat.reduceMul, Int.reduceToNat, Int.reduceLT, Int.reduceLE, Int.reduceAdd, Int.reduceNeg, Int.reduceEq, splice, Nat.reduceEqDiff, Nat.reduceLT, isAtom, Int.reduceSub, Int.reduceMul, implies_true]
  refine ifI (fun h3 => ?_) (fun h3 => ?_)
  · simp at h3; rw [show rightB a b c d = false from decide_eq_false (by omega)] at hk; exact hk
  refine in_spec _ _ _ _ ?_
  simp (contextual := true) (implicitDefEqProofs := false) (maxSteps := 2000000) (disch := first | rfl | exact Nat.le_of_ble_eq_true rfl | omega | (simp only [List.length_append, List.length_cons, List.length_nil, List.length_set]; omega)) only [lc_loop, X1, X2, X3, X4, XA, XB, lc_block, lc_cond, XZ, undef_eq, Nat.reduceAdd, Nat.reduceSub, ↓reduceIte, basic, cellsL, resOf, setAt, below, belowB, belowA, atomB, Nat.reduceLeDiff, Nat.reduceMul, Int.reduceToNat, Int.reduceLT, Int.reduceLE, Int.reduceAdd, Int.reduceNeg, Int.reduceEq, splice, Nat.reduceEqDiff, Nat.reduceLT, isAtom, Int.reduceSub, Int.reduceMul, implies_true]
  refine ifI (fun h4 => ?_) (fun h4 => ?_)
  · simp at h4; rw [show rightB a b c d = false from decide_eq_false (by omega)] at hk; exact hk
  · simp at h1 h2 h3 h4; rw [show rightB a b c d = true from decide_eq_true (by omega)] at hk; exact hk

theorem and255 (d : Int) : (IntKind.i64.wrap ↑(BitVec.ofInt IntKind.i64.bits d &&& BitVec.ofInt IntKind.i64.bits 255).toNat) = d % 256 := by
  show IntKind.i64.wrap ↑(BitVec.ofInt 64 d &&& BitVec.ofInt 64 255).toNat = _
  have : (BitVec.ofInt 64 d &&& BitVec.ofInt 64 255).toNat = (d % 256).toNat := by
    have h2 : BitVec.ofInt 64 (255:Int) = 255#64 := rfl
    rw [h2, BitVec.toNat_and, show (255#64).toNat = 2^8-1 from rfl, Nat.and_two_pow_sub_one_eq_mod, BitVec.toNat_ofInt]
    omega
  rw [this, Int.toNat_of_nonneg (by omega), wrap_i64 (by omega) (by omega)]

theorem wins_spec (a b c d draw : Int) (f : Bool) (m : Mem) (K : Value → Mem → Prop) (hk : K (.bool (rightB a b c d && decide (draw % 256 ≤ b))) m) : LCall Try.prog 22 [.agg #[.int .i64 a, .int .i64 b, .int .i64 c, .int .i64 d, .bool f], .int .i64 draw] m K := by
  refine LCall_drop (LCall_enter Try.func22 c22 ?_)
  simp (contextual := true) (implicitDefEqProofs := false) (maxSteps := 2000000) (disch := first | rfl | exact Nat.le_of_ble_eq_true rfl | omega | (simp only [List.length_append, List.length_cons, List.length_nil, List.length_set]; omega)) only [L22, X1, X2, X3, X4, XA, XB, lc_block, lc_cond, XZ, undef_eq, Nat.reduceAdd, Nat.reduceSub, ↓reduceIte, basic, cellsL, resOf, setAt, below, belowB, belowA, atomB, Nat.reduceLeDiff, Nat.reduceMul, Int.reduceToNat, Int.reduceLT, Int.reduceLE, Int.reduceAdd, Int.reduceNeg, Int.reduceEq, splice, Nat.reduceEqDiff, Nat.reduceLT, isAtom, Int.reduceSub, Int.reduceMul, implies_true]
  refine right_spec _ _ _ _ _ _ _ ?_
  simp (contextual := true) (implicitDefEqProofs := false) (maxSteps := 2000000) (disch := first | rfl | exact Nat.le_of_ble_eq_true rfl | omega | (simp only [List.length_append, List.length_cons, List.length_nil, List.length_set]; omega)) only [X1, X2, X3, X4, XA, XB, lc_block, lc_cond, XZ, undef_eq, Nat.reduceAdd, Nat.reduceSub, ↓reduceIte, basic, cellsL, resOf, setAt, below, belowB, belowA, atomB, Nat.reduceLeDiff, Nat.reduceMul, Int.reduceToNat, Int.reduceLT, Int.reduceLE, Int.reduceAdd, Int.reduceNeg, Int.reduceEq, splice, Nat.reduceEqDiff, Nat.reduceLT, isAtom, Int.reduceSub, Int.reduceMul, implies_true]
  rw [and255]
  exact ifI (fun h => by simpa [h] using hk) (fun h => by simpa [h] using hk)
def stepC (c : Int) (a b s d : Int) (f waits busy : Bool) (draw : Int) : Int × Bool :=
  if rightB a b s d = false then (c, false)
  else if waits = false then (0, false)
  else if f then (c, true)
  else if 0 < c then (c - 1, false)
  else if busy then (c, false)
  else if draw % 256 ≤ b then (c, true)
  else (s, false)

theorem step_spec (i : Nat) (c a b s d : Int) (f waits busy : Bool) (draw : Int) (T : Nat) (m : Mem) (hc : -9223372036854775808 < c ∧ c ≤ 9223372036854775807) (hm : m[i]? = some ⟨[.int .i64 c], T, 1, 0, .own⟩) (K : Value → Mem → Prop)
    (hk : K (.bool (stepC c a b s d f waits busy draw).2) (m.set i ⟨[.int .i64 (stepC c a b s d f waits busy draw).1], T, 1, 0, .own⟩)) :
    LCall Try.prog 17 [.pointer (some ⟨i, 0, none⟩), .agg #[.int .i64 a, .int .i64 b, .int .i64 s, .int .i64 d, .bool f], .bool waits, .bool busy, .int .i64 draw] m K := by
  have hi : i < m.length := by rcases List.getElem?_eq_some_iff.mp hm with ⟨h, _⟩; exact h
  refine LCall_keep (LCall_enter Try.func17 c17 ?_)
  simp (contextual := true) (implicitDefEqProofs := false) (maxSteps := 2000000) (disch := first | rfl | exact Nat.le_of_ble_eq_true rfl | omega | (simp only [List.length_append, List.length_cons, List.length_nil, List.length_set]; omega)) only [L17, X1, X2, X3, X4, XA, XB, lc_block, lc_cond, XZ, undef_eq, Nat.reduceAdd, Nat.reduceSub, ↓reduceIte, basic, cellsL, resOf, setAt, below, belowB, belowA, atomB, Nat.reduceLeDiff, Nat.reduceMul, Int.reduceToNat, Int.reduceLT, Int.reduceLE, Int.reduceAdd, Int.reduceNeg, Int.reduceEq, splice, Nat.reduceEqDiff, Nat.reduceLT, isAtom, Int.reduceSub, Int.reduceMul, implies_true]
  refine right_spec _ _ _ _ _ _ _ ?_
  simp (contextual := true) (implicitDefEqProofs := false) (maxSteps := 2000000) (disch := first | rfl | exact Nat.le_of_ble_eq_true rfl | omega | (simp only [List.length_append, List.length_cons, List.length_nil, List.length_set]; omega)) only [hm, X1, X2, X3, X4, XA, XB, lc_block, lc_cond, XZ, undef_eq, Nat.reduceAdd, Nat.reduceSub, ↓reduceIte, basic, cellsL, resOf, setAt, below, belowB, belowA, atomB, Nat.reduceLeDiff, Nat.reduceMul, Int.reduceToNat, Int.reduceLT, Int.reduceLE, Int.reduceAdd, Int.reduceNeg, Int.reduceEq, splice, Nat.reduceEqDiff, Nat.reduceLT, isAtom, Int.reduceSub, Int.reduceMul, implies_true]
  refine ifI (fun h1 => ?_) (fun h1 => ?_)
  · refine kKeep_same trivial ?_
    have e : stepC c a b s d f waits busy draw = (c, false) := by simp [stepC, h1]
    rw [e, set_same hm] at hk; exact hk
  refine ifI (fun h2 => ?_) (fun h2 => ?_)
  · refine kKeep_set (by simp [belowA]) trivial ?_
    have e : stepC c a b s d f waits busy draw = (0, false) := by simp [stepC, h1, h2]
    rw [e] at hk; exact hk
  refine ifI (fun h3 => ?_) (fun h3 => ?_)
  · refine kKeep_same trivial ?_
    have e : stepC c a b s d f waits busy draw = (c, true) := by simp [stepC, h1, h2, h3]
    rw [e, set_same hm] at hk; exact hk
  refine ifI (fun h4 => ?_) (fun h4 => ?_)
  · refine kKeep_set (by simp [belowA]) trivial ?_
    have e : stepC c a b s d f waits busy draw = (c - 1, false) := by simp [stepC, h1, h2, h3, h4]
    rw [e] at hk; exact hk
  refine ifI (fun h5 => ?_) (fun h5 => ?_)
  · refine kKeep_same trivial ?_
    have e : stepC c a b s d f waits busy draw = (c, false) := by simp [stepC, h1, h2, h3, h4, h5]
    rw [e, set_same hm] at hk; exact hk
  refine wins_spec _ _ _ _ _ _ _ _ ?_
  have h1' : rightB a b s d = true := by simpa using h1
  simp (contextual := true) (implicitDefEqProofs := false) (maxSteps := 2000000) (disch := first | rfl | exact Nat.le_of_ble_eq_true rfl | omega | (simp only [List.length_append, List.length_cons, List.length_nil, List.length_set]; omega)) only [hm, h1', Bool.true_and, Bool.false_and, X1, X2, X3, X4, XA, XB, lc_block, lc_cond, XZ, undef_eq, Nat.reduceAdd, Nat.reduceSub, ↓reduceIte, basic, cellsL, resOf, setAt, below, belowB, belowA, atomB, Nat.reduceLeDiff, Nat.reduceMul, Int.reduceToNat, Int.reduceLT, Int.reduceLE, Int.reduceAdd, Int.reduceNeg, Int.reduceEq, splice, Nat.reduceEqDiff, Nat.reduceLT, isAtom, Int.reduceSub, Int.reduceMul, implies_true]
  refine ifI (fun h6 => ?_) (fun h6 => ?_)
  · refine kKeep_same trivial ?_
    have e : stepC c a b s d f waits busy draw = (c, true) := by simp [stepC, h1, h2, h3, h4, h5, h6]
    rw [e, set_same hm] at hk; exact hk
  · refine kKeep_set (by simp [belowA]) trivial ?_
    have e : stepC c a b s d f waits busy draw = (s, false) := by simp [stepC, h1, h2, h3, h4, h5, h6]
    rw [e] at hk; exact hk

theorem step_nil_spec (x : Value) (waits busy : Bool) (draw : Int) (a b s d : Int) (f : Bool) (m : Mem) (K : Value → Mem → Prop) (hk : K (.bool false) m) :
    LCall Try.prog 17 [.pointer none, .agg #[.int .i64 a, .int .i64 b, .int .i64 s, .int .i64 d, .bool f], .bool waits, .bool busy, .int .i64 draw] m K := by
  refine LCall_drop (LCall_enter Try.func17 c17 ?_)
  simp (contextual := true) (implicitDefEqProofs := false) (maxSteps := 2000000) (disch := first | rfl | exact Nat.le_of_ble_eq_true rfl | omega | (simp only [List.length_append, List.length_cons, List.length_nil, List.length_set]; omega)) only [L17, X1, X2, X3, X4, XA, XB, lc_block, lc_cond, XZ, undef_eq, Nat.reduceAdd, Nat.reduceSub, ↓reduceIte, basic, cellsL, resOf, setAt, below, belowB, belowA, atomB, Nat.reduceLeDiff, Nat.reduceMul, Int.reduceToNat, Int.reduceLT, Int.reduceLE, Int.reduceAdd, Int.reduceNeg, Int.reduceEq, splice, Nat.reduceEqDiff, Nat.reduceLT, isAtom, Int.reduceSub, Int.reduceMul, implies_true]
  exact hk

theorem new_spec (m : Mem) (K : Value → Mem → Prop) (hk : K (.pointer (some ⟨m.length, 0, none⟩)) (m ++ [⟨[.int .i64 0], 80, 1, 0, .own⟩])) : LCall Try.prog 16 [] m K := by
  refine LCall_enter Try.func16 c16 ?_
  simp (contextual := true) (implicitDefEqProofs := false) (maxSteps := 2000000) (disch := first | rfl | exact Nat.le_of_ble_eq_true rfl | omega | (simp only [List.length_append, List.length_cons, List.length_nil, List.length_set]; omega)) only [L16, X1, X2, X3, X4, XA, XB, lc_block, lc_cond, XZ, undef_eq, Nat.reduceAdd, Nat.reduceSub, ↓reduceIte, basic, cellsL, resOf, setAt, below, belowB, belowA, atomB, Nat.reduceLeDiff, Nat.reduceMul, Int.reduceToNat, Int.reduceLT, Int.reduceLE, Int.reduceAdd, Int.reduceNeg, Int.reduceEq, splice, Nat.reduceEqDiff, Nat.reduceLT, isAtom, Int.reduceSub, Int.reduceMul, implies_true]
  exact hk

theorem count_spec (i : Nat) (c : Int) (T : Nat) (m : Mem) (hm : m[i]? = some ⟨[.int .i64 c], T, 1, 0, .own⟩) (K : Value → Mem → Prop) (hk : K (.int .i64 c) m) : LCall Try.prog 24 [.pointer (some ⟨i, 0, none⟩)] m K := by
  refine LCall_drop (LCall_enter Try.func24 c24 ?_)
  simp (contextual := true) (implicitDefEqProofs := false) (maxSteps := 2000000) (disch := first | rfl | exact Nat.le_of_ble_eq_true rfl | omega | (simp only [List.length_append, List.length_cons, List.length_nil, List.length_set]; omega)) only [L24, hm, X1, X2, X3, X4, XA, XB, lc_block, lc_cond, XZ, undef_eq, Nat.reduceAdd, Nat.reduceSub, ↓reduceIte, basic, cellsL, resOf, setAt, below, belowB, belowA, atomB, Nat.reduceLeDiff, Nat.reduceMul, Int.reduceToNat, Int.reduceLT, Int.reduceLE, Int.reduceAdd, Int.reduceNeg, Int.reduceEq, splice, Nat.reduceEqDiff, Nat.reduceLT, isAtom, Int.reduceSub, Int.reduceMul, implies_true]
  exact hk

theorem count_nil_spec (m : Mem) (K : Value → Mem → Prop) (hk : K (.int .i64 0) m) : LCall Try.prog 24 [.pointer none] m K := by
  refine LCall_drop (LCall_enter Try.func24 c24 ?_)
  simp (contextual := true) (implicitDefEqProofs := false) (maxSteps := 2000000) (disch := first | rfl | exact Nat.le_of_ble_eq_true rfl | omega | (simp only [List.length_append, List.length_cons, List.length_nil, List.length_set]; omega)) only [L24, X1, X2, X3, X4, XA, XB, lc_block, lc_cond, XZ, undef_eq, Nat.reduceAdd, Nat.reduceSub, ↓reduceIte, basic, cellsL, resOf, setAt, below, belowB, belowA, atomB, Nat.reduceLeDiff, Nat.reduceMul, Int.reduceToNat, Int.reduceLT, Int.reduceLE, Int.reduceAdd, Int.reduceNeg, Int.reduceEq, splice, Nat.reduceEqDiff, Nat.reduceLT, isAtom, Int.reduceSub, Int.reduceMul, implies_true]
  exact hk

theorem reset_spec (i : Nat) (c : Int) (T : Nat) (m : Mem) (hm : m[i]? = some ⟨[.int .i64 c], T, 1, 0, .own⟩) (K : Value → Mem → Prop) (hk : K undef (m.set i ⟨[.int .i64 0], T, 1, 0, .own⟩)) : LCall Try.prog 25 [.pointer (some ⟨i, 0, none⟩)] m K := by
  refine LCall_enter Try.func25 c25 ?_
  simp (contextual := true) (implicitDefEqProofs := false) (maxSteps := 2000000) (disch := first | rfl | exact Nat.le_of_ble_eq_true rfl | omega | (simp only [List.length_append, List.length_cons, List.length_nil, List.length_set]; omega)) only [L25, hm, X1, X2, X3, X4, XA, XB, lc_block, lc_cond, XZ, undef_eq, Nat.reduceAdd, Nat.reduceSub, ↓reduceIte, basic, cellsL, resOf, setAt, below, belowB, belowA, atomB, Nat.reduceLeDiff, Nat.reduceMul, Int.reduceToNat, Int.reduceLT, Int.reduceLE, Int.reduceAdd, Int.reduceNeg, Int.reduceEq, splice, Nat.reduceEqDiff, Nat.reduceLT, isAtom, Int.reduceSub, Int.reduceMul, implies_true]
  exact hk

theorem reset_nil_spec (m : Mem) (K : Value → Mem → Prop) (hk : K undef m) : LCall Try.prog 25 [.pointer none] m K := by
  refine LCall_enter Try.func25 c25 ?_
  simp (contextual := true) (implicitDefEqProofs := false) (maxSteps := 2000000) (disch := first | rfl | exact Nat.le_of_ble_eq_true rfl | omega | (simp only [List.length_append, List.length_cons, List.length_nil, List.length_set]; omega)) only [L25, X1, X2, X3, X4, XA, XB, lc_block, lc_cond, XZ, undef_eq, Nat.reduceAdd, Nat.reduceSub, ↓reduceIte, basic, cellsL, resOf, setAt, below, belowB, belowA, atomB, Nat.reduceLeDiff, Nat.reduceMul, Int.reduceToNat, Int.reduceLT, Int.reduceLE, Int.reduceAdd, Int.reduceNeg, Int.reduceEq, splice, Nat.reduceEqDiff, Nat.reduceLT, isAtom, Int.reduceSub, Int.reduceMul, implies_true]
  exact hk

theorem usual_spec (m : Mem) (K : Value → Mem → Prop) (hk : K (.agg #[.int .i64 2, .int .i64 63, .int .i64 1, .int .i64 1, .bool false]) m) : LCall Try.prog 41 [] m K := by
  refine LCall_drop (LCall_enter Try.func41 c41 ?_)
  simp (contextual := true) (implicitDefEqProofs := false) (maxSteps := 2000000) (disch := first | rfl | exact Nat.le_of_ble_eq_true rfl | omega | (simp only [List.length_append, List.length_cons, List.length_nil, List.length_set]; omega)) only [L41, X1, X2, X3, X4, XA, XB, lc_block, lc_cond, XZ, undef_eq, Nat.reduceAdd, Nat.reduceSub, ↓reduceIte, basic, cellsL, resOf, setAt, below, belowB, belowA, atomB, Nat.reduceLeDiff, Nat.reduceMul, Int.reduceToNat, Int.reduceLT, Int.reduceLE, Int.reduceAdd, Int.reduceNeg, Int.reduceEq, splice, Nat.reduceEqDiff, Nat.reduceLT, isAtom, Int.reduceSub, Int.reduceMul, implies_true]
  exact hk
end Go.Proofs.Ytfefieicnmglcaa
/- The laws of the gate, walked: the examples, and what a gate that is not there does. -/
namespace Go.Proofs.Ytfefieicnmglcaa
open Go.Lg
set_option maxRecDepth 8000
set_option linter.unusedSimpArgs false
set_option linter.unnecessarySimpa false
set_option linter.unusedVariables false

theorem awake17 (m : Mem) : Ret Try.prog 13 [] m (.bool true) m := run_alone tab_ok (n := 100) (d := 20) (by kernel_rfl) rfl rfl m
theorem awake03 (m : Mem) : Ret Try.prog 18 [] m (.bool true) m := run_alone tab_ok (n := 100) (d := 20) (by kernel_rfl) rfl rfl m
theorem awake06 (m : Mem) : Ret Try.prog 26 [] m (.bool true) m := run_alone tab_ok (n := 100) (d := 20) (by kernel_rfl) rfl rfl m
end Go.Proofs.Ytfefieicnmglcaa
namespace Go.Proofs.Ytfefieicnmglcaa
open Go.Lg
set_option maxRecDepth 8000
set_option maxHeartbeats 4000000
set_option linter.unusedSimpArgs false
set_option linter.unnecessarySimpa false
set_option linter.unusedVariables false

theorem refright_spec (a b s d : Int) (f : Bool) (m : Mem) (K : Value → Mem → Prop) (hk : K (.bool (rightB a b s d)) m) : LCall Try.prog 14 [.agg #[.int .i64 a, .int .i64 b, .int .i64 s, .int .i64 d, .bool f]] m K := by
  refine LCall_drop (LCall_enter Try.func14 c14 ?_)
  simp (contextual := true) (implicitDefEqProofs := false) (maxSteps := 2000000) (disch := first | rfl | exact Nat.le_of_ble_eq_true rfl | omega | (simp only [List.length_append, List.length_cons, List.length_nil, List.length_set]; omega)) only [L14, X1, X2, X3, X4, XA, XB, lc_block, lc_cond, XZ, undef_eq, Nat.reduceAdd, Nat.reduceSub, ↓reduceIte, basic, cellsL, resOf, setAt, below, belowB, belowA, atomB, Nat.reduceLeDiff, Nat.reduceMul, Int.reduceToNat, Int.reduceLT, Int.reduceLE, Int.reduceAdd, Int.reduceNeg, Int.reduceEq, splice, Nat.reduceEqDiff, Nat.reduceLT, isAtom, Int.reduceSub, Int.reduceMul, implies_true]
  rw [lc_loop]
  simp (contextual := true) (implicitDefEqProofs := false) (maxSteps := 2000000) (disch := first | rfl | exact Nat.le_of_ble_eq_true rfl | omega | (simp only [List.length_append, List.length_cons, List.length_nil, List.length_set]; omega)) only [X1, X2, X3, X4, XA, XB, lc_block, lc_cond, XZ, undef_eq, Nat.reduceAdd, Nat.reduceSub, ↓reduceIte, basic, cellsL, resOf, setAt, below, belowB, belowA, atomB, Nat.reduceLeDiff, Nat.reduceMul, Int.reduceToNat, Int.reduceLT, Int.reduceLE, Int.reduceAdd, Int.reduceNeg, Int.reduceEq, splice, Nat.reduceEqDiff, Nat.reduceLT, isAtom, Int.reduceSub, Int.reduceMul, implies_true]
  refine ifI (fun h1 => ?_) (fun h1 => ?_)
  · rw [show rightB a b s d = false from decide_eq_false (by omega)] at hk; exact hk
  refine ifI (fun h2 => ?_) (fun h2 => ?_)
  · rw [show rightB a b s d = false from decide_eq_false (by omega)] at hk; exact hk
  rw [lc_loop]
  simp (contextual := true) (implicitDefEqProofs := false) (maxSteps := 2000000) (disch := first | rfl | exact Nat.le_of_ble_eq_true rfl | omega | (simp only [List.length_append, List.length_cons, List.length_nil, List.length_set]; omega)) only [X1, X2, X3, X4, XA, XB, lc_block, lc_cond, XZ, undef_eq, Nat.reduceAdd, Nat.reduceSub, ↓reduceIte, basic, cellsL, resOf, setAt, below, belowB, belowA, atomB, Nat.reduceLeDiff, Nat.reduceMul, Int.reduceToNat, Int.reduceLT, Int.reduceLE, Int.reduceAdd, Int.reduceNeg, Int.reduceEq, splice, Nat.reduceEqDiff, Nat.reduceLT, isAtom, Int.reduceSub, Int.reduceMul, implies_true]
  refine ifI (fun h3 => ?_) (fun h3 => ?_)
  · rw [show rightB a b s d = false from decide_eq_false (by omega)] at hk; exact hk
  refine ifI (fun h4 => ?_) (fun h4 => ?_)
  · rw [show rightB a b s d = false from decide_eq_false (by omega)] at hk; exact hk
  rw [lc_loop]
  simp (contextual := true) (implicitDefEqProofs := false) (maxSteps := 2000000) (disch := first | rfl | exact Nat.le_of_ble_eq_true rfl | omega | (simp only [List.length_append, List.length_cons, List.length_nil, List.length_set]; omega)) only [X1, X2, X3, X4, XA, XB, lc_block, lc_cond, XZ, undef_eq, Nat.reduceAdd, Nat.reduceSub, ↓reduceIte, basic, cellsL, resOf, setAt, below, belowB, belowA, atomB, Nat.reduceLeDiff, Nat.reduceMul, Int.reduceToNat, Int.reduceLT, Int.reduceLE, Int.reduceAdd, Int.reduceNeg, Int.reduceEq, splice, Nat.reduceEqDiff, Nat.reduceLT, isAtom, Int.reduceSub, Int.reduceMul, implies_true]
  refine ifI (fun h5 => ?_) (fun h5 => ?_)
  · rw [show rightB a b s d = false from decide_eq_false (by omega)] at hk; exact hk
  refine ifI (fun h6 => ?_) (fun h6 => ?_)
  · rw [show rightB a b s d = false from decide_eq_false (by omega)] at hk; exact hk
  rw [lc_loop]
  simp (contextual := true) (implicitDefEqProofs := false) (maxSteps := 2000000) (disch := first | rfl | exact Nat.le_of_ble_eq_true rfl | omega | (simp only [List.length_append, List.length_cons, List.length_nil, List.length_set]; omega)) only [X1, X2, X3, X4, XA, XB, lc_block, lc_cond, XZ, undef_eq, Nat.reduceAdd, Nat.reduceSub, ↓reduceIte, basic, cellsL, resOf, setAt, below, belowB, belowA, atomB, Nat.reduceLeDiff, Nat.reduceMul, Int.reduceToNat, Int.reduceLT, Int.reduceLE, Int.reduceAdd, Int.reduceNeg, Int.reduceEq, splice, Nat.reduceEqDiff, Nat.reduceLT, isAtom, Int.reduceSub, Int.reduceMul, implies_true]
  refine ifI (fun h7 => ?_) (fun h7 => ?_)
  · rw [show rightB a b s d = false from decide_eq_false (by omega)] at hk; exact hk
  refine ifI (fun h8 => ?_) (fun h8 => ?_)
  · rw [show rightB a b s d = false from decide_eq_false (by omega)] at hk; exact hk
  rw [lc_loop]
  simp (contextual := true) (implicitDefEqProofs := false) (maxSteps := 2000000) (disch := first | rfl | exact Nat.le_of_ble_eq_true rfl | omega | (simp only [List.length_append, List.length_cons, List.length_nil, List.length_set]; omega)) only [X1, X2, X3, X4, XA, XB, lc_block, lc_cond, XZ, undef_eq, Nat.reduceAdd, Nat.reduceSub, ↓reduceIte, basic, cellsL, resOf, setAt, below, belowB, belowA, atomB, Nat.reduceLeDiff, Nat.reduceMul, Int.reduceToNat, Int.reduceLT, Int.reduceLE, Int.reduceAdd, Int.reduceNeg, Int.reduceEq, splice, Nat.reduceEqDiff, Nat.reduceLT, isAtom, Int.reduceSub, Int.reduceMul, implies_true]
  rw [show rightB a b s d = true from decide_eq_true (by omega)] at hk; exact hk

theorem plain_spec (a b s d : Int) (f : Bool) (m : Mem) (K : Value → Mem → Prop) (hk : K (.agg #[.int .i64 a, .int .i64 b, .int .i64 s, .int .i64 d, .bool f]) m) : LCall Try.prog 15 [.agg #[.int .i64 a, .int .i64 b, .int .i64 s, .int .i64 d, .bool f]] m K := by
  refine LCall_drop (LCall_enter Try.func15 c15 ?_)
  simp (contextual := true) (implicitDefEqProofs := false) (maxSteps := 2000000) (disch := first | rfl | exact Nat.le_of_ble_eq_true rfl | omega | (simp only [List.length_append, List.length_cons, List.length_nil, List.length_set]; omega)) only [L15, X1, X2, X3, X4, XA, XB, lc_block, lc_cond, XZ, undef_eq, Nat.reduceAdd, Nat.reduceSub, ↓reduceIte, basic, cellsL, resOf, setAt, below, belowB, belowA, atomB, Nat.reduceLeDiff, Nat.reduceMul, Int.reduceToNat, Int.reduceLT, Int.reduceLE, Int.reduceAdd, Int.reduceNeg, Int.reduceEq, splice, Nat.reduceEqDiff, Nat.reduceLT, isAtom, Int.reduceSub, Int.reduceMul, implies_true]
  exact hk

theorem tmod_pos {d : Int} (h : 0 ≤ d) : d.tmod 256 = d % 256 := Int.tmod_eq_emod_of_nonneg h
theorem tmod_neg {d : Int} (h : d < 0) : d.tmod 256 = -((-d) % 256) := by
  have e : d = -(-d) := by omega
  rw [e, Int.neg_tmod, tmod_pos (by omega)]
  simp

theorem refstep_spec (c a b s d : Int) (f waits busy : Bool) (draw : Int) (hc : -9223372036854775808 < c ∧ c ≤ 9223372036854775807) (m : Mem) (K : Value → Mem → Prop)
    (hk : K (.tuple #[.int .i64 (stepC c a b s d f waits busy draw).1, .bool (stepC c a b s d f waits busy draw).2]) m) :
    LCall Try.prog 23 [.int .i64 c, .agg #[.int .i64 a, .int .i64 b, .int .i64 s, .int .i64 d, .bool f], .bool waits, .bool busy, .int .i64 draw] m K := by
  refine LCall_drop (LCall_enter Try.func23 c23 ?_)
  simp (contextual := true) (implicitDefEqProofs := false) (maxSteps := 2000000) (disch := first | rfl | exact Nat.le_of_ble_eq_true rfl | omega | (simp only [List.length_append, List.length_cons, List.length_nil, List.length_set]; omega)) only [L23, X1, X2, X3, X4, XA, XB, lc_block, lc_cond, XZ, undef_eq, Nat.reduceAdd, Nat.reduceSub, ↓reduceIte, basic, cellsL, resOf, setAt, below, belowB, belowA, atomB, Nat.reduceLeDiff, Nat.reduceMul, Int.reduceToNat, Int.reduceLT, Int.reduceLE, Int.reduceAdd, Int.reduceNeg, Int.reduceEq, splice, Nat.reduceEqDiff, Nat.reduceLT, isAtom, Int.reduceSub, Int.reduceMul, implies_true]
  refine refright_spec _ _ _ _ _ _ _ ?_
  simp (contextual := true) (implicitDefEqProofs := false) (maxSteps := 2000000) (disch := first | rfl | exact Nat.le_of_ble_eq_true rfl | omega | (simp only [List.length_append, List.length_cons, List.length_nil, List.length_set]; omega)) only [X1, X2, X3, X4, XA, XB, lc_block, lc_cond, XZ, undef_eq, Nat.reduceAdd, Nat.reduceSub, ↓reduceIte, basic, cellsL, resOf, setAt, below, belowB, belowA, atomB, Nat.reduceLeDiff, Nat.reduceMul, Int.reduceToNat, Int.reduceLT, Int.reduceLE, Int.reduceAdd, Int.reduceNeg, Int.reduceEq, splice, Nat.reduceEqDiff, Nat.reduceLT, isAtom, Int.reduceSub, Int.reduceMul, implies_true]
  refine ifI (fun h1 => ?_) (fun h1 => ?_)
  · rw [show stepC c a b s d f waits busy draw = (c, false) by simp [stepC, h1]] at hk; exact hk
  refine ifI (fun h2 => ?_) (fun h2 => ?_)
  · rw [show stepC c a b s d f waits busy draw = (0, false) by simp [stepC, h1, h2]] at hk; exact hk
  refine ifI (fun h3 => ?_) (fun h3 => ?_)
  · rw [show stepC c a b s d f waits busy draw = (c, true) by simp [stepC, h1, h2, h3]] at hk; exact hk
  refine ifI (fun h4 => ?_) (fun h4 => ?_)
  · rw [show stepC c a b s d f waits busy draw = (c - 1, false) by simp [stepC, h1, h2, h3, h4]] at hk; exact hk
  refine ifI (fun h5 => ?_) (fun h5 => ?_)
  · rw [show stepC c a b s d f waits busy draw = (c, false) by simp [stepC, h1, h2, h3, h4, h5]] at hk; exact hk
  have e1 : draw.tmod 256 < 0 → IntKind.i64.wrap (draw.tmod 256 + 256) = draw % 256 := by
    intro h
    have hd : draw < 0 := by
      rcases Int.lt_or_le draw 0 with h' | h'
      · exact h'
      · rw [tmod_pos h'] at h; omega
    have := tmod_neg hd
    rw [wrap_i64 (by omega) (by omega)]; omega
  have e2 : ¬ draw.tmod 256 < 0 → draw.tmod 256 = draw % 256 := by
    intro h
    rcases Int.lt_or_le draw 0 with h' | h'
    · have := tmod_neg h'; omega
    · exact tmod_pos h'
  have y : draw % 256 ≤ b → stepC c a b s d f waits busy draw = (c, true) := by intro h6; simp [stepC, h1, h2, h3, h4, h5, h6]
  have n : ¬ draw % 256 ≤ b → stepC c a b s d f waits busy draw = (s, false) := by intro h6; simp [stepC, h1, h2, h3, h4, h5, h6]
  refine ifI (fun h7 => ?_) (fun h7 => ?_)
  · rw [e1 h7]
    refine ifI (fun h6 => ?_) (fun h6 => ?_)
    · rw [y h6] at hk; exact hk
    · rw [n h6] at hk; exact hk
  · rw [e2 h7]
    refine ifI (fun h6 => ?_) (fun h6 => ?_)
    · rw [y h6] at hk; exact hk
    · rw [n h6] at hk; exact hk

structure Op where
  a : Int
  b : Int
  s : Int
  d : Int
  f : Bool
  waits : Bool
  busy : Bool
  draw : Int

def Op.cells (o : Op) : List Value := [.int .i64 o.a, .int .i64 o.b, .int .i64 o.s, .int .i64 o.d, .bool o.f, .bool o.waits, .bool o.busy, .int .i64 o.draw]

def Op.step (c : Int) (o : Op) : Int := (stepC c o.a o.b o.s o.d o.f o.waits o.busy o.draw).1

def okC (c : Int) : Prop := 0 ≤ c ∧ c ≤ 255

theorem step_ok {c : Int} (h : okC c) (o : Op) : okC (o.step c) := by
  unfold Op.step stepC okC at *
  repeat' split
  all_goals simp_all [rightB]
  all_goals omega
theorem Op.cells_len (o : Op) : o.cells.length = 8 := rfl

/-- An argument of steps. -/
theorem op_of {m : Mem} {xs : List Value} (h : TyL Try.prog m 3 34 xs) : ∃ o : Op, xs = o.cells ∧ True := by
  obtain ⟨xs, _, rfl, h1, _, _, rfl, h2, _, _, rfl, h3, _, _, rfl, h4, rfl⟩ := h.struct Try.underlying34 rfl
  obtain ⟨x1, _, rfl, a1, x2, _, rfl, a2, x3, _, rfl, a3, x4, _, rfl, a4, x5, _, rfl, a5, rfl⟩ := h1.struct Try.underlying24 rfl
  obtain ⟨a, rfl, _⟩ := a1.int Try.underlying3
  obtain ⟨b, rfl, _⟩ := a2.int Try.underlying3
  obtain ⟨s, rfl, _⟩ := a3.int Try.underlying3
  obtain ⟨d, rfl, _⟩ := a4.int Try.underlying3
  obtain ⟨f, rfl⟩ := a5.bool Try.underlying4
  obtain ⟨w, rfl⟩ := h2.bool Try.underlying4
  obtain ⟨u, rfl⟩ := h3.bool Try.underlying4
  obtain ⟨r, rfl, _⟩ := h4.int Try.underlying3
  exact ⟨⟨a, b, s, d, f, w, u, r⟩, rfl, trivial⟩

theorem step_now {c : Int} {o : Op} (h : (stepC c o.a o.b o.s o.d o.f o.waits o.busy o.draw).2 = true) : o.waits = true ∧ (o.busy = false ∨ o.f = true) := by
  revert h
  unfold stepC
  repeat' split
  all_goals simp_all
end Go.Proofs.Ytfefieicnmglcaa
/- The laws of the gate that wins in time, and of the draws that win, walked. -/
namespace Go.Proofs.Ytfefieicnmglcaa
open Go.Lg
set_option maxRecDepth 8000
set_option maxHeartbeats 4000000
set_option linter.unusedSimpArgs false
set_option linter.unnecessarySimpa false
set_option linter.unusedVariables false

theorem right_bounds {a b s d : Int} (h : rightB a b s d = true) : (0 ≤ a ∧ a ≤ 255) ∧ (0 ≤ b ∧ b ≤ 255) ∧ (0 ≤ s ∧ s ≤ 255) ∧ (0 ≤ d ∧ d ≤ 255) := of_decide_eq_true h

theorem step_most {c most : Int} (h : 0 ≤ c ∧ c ≤ most) (o : Op) : 0 ≤ o.step c ∧ o.step c ≤ (if rightB o.a o.b o.s o.d = true then max most o.s else most) := by
  unfold Op.step stepC
  by_cases hr : rightB o.a o.b o.s o.d = true
  · have := right_bounds hr
    rw [if_pos hr]
    have h1 := Int.le_max_left most o.s
    have h2 := Int.le_max_right most o.s
    repeat' split
    all_goals simp_all
    all_goals omega
  · rw [if_neg hr]
    simp only [Bool.not_eq_true] at hr
    simp [hr]; exact h

theorem wins_law (ops : List Op) (v : Value) (a b s d : Int) (pf : Bool) (m : Mem) (hv : SlIn m 8 (ops.map Op.cells).flatten ops.length v) : LCall Try.prog 3 [v, .agg #[.int .i64 a, .int .i64 b, .int .i64 s, .int .i64 d, .bool pf]] m fun v _ => v = .bool true := by
  obtain ⟨sa, rfl, hmax, hcell⟩ := hv.form
  refine LCall_enter Try.func3 c3 ?_
  simp (contextual := true) (implicitDefEqProofs := false) (maxSteps := 2000000) (disch := first | rfl | exact Nat.le_of_ble_eq_true rfl | omega | (simp only [List.length_append, List.length_cons, List.length_nil, List.length_set]; omega)) only [L3, X1, X2, X3, X4, XA, XB, lc_block, lc_cond, XZ, undef_eq, Nat.reduceAdd, Nat.reduceSub, ↓reduceIte, basic, cellsL, resOf, setAt, below, belowB, belowA, atomB, Nat.reduceLeDiff, Nat.reduceMul, Int.reduceToNat, Int.reduceLT, Int.reduceLE, Int.reduceAdd, Int.reduceNeg, Int.reduceEq, splice, Nat.reduceEqDiff, Nat.reduceLT, isAtom, Int.reduceSub, Int.reduceMul, implies_true]
  refine (awake17 _).use ?_
  simp (contextual := true) (implicitDefEqProofs := false) (maxSteps := 2000000) (disch := first | rfl | exact Nat.le_of_ble_eq_true rfl | omega | (simp only [List.length_append, List.length_cons, List.length_nil, List.length_set]; omega)) only [X1, X2, X3, X4, XA, XB, lc_block, lc_cond, XZ, undef_eq, Nat.reduceAdd, Nat.reduceSub, ↓reduceIte, basic, cellsL, resOf, setAt, below, belowB, belowA, atomB, Nat.reduceLeDiff, Nat.reduceMul, Int.reduceToNat, Int.reduceLT, Int.reduceLE, Int.reduceAdd, Int.reduceNeg, Int.reduceEq, splice, Nat.reduceEqDiff, Nat.reduceLT, isAtom, Int.reduceSub, Int.reduceMul, implies_true]
  refine ifI (fun h1 => ?_) (fun h1 => ?_)
  · simp (contextual := true) (implicitDefEqProofs := false) (maxSteps := 2000000) (disch := first | rfl | exact Nat.le_of_ble_eq_true rfl | omega | (simp only [List.length_append, List.length_cons, List.length_nil, List.length_set]; omega)) only [X1, X2, X3, X4, XA, XB, lc_block, lc_cond, XZ, undef_eq, Nat.reduceAdd, Nat.reduceSub, ↓reduceIte, basic, cellsL, resOf, setAt, below, belowB, belowA, atomB, Nat.reduceLeDiff, Nat.reduceMul, Int.reduceToNat, Int.reduceLT, Int.reduceLE, Int.reduceAdd, Int.reduceNeg, Int.reduceEq, splice, Nat.reduceEqDiff, Nat.reduceLT, isAtom, Int.reduceSub, Int.reduceMul, implies_true]
  refine plain_spec _ _ _ _ _ _ _ ?_
  simp (contextual := true) (implicitDefEqProofs := false) (maxSteps := 2000000) (disch := first | rfl | exact Nat.le_of_ble_eq_true rfl | omega | (simp only [List.length_append, List.length_cons, List.length_nil, List.length_set]; omega)) only [X1, X2, X3, X4, XA, XB, lc_block, lc_cond, XZ, undef_eq, Nat.reduceAdd, Nat.reduceSub, ↓reduceIte, basic, cellsL, resOf, setAt, below, belowB, belowA, atomB, Nat.reduceLeDiff, Nat.reduceMul, Int.reduceToNat, Int.reduceLT, Int.reduceLE, Int.reduceAdd, Int.reduceNeg, Int.reduceEq, splice, Nat.reduceEqDiff, Nat.reduceLT, isAtom, Int.reduceSub, Int.reduceMul, implies_true]
  refine refright_spec _ _ _ _ _ _ _ ?_
  cases hr : rightB a b s d
  · simp (contextual := true) (implicitDefEqProofs := false) (maxSteps := 2000000) (disch := first | rfl | exact Nat.le_of_ble_eq_true rfl | omega | (simp only [List.length_append, List.length_cons, List.length_nil, List.length_set]; omega)) only [X1, X2, X3, X4, XA, XB, lc_block, lc_cond, XZ, undef_eq, Nat.reduceAdd, Nat.reduceSub, ↓reduceIte, basic, cellsL, resOf, setAt, below, belowB, belowA, atomB, Nat.reduceLeDiff, Nat.reduceMul, Int.reduceToNat, Int.reduceLT, Int.reduceLE, Int.reduceAdd, Int.reduceNeg, Int.reduceEq, splice, Nat.reduceEqDiff, Nat.reduceLT, isAtom, Int.reduceSub, Int.reduceMul, implies_true]
  simp (contextual := true) (implicitDefEqProofs := false) (maxSteps := 2000000) (disch := first | rfl | exact Nat.le_of_ble_eq_true rfl | omega | (simp only [List.length_append, List.length_cons, List.length_nil, List.length_set]; omega)) only [X1, X2, X3, X4, XA, XB, lc_block, lc_cond, XZ, undef_eq, Nat.reduceAdd, Nat.reduceSub, ↓reduceIte, basic, cellsL, resOf, setAt, below, belowB, belowA, atomB, Nat.reduceLeDiff, Nat.reduceMul, Int.reduceToNat, Int.reduceLT, Int.reduceLE, Int.reduceAdd, Int.reduceNeg, Int.reduceEq, splice, Nat.reduceEqDiff, Nat.reduceLT, isAtom, Int.reduceSub, Int.reduceMul, implies_true]
  refine new_spec _ _ ?_
  simp (contextual := true) (implicitDefEqProofs := false) (maxSteps := 2000000) (disch := first | rfl | exact Nat.le_of_ble_eq_true rfl | omega | (simp only [List.length_append, List.length_cons, List.length_nil, List.length_set]; omega)) only [X1, X2, X3, X4, XA, XB, lc_block, lc_cond, XZ, undef_eq, Nat.reduceAdd, Nat.reduceSub, ↓reduceIte, basic, cellsL, resOf, setAt, below, belowB, belowA, atomB, Nat.reduceLeDiff, Nat.reduceMul, Int.reduceToNat, Int.reduceLT, Int.reduceLE, Int.reduceAdd, Int.reduceNeg, Int.reduceEq, splice, Nat.reduceEqDiff, Nat.reduceLT, isAtom, Int.reduceSub, Int.reduceMul, implies_true]
  have hb := right_bounds hr
  have hfl : (ops.map Op.cells).flatten.length = ops.length * 8 := flatten_length (f := Op.cells) (s := 8) (fun _ => rfl) ops
  refine loop_inv (fun n t m' => ∃ (k : Nat) (c most : Int) (g : Mem), n = ops.length - k ∧ k ≤ ops.length ∧ (0 ≤ c ∧ c ≤ most) ∧ most ≤ 255 ∧
    Tab 57 [(3, .pointer (some ⟨m.length, 0, none⟩)), (5, .pointer (some ⟨m.length + 1, 0, none⟩)), (6, .int .i64 most), (22, .slice sa ops.length ops.length), (23, .int .i64 (ops.length : Int)), (24, .int .i64 (k : Int))] t ∧
    m' = m ++ ⟨[.int .i64 a, .int .i64 b, .int .i64 s, .int .i64 d, .bool pf], 24, 1, 0, .own⟩ :: ⟨[.int .i64 c], 80, 1, 0, .own⟩ :: g) (n := ops.length) ?_ ?_
  · exact ⟨0, 0, 0, [], rfl, Nat.zero_le _, ⟨by omega, by omega⟩, by omega, ⟨rfl, by simp⟩, rfl⟩
  rintro n t m' ⟨k, c, most, g, rfl, hk, hc, hm255, ht, rfl⟩
  obtain ⟨f, rfl⟩ : ∃ f : Nat → Value, t = [f 0, f 1, f 2, .pointer (some ⟨m.length, 0, none⟩), f 4, .pointer (some ⟨m.length + 1, 0, none⟩), .int .i64 most, f 7, f 8, f 9, f 10, f 11, f 12, f 13, f 14, f 15, f 16, f 17, f 18, f 19, f 20, f 21, .slice sa ops.length ops.length, .int .i64 (ops.length : Int), .int .i64 (k : Int), f 25, f 26, f 27, f 28, f 29, f 30, f 31, f 32, f 33, f 34, f 35, f 36, f 37, f 38, f 39, f 40, f 41, f 42, f 43, f 44, f 45, f 46, f 47, f 48, f 49, f 50, f 51, f 52, f 53, f 54, f 55, f 56] := ht.open fun f => rfl
  by_cases hlt : k < ops.length
  · have hlt' : ((k : Int) < (ops.length : Int)) = True := by simp [hlt]
    have h0' : ((0 : Int) ≤ (k : Int)) = True := by simp
    obtain ⟨o, ho⟩ : ∃ o, ops[k]? = some o := ⟨ops[k], List.getElem?_eq_getElem hlt⟩
    obtain ⟨i, T, rfl, hm, hi⟩ := hcell (by omega)
    have hpart : List.take 8 (List.drop (k * 8) (ops.map Op.cells).flatten) = [.int .i64 o.a, .int .i64 o.b, .int .i64 o.s, .int .i64 o.d, .bool o.f, .bool o.waits, .bool o.busy, .int .i64 o.draw] := flatten_part (f := Op.cells) (s := 8) (fun _ => rfl) ops k o ho
    simp (contextual := true) (implicitDefEqProofs := false) (maxSteps := 2000000) (disch := first | rfl | exact Nat.le_of_ble_eq_true rfl | omega | (simp only [List.length_append, List.length_cons, List.length_nil, List.length_set]; omega)) only [hm, hlt', h0', hpart, Int.toNat_natCast, X1, X2, X3, X4, XA, XB, lc_block, lc_cond, XZ, undef_eq, Nat.reduceAdd, Nat.reduceSub, ↓reduceIte, basic, cellsL, resOf, setAt, below, belowB, belowA, atomB, Nat.reduceLeDiff, Nat.reduceMul, Int.reduceToNat, Int.reduceLT, Int.reduceLE, Int.reduceAdd, Int.reduceNeg, Int.reduceEq, splice, Nat.reduceEqDiff, Nat.reduceLT, isAtom, Int.reduceSub, Int.reduceMul, implies_true]
    refine step_spec _ c _ _ _ _ _ _ _ _ 80 _ (by omega) (by simp) _ ?_
    have hmost := step_most hc o
    have hst : (stepC c o.a o.b o.s o.d o.f o.waits o.busy o.draw).1 = o.step c := rfl
    rw [hst]
    generalize o.step c = c' at hmost ⊢
    simp (contextual := true) (implicitDefEqProofs := false) (maxSteps := 2000000) (disch := first | rfl | exact Nat.le_of_ble_eq_true rfl | omega | (simp only [List.length_append, List.length_cons, List.length_nil, List.length_set]; omega)) only [X1, X2, X3, X4, XA, XB, lc_block, lc_cond, XZ, undef_eq, Nat.reduceAdd, Nat.reduceSub, ↓reduceIte, basic, cellsL, resOf, setAt, below, belowB, belowA, atomB, Nat.reduceLeDiff, Nat.reduceMul, Int.reduceToNat, Int.reduceLT, Int.reduceLE, Int.reduceAdd, Int.reduceNeg, Int.reduceEq, splice, Nat.reduceEqDiff, Nat.reduceLT, isAtom, Int.reduceSub, Int.reduceMul, implies_true]
    refine plain_spec _ _ _ _ _ _ _ ?_
    simp (contextual := true) (implicitDefEqProofs := false) (maxSteps := 2000000) (disch := first | rfl | exact Nat.le_of_ble_eq_true rfl | omega | (simp only [List.length_append, List.length_cons, List.length_nil, List.length_set]; omega)) only [X1, X2, X3, X4, XA, XB, lc_block, lc_cond, XZ, undef_eq, Nat.reduceAdd, Nat.reduceSub, ↓reduceIte, basic, cellsL, resOf, setAt, below, belowB, belowA, atomB, Nat.reduceLeDiff, Nat.reduceMul, Int.reduceToNat, Int.reduceLT, Int.reduceLE, Int.reduceAdd, Int.reduceNeg, Int.reduceEq, splice, Nat.reduceEqDiff, Nat.reduceLT, isAtom, Int.reduceSub, Int.reduceMul, implies_true]
    refine refright_spec _ _ _ _ _ _ _ ?_
    cases hro : rightB o.a o.b o.s o.d
    · rw [hro] at hmost
      simp (contextual := true) (implicitDefEqProofs := false) (maxSteps := 2000000) (disch := first | rfl | exact Nat.le_of_ble_eq_true rfl | omega | (simp only [List.length_append, List.length_cons, List.length_nil, List.length_set]; omega)) only [X1, X2, X3, X4, XA, XB, lc_block, lc_cond, XZ, undef_eq, Nat.reduceAdd, Nat.reduceSub, ↓reduceIte, basic, cellsL, resOf, setAt, below, belowB, belowA, atomB, Nat.reduceLeDiff, Nat.reduceMul, Int.reduceToNat, Int.reduceLT, Int.reduceLE, Int.reduceAdd, Int.reduceNeg, Int.reduceEq, splice, Nat.reduceEqDiff, Nat.reduceLT, isAtom, Int.reduceSub, Int.reduceMul, implies_true]
      exact kInv_go ⟨k + 1, c', most, _, rfl, by omega, by simpa using hmost, hm255, ⟨rfl, by simp⟩, by first | rfl | simp⟩ (by omega)
    · rw [hro, if_pos rfl] at hmost
      have hbo := right_bounds hro
      simp (contextual := true) (implicitDefEqProofs := false) (maxSteps := 2000000) (disch := first | rfl | exact Nat.le_of_ble_eq_true rfl | omega | (simp only [List.length_append, List.length_cons, List.length_nil, List.length_set]; omega)) only [X1, X2, X3, X4, XA, XB, lc_block, lc_cond, XZ, undef_eq, Nat.reduceAdd, Nat.reduceSub, ↓reduceIte, basic, cellsL, resOf, setAt, below, belowB, belowA, atomB, Nat.reduceLeDiff, Nat.reduceMul, Int.reduceToNat, Int.reduceLT, Int.reduceLE, Int.reduceAdd, Int.reduceNeg, Int.reduceEq, splice, Nat.reduceEqDiff, Nat.reduceLT, isAtom, Int.reduceSub, Int.reduceMul, implies_true]
      have e1 : (if most < o.s then o.s else most) = max most o.s := by
        simp only [Int.max_def]; split <;> split <;> omega
      have e2 : max most o.s ≤ 255 := Int.max_le.2 ⟨hm255, hbo.2.2.1.2⟩
      exact kInv_go ⟨k + 1, c', max most o.s, _, rfl, by omega, hmost, e2, ⟨rfl, by simp [e1]⟩, by first | rfl | simp⟩ (by omega)
  · have hlt' : ((k : Int) < (ops.length : Int)) = False := by simp; omega
    simp (contextual := true) (implicitDefEqProofs := false) (maxSteps := 2000000) (disch := first | rfl | exact Nat.le_of_ble_eq_true rfl | omega | (simp only [List.length_append, List.length_cons, List.length_nil, List.length_set]; omega)) only [hlt', X1, X2, X3, X4, XA, XB, lc_block, lc_cond, XZ, undef_eq, Nat.reduceAdd, Nat.reduceSub, ↓reduceIte, basic, cellsL, resOf, setAt, below, belowB, belowA, atomB, Nat.reduceLeDiff, Nat.reduceMul, Int.reduceToNat, Int.reduceLT, Int.reduceLE, Int.reduceAdd, Int.reduceNeg, Int.reduceEq, splice, Nat.reduceEqDiff, Nat.reduceLT, isAtom, Int.reduceSub, Int.reduceMul, implies_true]
    refine loop_inv (fun n t m' => ∃ (i : Nat) (c' : Int) (g : Mem), n = (c + 1).toNat - i ∧ (i : Int) + c' = c ∧ 0 ≤ c' ∧
      Tab 57 [(3, .pointer (some ⟨m.length, 0, none⟩)), (5, .pointer (some ⟨m.length + 1, 0, none⟩)), (6, .int .i64 most), (9, .int .i64 (i : Int))] t ∧
      m' = m ++ ⟨[.int .i64 a, .int .i64 b, .int .i64 s, .int .i64 d, .bool pf], 24, 1, 0, .own⟩ :: ⟨[.int .i64 c'], 80, 1, 0, .own⟩ :: g) (n := (c + 1).toNat) ?_ ?_
    · exact ⟨0, c, g, by omega, by omega, hc.1, ⟨rfl, by simp⟩, by first | rfl | simp⟩
    rintro n t m' ⟨i, c', g', rfl, hic, hc', ht, rfl⟩
    obtain ⟨f', rfl⟩ : ∃ f : Nat → Value, t = [f 0, f 1, f 2, .pointer (some ⟨m.length, 0, none⟩), f 4, .pointer (some ⟨m.length + 1, 0, none⟩), .int .i64 most, f 7, f 8, .int .i64 (i : Int), f 10, f 11, f 12, f 13, f 14, f 15, f 16, f 17, f 18, f 19, f 20, f 21, f 22, f 23, f 24, f 25, f 26, f 27, f 28, f 29, f 30, f 31, f 32, f 33, f 34, f 35, f 36, f 37, f 38, f 39, f 40, f 41, f 42, f 43, f 44, f 45, f 46, f 47, f 48, f 49, f 50, f 51, f 52, f 53, f 54, f 55, f 56] := ht.open fun f => rfl
    have hw : IntKind.i64.wrap (most + 2) = most + 2 := wrap_i64 (by omega) (by omega)
    have hlt2 : ((i : Int) < most + 2) = True := by simp; omega
    simp (contextual := true) (implicitDefEqProofs := false) (maxSteps := 2000000) (disch := first | rfl | exact Nat.le_of_ble_eq_true rfl | omega | (simp only [List.length_append, List.length_cons, List.length_nil, List.length_set]; omega)) only [hw, hlt2, X1, X2, X3, X4, XA, XB, lc_block, lc_cond, XZ, undef_eq, Nat.reduceAdd, Nat.reduceSub, ↓reduceIte, basic, cellsL, resOf, setAt, below, belowB, belowA, atomB, Nat.reduceLeDiff, Nat.reduceMul, Int.reduceToNat, Int.reduceLT, Int.reduceLE, Int.reduceAdd, Int.reduceNeg, Int.reduceEq, splice, Nat.reduceEqDiff, Nat.reduceLT, isAtom, Int.reduceSub, Int.reduceMul, implies_true]
    refine step_spec _ c' _ _ _ _ _ _ _ _ 80 _ (by omega) (by simp) _ ?_
    cases pf
    · by_cases hc0 : 0 < c'
      · rw [show stepC c' a b s d false true false 0 = (c' - 1, false) by simp [stepC, hr, hc0]]
        simp (contextual := true) (implicitDefEqProofs := false) (maxSteps := 2000000) (disch := first | rfl | exact Nat.le_of_ble_eq_true rfl | omega | (simp only [List.length_append, List.length_cons, List.length_nil, List.length_set]; omega)) only [X1, X2, X3, X4, XA, XB, lc_block, lc_cond, XZ, undef_eq, Nat.reduceAdd, Nat.reduceSub, ↓reduceIte, basic, cellsL, resOf, setAt, below, belowB, belowA, atomB, Nat.reduceLeDiff, Nat.reduceMul, Int.reduceToNat, Int.reduceLT, Int.reduceLE, Int.reduceAdd, Int.reduceNeg, Int.reduceEq, splice, Nat.reduceEqDiff, Nat.reduceLT, isAtom, Int.reduceSub, Int.reduceMul, implies_true]
        have hw1 : IntKind.i64.wrap ((i : Int) + 1) = ((i + 1 : Nat) : Int) := by rw [wrap_i64 (by omega) (by omega)]; omega
        exact kInv_go ⟨i + 1, c' - 1, g', rfl, by omega, by omega, ⟨rfl, by simp [hw1]⟩, by first | rfl | simp⟩ (by omega)
      · rw [show stepC c' a b s d false true false 0 = (c', true) by simp [stepC, hr, hc0]; omega]
        simp (contextual := true) (implicitDefEqProofs := false) (maxSteps := 2000000) (disch := first | rfl | exact Nat.le_of_ble_eq_true rfl | omega | (simp only [List.length_append, List.length_cons, List.length_nil, List.length_set]; omega)) only [X1, X2, X3, X4, XA, XB, lc_block, lc_cond, XZ, undef_eq, Nat.reduceAdd, Nat.reduceSub, ↓reduceIte, basic, cellsL, resOf, setAt, below, belowB, belowA, atomB, Nat.reduceLeDiff, Nat.reduceMul, Int.reduceToNat, Int.reduceLT, Int.reduceLE, Int.reduceAdd, Int.reduceNeg, Int.reduceEq, splice, Nat.reduceEqDiff, Nat.reduceLT, isAtom, Int.reduceSub, Int.reduceMul, implies_true]
    · rw [show stepC c' a b s d true true false 0 = (c', true) by simp [stepC, hr]]
      simp (contextual := true) (implicitDefEqProofs := false) (maxSteps := 2000000) (disch := first | rfl | exact Nat.le_of_ble_eq_true rfl | omega | (simp only [List.length_append, List.length_cons, List.length_nil, List.length_set]; omega)) only [X1, X2, X3, X4, XA, XB, lc_block, lc_cond, XZ, undef_eq, Nat.reduceAdd, Nat.reduceSub, ↓reduceIte, basic, cellsL, resOf, setAt, below, belowB, belowA, atomB, Nat.reduceLeDiff, Nat.reduceMul, Int.reduceToNat, Int.reduceLT, Int.reduceLE, Int.reduceAdd, Int.reduceNeg, Int.reduceEq, splice, Nat.reduceEqDiff, Nat.reduceLT, isAtom, Int.reduceSub, Int.reduceMul, implies_true]

theorem wins_all (m : Mem) (vs : List Value) (h : F2 (TyV Try.prog m 4) [22, 24] vs) : LCall Try.prog 3 vs m fun v _ => v = .bool true := by
  obtain ⟨v, p, rfl, h1, h2⟩ := h.two_inv
  obtain ⟨cells, k, h3, h4⟩ := h1.slice Try.underlying22 (sz := 8) (by kernel_rfl)
  obtain ⟨l, rfl, rfl, _⟩ := h4.map (f := Op.cells) fun xs hx => op_of hx
  obtain ⟨_, rfl, x1, _, rfl, a1, x2, _, rfl, a2, x3, _, rfl, a3, x4, _, rfl, a4, x5, _, rfl, a5, rfl⟩ := h2.struct Try.underlying24 rfl
  obtain ⟨a, rfl, _⟩ := a1.int Try.underlying3
  obtain ⟨b, rfl, _⟩ := a2.int Try.underlying3
  obtain ⟨s, rfl, _⟩ := a3.int Try.underlying3
  obtain ⟨d, rfl, _⟩ := a4.int Try.underlying3
  obtain ⟨f, rfl⟩ := a5.bool Try.underlying4
  exact wins_law l v a b s d f m h3
end Go.Proofs.Ytfefieicnmglcaa
/- The law of the draws that win, walked. -/
namespace Go.Proofs.Ytfefieicnmglcaa
open Go.Lg
set_option maxRecDepth 8000
set_option maxHeartbeats 4000000
set_option linter.unusedSimpArgs false
set_option linter.unnecessarySimpa false
set_option linter.unusedVariables false

theorem and255' (d : Int) : (IntKind.i64.wrap ↑(BitVec.ofInt IntKind.i64.bits d &&& BitVec.ofInt IntKind.i64.bits 255).toNat) = d % 256 := and255 d

theorem tncwins_law (a b s d : Int) (pf : Bool) (draw : Int) (m : Mem) : LCall Try.prog 5 [.agg #[.int .i64 a, .int .i64 b, .int .i64 s, .int .i64 d, .bool pf], .int .i64 draw] m fun v _ => v = .bool true := by
  refine LCall_enter Try.func5 c5 ?_
  simp (contextual := true) (implicitDefEqProofs := false) (maxSteps := 2000000) (disch := first | rfl | exact Nat.le_of_ble_eq_true rfl | omega | (simp only [List.length_append, List.length_cons, List.length_nil, List.length_set]; omega)) only [L5, X1, X2, X3, X4, XA, XB, lc_block, lc_cond, XZ, undef_eq, Nat.reduceAdd, Nat.reduceSub, ↓reduceIte, basic, cellsL, resOf, setAt, below, belowB, belowA, atomB, Nat.reduceLeDiff, Nat.reduceMul, Int.reduceToNat, Int.reduceLT, Int.reduceLE, Int.reduceAdd, Int.reduceNeg, Int.reduceEq, splice, Nat.reduceEqDiff, Nat.reduceLT, isAtom, Int.reduceSub, Int.reduceMul, implies_true]
  refine (awake03 _).use ?_
  simp (contextual := true) (implicitDefEqProofs := false) (maxSteps := 2000000) (disch := first | rfl | exact Nat.le_of_ble_eq_true rfl | omega | (simp only [List.length_append, List.length_cons, List.length_nil, List.length_set]; omega)) only [X1, X2, X3, X4, XA, XB, lc_block, lc_cond, XZ, undef_eq, Nat.reduceAdd, Nat.reduceSub, ↓reduceIte, basic, cellsL, resOf, setAt, below, belowB, belowA, atomB, Nat.reduceLeDiff, Nat.reduceMul, Int.reduceToNat, Int.reduceLT, Int.reduceLE, Int.reduceAdd, Int.reduceNeg, Int.reduceEq, splice, Nat.reduceEqDiff, Nat.reduceLT, isAtom, Int.reduceSub, Int.reduceMul, implies_true]
  refine plain_spec _ _ _ _ _ _ _ ?_
  simp (contextual := true) (implicitDefEqProofs := false) (maxSteps := 2000000) (disch := first | rfl | exact Nat.le_of_ble_eq_true rfl | omega | (simp only [List.length_append, List.length_cons, List.length_nil, List.length_set]; omega)) only [X1, X2, X3, X4, XA, XB, lc_block, lc_cond, XZ, undef_eq, Nat.reduceAdd, Nat.reduceSub, ↓reduceIte, basic, cellsL, resOf, setAt, below, belowB, belowA, atomB, Nat.reduceLeDiff, Nat.reduceMul, Int.reduceToNat, Int.reduceLT, Int.reduceLE, Int.reduceAdd, Int.reduceNeg, Int.reduceEq, splice, Nat.reduceEqDiff, Nat.reduceLT, isAtom, Int.reduceSub, Int.reduceMul, implies_true]
  refine refright_spec _ _ _ _ _ _ _ ?_
  cases hr : rightB a b s d
  · simp (contextual := true) (implicitDefEqProofs := false) (maxSteps := 2000000) (disch := first | rfl | exact Nat.le_of_ble_eq_true rfl | omega | (simp only [List.length_append, List.length_cons, List.length_nil, List.length_set]; omega)) only [X1, X2, X3, X4, XA, XB, lc_block, lc_cond, XZ, undef_eq, Nat.reduceAdd, Nat.reduceSub, ↓reduceIte, basic, cellsL, resOf, setAt, below, belowB, belowA, atomB, Nat.reduceLeDiff, Nat.reduceMul, Int.reduceToNat, Int.reduceLT, Int.reduceLE, Int.reduceAdd, Int.reduceNeg, Int.reduceEq, splice, Nat.reduceEqDiff, Nat.reduceLT, isAtom, Int.reduceSub, Int.reduceMul, implies_true]
    refine wins_spec _ _ _ _ _ _ _ _ ?_
    simp (contextual := true) (implicitDefEqProofs := false) (maxSteps := 2000000) (disch := first | rfl | exact Nat.le_of_ble_eq_true rfl | omega | (simp only [List.length_append, List.length_cons, List.length_nil, List.length_set]; omega)) only [hr, Bool.false_and, X1, X2, X3, X4, XA, XB, lc_block, lc_cond, XZ, undef_eq, Nat.reduceAdd, Nat.reduceSub, ↓reduceIte, basic, cellsL, resOf, setAt, below, belowB, belowA, atomB, Nat.reduceLeDiff, Nat.reduceMul, Int.reduceToNat, Int.reduceLT, Int.reduceLE, Int.reduceAdd, Int.reduceNeg, Int.reduceEq, splice, Nat.reduceEqDiff, Nat.reduceLT, isAtom, Int.reduceSub, Int.reduceMul, implies_true]
  simp (contextual := true) (implicitDefEqProofs := false) (maxSteps := 2000000) (disch := first | rfl | exact Nat.le_of_ble_eq_true rfl | omega | (simp only [List.length_append, List.length_cons, List.length_nil, List.length_set]; omega)) only [X1, X2, X3, X4, XA, XB, lc_block, lc_cond, XZ, undef_eq, Nat.reduceAdd, Nat.reduceSub, ↓reduceIte, basic, cellsL, resOf, setAt, below, belowB, belowA, atomB, Nat.reduceLeDiff, Nat.reduceMul, Int.reduceToNat, Int.reduceLT, Int.reduceLE, Int.reduceAdd, Int.reduceNeg, Int.reduceEq, splice, Nat.reduceEqDiff, Nat.reduceLT, isAtom, Int.reduceSub, Int.reduceMul, implies_true]
  have hb := right_bounds hr
  refine loop_inv (fun n t m' => ∃ (i : Nat), n = 256 - i ∧ i ≤ 256 ∧
    Tab 42 [(1, .int .i64 draw), (2, .pointer (some ⟨m.length, 0, none⟩)), (5, .int .i64 (min (i : Int) (b + 1))), (6, .int .i64 (i : Int))] t ∧
    m' = m ++ [⟨[.int .i64 a, .int .i64 b, .int .i64 s, .int .i64 d, .bool pf], 24, 1, 0, .own⟩]) (n := 256) ?_ ?_
  · exact ⟨0, rfl, Nat.zero_le _, ⟨rfl, by simp; omega⟩, rfl⟩
  rintro n t m' ⟨i, rfl, hi, ht, rfl⟩
  obtain ⟨f, rfl⟩ : ∃ f : Nat → Value, t = [f 0, .int .i64 draw, .pointer (some ⟨m.length, 0, none⟩), f 3, f 4, .int .i64 (min (i : Int) (b + 1)), .int .i64 (i : Int), f 7, f 8, f 9, f 10, f 11, f 12, f 13, f 14, f 15, f 16, f 17, f 18, f 19, f 20, f 21, f 22, f 23, f 24, f 25, f 26, f 27, f 28, f 29, f 30, f 31, f 32, f 33, f 34, f 35, f 36, f 37, f 38, f 39, f 40, f 41] := ht.open fun f => rfl
  by_cases hlt : i < 256
  · have hlt' : ((i : Int) < 256) = True := by simp; omega
    simp (contextual := true) (implicitDefEqProofs := false) (maxSteps := 2000000) (disch := first | rfl | exact Nat.le_of_ble_eq_true rfl | omega | (simp only [List.length_append, List.length_cons, List.length_nil, List.length_set]; omega)) only [hlt', X1, X2, X3, X4, XA, XB, lc_block, lc_cond, XZ, undef_eq, Nat.reduceAdd, Nat.reduceSub, ↓reduceIte, basic, cellsL, resOf, setAt, below, belowB, belowA, atomB, Nat.reduceLeDiff, Nat.reduceMul, Int.reduceToNat, Int.reduceLT, Int.reduceLE, Int.reduceAdd, Int.reduceNeg, Int.reduceEq, splice, Nat.reduceEqDiff, Nat.reduceLT, isAtom, Int.reduceSub, Int.reduceMul, implies_true]
    refine wins_spec _ _ _ _ _ _ _ _ ?_
    have hw1 : IntKind.i64.wrap ((i : Int) + 1) = ((i + 1 : Nat) : Int) := by rw [wrap_i64 (by omega) (by omega)]; omega
    rw [hr, Bool.true_and]
    by_cases hib : (i : Int) % 256 ≤ b
    · rw [decide_eq_true hib]
      have e1 : IntKind.i64.wrap (min (i : Int) (b + 1) + 1) = min ((i + 1 : Nat) : Int) (b + 1) := by
        have h1 : min (i : Int) (b + 1) = i := Int.min_eq_left (by omega)
        have h2 : min ((i + 1 : Nat) : Int) (b + 1) = i + 1 := by rw [Int.min_eq_left (by omega)]; omega
        rw [h1, h2, wrap_i64 (by omega) (by omega)]
      simp (contextual := true) (implicitDefEqProofs := false) (maxSteps := 2000000) (disch := first | rfl | exact Nat.le_of_ble_eq_true rfl | omega | (simp only [List.length_append, List.length_cons, List.length_nil, List.length_set]; omega)) only [X1, X2, X3, X4, XA, XB, lc_block, lc_cond, XZ, undef_eq, Nat.reduceAdd, Nat.reduceSub, ↓reduceIte, basic, cellsL, resOf, setAt, below, belowB, belowA, atomB, Nat.reduceLeDiff, Nat.reduceMul, Int.reduceToNat, Int.reduceLT, Int.reduceLE, Int.reduceAdd, Int.reduceNeg, Int.reduceEq, splice, Nat.reduceEqDiff, Nat.reduceLT, isAtom, Int.reduceSub, Int.reduceMul, implies_true]
      exact kInv_go ⟨i + 1, rfl, by omega, ⟨rfl, by simp [hw1, e1]; omega⟩, rfl⟩ (by omega)
    · rw [decide_eq_false hib]
      have e1 : min (i : Int) (b + 1) = min ((i + 1 : Nat) : Int) (b + 1) := by
        rw [Int.min_eq_right (by omega), Int.min_eq_right (by omega)]
      simp (contextual := true) (implicitDefEqProofs := false) (maxSteps := 2000000) (disch := first | rfl | exact Nat.le_of_ble_eq_true rfl | omega | (simp only [List.length_append, List.length_cons, List.length_nil, List.length_set]; omega)) only [X1, X2, X3, X4, XA, XB, lc_block, lc_cond, XZ, undef_eq, Nat.reduceAdd, Nat.reduceSub, ↓reduceIte, basic, cellsL, resOf, setAt, below, belowB, belowA, atomB, Nat.reduceLeDiff, Nat.reduceMul, Int.reduceToNat, Int.reduceLT, Int.reduceLE, Int.reduceAdd, Int.reduceNeg, Int.reduceEq, splice, Nat.reduceEqDiff, Nat.reduceLT, isAtom, Int.reduceSub, Int.reduceMul, implies_true]
      exact kInv_go ⟨i + 1, rfl, by omega, ⟨rfl, by simp [hw1]; omega⟩, rfl⟩ (by omega)
  · have hlt' : ((i : Int) < 256) = False := by simp; omega
    have e0 : (min (i : Int) (b + 1) = b + 1) = True := by
      simp; omega
    simp (contextual := true) (implicitDefEqProofs := false) (maxSteps := 2000000) (disch := first | rfl | exact Nat.le_of_ble_eq_true rfl | omega | (simp only [List.length_append, List.length_cons, List.length_nil, List.length_set]; omega)) only [hlt', e0, and255', X1, X2, X3, X4, XA, XB, lc_block, lc_cond, XZ, undef_eq, Nat.reduceAdd, Nat.reduceSub, ↓reduceIte, basic, cellsL, resOf, setAt, below, belowB, belowA, atomB, Nat.reduceLeDiff, Nat.reduceMul, Int.reduceToNat, Int.reduceLT, Int.reduceLE, Int.reduceAdd, Int.reduceNeg, Int.reduceEq, splice, Nat.reduceEqDiff, Nat.reduceLT, isAtom, Int.reduceSub, Int.reduceMul, implies_true]
    refine wins_spec _ _ _ _ _ _ _ _ ?_
    simp (contextual := true) (implicitDefEqProofs := false) (maxSteps := 2000000) (disch := first | rfl | exact Nat.le_of_ble_eq_true rfl | omega | (simp only [List.length_append, List.length_cons, List.length_nil, List.length_set]; omega)) only [hr, Bool.true_and, and255', X1, X2, X3, X4, XA, XB, lc_block, lc_cond, XZ, undef_eq, Nat.reduceAdd, Nat.reduceSub, ↓reduceIte, basic, cellsL, resOf, setAt, below, belowB, belowA, atomB, Nat.reduceLeDiff, Nat.reduceMul, Int.reduceToNat, Int.reduceLT, Int.reduceLE, Int.reduceAdd, Int.reduceNeg, Int.reduceEq, splice, Nat.reduceEqDiff, Nat.reduceLT, isAtom, Int.reduceSub, Int.reduceMul, implies_true]

theorem params_of {m : Mem} {v : Value} (h : TyV Try.prog m 4 24 v) : ∃ (a b s d : Int) (f : Bool), v = .agg #[.int .i64 a, .int .i64 b, .int .i64 s, .int .i64 d, .bool f] := by
  obtain ⟨_, rfl, x1, _, rfl, a1, x2, _, rfl, a2, x3, _, rfl, a3, x4, _, rfl, a4, x5, _, rfl, a5, rfl⟩ := h.struct Try.underlying24 rfl
  obtain ⟨a, rfl, _⟩ := a1.int Try.underlying3
  obtain ⟨b, rfl, _⟩ := a2.int Try.underlying3
  obtain ⟨s, rfl, _⟩ := a3.int Try.underlying3
  obtain ⟨d, rfl, _⟩ := a4.int Try.underlying3
  obtain ⟨f, rfl⟩ := a5.bool Try.underlying4
  exact ⟨a, b, s, d, f, rfl⟩

theorem tncwins_all (m : Mem) (vs : List Value) (h : F2 (TyV Try.prog m 4) [24, 3] vs) : LCall Try.prog 5 vs m fun v _ => v = .bool true := by
  obtain ⟨v, p, rfl, h1, h2⟩ := h.two_inv
  obtain ⟨a, b, s, d, f, rfl⟩ := params_of h1
  obtain ⟨r, rfl, _⟩ := h2.int Try.underlying3
  exact tncwins_law a b s d f r m
end Go.Proofs.Ytfefieicnmglcaa
/- The law of what a frame makes of parameters, walked. -/
namespace Go.Proofs.Ytfefieicnmglcaa
open Go.Lg
set_option maxRecDepth 8000
set_option maxHeartbeats 8000000
set_option linter.unusedSimpArgs false
set_option linter.unnecessarySimpa false
set_option linter.unusedVariables false

/-- The error's number. -/
def errN (rt : Bool) (p c : Int) (n : Nat) : Int :=
  if rt = false then 1 else if ¬ (0 ≤ p ∧ p ≤ 15) ∨ ¬ (0 ≤ c ∧ c ≤ 15) ∨ (c = 15 ∧ p ≠ 15) then 2 else if 6 < c ∧ c < 15 then 7 else if (1 ≤ c ∧ c ≤ 5) ∧ n = 0 then 4 else 0
abbrev pr (a b s d : Int) (f : Bool) : Value := .agg #[.int .i64 a, .int .i64 b, .int .i64 s, .int .i64 d, .bool f]
abbrev fr (p c : Int) (t : ByteArray) : Value := .agg #[.int .i64 p, .int .i64 c, .string t]

theorem size_zero {t : ByteArray} : (t = ⟨#[]⟩) = (t.size = 0) := by
  apply propext
  constructor
  · rintro rfl; rfl
  · intro h
    exact ByteArray.ext (by rw [← Array.size_eq_zero_iff]; exact h)

theorem wrong_spec (a b s d : Int) (f : Bool) (p c : Int) (t : ByteArray) (m : Mem) : Ret Try.prog 42 [pr a b s d f, fr p c t] m (.int .i64 (errN (rightB a b s d) p c t.size)) m := by
  refine LCall_drop (LCall_enter Try.func42 c42 ?_)
  simp (contextual := true) (implicitDefEqProofs := false) (maxSteps := 2000000) (disch := first | rfl | exact Nat.le_of_ble_eq_true rfl | omega | (simp only [List.length_append, List.length_cons, List.length_nil, List.length_set]; omega)) only [L42, X1, X2, X3, X4, XA, XB, lc_block, lc_cond, XZ, undef_eq, Nat.reduceAdd, Nat.reduceSub, ↓reduceIte, basic, cellsL, resOf, setAt, below, belowB, belowA, atomB, Nat.reduceLeDiff, Nat.reduceMul, Int.reduceToNat, Int.reduceLT, Int.reduceLE, Int.reduceAdd, Int.reduceNeg, Int.reduceEq, splice, Nat.reduceEqDiff, Nat.reduceLT, isAtom, Int.reduceSub, Int.reduceMul, implies_true]
  refine right_spec _ _ _ _ _ _ _ ?_
  cases hr : rightB a b s d
  · simp (contextual := true) (implicitDefEqProofs := false) (maxSteps := 2000000) (disch := first | rfl | exact Nat.le_of_ble_eq_true rfl | omega | (simp only [List.length_append, List.length_cons, List.length_nil, List.length_set]; omega)) only [errN, X1, X2, X3, X4, XA, XB, lc_block, lc_cond, XZ, undef_eq, Nat.reduceAdd, Nat.reduceSub, ↓reduceIte, basic, cellsL, resOf, setAt, below, belowB, belowA, atomB, Nat.reduceLeDiff, Nat.reduceMul, Int.reduceToNat, Int.reduceLT, Int.reduceLE, Int.reduceAdd, Int.reduceNeg, Int.reduceEq, splice, Nat.reduceEqDiff, Nat.reduceLT, isAtom, Int.reduceSub, Int.reduceMul, implies_true]
  simp (contextual := true) (implicitDefEqProofs := false) (maxSteps := 2000000) (disch := first | rfl | exact Nat.le_of_ble_eq_true rfl | omega | (simp only [List.length_append, List.length_cons, List.length_nil, List.length_set]; omega)) only [X1, X2, X3, X4, XA, XB, lc_block, lc_cond, XZ, undef_eq, Nat.reduceAdd, Nat.reduceSub, ↓reduceIte, basic, cellsL, resOf, setAt, below, belowB, belowA, atomB, Nat.reduceLeDiff, Nat.reduceMul, Int.reduceToNat, Int.reduceLT, Int.reduceLE, Int.reduceAdd, Int.reduceNeg, Int.reduceEq, splice, Nat.reduceEqDiff, Nat.reduceLT, isAtom, Int.reduceSub, Int.reduceMul, implies_true]
  refine in_spec _ _ _ _ ?_
  by_cases hp : 0 ≤ p ∧ p ≤ 15
  · simp (contextual := true) (implicitDefEqProofs := false) (maxSteps := 2000000) (disch := first | rfl | exact Nat.le_of_ble_eq_true rfl | omega | (simp only [List.length_append, List.length_cons, List.length_nil, List.length_set]; omega)) only [decide_eq_true hp, X1, X2, X3, X4, XA, XB, lc_block, lc_cond, XZ, undef_eq, Nat.reduceAdd, Nat.reduceSub, ↓reduceIte, basic, cellsL, resOf, setAt, below, belowB, belowA, atomB, Nat.reduceLeDiff, Nat.reduceMul, Int.reduceToNat, Int.reduceLT, Int.reduceLE, Int.reduceAdd, Int.reduceNeg, Int.reduceEq, splice, Nat.reduceEqDiff, Nat.reduceLT, isAtom, Int.reduceSub, Int.reduceMul, implies_true]
    refine in_spec _ _ _ _ ?_
    by_cases hc : 0 ≤ c ∧ c ≤ 15
    · rw [decide_eq_true hc]
      by_cases h1 : c = 15
      · by_cases h2 : p = 15
        · have hs : (t = ⟨#[]⟩) = (t.size = 0) := size_zero
          subst h1 h2
          simp (contextual := true) (implicitDefEqProofs := false) (maxSteps := 2000000) (disch := first | rfl | exact Nat.le_of_ble_eq_true rfl | omega | (simp only [List.length_append, List.length_cons, List.length_nil, List.length_set]; omega)) only [X1, X2, X3, X4, XA, XB, lc_block, lc_cond, XZ, undef_eq, Nat.reduceAdd, Nat.reduceSub, ↓reduceIte, basic, cellsL, resOf, setAt, below, belowB, belowA, atomB, Nat.reduceLeDiff, Nat.reduceMul, Int.reduceToNat, Int.reduceLT, Int.reduceLE, Int.reduceAdd, Int.reduceNeg, Int.reduceEq, splice, Nat.reduceEqDiff, Nat.reduceLT, isAtom, Int.reduceSub, Int.reduceMul, implies_true]
          simp [errN]
        · subst h1
          simp (contextual := true) (implicitDefEqProofs := false) (maxSteps := 2000000) (disch := first | rfl | exact Nat.le_of_ble_eq_true rfl | omega | (simp only [List.length_append, List.length_cons, List.length_nil, List.length_set]; omega)) only [h2, X1, X2, X3, X4, XA, XB, lc_block, lc_cond, XZ, undef_eq, Nat.reduceAdd, Nat.reduceSub, ↓reduceIte, basic, cellsL, resOf, setAt, below, belowB, belowA, atomB, Nat.reduceLeDiff, Nat.reduceMul, Int.reduceToNat, Int.reduceLT, Int.reduceLE, Int.reduceAdd, Int.reduceNeg, Int.reduceEq, splice, Nat.reduceEqDiff, Nat.reduceLT, isAtom, Int.reduceSub, Int.reduceMul, implies_true]
          simp [errN, h2]
      · have e : errN true p c t.size = if 6 < c ∧ c < 15 then 7 else if (1 ≤ c ∧ c ≤ 5) ∧ t.size = 0 then 4 else 0 := by
          unfold errN
          rw [if_neg (by simp), if_neg (by simp [hp, hc, h1])]
        have hc15 : (c < 15) = True := by simp; omega
        by_cases h3 : 6 < c
        · simp (contextual := true) (implicitDefEqProofs := false) (maxSteps := 2000000) (disch := first | rfl | exact Nat.le_of_ble_eq_true rfl | omega | (simp only [List.length_append, List.length_cons, List.length_nil, List.length_set]; omega)) only [h1, h3, hc15, X1, X2, X3, X4, XA, XB, lc_block, lc_cond, XZ, undef_eq, Nat.reduceAdd, Nat.reduceSub, ↓reduceIte, basic, cellsL, resOf, setAt, below, belowB, belowA, atomB, Nat.reduceLeDiff, Nat.reduceMul, Int.reduceToNat, Int.reduceLT, Int.reduceLE, Int.reduceAdd, Int.reduceNeg, Int.reduceEq, splice, Nat.reduceEqDiff, Nat.reduceLT, isAtom, Int.reduceSub, Int.reduceMul, implies_true]
          simp [e, h3, hc15]
        · by_cases h4 : 1 ≤ c
          · by_cases h5 : c ≤ 5
            · by_cases h6 : t.size = 0
              · have hs : (t = ⟨#[]⟩) = True := by rw [size_zero]; simp [h6]
                simp (contextual := true) (implicitDefEqProofs := false) (maxSteps := 2000000) (disch := first | rfl | exact Nat.le_of_ble_eq_true rfl | omega | (simp only [List.length_append, List.length_cons, List.length_nil, List.length_set]; omega)) only [h1, h3, h4, h5, hs, X1, X2, X3, X4, XA, XB, lc_block, lc_cond, XZ, undef_eq, Nat.reduceAdd, Nat.reduceSub, ↓reduceIte, basic, cellsL, resOf, setAt, below, belowB, belowA, atomB, Nat.reduceLeDiff, Nat.reduceMul, Int.reduceToNat, Int.reduceLT, Int.reduceLE, Int.reduceAdd, Int.reduceNeg, Int.reduceEq, splice, Nat.reduceEqDiff, Nat.reduceLT, isAtom, Int.reduceSub, Int.reduceMul, implies_true]
                rw [e]; simp [h3, h4, h5, h6]
              · have hs : (t = ⟨#[]⟩) = False := by rw [size_zero]; simp [h6]
                simp (contextual := true) (implicitDefEqProofs := false) (maxSteps := 2000000) (disch := first | rfl | exact Nat.le_of_ble_eq_true rfl | omega | (simp only [List.length_append, List.length_cons, List.length_nil, List.length_set]; omega)) only [h1, h3, h4, h5, hs, X1, X2, X3, X4, XA, XB, lc_block, lc_cond, XZ, undef_eq, Nat.reduceAdd, Nat.reduceSub, ↓reduceIte, basic, cellsL, resOf, setAt, below, belowB, belowA, atomB, Nat.reduceLeDiff, Nat.reduceMul, Int.reduceToNat, Int.reduceLT, Int.reduceLE, Int.reduceAdd, Int.reduceNeg, Int.reduceEq, splice, Nat.reduceEqDiff, Nat.reduceLT, isAtom, Int.reduceSub, Int.reduceMul, implies_true]
                rw [e]; simp [h3, h4, h5, h6]
            · simp (contextual := true) (implicitDefEqProofs := false) (maxSteps := 2000000) (disch := first | rfl | exact Nat.le_of_ble_eq_true rfl | omega | (simp only [List.length_append, List.length_cons, List.length_nil, List.length_set]; omega)) only [h1, h3, h4, h5, X1, X2, X3, X4, XA, XB, lc_block, lc_cond, XZ, undef_eq, Nat.reduceAdd, Nat.reduceSub, ↓reduceIte, basic, cellsL, resOf, setAt, below, belowB, belowA, atomB, Nat.reduceLeDiff, Nat.reduceMul, Int.reduceToNat, Int.reduceLT, Int.reduceLE, Int.reduceAdd, Int.reduceNeg, Int.reduceEq, splice, Nat.reduceEqDiff, Nat.reduceLT, isAtom, Int.reduceSub, Int.reduceMul, implies_true]
              simp [e, h3, h4, h5]
          · simp (contextual := true) (implicitDefEqProofs := false) (maxSteps := 2000000) (disch := first | rfl | exact Nat.le_of_ble_eq_true rfl | omega | (simp only [List.length_append, List.length_cons, List.length_nil, List.length_set]; omega)) only [h1, h3, h4, X1, X2, X3, X4, XA, XB, lc_block, lc_cond, XZ, undef_eq, Nat.reduceAdd, Nat.reduceSub, ↓reduceIte, basic, cellsL, resOf, setAt, below, belowB, belowA, atomB, Nat.reduceLeDiff, Nat.reduceMul, Int.reduceToNat, Int.reduceLT, Int.reduceLE, Int.reduceAdd, Int.reduceNeg, Int.reduceEq, splice, Nat.reduceEqDiff, Nat.reduceLT, isAtom, Int.reduceSub, Int.reduceMul, implies_true]
            simp [e, h3, h4]
    · simp (contextual := true) (implicitDefEqProofs := false) (maxSteps := 2000000) (disch := first | rfl | exact Nat.le_of_ble_eq_true rfl | omega | (simp only [List.length_append, List.length_cons, List.length_nil, List.length_set]; omega)) only [decide_eq_false hc, X1, X2, X3, X4, XA, XB, lc_block, lc_cond, XZ, undef_eq, Nat.reduceAdd, Nat.reduceSub, ↓reduceIte, basic, cellsL, resOf, setAt, below, belowB, belowA, atomB, Nat.reduceLeDiff, Nat.reduceMul, Int.reduceToNat, Int.reduceLT, Int.reduceLE, Int.reduceAdd, Int.reduceNeg, Int.reduceEq, splice, Nat.reduceEqDiff, Nat.reduceLT, isAtom, Int.reduceSub, Int.reduceMul, implies_true]
      simp [errN, hc]
  · simp (contextual := true) (implicitDefEqProofs := false) (maxSteps := 2000000) (disch := first | rfl | exact Nat.le_of_ble_eq_true rfl | omega | (simp only [List.length_append, List.length_cons, List.length_nil, List.length_set]; omega)) only [decide_eq_false hp, X1, X2, X3, X4, XA, XB, lc_block, lc_cond, XZ, undef_eq, Nat.reduceAdd, Nat.reduceSub, ↓reduceIte, basic, cellsL, resOf, setAt, below, belowB, belowA, atomB, Nat.reduceLeDiff, Nat.reduceMul, Int.reduceToNat, Int.reduceLT, Int.reduceLE, Int.reduceAdd, Int.reduceNeg, Int.reduceEq, splice, Nat.reduceEqDiff, Nat.reduceLT, isAtom, Int.reduceSub, Int.reduceMul, implies_true]
    simp [errN, hp]

/-- The parameters that a frame makes, if nothing is wrong. -/
def setP (a b s d : Int) (f : Bool) (c : Int) (x : Int) : Value :=
  if c = 1 then pr x b s d f else if c = 2 then pr a x s d f else if c = 3 then pr a b x d f else if c = 4 then pr a b s x f else if c = 5 then pr a b s d (decide (x ≠ 0)) else pr a b s d f
def byte0 (t : ByteArray) : Int := ((t.data.toList.headD 0).toNat : Int)
def appl (a b s d : Int) (f : Bool) (p c : Int) (t : ByteArray) : Value :=
  if errN (rightB a b s d) p c t.size = 0 then setP a b s d f c (byte0 t) else pr a b s d f

theorem head_of {t : ByteArray} (h : ¬ t.size = 0) : t.data.toList[0]? = some (t.data.toList.headD 0) := by
  have : 0 < t.data.toList.length := by
    rw [Array.length_toList]; exact Nat.pos_of_ne_zero h
  cases ht : t.data.toList with
  | nil => simp [ht] at this
  | cons x r => simp

theorem errN_zero {rt : Bool} {p c : Int} {n : Nat} (h : errN rt p c n = 0) : rt = true ∧ (0 ≤ p ∧ p ≤ 15) ∧ (0 ≤ c ∧ c ≤ 15) ∧ ¬ (6 < c ∧ c < 15) ∧ ((1 ≤ c ∧ c ≤ 5) → ¬ n = 0) ∧ (c = 15 → p = 15) := by
  unfold errN at h
  split at h
  · exact absurd h (by decide)
  · split at h
    · exact absurd h (by decide)
    · split at h
      · exact absurd h (by decide)
      · split at h
        · exact absurd h (by decide)
        · rename_i h1 h2 h3 h4
          refine ⟨by simpa using h1, by omega, by omega, h3, fun h5 h6 => h4 ⟨h5, h6⟩, by omega⟩

theorem five_cases {c : Int} (h : 0 ≤ c ∧ c ≤ 15) (h2 : ¬ (6 < c ∧ c < 15)) : c = 1 ∨ c = 2 ∨ c = 3 ∨ c = 4 ∨ c = 5 ∨ (c = 0 ∨ c = 6 ∨ c = 15) := by omega

theorem byte_wrap (x : UInt8) : IntKind.i64.wrap (x.toNat : Int) = (x.toNat : Int) := by
  have := x.toNat_lt
  rw [wrap_i64 (by omega) (by omega)]

theorem apply_spec (a b s d : Int) (f : Bool) (p c : Int) (t : ByteArray) (m : Mem) :
    Ret Try.prog 19 [pr a b s d f, fr p c t] m (.tuple #[appl a b s d f p c t, .int .i64 (errN (rightB a b s d) p c t.size)]) m := by
  refine LCall_drop (LCall_enter Try.func19 c19 ?_)
  simp (contextual := true) (implicitDefEqProofs := false) (maxSteps := 2000000) (disch := first | rfl | exact Nat.le_of_ble_eq_true rfl | omega | (simp only [List.length_append, List.length_cons, List.length_nil, List.length_set]; omega)) only [L19, X1, X2, X3, X4, XA, XB, lc_block, lc_cond, XZ, undef_eq, Nat.reduceAdd, Nat.reduceSub, ↓reduceIte, basic, cellsL, resOf, setAt, below, belowB, belowA, atomB, Nat.reduceLeDiff, Nat.reduceMul, Int.reduceToNat, Int.reduceLT, Int.reduceLE, Int.reduceAdd, Int.reduceNeg, Int.reduceEq, splice, Nat.reduceEqDiff, Nat.reduceLT, isAtom, Int.reduceSub, Int.reduceMul, implies_true]
  refine (wrong_spec _ _ _ _ _ _ _ _ _).use ?_
  by_cases he : errN (rightB a b s d) p c t.size = 0
  · obtain ⟨_, _, hc, h6, hz, _⟩ := errN_zero he
    have happ : appl a b s d f p c t = setP a b s d f c (byte0 t) := if_pos he
    rcases five_cases hc h6 with rfl | rfl | rfl | rfl | rfl | h
    rotate_left 4
    · have hx := head_of (hz (by decide))
      simp (contextual := true) (implicitDefEqProofs := false) (maxSteps := 2000000) (disch := first | rfl | exact Nat.le_of_ble_eq_true rfl | omega | (simp only [List.length_append, List.length_cons, List.length_nil, List.length_set]; omega)) only [he, hx, X1, X2, X3, X4, XA, XB, lc_block, lc_cond, XZ, undef_eq, Nat.reduceAdd, Nat.reduceSub, ↓reduceIte, basic, cellsL, resOf, setAt, below, belowB, belowA, atomB, Nat.reduceLeDiff, Nat.reduceMul, Int.reduceToNat, Int.reduceLT, Int.reduceLE, Int.reduceAdd, Int.reduceNeg, Int.reduceEq, splice, Nat.reduceEqDiff, Nat.reduceLT, isAtom, Int.reduceSub, Int.reduceMul, implies_true]
      simp [happ, setP, byte0]
    · rcases h with rfl | rfl | rfl <;>
      · simp (contextual := true) (implicitDefEqProofs := false) (maxSteps := 2000000) (disch := first | rfl | exact Nat.le_of_ble_eq_true rfl | omega | (simp only [List.length_append, List.length_cons, List.length_nil, List.length_set]; omega)) only [he, X1, X2, X3, X4, XA, XB, lc_block, lc_cond, XZ, undef_eq, Nat.reduceAdd, Nat.reduceSub, ↓reduceIte, basic, cellsL, resOf, setAt, below, belowB, belowA, atomB, Nat.reduceLeDiff, Nat.reduceMul, Int.reduceToNat, Int.reduceLT, Int.reduceLE, Int.reduceAdd, Int.reduceNeg, Int.reduceEq, splice, Nat.reduceEqDiff, Nat.reduceLT, isAtom, Int.reduceSub, Int.reduceMul, implies_true]
        simp [happ, setP]
    all_goals
      have hx := head_of (hz (by decide))
      have hw := byte_wrap (t.data.toList.headD 0)
      simp (contextual := true) (implicitDefEqProofs := false) (maxSteps := 2000000) (disch := first | rfl | exact Nat.le_of_ble_eq_true rfl | omega | (simp only [List.length_append, List.length_cons, List.length_nil, List.length_set]; omega)) only [he, hx, hw, X1, X2, X3, X4, XA, XB, lc_block, lc_cond, XZ, undef_eq, Nat.reduceAdd, Nat.reduceSub, ↓reduceIte, basic, cellsL, resOf, setAt, below, belowB, belowA, atomB, Nat.reduceLeDiff, Nat.reduceMul, Int.reduceToNat, Int.reduceLT, Int.reduceLE, Int.reduceAdd, Int.reduceNeg, Int.reduceEq, splice, Nat.reduceEqDiff, Nat.reduceLT, isAtom, Int.reduceSub, Int.reduceMul, implies_true]
      refine numbers_spec _ _ (by simp) _ ?_
      simp (contextual := true) (implicitDefEqProofs := false) (maxSteps := 2000000) (disch := first | rfl | exact Nat.le_of_ble_eq_true rfl | omega | (simp only [List.length_append, List.length_cons, List.length_nil, List.length_set]; omega)) only [he, hx, hw, X1, X2, X3, X4, XA, XB, lc_block, lc_cond, XZ, undef_eq, Nat.reduceAdd, Nat.reduceSub, ↓reduceIte, basic, cellsL, resOf, setAt, below, belowB, belowA, atomB, Nat.reduceLeDiff, Nat.reduceMul, Int.reduceToNat, Int.reduceLT, Int.reduceLE, Int.reduceAdd, Int.reduceNeg, Int.reduceEq, splice, Nat.reduceEqDiff, Nat.reduceLT, isAtom, Int.reduceSub, Int.reduceMul, implies_true]
      simp [happ, setP, byte0]
  · simp (contextual := true) (implicitDefEqProofs := false) (maxSteps := 2000000) (disch := first | rfl | exact Nat.le_of_ble_eq_true rfl | omega | (simp only [List.length_append, List.length_cons, List.length_nil, List.length_set]; omega)) only [he, X1, X2, X3, X4, XA, XB, lc_block, lc_cond, XZ, undef_eq, Nat.reduceAdd, Nat.reduceSub, ↓reduceIte, basic, cellsL, resOf, setAt, below, belowB, belowA, atomB, Nat.reduceLeDiff, Nat.reduceMul, Int.reduceToNat, Int.reduceLT, Int.reduceLE, Int.reduceAdd, Int.reduceNeg, Int.reduceEq, splice, Nat.reduceEqDiff, Nat.reduceLT, isAtom, Int.reduceSub, Int.reduceMul, implies_true]
    simp [appl, he]

theorem refapply_spec (a b s d : Int) (f : Bool) (p c : Int) (t : ByteArray) (m : Mem) :
    Ret Try.prog 20 [pr a b s d f, fr p c t] m (.tuple #[appl a b s d f p c t, .int .i64 (errN (rightB a b s d) p c t.size)]) m := by
  refine LCall_drop (LCall_enter Try.func20 c20 ?_)
  simp (contextual := true) (implicitDefEqProofs := false) (maxSteps := 2000000) (disch := first | rfl | exact Nat.le_of_ble_eq_true rfl | omega | (simp only [List.length_append, List.length_cons, List.length_nil, List.length_set]; omega)) only [L20, X1, X2, X3, X4, XA, XB, lc_block, lc_cond, XZ, undef_eq, Nat.reduceAdd, Nat.reduceSub, ↓reduceIte, basic, cellsL, resOf, setAt, below, belowB, belowA, atomB, Nat.reduceLeDiff, Nat.reduceMul, Int.reduceToNat, Int.reduceLT, Int.reduceLE, Int.reduceAdd, Int.reduceNeg, Int.reduceEq, splice, Nat.reduceEqDiff, Nat.reduceLT, isAtom, Int.reduceSub, Int.reduceMul, implies_true]
  refine refright_spec _ _ _ _ _ _ _ ?_
  cases hr : rightB a b s d
  · simp (contextual := true) (implicitDefEqProofs := false) (maxSteps := 2000000) (disch := first | rfl | exact Nat.le_of_ble_eq_true rfl | omega | (simp only [List.length_append, List.length_cons, List.length_nil, List.length_set]; omega)) only [X1, X2, X3, X4, XA, XB, lc_block, lc_cond, XZ, undef_eq, Nat.reduceAdd, Nat.reduceSub, ↓reduceIte, basic, cellsL, resOf, setAt, below, belowB, belowA, atomB, Nat.reduceLeDiff, Nat.reduceMul, Int.reduceToNat, Int.reduceLT, Int.reduceLE, Int.reduceAdd, Int.reduceNeg, Int.reduceEq, splice, Nat.reduceEqDiff, Nat.reduceLT, isAtom, Int.reduceSub, Int.reduceMul, implies_true]
    simp [errN, appl, hr]
  have e2 (h : ¬ (0 ≤ p ∧ p ≤ 15) ∨ ¬ (0 ≤ c ∧ c ≤ 15) ∨ (c = 15 ∧ p ≠ 15)) : errN true p c t.size = 2 := by
    unfold errN; rw [if_neg (by simp), if_pos h]
  by_cases hp0 : p < 0
  · have e := e2 (by omega)
    simp (contextual := true) (implicitDefEqProofs := false) (maxSteps := 2000000) (disch := first | rfl | exact Nat.le_of_ble_eq_true rfl | omega | (simp only [List.length_append, List.length_cons, List.length_nil, List.length_set]; omega)) only [hp0, X1, X2, X3, X4, XA, XB, lc_block, lc_cond, XZ, undef_eq, Nat.reduceAdd, Nat.reduceSub, ↓reduceIte, basic, cellsL, resOf, setAt, below, belowB, belowA, atomB, Nat.reduceLeDiff, Nat.reduceMul, Int.reduceToNat, Int.reduceLT, Int.reduceLE, Int.reduceAdd, Int.reduceNeg, Int.reduceEq, splice, Nat.reduceEqDiff, Nat.reduceLT, isAtom, Int.reduceSub, Int.reduceMul, implies_true]
    simp [appl, hr, e]
  by_cases hp1 : 15 < p
  · have e := e2 (by omega)
    simp (contextual := true) (implicitDefEqProofs := false) (maxSteps := 2000000) (disch := first | rfl | exact Nat.le_of_ble_eq_true rfl | omega | (simp only [List.length_append, List.length_cons, List.length_nil, List.length_set]; omega)) only [hp0, hp1, X1, X2, X3, X4, XA, XB, lc_block, lc_cond, XZ, undef_eq, Nat.reduceAdd, Nat.reduceSub, ↓reduceIte, basic, cellsL, resOf, setAt, below, belowB, belowA, atomB, Nat.reduceLeDiff, Nat.reduceMul, Int.reduceToNat, Int.reduceLT, Int.reduceLE, Int.reduceAdd, Int.reduceNeg, Int.reduceEq, splice, Nat.reduceEqDiff, Nat.reduceLT, isAtom, Int.reduceSub, Int.reduceMul, implies_true]
    simp [appl, hr, e]
  by_cases hc0 : c < 0
  · have e := e2 (by omega)
    simp (contextual := true) (implicitDefEqProofs := false) (maxSteps := 2000000) (disch := first | rfl | exact Nat.le_of_ble_eq_true rfl | omega | (simp only [List.length_append, List.length_cons, List.length_nil, List.length_set]; omega)) only [hp0, hp1, hc0, X1, X2, X3, X4, XA, XB, lc_block, lc_cond, XZ, undef_eq, Nat.reduceAdd, Nat.reduceSub, ↓reduceIte, basic, cellsL, resOf, setAt, below, belowB, belowA, atomB, Nat.reduceLeDiff, Nat.reduceMul, Int.reduceToNat, Int.reduceLT, Int.reduceLE, Int.reduceAdd, Int.reduceNeg, Int.reduceEq, splice, Nat.reduceEqDiff, Nat.reduceLT, isAtom, Int.reduceSub, Int.reduceMul, implies_true]
    simp [appl, hr, e]
  by_cases hc1 : 15 < c
  · have e := e2 (by omega)
    simp (contextual := true) (implicitDefEqProofs := false) (maxSteps := 2000000) (disch := first | rfl | exact Nat.le_of_ble_eq_true rfl | omega | (simp only [List.length_append, List.length_cons, List.length_nil, List.length_set]; omega)) only [hp0, hp1, hc0, hc1, X1, X2, X3, X4, XA, XB, lc_block, lc_cond, XZ, undef_eq, Nat.reduceAdd, Nat.reduceSub, ↓reduceIte, basic, cellsL, resOf, setAt, below, belowB, belowA, atomB, Nat.reduceLeDiff, Nat.reduceMul, Int.reduceToNat, Int.reduceLT, Int.reduceLE, Int.reduceAdd, Int.reduceNeg, Int.reduceEq, splice, Nat.reduceEqDiff, Nat.reduceLT, isAtom, Int.reduceSub, Int.reduceMul, implies_true]
    simp [appl, hr, e]
  by_cases hc15 : c = 15
  · by_cases hp15 : p = 15
    · subst hc15 hp15
      simp (contextual := true) (implicitDefEqProofs := false) (maxSteps := 2000000) (disch := first | rfl | exact Nat.le_of_ble_eq_true rfl | omega | (simp only [List.length_append, List.length_cons, List.length_nil, List.length_set]; omega)) only [X1, X2, X3, X4, XA, XB, lc_block, lc_cond, XZ, undef_eq, Nat.reduceAdd, Nat.reduceSub, ↓reduceIte, basic, cellsL, resOf, setAt, below, belowB, belowA, atomB, Nat.reduceLeDiff, Nat.reduceMul, Int.reduceToNat, Int.reduceLT, Int.reduceLE, Int.reduceAdd, Int.reduceNeg, Int.reduceEq, splice, Nat.reduceEqDiff, Nat.reduceLT, isAtom, Int.reduceSub, Int.reduceMul, implies_true]
      simp [appl, hr, errN, setP]
    · have e := e2 (by omega)
      subst hc15
      simp (contextual := true) (implicitDefEqProofs := false) (maxSteps := 2000000) (disch := first | rfl | exact Nat.le_of_ble_eq_true rfl | omega | (simp only [List.length_append, List.length_cons, List.length_nil, List.length_set]; omega)) only [hp0, hp1, hp15, X1, X2, X3, X4, XA, XB, lc_block, lc_cond, XZ, undef_eq, Nat.reduceAdd, Nat.reduceSub, ↓reduceIte, basic, cellsL, resOf, setAt, below, belowB, belowA, atomB, Nat.reduceLeDiff, Nat.reduceMul, Int.reduceToNat, Int.reduceLT, Int.reduceLE, Int.reduceAdd, Int.reduceNeg, Int.reduceEq, splice, Nat.reduceEqDiff, Nat.reduceLT, isAtom, Int.reduceSub, Int.reduceMul, implies_true]
      simp [appl, hr, e]
  have e3 : errN true p c t.size = if 6 < c ∧ c < 15 then 7 else if (1 ≤ c ∧ c ≤ 5) ∧ t.size = 0 then 4 else 0 := by
    unfold errN
    rw [if_neg (by simp), if_neg (by omega)]
  by_cases h7 : 7 ≤ c
  · have h14 : (c ≤ 14) = True := by simp; omega
    have e : errN true p c t.size = 7 := by rw [e3, if_pos (by omega)]
    simp (contextual := true) (implicitDefEqProofs := false) (maxSteps := 2000000) (disch := first | rfl | exact Nat.le_of_ble_eq_true rfl | omega | (simp only [List.length_append, List.length_cons, List.length_nil, List.length_set]; omega)) only [hp0, hp1, hc0, hc1, hc15, h7, h14, X1, X2, X3, X4, XA, XB, lc_block, lc_cond, XZ, undef_eq, Nat.reduceAdd, Nat.reduceSub, ↓reduceIte, basic, cellsL, resOf, setAt, below, belowB, belowA, atomB, Nat.reduceLeDiff, Nat.reduceMul, Int.reduceToNat, Int.reduceLT, Int.reduceLE, Int.reduceAdd, Int.reduceNeg, Int.reduceEq, splice, Nat.reduceEqDiff, Nat.reduceLT, isAtom, Int.reduceSub, Int.reduceMul, implies_true]
    simp [appl, hr, e]
  rw [if_neg (by omega)] at e3
  by_cases h0 : c = 0
  · have e : errN true p c t.size = 0 := by rw [e3, if_neg (by omega)]
    subst h0
    simp (contextual := true) (implicitDefEqProofs := false) (maxSteps := 2000000) (disch := first | rfl | exact Nat.le_of_ble_eq_true rfl | omega | (simp only [List.length_append, List.length_cons, List.length_nil, List.length_set]; omega)) only [hp0, hp1, X1, X2, X3, X4, XA, XB, lc_block, lc_cond, XZ, undef_eq, Nat.reduceAdd, Nat.reduceSub, ↓reduceIte, basic, cellsL, resOf, setAt, below, belowB, belowA, atomB, Nat.reduceLeDiff, Nat.reduceMul, Int.reduceToNat, Int.reduceLT, Int.reduceLE, Int.reduceAdd, Int.reduceNeg, Int.reduceEq, splice, Nat.reduceEqDiff, Nat.reduceLT, isAtom, Int.reduceSub, Int.reduceMul, implies_true]
    simp [appl, hr, e, setP]
  by_cases h6 : c = 6
  · have e : errN true p c t.size = 0 := by rw [e3, if_neg (by omega)]
    subst h6
    simp (contextual := true) (implicitDefEqProofs := false) (maxSteps := 2000000) (disch := first | rfl | exact Nat.le_of_ble_eq_true rfl | omega | (simp only [List.length_append, List.length_cons, List.length_nil, List.length_set]; omega)) only [hp0, hp1, X1, X2, X3, X4, XA, XB, lc_block, lc_cond, XZ, undef_eq, Nat.reduceAdd, Nat.reduceSub, ↓reduceIte, basic, cellsL, resOf, setAt, below, belowB, belowA, atomB, Nat.reduceLeDiff, Nat.reduceMul, Int.reduceToNat, Int.reduceLT, Int.reduceLE, Int.reduceAdd, Int.reduceNeg, Int.reduceEq, splice, Nat.reduceEqDiff, Nat.reduceLT, isAtom, Int.reduceSub, Int.reduceMul, implies_true]
    simp [appl, hr, e, setP]
  by_cases hz : t.size = 0
  · have e : errN true p c t.size = 4 := by rw [e3, if_pos ⟨by omega, hz⟩]
    have hz' : ((t.size : Int) = 0) = True := by simp [hz]
    simp (contextual := true) (implicitDefEqProofs := false) (maxSteps := 2000000) (disch := first | rfl | exact Nat.le_of_ble_eq_true rfl | omega | (simp only [List.length_append, List.length_cons, List.length_nil, List.length_set]; omega)) only [hp0, hp1, hc0, hc1, hc15, h7, h0, h6, hz', X1, X2, X3, X4, XA, XB, lc_block, lc_cond, XZ, undef_eq, Nat.reduceAdd, Nat.reduceSub, ↓reduceIte, basic, cellsL, resOf, setAt, below, belowB, belowA, atomB, Nat.reduceLeDiff, Nat.reduceMul, Int.reduceToNat, Int.reduceLT, Int.reduceLE, Int.reduceAdd, Int.reduceNeg, Int.reduceEq, splice, Nat.reduceEqDiff, Nat.reduceLT, isAtom, Int.reduceSub, Int.reduceMul, implies_true]
    simp [appl, hr, e]
  have e : errN true p c t.size = 0 := by rw [e3, if_neg (fun h => hz h.2)]
  have happ : appl a b s d f p c t = setP a b s d f c (byte0 t) := if_pos (by rw [hr]; exact e)
  have hx := head_of hz
  have hw := byte_wrap (t.data.toList.headD 0)
  have hz' : ((t.size : Int) = 0) = False := by simp only [eq_iff_iff, iff_false]; omega
  rcases five_cases (c := c) (by omega) (by omega) with rfl | rfl | rfl | rfl | rfl | h
  rotate_left 4
  · simp (contextual := true) (implicitDefEqProofs := false) (maxSteps := 2000000) (disch := first | rfl | exact Nat.le_of_ble_eq_true rfl | omega | (simp only [List.length_append, List.length_cons, List.length_nil, List.length_set]; omega)) only [hp0, hp1, hz', hx, X1, X2, X3, X4, XA, XB, lc_block, lc_cond, XZ, undef_eq, Nat.reduceAdd, Nat.reduceSub, ↓reduceIte, basic, cellsL, resOf, setAt, below, belowB, belowA, atomB, Nat.reduceLeDiff, Nat.reduceMul, Int.reduceToNat, Int.reduceLT, Int.reduceLE, Int.reduceAdd, Int.reduceNeg, Int.reduceEq, splice, Nat.reduceEqDiff, Nat.reduceLT, isAtom, Int.reduceSub, Int.reduceMul, implies_true]
    simp [happ, setP, byte0, e]
    by_cases hn : (t.data.toList.head?.getD 0).toNat = 0
    · simp [hn]
    · rw [decide_eq_true (by omega), decide_eq_false hn]; rfl
  · omega
  all_goals
    simp (contextual := true) (implicitDefEqProofs := false) (maxSteps := 2000000) (disch := first | rfl | exact Nat.le_of_ble_eq_true rfl | omega | (simp only [List.length_append, List.length_cons, List.length_nil, List.length_set]; omega)) only [hp0, hp1, hz', hx, hw, X1, X2, X3, X4, XA, XB, lc_block, lc_cond, XZ, undef_eq, Nat.reduceAdd, Nat.reduceSub, ↓reduceIte, basic, cellsL, resOf, setAt, below, belowB, belowA, atomB, Nat.reduceLeDiff, Nat.reduceMul, Int.reduceToNat, Int.reduceLT, Int.reduceLE, Int.reduceAdd, Int.reduceNeg, Int.reduceEq, splice, Nat.reduceEqDiff, Nat.reduceLT, isAtom, Int.reduceSub, Int.reduceMul, implies_true]
    simp [happ, setP, byte0, e]

theorem appl_pr (a b s d : Int) (f : Bool) (p c : Int) (t : ByteArray) : ∃ a' b' s' d' f', appl a b s d f p c t = pr a' b' s' d' f' := by
  unfold appl setP
  repeat' split
  all_goals exact ⟨_, _, _, _, _, rfl⟩

theorem ext_3 {m : Mem} {a b c : Blk} : ext (m ++ [a, b]) (m ++ [a, b, c]) = True := eq_true ⟨[c], by simp⟩
theorem ext_4 {m : Mem} {a b c d : Blk} : ext (m ++ [a, b, c]) (m ++ [a, b, c, d]) = True := eq_true ⟨[d], by simp⟩
theorem tncapplies_law (a b s d : Int) (f : Bool) (p c : Int) (t : ByteArray) (m : Mem) : LCall Try.prog 4 [pr a b s d f, fr p c t] m fun v _ => v = .bool true := by
  refine LCall_enter Try.func4 c4 ?_
  simp (contextual := true) (implicitDefEqProofs := false) (maxSteps := 2000000) (disch := first | rfl | exact Nat.le_of_ble_eq_true rfl | omega | (simp only [List.length_append, List.length_cons, List.length_nil, List.length_set]; omega)) only [L4, X1, X2, X3, X4, XA, XB, lc_block, lc_cond, XZ, undef_eq, Nat.reduceAdd, Nat.reduceSub, ↓reduceIte, basic, cellsL, resOf, setAt, below, belowB, belowA, atomB, Nat.reduceLeDiff, Nat.reduceMul, Int.reduceToNat, Int.reduceLT, Int.reduceLE, Int.reduceAdd, Int.reduceNeg, Int.reduceEq, splice, Nat.reduceEqDiff, Nat.reduceLT, isAtom, Int.reduceSub, Int.reduceMul, implies_true]
  refine (awake03 _).use ?_
  simp (contextual := true) (implicitDefEqProofs := false) (maxSteps := 2000000) (disch := first | rfl | exact Nat.le_of_ble_eq_true rfl | omega | (simp only [List.length_append, List.length_cons, List.length_nil, List.length_set]; omega)) only [X1, X2, X3, X4, XA, XB, lc_block, lc_cond, XZ, undef_eq, Nat.reduceAdd, Nat.reduceSub, ↓reduceIte, basic, cellsL, resOf, setAt, below, belowB, belowA, atomB, Nat.reduceLeDiff, Nat.reduceMul, Int.reduceToNat, Int.reduceLT, Int.reduceLE, Int.reduceAdd, Int.reduceNeg, Int.reduceEq, splice, Nat.reduceEqDiff, Nat.reduceLT, isAtom, Int.reduceSub, Int.reduceMul, implies_true]
  refine ifI (fun h => ?_) (fun h => ?_)
  · simp (contextual := true) (implicitDefEqProofs := false) (maxSteps := 2000000) (disch := first | rfl | exact Nat.le_of_ble_eq_true rfl | omega | (simp only [List.length_append, List.length_cons, List.length_nil, List.length_set]; omega)) only [X1, X2, X3, X4, XA, XB, lc_block, lc_cond, XZ, undef_eq, Nat.reduceAdd, Nat.reduceSub, ↓reduceIte, basic, cellsL, resOf, setAt, below, belowB, belowA, atomB, Nat.reduceLeDiff, Nat.reduceMul, Int.reduceToNat, Int.reduceLT, Int.reduceLE, Int.reduceAdd, Int.reduceNeg, Int.reduceEq, splice, Nat.reduceEqDiff, Nat.reduceLT, isAtom, Int.reduceSub, Int.reduceMul, implies_true]
  try simp (contextual := true) (implicitDefEqProofs := false) (maxSteps := 2000000) (disch := first | rfl | exact Nat.le_of_ble_eq_true rfl | omega | (simp only [List.length_append, List.length_cons, List.length_nil, List.length_set]; omega)) only [X1, X2, X3, X4, XA, XB, lc_block, lc_cond, XZ, undef_eq, Nat.reduceAdd, Nat.reduceSub, ↓reduceIte, basic, cellsL, resOf, setAt, below, belowB, belowA, atomB, Nat.reduceLeDiff, Nat.reduceMul, Int.reduceToNat, Int.reduceLT, Int.reduceLE, Int.reduceAdd, Int.reduceNeg, Int.reduceEq, splice, Nat.reduceEqDiff, Nat.reduceLT, isAtom, Int.reduceSub, Int.reduceMul, implies_true]
  refine (apply_spec _ _ _ _ _ _ _ _ _).use ?_
  obtain ⟨a', b', s', d', f', e⟩ := appl_pr a b s d f p c t
  rw [e]
  simp (contextual := true) (implicitDefEqProofs := false) (maxSteps := 2000000) (disch := first | rfl | exact Nat.le_of_ble_eq_true rfl | omega | (simp only [List.length_append, List.length_cons, List.length_nil, List.length_set]; omega)) only [X1, X2, X3, X4, XA, XB, lc_block, lc_cond, XZ, undef_eq, Nat.reduceAdd, Nat.reduceSub, ↓reduceIte, basic, cellsL, resOf, setAt, below, belowB, belowA, atomB, Nat.reduceLeDiff, Nat.reduceMul, Int.reduceToNat, Int.reduceLT, Int.reduceLE, Int.reduceAdd, Int.reduceNeg, Int.reduceEq, splice, Nat.reduceEqDiff, Nat.reduceLT, isAtom, Int.reduceSub, Int.reduceMul, implies_true]
  refine plain_spec _ _ _ _ _ _ _ ?_
  simp (contextual := true) (implicitDefEqProofs := false) (maxSteps := 2000000) (disch := first | rfl | exact Nat.le_of_ble_eq_true rfl | omega | (simp only [List.length_append, List.length_cons, List.length_nil, List.length_set]; omega)) only [X1, X2, X3, X4, XA, XB, lc_block, lc_cond, XZ, undef_eq, Nat.reduceAdd, Nat.reduceSub, ↓reduceIte, basic, cellsL, resOf, setAt, below, belowB, belowA, atomB, Nat.reduceLeDiff, Nat.reduceMul, Int.reduceToNat, Int.reduceLT, Int.reduceLE, Int.reduceAdd, Int.reduceNeg, Int.reduceEq, splice, Nat.reduceEqDiff, Nat.reduceLT, isAtom, Int.reduceSub, Int.reduceMul, implies_true]
  refine (refapply_spec _ _ _ _ _ _ _ _ _).use ?_
  rw [e]
  simp (contextual := true) (implicitDefEqProofs := false) (maxSteps := 2000000) (disch := first | rfl | exact Nat.le_of_ble_eq_true rfl | omega | (simp only [List.length_append, List.length_cons, List.length_nil, List.length_set]; omega)) only [X1, X2, X3, X4, XA, XB, lc_block, lc_cond, XZ, undef_eq, Nat.reduceAdd, Nat.reduceSub, ↓reduceIte, basic, cellsL, resOf, setAt, below, belowB, belowA, atomB, Nat.reduceLeDiff, Nat.reduceMul, Int.reduceToNat, Int.reduceLT, Int.reduceLE, Int.reduceAdd, Int.reduceNeg, Int.reduceEq, splice, Nat.reduceEqDiff, Nat.reduceLT, isAtom, Int.reduceSub, Int.reduceMul, implies_true]
  refine plain_spec _ _ _ _ _ _ _ ?_
  simp (contextual := true) (implicitDefEqProofs := false) (maxSteps := 2000000) (disch := first | rfl | exact Nat.le_of_ble_eq_true rfl | omega | (simp only [List.length_append, List.length_cons, List.length_nil, List.length_set]; omega)) only [eqN, eqLeaves, X1, X2, X3, X4, XA, XB, lc_block, lc_cond, XZ, undef_eq, Nat.reduceAdd, Nat.reduceSub, ↓reduceIte, basic, cellsL, resOf, setAt, below, belowB, belowA, atomB, Nat.reduceLeDiff, Nat.reduceMul, Int.reduceToNat, Int.reduceLT, Int.reduceLE, Int.reduceAdd, Int.reduceNeg, Int.reduceEq, splice, Nat.reduceEqDiff, Nat.reduceLT, isAtom, Int.reduceSub, Int.reduceMul, implies_true]
  refine right_spec _ _ _ _ _ _ _ ?_
  try simp (contextual := true) (implicitDefEqProofs := false) (maxSteps := 2000000) (disch := first | rfl | exact Nat.le_of_ble_eq_true rfl | omega | (simp only [List.length_append, List.length_cons, List.length_nil, List.length_set]; omega)) only [X1, X2, X3, X4, XA, XB, lc_block, lc_cond, XZ, undef_eq, Nat.reduceAdd, Nat.reduceSub, ↓reduceIte, basic, cellsL, resOf, setAt, below, belowB, belowA, atomB, Nat.reduceLeDiff, Nat.reduceMul, Int.reduceToNat, Int.reduceLT, Int.reduceLE, Int.reduceAdd, Int.reduceNeg, Int.reduceEq, splice, Nat.reduceEqDiff, Nat.reduceLT, isAtom, Int.reduceSub, Int.reduceMul, implies_true]
  refine plain_spec _ _ _ _ _ _ _ ?_
  try simp (contextual := true) (implicitDefEqProofs := false) (maxSteps := 2000000) (disch := first | rfl | exact Nat.le_of_ble_eq_true rfl | omega | (simp only [List.length_append, List.length_cons, List.length_nil, List.length_set]; omega)) only [X1, X2, X3, X4, XA, XB, lc_block, lc_cond, XZ, undef_eq, Nat.reduceAdd, Nat.reduceSub, ↓reduceIte, basic, cellsL, resOf, setAt, below, belowB, belowA, atomB, Nat.reduceLeDiff, Nat.reduceMul, Int.reduceToNat, Int.reduceLT, Int.reduceLE, Int.reduceAdd, Int.reduceNeg, Int.reduceEq, splice, Nat.reduceEqDiff, Nat.reduceLT, isAtom, Int.reduceSub, Int.reduceMul, implies_true]
  refine refright_spec _ _ _ _ _ _ _ ?_
  cases hr : rightB a b s d <;> simp (contextual := true) (implicitDefEqProofs := false) (maxSteps := 2000000) (disch := first | rfl | exact Nat.le_of_ble_eq_true rfl | omega | (simp only [List.length_append, List.length_cons, List.length_nil, List.length_set]; omega)) only [X1, X2, X3, X4, XA, XB, lc_block, lc_cond, XZ, undef_eq, Nat.reduceAdd, Nat.reduceSub, ↓reduceIte, basic, cellsL, resOf, setAt, below, belowB, belowA, atomB, Nat.reduceLeDiff, Nat.reduceMul, Int.reduceToNat, Int.reduceLT, Int.reduceLE, Int.reduceAdd, Int.reduceNeg, Int.reduceEq, splice, Nat.reduceEqDiff, Nat.reduceLT, isAtom, Int.reduceSub, Int.reduceMul, implies_true]

theorem tncapplies_all (m : Mem) (vs : List Value) (h : F2 (TyV Try.prog m 4) [24, 38] vs) : LCall Try.prog 4 vs m fun v _ => v = .bool true := by
  obtain ⟨v, w, rfl, h1, h2⟩ := h.two_inv
  obtain ⟨a, b, s, d, f, rfl⟩ := params_of h1
  obtain ⟨_, rfl, x1, _, rfl, hx, x2, _, rfl, hy, x3, _, rfl, hz, rfl⟩ := h2.struct Try.underlying38 rfl
  obtain ⟨p, rfl, _⟩ := hx.int Try.underlying3
  obtain ⟨c, rfl, _⟩ := hy.int Try.underlying3
  obtain ⟨t, rfl, _⟩ := hz.string Try.underlying9
  exact tncapplies_law a b s d f p c t m
end Go.Proofs.Ytfefieicnmglcaa
