import Derived.Test.YtfefieicnmglcaaH
namespace Go.Proofs.Ytfefieicnmglcaa
open Go.Lg
set_option maxRecDepth 8000
set_option maxHeartbeats 4000000
set_option linter.unusedSimpArgs false
set_option linter.unnecessarySimpa false
set_option linter.unusedVariables false

theorem refright_spec (a b s d : Int) (f : Bool) (m : Mem) (K : Value → Mem → Prop) (hk : K (.bool (rightB a b s d)) m) : LCall Try.prog 14 [.agg #[.int .i64 a, .int .i64 b, .int .i64 s, .int .i64 d, .bool f]] m K := by
  refine LCall_drop (LCall_enter Try.func14 c14 ?_)
  simp (contextual := true) (implicitDefEqProofs := false) (maxSteps := 2000000) (disch := first | rfl | exact Nat.le_of_ble_eq_true rfl | omega | (simp only [List.length_append, List.length_cons, List.length_nil, List.length_set]; omega)) only [L14, W1, W2, W3, W4, W5, W6, W7, W8, W9, W10, W11, W12, W13, W14, W15, eq_self, ite_true, ite_false, undef_eq, List.set_cons_zero, List.set_cons_succ, List.getD_cons_zero, List.getD_cons_succ, List.map_cons, List.map_nil, List.length_cons, List.length_nil, List.append_nil, List.cons_append, List.nil_append, List.replicate_succ, List.replicate_zero, Nat.reduceAdd, Nat.reduceSub, ↓reduceIte, List.getElem?_cons_zero, List.getElem?_cons_succ, basic, cellsL, resOf, setAt, List.append_assoc, List.length_append, List.getElem?_append_left, List.getElem?_append_right, List.set_append_left, List.set_append_right, below, belowB, belowA, atomB, List.mem_cons, List.not_mem_nil, forall_eq_or_imp, forall_eq, List.toList_toArray, implies_true, List.take_succ_cons, List.take_zero, List.drop_succ_cons, List.drop_zero, List.take_nil, List.drop_nil, Nat.reduceLeDiff, Nat.reduceMul, Int.reduceToNat, Int.reduceLT, Int.reduceLE, Int.reduceAdd, Int.reduceNeg, Int.reduceEq, splice, List.singleton_append, Nat.reduceEqDiff, Nat.reduceLT, isAtom, List.all_cons, List.all_nil, Option.map_some, Option.bind_some, List.length_set, Int.reduceSub, Int.reduceMul, List.getElem?_set_self, List.getElem?_set_ne, ofB_2, tmpR_if, ro_sliceData, ro_capNil, ro_noZero, ext_2, ext_3, ext_4, ext_5, List.set_set]
  rw [lc_loop]
  simp (contextual := true) (implicitDefEqProofs := false) (maxSteps := 2000000) (disch := first | rfl | exact Nat.le_of_ble_eq_true rfl | omega | (simp only [List.length_append, List.length_cons, List.length_nil, List.length_set]; omega)) only [W1, W2, W3, W4, W5, W6, W7, W8, W9, W10, W11, W12, W13, W14, W15, eq_self, ite_true, ite_false, undef_eq, List.set_cons_zero, List.set_cons_succ, List.getD_cons_zero, List.getD_cons_succ, List.map_cons, List.map_nil, List.length_cons, List.length_nil, List.append_nil, List.cons_append, List.nil_append, List.replicate_succ, List.replicate_zero, Nat.reduceAdd, Nat.reduceSub, ↓reduceIte, List.getElem?_cons_zero, List.getElem?_cons_succ, basic, cellsL, resOf, setAt, List.append_assoc, List.length_append, List.getElem?_append_left, List.getElem?_append_right, List.set_append_left, List.set_append_right, below, belowB, belowA, atomB, List.mem_cons, List.not_mem_nil, forall_eq_or_imp, forall_eq, List.toList_toArray, implies_true, List.take_succ_cons, List.take_zero, List.drop_succ_cons, List.drop_zero, List.take_nil, List.drop_nil, Nat.reduceLeDiff, Nat.reduceMul, Int.reduceToNat, Int.reduceLT, Int.reduceLE, Int.reduceAdd, Int.reduceNeg, Int.reduceEq, splice, List.singleton_append, Nat.reduceEqDiff, Nat.reduceLT, isAtom, List.all_cons, List.all_nil, Option.map_some, Option.bind_some, List.length_set, Int.reduceSub, Int.reduceMul, List.getElem?_set_self, List.getElem?_set_ne, ofB_2, tmpR_if, ro_sliceData, ro_capNil, ro_noZero, ext_2, ext_3, ext_4, ext_5, List.set_set]
  refine ifI (fun h1 => ?_) (fun h1 => ?_)
  · rw [show rightB a b s d = false from decide_eq_false (by omega)] at hk; exact hk
  refine ifI (fun h2 => ?_) (fun h2 => ?_)
  · rw [show rightB a b s d = false from decide_eq_false (by omega)] at hk; exact hk
  rw [lc_loop]
  simp (contextual := true) (implicitDefEqProofs := false) (maxSteps := 2000000) (disch := first | rfl | exact Nat.le_of_ble_eq_true rfl | omega | (simp only [List.length_append, List.length_cons, List.length_nil, List.length_set]; omega)) only [W1, W2, W3, W4, W5, W6, W7, W8, W9, W10, W11, W12, W13, W14, W15, eq_self, ite_true, ite_false, undef_eq, List.set_cons_zero, List.set_cons_succ, List.getD_cons_zero, List.getD_cons_succ, List.map_cons, List.map_nil, List.length_cons, List.length_nil, List.append_nil, List.cons_append, List.nil_append, List.replicate_succ, List.replicate_zero, Nat.reduceAdd, Nat.reduceSub, ↓reduceIte, List.getElem?_cons_zero, List.getElem?_cons_succ, basic, cellsL, resOf, setAt, List.append_assoc, List.length_append, List.getElem?_append_left, List.getElem?_append_right, List.set_append_left, List.set_append_right, below, belowB, belowA, atomB, List.mem_cons, List.not_mem_nil, forall_eq_or_imp, forall_eq, List.toList_toArray, implies_true, List.take_succ_cons, List.take_zero, List.drop_succ_cons, List.drop_zero, List.take_nil, List.drop_nil, Nat.reduceLeDiff, Nat.reduceMul, Int.reduceToNat, Int.reduceLT, Int.reduceLE, Int.reduceAdd, Int.reduceNeg, Int.reduceEq, splice, List.singleton_append, Nat.reduceEqDiff, Nat.reduceLT, isAtom, List.all_cons, List.all_nil, Option.map_some, Option.bind_some, List.length_set, Int.reduceSub, Int.reduceMul, List.getElem?_set_self, List.getElem?_set_ne, ofB_2, tmpR_if, ro_sliceData, ro_capNil, ro_noZero, ext_2, ext_3, ext_4, ext_5, List.set_set]
  refine ifI (fun h3 => ?_) (fun h3 => ?_)
  · rw [show rightB a b s d = false from decide_eq_false (by omega)] at hk; exact hk
  refine ifI (fun h4 => ?_) (fun h4 => ?_)
  · rw [show rightB a b s d = false from decide_eq_false (by omega)] at hk; exact hk
  rw [lc_loop]
  simp (contextual := true) (implicitDefEqProofs := false) (maxSteps := 2000000) (disch := first | rfl | exact Nat.le_of_ble_eq_true rfl | omega | (simp only [List.length_append, List.length_cons, List.length_nil, List.length_set]; omega)) only [W1, W2, W3, W4, W5, W6, W7, W8, W9, W10, W11, W12, W13, W14, W15, eq_self, ite_true, ite_false, undef_eq, List.set_cons_zero, List.set_cons_succ, List.getD_cons_zero, List.getD_cons_succ, List.map_cons, List.map_nil, List.length_cons, List.length_nil, List.append_nil, List.cons_append, List.nil_append, List.replicate_succ, List.replicate_zero, Nat.reduceAdd, Nat.reduceSub, ↓reduceIte, List.getElem?_cons_zero, List.getElem?_cons_succ, basic, cellsL, resOf, setAt, List.append_assoc, List.length_append, List.getElem?_append_left, List.getElem?_append_right, List.set_append_left, List.set_append_right, below, belowB, belowA, atomB, List.mem_cons, List.not_mem_nil, forall_eq_or_imp, forall_eq, List.toList_toArray, implies_true, List.take_succ_cons, List.take_zero, List.drop_succ_cons, List.drop_zero, List.take_nil, List.drop_nil, Nat.reduceLeDiff, Nat.reduceMul, Int.reduceToNat, Int.reduceLT, Int.reduceLE, Int.reduceAdd, Int.reduceNeg, Int.reduceEq, splice, List.singleton_append, Nat.reduceEqDiff, Nat.reduceLT, isAtom, List.all_cons, List.all_nil, Option.map_some, Option.bind_some, List.length_set, Int.reduceSub, Int.reduceMul, List.getElem?_set_self, List.getElem?_set_ne, ofB_2, tmpR_if, ro_sliceData, ro_capNil, ro_noZero, ext_2, ext_3, ext_4, ext_5, List.set_set]
  refine ifI (fun h5 => ?_) (fun h5 => ?_)
  · rw [show rightB a b s d = false from decide_eq_false (by omega)] at hk; exact hk
  refine ifI (fun h6 => ?_) (fun h6 => ?_)
  · rw [show rightB a b s d = false from decide_eq_false (by omega)] at hk; exact hk
  rw [lc_loop]
  simp (contextual := true) (implicitDefEqProofs := false) (maxSteps := 2000000) (disch := first | rfl | exact Nat.le_of_ble_eq_true rfl | omega | (simp only [List.length_append, List.length_cons, List.length_nil, List.length_set]; omega)) only [W1, W2, W3, W4, W5, W6, W7, W8, W9, W10, W11, W12, W13, W14, W15, eq_self, ite_true, ite_false, undef_eq, List.set_cons_zero, List.set_cons_succ, List.getD_cons_zero, List.getD_cons_succ, List.map_cons, List.map_nil, List.length_cons, List.length_nil, List.append_nil, List.cons_append, List.nil_append, List.replicate_succ, List.replicate_zero, Nat.reduceAdd, Nat.reduceSub, ↓reduceIte, List.getElem?_cons_zero, List.getElem?_cons_succ, basic, cellsL, resOf, setAt, List.append_assoc, List.length_append, List.getElem?_append_left, List.getElem?_append_right, List.set_append_left, List.set_append_right, below, belowB, belowA, atomB, List.mem_cons, List.not_mem_nil, forall_eq_or_imp, forall_eq, List.toList_toArray, implies_true, List.take_succ_cons, List.take_zero, List.drop_succ_cons, List.drop_zero, List.take_nil, List.drop_nil, Nat.reduceLeDiff, Nat.reduceMul, Int.reduceToNat, Int.reduceLT, Int.reduceLE, Int.reduceAdd, Int.reduceNeg, Int.reduceEq, splice, List.singleton_append, Nat.reduceEqDiff, Nat.reduceLT, isAtom, List.all_cons, List.all_nil, Option.map_some, Option.bind_some, List.length_set, Int.reduceSub, Int.reduceMul, List.getElem?_set_self, List.getElem?_set_ne, ofB_2, tmpR_if, ro_sliceData, ro_capNil, ro_noZero, ext_2, ext_3, ext_4, ext_5, List.set_set]
  refine ifI (fun h7 => ?_) (fun h7 => ?_)
  · rw [show rightB a b s d = false from decide_eq_false (by omega)] at hk; exact hk
  refine ifI (fun h8 => ?_) (fun h8 => ?_)
  · rw [show rightB a b s d = false from decide_eq_false (by omega)] at hk; exact hk
  rw [lc_loop]
  simp (contextual := true) (implicitDefEqProofs := false) (maxSteps := 2000000) (disch := first | rfl | exact Nat.le_of_ble_eq_true rfl | omega | (simp only [List.length_append, List.length_cons, List.length_nil, List.length_set]; omega)) only [W1, W2, W3, W4, W5, W6, W7, W8, W9, W10, W11, W12, W13, W14, W15, eq_self, ite_true, ite_false, undef_eq, List.set_cons_zero, List.set_cons_succ, List.getD_cons_zero, List.getD_cons_succ, List.map_cons, List.map_nil, List.length_cons, List.length_nil, List.append_nil, List.cons_append, List.nil_append, List.replicate_succ, List.replicate_zero, Nat.reduceAdd, Nat.reduceSub, ↓reduceIte, List.getElem?_cons_zero, List.getElem?_cons_succ, basic, cellsL, resOf, setAt, List.append_assoc, List.length_append, List.getElem?_append_left, List.getElem?_append_right, List.set_append_left, List.set_append_right, below, belowB, belowA, atomB, List.mem_cons, List.not_mem_nil, forall_eq_or_imp, forall_eq, List.toList_toArray, implies_true, List.take_succ_cons, List.take_zero, List.drop_succ_cons, List.drop_zero, List.take_nil, List.drop_nil, Nat.reduceLeDiff, Nat.reduceMul, Int.reduceToNat, Int.reduceLT, Int.reduceLE, Int.reduceAdd, Int.reduceNeg, Int.reduceEq, splice, List.singleton_append, Nat.reduceEqDiff, Nat.reduceLT, isAtom, List.all_cons, List.all_nil, Option.map_some, Option.bind_some, List.length_set, Int.reduceSub, Int.reduceMul, List.getElem?_set_self, List.getElem?_set_ne, ofB_2, tmpR_if, ro_sliceData, ro_capNil, ro_noZero, ext_2, ext_3, ext_4, ext_5, List.set_set]
  rw [show rightB a b s d = true from decide_eq_true (by omega)] at hk; exact hk

theorem plain_spec (a b s d : Int) (f : Bool) (m : Mem) (K : Value → Mem → Prop) (hk : K (.agg #[.int .i64 a, .int .i64 b, .int .i64 s, .int .i64 d, .bool f]) m) : LCall Try.prog 15 [.agg #[.int .i64 a, .int .i64 b, .int .i64 s, .int .i64 d, .bool f]] m K := by
  refine LCall_drop (LCall_enter Try.func15 c15 ?_)
  simp (contextual := true) (implicitDefEqProofs := false) (maxSteps := 2000000) (disch := first | rfl | exact Nat.le_of_ble_eq_true rfl | omega | (simp only [List.length_append, List.length_cons, List.length_nil, List.length_set]; omega)) only [L15, W1, W2, W3, W4, W5, W6, W7, W8, W9, W10, W11, W12, W13, W14, W15, eq_self, ite_true, ite_false, undef_eq, List.set_cons_zero, List.set_cons_succ, List.getD_cons_zero, List.getD_cons_succ, List.map_cons, List.map_nil, List.length_cons, List.length_nil, List.append_nil, List.cons_append, List.nil_append, List.replicate_succ, List.replicate_zero, Nat.reduceAdd, Nat.reduceSub, ↓reduceIte, List.getElem?_cons_zero, List.getElem?_cons_succ, basic, cellsL, resOf, setAt, List.append_assoc, List.length_append, List.getElem?_append_left, List.getElem?_append_right, List.set_append_left, List.set_append_right, below, belowB, belowA, atomB, List.mem_cons, List.not_mem_nil, forall_eq_or_imp, forall_eq, List.toList_toArray, implies_true, List.take_succ_cons, List.take_zero, List.drop_succ_cons, List.drop_zero, List.take_nil, List.drop_nil, Nat.reduceLeDiff, Nat.reduceMul, Int.reduceToNat, Int.reduceLT, Int.reduceLE, Int.reduceAdd, Int.reduceNeg, Int.reduceEq, splice, List.singleton_append, Nat.reduceEqDiff, Nat.reduceLT, isAtom, List.all_cons, List.all_nil, Option.map_some, Option.bind_some, List.length_set, Int.reduceSub, Int.reduceMul, List.getElem?_set_self, List.getElem?_set_ne, ofB_2, tmpR_if, ro_sliceData, ro_capNil, ro_noZero, ext_2, ext_3, ext_4, ext_5, List.set_set]
  exact hk

theorem tmod_pos {d : Int} (h : 0 ≤ d) : d.tmod 256 = d % 256 := Int.tmod_eq_emod_of_nonneg h
theorem tmod_neg {d : Int} (h : d < 0) : d.tmod 256 = -((-d) % 256) := by
  have e : d = -(-d) := by omega
  rw [e, Int.neg_tmod, tmod_pos (by omega)]
  simp

theorem refstep_spec (c a b s d : Int) (f waits busy : Bool) (draw : Int) (hc : -9223372036854775808 < c ∧ c ≤ 9223372036854775807) (m : Mem) (K : Value → Mem → Prop)
    (hk : K (.tuple #[.int .i64 (stepC c a b s d f waits busy draw).1, .bool (stepC c a b s d f waits busy draw).2]) m) :
    LCall Try.prog 23 [.int .i64 c, .agg #[.int .i64 a, .int .i64 b, .int .i64 s, .int .i64 d, .bool f], .bool waits, .bool busy, .int .i64 draw] m K := by
  refine LCall_drop (LCall_enter Try.func23 c23 ?_)
  simp (contextual := true) (implicitDefEqProofs := false) (maxSteps := 2000000) (disch := first | rfl | exact Nat.le_of_ble_eq_true rfl | omega | (simp only [List.length_append, List.length_cons, List.length_nil, List.length_set]; omega)) only [L23, W1, W2, W3, W4, W5, W6, W7, W8, W9, W10, W11, W12, W13, W14, W15, eq_self, ite_true, ite_false, undef_eq, List.set_cons_zero, List.set_cons_succ, List.getD_cons_zero, List.getD_cons_succ, List.map_cons, List.map_nil, List.length_cons, List.length_nil, List.append_nil, List.cons_append, List.nil_append, List.replicate_succ, List.replicate_zero, Nat.reduceAdd, Nat.reduceSub, ↓reduceIte, List.getElem?_cons_zero, List.getElem?_cons_succ, basic, cellsL, resOf, setAt, List.append_assoc, List.length_append, List.getElem?_append_left, List.getElem?_append_right, List.set_append_left, List.set_append_right, below, belowB, belowA, atomB, List.mem_cons, List.not_mem_nil, forall_eq_or_imp, forall_eq, List.toList_toArray, implies_true, List.take_succ_cons, List.take_zero, List.drop_succ_cons, List.drop_zero, List.take_nil, List.drop_nil, Nat.reduceLeDiff, Nat.reduceMul, Int.reduceToNat, Int.reduceLT, Int.reduceLE, Int.reduceAdd, Int.reduceNeg, Int.reduceEq, splice, List.singleton_append, Nat.reduceEqDiff, Nat.reduceLT, isAtom, List.all_cons, List.all_nil, Option.map_some, Option.bind_some, List.length_set, Int.reduceSub, Int.reduceMul, List.getElem?_set_self, List.getElem?_set_ne, ofB_2, tmpR_if, ro_sliceData, ro_capNil, ro_noZero, ext_2, ext_3, ext_4, ext_5, List.set_set]
  refine refright_spec _ _ _ _ _ _ _ ?_
  simp (contextual := true) (implicitDefEqProofs := false) (maxSteps := 2000000) (disch := first | rfl | exact Nat.le_of_ble_eq_true rfl | omega | (simp only [List.length_append, List.length_cons, List.length_nil, List.length_set]; omega)) only [W1, W2, W3, W4, W5, W6, W7, W8, W9, W10, W11, W12, W13, W14, W15, eq_self, ite_true, ite_false, undef_eq, List.set_cons_zero, List.set_cons_succ, List.getD_cons_zero, List.getD_cons_succ, List.map_cons, List.map_nil, List.length_cons, List.length_nil, List.append_nil, List.cons_append, List.nil_append, List.replicate_succ, List.replicate_zero, Nat.reduceAdd, Nat.reduceSub, ↓reduceIte, List.getElem?_cons_zero, List.getElem?_cons_succ, basic, cellsL, resOf, setAt, List.append_assoc, List.length_append, List.getElem?_append_left, List.getElem?_append_right, List.set_append_left, List.set_append_right, below, belowB, belowA, atomB, List.mem_cons, List.not_mem_nil, forall_eq_or_imp, forall_eq, List.toList_toArray, implies_true, List.take_succ_cons, List.take_zero, List.drop_succ_cons, List.drop_zero, List.take_nil, List.drop_nil, Nat.reduceLeDiff, Nat.reduceMul, Int.reduceToNat, Int.reduceLT, Int.reduceLE, Int.reduceAdd, Int.reduceNeg, Int.reduceEq, splice, List.singleton_append, Nat.reduceEqDiff, Nat.reduceLT, isAtom, List.all_cons, List.all_nil, Option.map_some, Option.bind_some, List.length_set, Int.reduceSub, Int.reduceMul, List.getElem?_set_self, List.getElem?_set_ne, ofB_2, tmpR_if, ro_sliceData, ro_capNil, ro_noZero, ext_2, ext_3, ext_4, ext_5, List.set_set]
  refine ifI (fun h1 => ?_) (fun h1 => ?_)
  · rw [show stepC c a b s d f waits busy draw = (c, false) by simp [stepC, h1]] at hk; exact hk
  refine ifI (fun h2 => ?_) (fun h2 => ?_)
  · rw [show stepC c a b s d f waits busy draw = (0, false) by simp [stepC, h1, h2]] at hk; exact hk
  refine ifI (fun h3 => ?_) (fun h3 => ?_)
  · rw [show stepC c a b s d f waits busy draw = (c, true) by simp [stepC, h1, h2, h3]] at hk; exact hk
  refine ifI (fun h4 => ?_) (fun h4 => ?_)
  · rw [show stepC c a b s d f waits busy draw = (c - 1, false) by simp [stepC, h1, h2, h3, h4]] at hk; exact hk
  refine ifI (fun h5 => ?_) (fun h5 => ?_)
  · rw [show stepC c a b s d f waits busy draw = (c, false) by simp [stepC, h1, h2, h3, h4, h5]] at hk; exact hk
  have e1 : draw.tmod 256 < 0 → IntKind.i64.wrap (draw.tmod 256 + 256) = draw % 256 := by
    intro h
    have hd : draw < 0 := by
      rcases Int.lt_or_le draw 0 with h' | h'
      · exact h'
      · rw [tmod_pos h'] at h; omega
    have := tmod_neg hd
    rw [wrap_i64 (by omega) (by omega)]; omega
  have e2 : ¬ draw.tmod 256 < 0 → draw.tmod 256 = draw % 256 := by
    intro h
    rcases Int.lt_or_le draw 0 with h' | h'
    · have := tmod_neg h'; omega
    · exact tmod_pos h'
  have y : draw % 256 ≤ b → stepC c a b s d f waits busy draw = (c, true) := by intro h6; simp [stepC, h1, h2, h3, h4, h5, h6]
  have n : ¬ draw % 256 ≤ b → stepC c a b s d f waits busy draw = (s, false) := by intro h6; simp [stepC, h1, h2, h3, h4, h5, h6]
  refine ifI (fun h7 => ?_) (fun h7 => ?_)
  · rw [e1 h7]
    refine ifI (fun h6 => ?_) (fun h6 => ?_)
    · rw [y h6] at hk; exact hk
    · rw [n h6] at hk; exact hk
  · rw [e2 h7]
    refine ifI (fun h6 => ?_) (fun h6 => ?_)
    · rw [y h6] at hk; exact hk
    · rw [n h6] at hk; exact hk

structure Op where
  a : Int
  b : Int
  s : Int
  d : Int
  f : Bool
  waits : Bool
  busy : Bool
  draw : Int

def Op.cells (o : Op) : List Value := [.int .i64 o.a, .int .i64 o.b, .int .i64 o.s, .int .i64 o.d, .bool o.f, .bool o.waits, .bool o.busy, .int .i64 o.draw]

def Op.step (c : Int) (o : Op) : Int := (stepC c o.a o.b o.s o.d o.f o.waits o.busy o.draw).1

def okC (c : Int) : Prop := 0 ≤ c ∧ c ≤ 255

theorem step_ok {c : Int} (h : okC c) (o : Op) : okC (o.step c) := by
  unfold Op.step stepC okC at *
  repeat' split
  all_goals simp_all [rightB]
  all_goals omega
theorem Op.cells_len (o : Op) : o.cells.length = 8 := rfl

/-- An argument of steps. -/
theorem op_of {m : Mem} {xs : List Value} (h : TyL Try.prog m 3 34 xs) : ∃ o : Op, xs = o.cells ∧ True := by
  obtain ⟨xs, _, rfl, h1, _, _, rfl, h2, _, _, rfl, h3, _, _, rfl, h4, rfl⟩ := h.struct Try.underlying34 rfl
  obtain ⟨x1, _, rfl, a1, x2, _, rfl, a2, x3, _, rfl, a3, x4, _, rfl, a4, x5, _, rfl, a5, rfl⟩ := h1.struct Try.underlying24 rfl
  obtain ⟨a, rfl, _⟩ := a1.int Try.underlying3
  obtain ⟨b, rfl, _⟩ := a2.int Try.underlying3
  obtain ⟨s, rfl, _⟩ := a3.int Try.underlying3
  obtain ⟨d, rfl, _⟩ := a4.int Try.underlying3
  obtain ⟨f, rfl⟩ := a5.bool Try.underlying4
  obtain ⟨w, rfl⟩ := h2.bool Try.underlying4
  obtain ⟨u, rfl⟩ := h3.bool Try.underlying4
  obtain ⟨r, rfl, _⟩ := h4.int Try.underlying3
  exact ⟨⟨a, b, s, d, f, w, u, r⟩, rfl, trivial⟩

theorem step_now {c : Int} {o : Op} (h : (stepC c o.a o.b o.s o.d o.f o.waits o.busy o.draw).2 = true) : o.waits = true ∧ (o.busy = false ∨ o.f = true) := by
  revert h
  unfold stepC
  repeat' split
  all_goals simp_all
end Go.Proofs.Ytfefieicnmglcaa
