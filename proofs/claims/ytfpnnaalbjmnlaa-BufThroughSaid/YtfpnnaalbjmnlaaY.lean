/- The law of splits, walked. -/
import Derived.Test.YtfpnnaalbjmnlaaX
namespace Go.Proofs.Ytfpnnaalbjmnlaa
open Go.Lg
set_option maxRecDepth 8000
set_option maxHeartbeats 4000000
set_option linter.unusedSimpArgs false
set_option linter.unnecessarySimpa false
set_option linter.unusedVariables false

theorem refsplit_spec (pid n1 : Int) (text : List UInt8) (hl : text.length ≤ 2000) (m : Mem) :
    LCall Try.prog 24 [.int .i64 pid, str text, .int .i64 n1] m fun v M => ∃ sv G, v = .tuple #[sv, .int .i64 (splitL pid n1 text).2] ∧ Frm [] m M ∧ Sl M 39 2 sv G ((splitL pid n1 text).1.map prow) ∧ ∀ x ∈ G, m.length ≤ x := by
  by_cases hcut : (0 ≤ pid ∧ pid ≤ 255) ∧ (16 ≤ n1 ∧ n1 ≤ 256) ∧ ¬ 600 < text.length ∧ ¬ ((text.length : Int) ≤ n1 ∧ pid ≠ 8)
  · obtain ⟨h1, h2, h3, h4⟩ := hcut
    obtain ⟨r, rfl⟩ : ∃ r : Nat, n1 = ((r + 1 : Nat) : Int) := ⟨n1.toNat - 1, by omega⟩
    obtain ⟨p, rfl⟩ : ∃ p : Nat, pid = (p : Int) := ⟨pid.toNat, by omega⟩
    have h4' : (text.length : Int) ≤ ((r + 1 : Nat) : Int) → (p : Int) = 8 := fun h => by
      by_cases hx : (p : Int) = 8
      · exact hx
      · exact absurd ⟨h, hx⟩ h4
    have := refcut_spec p r text (by omega) (by omega) (by omega) h4' m
    unfold splitL
    rw [if_neg (by omega), if_neg h3, if_neg h4]
    simpa only [Int.toNat_natCast, Nat.add_sub_cancel] using this
  refine LCall_enter Try.func24 c24 ?_
  unfold splitL
  by_cases h1 : pid < 0
  · have h1' : (pid < 0) = True := eq_true h1
    rw [if_pos (.inl (by omega))]
    simp (contextual := true) (implicitDefEqProofs := false) (maxSteps := 2000000) (disch := first | rfl | exact Nat.le_of_ble_eq_true rfl | omega | (simp only [List.length_append, List.length_cons, List.length_nil, List.length_set]; omega)) only [L24, bin_ladd, str_cut, str_app, str_eq, string_mk_size, string_mk, h1', W1, W2, W3, W4, W5, W6, W7, W8, W9, W10, W11, W12, W13, W14, W15, eq_self, ite_true, ite_false, undef_eq, List.set_cons_zero, List.set_cons_succ, List.getD_cons_zero, List.getD_cons_succ, List.map_cons, List.map_nil, List.length_cons, List.length_nil, List.append_nil, List.cons_append, List.nil_append, List.replicate_succ, List.replicate_zero, Nat.reduceAdd, Nat.reduceSub, ↓reduceIte, List.getElem?_cons_zero, List.getElem?_cons_succ, basic, cellsL, resOf, setAt, List.append_assoc, List.length_append, List.getElem?_append_left, List.getElem?_append_right, List.set_append_left, List.set_append_right, below, belowB, belowA, atomB, List.mem_cons, List.not_mem_nil, forall_eq_or_imp, forall_eq, List.toList_toArray, implies_true, List.take_succ_cons, List.take_zero, List.drop_succ_cons, List.drop_zero, List.take_nil, List.drop_nil, Nat.reduceLeDiff, Nat.reduceMul, Int.reduceToNat, Int.reduceLT, Int.reduceLE, Int.reduceAdd, Int.reduceNeg, Int.reduceEq, splice, List.singleton_append, Nat.reduceEqDiff, Nat.reduceLT, isAtom, List.all_cons, List.all_nil, Option.map_some, Option.bind_some, List.length_set, Int.reduceSub, Int.reduceMul, List.getElem?_set_self, List.getElem?_set_ne, ofB_2, tmpR_if, ro_sliceData, ro_capNil, ro_noZero, ext_2, ext_3, ext_4, ext_5, List.set_set]
    exact ⟨_, [], rfl, Frm.refl, .nil, by simp⟩
  have h1' : (pid < 0) = False := eq_false h1
  by_cases h2 : 255 < pid
  · have h2' : (255 < pid) = True := eq_true h2
    rw [if_pos (.inl (by omega))]
    simp (contextual := true) (implicitDefEqProofs := false) (maxSteps := 2000000) (disch := first | rfl | exact Nat.le_of_ble_eq_true rfl | omega | (simp only [List.length_append, List.length_cons, List.length_nil, List.length_set]; omega)) only [L24, bin_ladd, str_cut, str_app, str_eq, string_mk_size, string_mk, h1', h2', W1, W2, W3, W4, W5, W6, W7, W8, W9, W10, W11, W12, W13, W14, W15, eq_self, ite_true, ite_false, undef_eq, List.set_cons_zero, List.set_cons_succ, List.getD_cons_zero, List.getD_cons_succ, List.map_cons, List.map_nil, List.length_cons, List.length_nil, List.append_nil, List.cons_append, List.nil_append, List.replicate_succ, List.replicate_zero, Nat.reduceAdd, Nat.reduceSub, ↓reduceIte, List.getElem?_cons_zero, List.getElem?_cons_succ, basic, cellsL, resOf, setAt, List.append_assoc, List.length_append, List.getElem?_append_left, List.getElem?_append_right, List.set_append_left, List.set_append_right, below, belowB, belowA, atomB, List.mem_cons, List.not_mem_nil, forall_eq_or_imp, forall_eq, List.toList_toArray, implies_true, List.take_succ_cons, List.take_zero, List.drop_succ_cons, List.drop_zero, List.take_nil, List.drop_nil, Nat.reduceLeDiff, Nat.reduceMul, Int.reduceToNat, Int.reduceLT, Int.reduceLE, Int.reduceAdd, Int.reduceNeg, Int.reduceEq, splice, List.singleton_append, Nat.reduceEqDiff, Nat.reduceLT, isAtom, List.all_cons, List.all_nil, Option.map_some, Option.bind_some, List.length_set, Int.reduceSub, Int.reduceMul, List.getElem?_set_self, List.getElem?_set_ne, ofB_2, tmpR_if, ro_sliceData, ro_capNil, ro_noZero, ext_2, ext_3, ext_4, ext_5, List.set_set]
    exact ⟨_, [], rfl, Frm.refl, .nil, by simp⟩
  have h2' : (255 < pid) = False := eq_false h2
  by_cases h3 : n1 < 16
  · have h3' : (n1 < 16) = True := eq_true h3
    rw [if_pos (.inr (by omega))]
    simp (contextual := true) (implicitDefEqProofs := false) (maxSteps := 2000000) (disch := first | rfl | exact Nat.le_of_ble_eq_true rfl | omega | (simp only [List.length_append, List.length_cons, List.length_nil, List.length_set]; omega)) only [L24, bin_ladd, str_cut, str_app, str_eq, string_mk_size, string_mk, h1', h2', h3', W1, W2, W3, W4, W5, W6, W7, W8, W9, W10, W11, W12, W13, W14, W15, eq_self, ite_true, ite_false, undef_eq, List.set_cons_zero, List.set_cons_succ, List.getD_cons_zero, List.getD_cons_succ, List.map_cons, List.map_nil, List.length_cons, List.length_nil, List.append_nil, List.cons_append, List.nil_append, List.replicate_succ, List.replicate_zero, Nat.reduceAdd, Nat.reduceSub, ↓reduceIte, List.getElem?_cons_zero, List.getElem?_cons_succ, basic, cellsL, resOf, setAt, List.append_assoc, List.length_append, List.getElem?_append_left, List.getElem?_append_right, List.set_append_left, List.set_append_right, below, belowB, belowA, atomB, List.mem_cons, List.not_mem_nil, forall_eq_or_imp, forall_eq, List.toList_toArray, implies_true, List.take_succ_cons, List.take_zero, List.drop_succ_cons, List.drop_zero, List.take_nil, List.drop_nil, Nat.reduceLeDiff, Nat.reduceMul, Int.reduceToNat, Int.reduceLT, Int.reduceLE, Int.reduceAdd, Int.reduceNeg, Int.reduceEq, splice, List.singleton_append, Nat.reduceEqDiff, Nat.reduceLT, isAtom, List.all_cons, List.all_nil, Option.map_some, Option.bind_some, List.length_set, Int.reduceSub, Int.reduceMul, List.getElem?_set_self, List.getElem?_set_ne, ofB_2, tmpR_if, ro_sliceData, ro_capNil, ro_noZero, ext_2, ext_3, ext_4, ext_5, List.set_set]
    exact ⟨_, [], rfl, Frm.refl, .nil, by simp⟩
  have h3' : (n1 < 16) = False := eq_false h3
  by_cases h4 : 256 < n1
  · have h4' : (256 < n1) = True := eq_true h4
    rw [if_pos (.inr (by omega))]
    simp (contextual := true) (implicitDefEqProofs := false) (maxSteps := 2000000) (disch := first | rfl | exact Nat.le_of_ble_eq_true rfl | omega | (simp only [List.length_append, List.length_cons, List.length_nil, List.length_set]; omega)) only [L24, bin_ladd, str_cut, str_app, str_eq, string_mk_size, string_mk, h1', h2', h3', h4', W1, W2, W3, W4, W5, W6, W7, W8, W9, W10, W11, W12, W13, W14, W15, eq_self, ite_true, ite_false, undef_eq, List.set_cons_zero, List.set_cons_succ, List.getD_cons_zero, List.getD_cons_succ, List.map_cons, List.map_nil, List.length_cons, List.length_nil, List.append_nil, List.cons_append, List.nil_append, List.replicate_succ, List.replicate_zero, Nat.reduceAdd, Nat.reduceSub, ↓reduceIte, List.getElem?_cons_zero, List.getElem?_cons_succ, basic, cellsL, resOf, setAt, List.append_assoc, List.length_append, List.getElem?_append_left, List.getElem?_append_right, List.set_append_left, List.set_append_right, below, belowB, belowA, atomB, List.mem_cons, List.not_mem_nil, forall_eq_or_imp, forall_eq, List.toList_toArray, implies_true, List.take_succ_cons, List.take_zero, List.drop_succ_cons, List.drop_zero, List.take_nil, List.drop_nil, Nat.reduceLeDiff, Nat.reduceMul, Int.reduceToNat, Int.reduceLT, Int.reduceLE, Int.reduceAdd, Int.reduceNeg, Int.reduceEq, splice, List.singleton_append, Nat.reduceEqDiff, Nat.reduceLT, isAtom, List.all_cons, List.all_nil, Option.map_some, Option.bind_some, List.length_set, Int.reduceSub, Int.reduceMul, List.getElem?_set_self, List.getElem?_set_ne, ofB_2, tmpR_if, ro_sliceData, ro_capNil, ro_noZero, ext_2, ext_3, ext_4, ext_5, List.set_set]
    exact ⟨_, [], rfl, Frm.refl, .nil, by simp⟩
  have h4' : (256 < n1) = False := eq_false h4
  rw [if_neg (by omega)]
  by_cases h5 : 600 < text.length
  · have h5' : ((600 : Int) < (text.length : Int)) = True := eq_true (by omega)
    rw [if_pos h5]
    simp (contextual := true) (implicitDefEqProofs := false) (maxSteps := 2000000) (disch := first | rfl | exact Nat.le_of_ble_eq_true rfl | omega | (simp only [List.length_append, List.length_cons, List.length_nil, List.length_set]; omega)) only [L24, bin_ladd, str_cut, str_app, str_eq, string_mk_size, string_mk, h1', h2', h3', h4', h5', W1, W2, W3, W4, W5, W6, W7, W8, W9, W10, W11, W12, W13, W14, W15, eq_self, ite_true, ite_false, undef_eq, List.set_cons_zero, List.set_cons_succ, List.getD_cons_zero, List.getD_cons_succ, List.map_cons, List.map_nil, List.length_cons, List.length_nil, List.append_nil, List.cons_append, List.nil_append, List.replicate_succ, List.replicate_zero, Nat.reduceAdd, Nat.reduceSub, ↓reduceIte, List.getElem?_cons_zero, List.getElem?_cons_succ, basic, cellsL, resOf, setAt, List.append_assoc, List.length_append, List.getElem?_append_left, List.getElem?_append_right, List.set_append_left, List.set_append_right, below, belowB, belowA, atomB, List.mem_cons, List.not_mem_nil, forall_eq_or_imp, forall_eq, List.toList_toArray, implies_true, List.take_succ_cons, List.take_zero, List.drop_succ_cons, List.drop_zero, List.take_nil, List.drop_nil, Nat.reduceLeDiff, Nat.reduceMul, Int.reduceToNat, Int.reduceLT, Int.reduceLE, Int.reduceAdd, Int.reduceNeg, Int.reduceEq, splice, List.singleton_append, Nat.reduceEqDiff, Nat.reduceLT, isAtom, List.all_cons, List.all_nil, Option.map_some, Option.bind_some, List.length_set, Int.reduceSub, Int.reduceMul, List.getElem?_set_self, List.getElem?_set_ne, ofB_2, tmpR_if, ro_sliceData, ro_capNil, ro_noZero, ext_2, ext_3, ext_4, ext_5, List.set_set]
    exact ⟨_, [], rfl, Frm.refl, .nil, by simp⟩
  have h5' : ((600 : Int) < (text.length : Int)) = False := eq_false (by omega)
  rw [if_neg h5]
  by_cases h6 : (text.length : Int) ≤ n1 ∧ pid ≠ 8
  · rw [if_pos h6]
    simp (contextual := true) (implicitDefEqProofs := false) (maxSteps := 2000000) (disch := first | rfl | exact Nat.le_of_ble_eq_true rfl | omega | (simp only [List.length_append, List.length_cons, List.length_nil, List.length_set]; omega)) only [L24, bin_ladd, str_cut, str_app, str_eq, string_mk_size, string_mk, h1', h2', h3', h4', h5', h6.1, h6.2, W1, W2, W3, W4, W5, W6, W7, W8, W9, W10, W11, W12, W13, W14, W15, eq_self, ite_true, ite_false, undef_eq, List.set_cons_zero, List.set_cons_succ, List.getD_cons_zero, List.getD_cons_succ, List.map_cons, List.map_nil, List.length_cons, List.length_nil, List.append_nil, List.cons_append, List.nil_append, List.replicate_succ, List.replicate_zero, Nat.reduceAdd, Nat.reduceSub, ↓reduceIte, List.getElem?_cons_zero, List.getElem?_cons_succ, basic, cellsL, resOf, setAt, List.append_assoc, List.length_append, List.getElem?_append_left, List.getElem?_append_right, List.set_append_left, List.set_append_right, below, belowB, belowA, atomB, List.mem_cons, List.not_mem_nil, forall_eq_or_imp, forall_eq, List.toList_toArray, implies_true, List.take_succ_cons, List.take_zero, List.drop_succ_cons, List.drop_zero, List.take_nil, List.drop_nil, Nat.reduceLeDiff, Nat.reduceMul, Int.reduceToNat, Int.reduceLT, Int.reduceLE, Int.reduceAdd, Int.reduceNeg, Int.reduceEq, splice, List.singleton_append, Nat.reduceEqDiff, Nat.reduceLT, isAtom, List.all_cons, List.all_nil, Option.map_some, Option.bind_some, List.length_set, Int.reduceSub, Int.reduceMul, List.getElem?_set_self, List.getElem?_set_ne, ofB_2, tmpR_if, ro_sliceData, ro_capNil, ro_noZero, ext_2, ext_3, ext_4, ext_5, List.set_set]
    refine ⟨_, [m.length], rfl, Frm.refl.app, Sl.make (rows := [prow (pid, text)]) (cs := prow (pid, text)) ?_ (by simp [prow]) (by simp) rfl, by simp⟩
    simp [prow]
  · exact absurd ⟨by omega, by omega, h5, h6⟩ hcut

theorem split_le (pid n1 : Int) (text : List UInt8) : (splitL pid n1 text).1.length ≤ 41 ∧ ∀ x ∈ (splitL pid n1 text).1, (x.2.length : Int) ≤ n1 := by
  unfold splitL
  by_cases h1 : ¬ (0 ≤ pid ∧ pid ≤ 255) ∨ ¬ (16 ≤ n1 ∧ n1 ≤ 256)
  · rw [if_pos h1]; simp
  rw [if_neg h1]
  by_cases h2 : 600 < text.length
  · rw [if_pos h2]; simp
  rw [if_neg h2]
  by_cases h3 : (text.length : Int) ≤ n1 ∧ pid ≠ 8
  · rw [if_pos h3]; simp [h3.1]
  rw [if_neg h3]
  refine ⟨?_, ?_⟩
  · simp only [List.length_map, List.length_range]; exact many_le (by omega) (by omega)
  · intro x hx
    obtain ⟨i, _, rfl⟩ := List.mem_map.mp hx
    simp only [piece, chunk, List.length_cons, List.length_take]
    omega

end Go.Proofs.Ytfpnnaalbjmnlaa
