/- Controls by the document: right ones, and bytes: walked. -/
import Derived.Test.YtenbkoalanfdhaaGreatDoorZEA
namespace Go.Proofs.YtenbkoalanfdhaaGreatDoor.K
open Go.Lg
set_option maxRecDepth 8000
set_option maxHeartbeats 8000000
set_option linter.unusedSimpArgs false
set_option linter.unnecessarySimpa false
set_option linter.unusedVariables false

theorem strOf_list (l : List Int) : (strOf l).data.toList = l.map fun e => UInt8.ofNat e.toNat := rfl

theorem strOf_size (l : List Int) : (strOf l).size = l.length := by
  have : (strOf l).data.toList.length = (strOf l).size := by simp
  rw [← this, strOf_list, List.length_map]

theorem app_list (a b : ByteArray) : (a ++ b).data.toList = a.data.toList ++ b.data.toList := by simp

/-- The document's own. -/
theorem text_spec (i T : Nat) (l : List Int) (m : Mem) (hm : m[i]? = some ⟨l.map (Value.int .i64 ·), T, 1, 0, .own⟩) (hl : l.length ≤ 1000) (hb : inB l) :
    Ret Tryz.prog 33 [.slice (some ⟨i, 0, none⟩) l.length l.length] m (.string (strOf l)) m := by
  have hi : i < m.length := (List.getElem?_eq_some_iff.mp hm).1
  refine LCall_drop (LCall_enter Tryz.func33 c33 ?_)
  simp (contextual := true) (implicitDefEqProofs := false) (maxSteps := 2000000) (disch := first | rfl | exact Nat.le_of_ble_eq_true rfl | omega | (simp only [List.length_append, List.length_cons, List.length_nil, List.length_set]; omega)) only [L33, X1, X2, X3, X4, XA, XB, lc_block, lc_cond, XZ, undef_eq, Nat.reduceAdd, Nat.reduceSub, ↓reduceIte, basic, cellsL, resOf, setAt, below, belowB, belowA, atomB, Nat.reduceLeDiff, Nat.reduceMul, Int.reduceToNat, Int.reduceLT, Int.reduceLE, Int.reduceAdd, Int.reduceNeg, Int.reduceEq, splice, Nat.reduceEqDiff, Nat.reduceLT, isAtom, Int.reduceSub, Int.reduceMul, implies_true]
  refine loop_inv (fun n t m' => ∃ (k : Nat) (g : Mem), n = l.length - k ∧ k ≤ l.length ∧
    Tab 21 [(0, .slice (some ⟨i, 0, none⟩) l.length l.length), (3, .string (strOf (l.take k))), (4, .int .i64 (k : Int))] t ∧ m' = m ++ g) (n := l.length) ?_ ?_
  · exact ⟨0, [], rfl, Nat.zero_le _, ⟨rfl, by simp [strOf, strL]⟩, by simp⟩
  rintro n t m' ⟨k, g, rfl, hk, ht, rfl⟩
  obtain ⟨f, rfl⟩ : ∃ f : Nat → Value, t = [.slice (some ⟨i, 0, none⟩) l.length l.length, f 1, f 2, .string (strOf (l.take k)), .int .i64 (k : Int), f 5, f 6, f 7, f 8, f 9, f 10, f 11, f 12, f 13, f 14, f 15, f 16, f 17, f 18, f 19, f 20] := ht.open fun f => rfl
  by_cases hlt : k < l.length
  · have hlt' : ((k : Int) < (l.length : Int)) = True := eq_true (by omega)
    have h0 : ((0 : Int) ≤ (k : Int)) = True := eq_true (by omega)
    obtain ⟨x, hx⟩ : ∃ x, l[k]? = some x := ⟨l[k], List.getElem?_eq_getElem hlt⟩
    have hc : (l.map (Value.int .i64 ·))[k]? = some (.int .i64 x) := by simp [hx]
    obtain ⟨hx0, hx1⟩ := hb x (List.mem_of_getElem? hx)
    have hsz : ((strOf (l.take k)).size : Int) + ((ByteArray.size ⟨#[UInt8.ofNat x.toNat]⟩ : Nat) : Int) ≤ 9223372036854775807 := by
      rw [strOf_size, List.length_take]
      have : ByteArray.size ⟨#[UInt8.ofNat x.toNat]⟩ = 1 := rfl
      omega
    simp (contextual := true) (implicitDefEqProofs := false) (maxSteps := 2000000) (disch := first | rfl | exact Nat.le_of_ble_eq_true rfl | omega | (simp only [List.length_append, List.length_cons, List.length_nil, List.length_set]; omega)) only [hm, hlt', h0, Int.toNat_natCast, hc, wrap_u8i, byL1, X1, X2, X3, X4, XA, XB, lc_block, lc_cond, XZ, undef_eq, Nat.reduceAdd, Nat.reduceSub, ↓reduceIte, basic, cellsL, resOf, setAt, below, belowB, belowA, atomB, Nat.reduceLeDiff, Nat.reduceMul, Int.reduceToNat, Int.reduceLT, Int.reduceLE, Int.reduceAdd, Int.reduceNeg, Int.reduceEq, splice, Nat.reduceEqDiff, Nat.reduceLT, isAtom, Int.reduceSub, Int.reduceMul, implies_true]
    have hnext : strOf (l.take k) ++ ⟨#[UInt8.ofNat x.toNat]⟩ = strOf (l.take (k + 1)) := by
      apply ByteArray.ext; apply Array.ext'
      rw [app_list, strOf_list, strOf_list, List.take_add_one, hx]; simp
    exact kInv_go ⟨k + 1, _, rfl, by omega, ⟨rfl, by simp [hnext]⟩, rfl⟩ (by omega)
  · have hlt' : ((k : Int) < (l.length : Int)) = False := eq_false (by omega)
    obtain rfl : k = l.length := by omega
    simp (contextual := true) (implicitDefEqProofs := false) (maxSteps := 2000000) (disch := first | rfl | exact Nat.le_of_ble_eq_true rfl | omega | (simp only [List.length_append, List.length_cons, List.length_nil, List.length_set]; omega)) only [hlt', List.take_length, X1, X2, X3, X4, XA, XB, lc_block, lc_cond, XZ, undef_eq, Nat.reduceAdd, Nat.reduceSub, ↓reduceIte, basic, cellsL, resOf, setAt, below, belowB, belowA, atomB, Nat.reduceLeDiff, Nat.reduceMul, Int.reduceToNat, Int.reduceLT, Int.reduceLE, Int.reduceAdd, Int.reduceNeg, Int.reduceEq, splice, Nat.reduceEqDiff, Nat.reduceLT, isAtom, Int.reduceSub, Int.reduceMul, implies_true]

theorem refctlright_spec (k r s : Int) (p w : Bool) (m : Mem) : Ret Tryz.prog 19 [ctlV k r s p, .bool w] m (.bool (rightC k r s w)) m := by
  refine LCall_drop (LCall_enter Tryz.func19 c19 ?_)
  cases w
  · have hf := right_false (k := k) (r := r) (s := s) (w := false)
    have htr := right_true (k := k) (r := r) (s := s) (w := false)
    rw [m8_f] at hf htr
    by_cases a1 : k < 1
    · rw [hf (by omega)]; simp (contextual := true) (implicitDefEqProofs := false) (maxSteps := 2000000) (disch := first | rfl | exact Nat.le_of_ble_eq_true rfl | omega | (simp only [List.length_append, List.length_cons, List.length_nil, List.length_set]; omega)) only [L19, a1, X1, X2, X3, X4, XA, XB, lc_block, lc_cond, XZ, undef_eq, Nat.reduceAdd, Nat.reduceSub, ↓reduceIte, basic, cellsL, resOf, setAt, below, belowB, belowA, atomB, Nat.reduceLeDiff, Nat.reduceMul, Int.reduceToNat, Int.reduceLT, Int.reduceLE, Int.reduceAdd, Int.reduceNeg, Int.reduceEq, splice, Nat.reduceEqDiff, Nat.reduceLT, isAtom, Int.reduceSub, Int.reduceMul, implies_true]
    by_cases a2 : 14 < k
    · rw [hf (by omega)]; simp (contextual := true) (implicitDefEqProofs := false) (maxSteps := 2000000) (disch := first | rfl | exact Nat.le_of_ble_eq_true rfl | omega | (simp only [List.length_append, List.length_cons, List.length_nil, List.length_set]; omega)) only [L19, a1, a2, X1, X2, X3, X4, XA, XB, lc_block, lc_cond, XZ, undef_eq, Nat.reduceAdd, Nat.reduceSub, ↓reduceIte, basic, cellsL, resOf, setAt, below, belowB, belowA, atomB, Nat.reduceLeDiff, Nat.reduceMul, Int.reduceToNat, Int.reduceLT, Int.reduceLE, Int.reduceAdd, Int.reduceNeg, Int.reduceEq, splice, Nat.reduceEqDiff, Nat.reduceLT, isAtom, Int.reduceSub, Int.reduceMul, implies_true]
    by_cases a3 : s < 0
    · rw [hf (by omega)]; simp (contextual := true) (implicitDefEqProofs := false) (maxSteps := 2000000) (disch := first | rfl | exact Nat.le_of_ble_eq_true rfl | omega | (simp only [List.length_append, List.length_cons, List.length_nil, List.length_set]; omega)) only [L19, a1, a2, a3, X1, X2, X3, X4, XA, XB, lc_block, lc_cond, XZ, undef_eq, Nat.reduceAdd, Nat.reduceSub, ↓reduceIte, basic, cellsL, resOf, setAt, below, belowB, belowA, atomB, Nat.reduceLeDiff, Nat.reduceMul, Int.reduceToNat, Int.reduceLT, Int.reduceLE, Int.reduceAdd, Int.reduceNeg, Int.reduceEq, splice, Nat.reduceEqDiff, Nat.reduceLT, isAtom, Int.reduceSub, Int.reduceMul, implies_true]
    by_cases a4 : r < 0
    · rw [hf (by omega)]; simp (contextual := true) (implicitDefEqProofs := false) (maxSteps := 2000000) (disch := first | rfl | exact Nat.le_of_ble_eq_true rfl | omega | (simp only [List.length_append, List.length_cons, List.length_nil, List.length_set]; omega)) only [L19, a1, a2, a3, a4, X1, X2, X3, X4, XA, XB, lc_block, lc_cond, XZ, undef_eq, Nat.reduceAdd, Nat.reduceSub, ↓reduceIte, basic, cellsL, resOf, setAt, below, belowB, belowA, atomB, Nat.reduceLeDiff, Nat.reduceMul, Int.reduceToNat, Int.reduceLT, Int.reduceLE, Int.reduceAdd, Int.reduceNeg, Int.reduceEq, splice, Nat.reduceEqDiff, Nat.reduceLT, isAtom, Int.reduceSub, Int.reduceMul, implies_true]
    by_cases a5 : 8 ≤ s
    · rw [hf (by omega)]; simp (contextual := true) (implicitDefEqProofs := false) (maxSteps := 2000000) (disch := first | rfl | exact Nat.le_of_ble_eq_true rfl | omega | (simp only [List.length_append, List.length_cons, List.length_nil, List.length_set]; omega)) only [L19, a1, a2, a3, a4, a5, X1, X2, X3, X4, XA, XB, lc_block, lc_cond, XZ, undef_eq, Nat.reduceAdd, Nat.reduceSub, ↓reduceIte, basic, cellsL, resOf, setAt, below, belowB, belowA, atomB, Nat.reduceLeDiff, Nat.reduceMul, Int.reduceToNat, Int.reduceLT, Int.reduceLE, Int.reduceAdd, Int.reduceNeg, Int.reduceEq, splice, Nat.reduceEqDiff, Nat.reduceLT, isAtom, Int.reduceSub, Int.reduceMul, implies_true]
    by_cases a6 : 8 ≤ r
    · rw [hf (by omega)]; simp (contextual := true) (implicitDefEqProofs := false) (maxSteps := 2000000) (disch := first | rfl | exact Nat.le_of_ble_eq_true rfl | omega | (simp only [List.length_append, List.length_cons, List.length_nil, List.length_set]; omega)) only [L19, a1, a2, a3, a4, a5, a6, X1, X2, X3, X4, XA, XB, lc_block, lc_cond, XZ, undef_eq, Nat.reduceAdd, Nat.reduceSub, ↓reduceIte, basic, cellsL, resOf, setAt, below, belowB, belowA, atomB, Nat.reduceLeDiff, Nat.reduceMul, Int.reduceToNat, Int.reduceLT, Int.reduceLE, Int.reduceAdd, Int.reduceNeg, Int.reduceEq, splice, Nat.reduceEqDiff, Nat.reduceLT, isAtom, Int.reduceSub, Int.reduceMul, implies_true]
    by_cases b1 : k = 1
    · rw [htr (by omega)]
      have b3 : (k ≤ 5) = True := eq_true (by omega)
      simp (contextual := true) (implicitDefEqProofs := false) (maxSteps := 2000000) (disch := first | rfl | exact Nat.le_of_ble_eq_true rfl | omega | (simp only [List.length_append, List.length_cons, List.length_nil, List.length_set]; omega)) only [L19, a1, a2, a3, a4, a5, a6, b1, b3, X1, X2, X3, X4, XA, XB, lc_block, lc_cond, XZ, undef_eq, Nat.reduceAdd, Nat.reduceSub, ↓reduceIte, basic, cellsL, resOf, setAt, below, belowB, belowA, atomB, Nat.reduceLeDiff, Nat.reduceMul, Int.reduceToNat, Int.reduceLT, Int.reduceLE, Int.reduceAdd, Int.reduceNeg, Int.reduceEq, splice, Nat.reduceEqDiff, Nat.reduceLT, isAtom, Int.reduceSub, Int.reduceMul, implies_true]
    by_cases b2 : s = 0
    · by_cases b3 : k ≤ 5
      · rw [htr (by omega)]; simp (contextual := true) (implicitDefEqProofs := false) (maxSteps := 2000000) (disch := first | rfl | exact Nat.le_of_ble_eq_true rfl | omega | (simp only [List.length_append, List.length_cons, List.length_nil, List.length_set]; omega)) only [L19, a1, a2, a3, a4, a5, a6, b1, b2, b3, X1, X2, X3, X4, XA, XB, lc_block, lc_cond, XZ, undef_eq, Nat.reduceAdd, Nat.reduceSub, ↓reduceIte, basic, cellsL, resOf, setAt, below, belowB, belowA, atomB, Nat.reduceLeDiff, Nat.reduceMul, Int.reduceToNat, Int.reduceLT, Int.reduceLE, Int.reduceAdd, Int.reduceNeg, Int.reduceEq, splice, Nat.reduceEqDiff, Nat.reduceLT, isAtom, Int.reduceSub, Int.reduceMul, implies_true]
      · by_cases b4 : r = 0
        · rw [htr (by omega)]; simp (contextual := true) (implicitDefEqProofs := false) (maxSteps := 2000000) (disch := first | rfl | exact Nat.le_of_ble_eq_true rfl | omega | (simp only [List.length_append, List.length_cons, List.length_nil, List.length_set]; omega)) only [L19, a1, a2, a3, a4, a5, a6, b1, b2, b3, b4, X1, X2, X3, X4, XA, XB, lc_block, lc_cond, XZ, undef_eq, Nat.reduceAdd, Nat.reduceSub, ↓reduceIte, basic, cellsL, resOf, setAt, below, belowB, belowA, atomB, Nat.reduceLeDiff, Nat.reduceMul, Int.reduceToNat, Int.reduceLT, Int.reduceLE, Int.reduceAdd, Int.reduceNeg, Int.reduceEq, splice, Nat.reduceEqDiff, Nat.reduceLT, isAtom, Int.reduceSub, Int.reduceMul, implies_true]
        · rw [hf (by omega)]; simp (contextual := true) (implicitDefEqProofs := false) (maxSteps := 2000000) (disch := first | rfl | exact Nat.le_of_ble_eq_true rfl | omega | (simp only [List.length_append, List.length_cons, List.length_nil, List.length_set]; omega)) only [L19, a1, a2, a3, a4, a5, a6, b1, b2, b3, b4, X1, X2, X3, X4, XA, XB, lc_block, lc_cond, XZ, undef_eq, Nat.reduceAdd, Nat.reduceSub, ↓reduceIte, basic, cellsL, resOf, setAt, below, belowB, belowA, atomB, Nat.reduceLeDiff, Nat.reduceMul, Int.reduceToNat, Int.reduceLT, Int.reduceLE, Int.reduceAdd, Int.reduceNeg, Int.reduceEq, splice, Nat.reduceEqDiff, Nat.reduceLT, isAtom, Int.reduceSub, Int.reduceMul, implies_true]
    · rw [hf (by omega)]; simp (contextual := true) (implicitDefEqProofs := false) (maxSteps := 2000000) (disch := first | rfl | exact Nat.le_of_ble_eq_true rfl | omega | (simp only [List.length_append, List.length_cons, List.length_nil, List.length_set]; omega)) only [L19, a1, a2, a3, a4, a5, a6, b1, b2, X1, X2, X3, X4, XA, XB, lc_block, lc_cond, XZ, undef_eq, Nat.reduceAdd, Nat.reduceSub, ↓reduceIte, basic, cellsL, resOf, setAt, below, belowB, belowA, atomB, Nat.reduceLeDiff, Nat.reduceMul, Int.reduceToNat, Int.reduceLT, Int.reduceLE, Int.reduceAdd, Int.reduceNeg, Int.reduceEq, splice, Nat.reduceEqDiff, Nat.reduceLT, isAtom, Int.reduceSub, Int.reduceMul, implies_true]
  · have hf := right_false (k := k) (r := r) (s := s) (w := true)
    have htr := right_true (k := k) (r := r) (s := s) (w := true)
    rw [m8_t] at hf htr
    by_cases a1 : k < 1
    · rw [hf (by omega)]; simp (contextual := true) (implicitDefEqProofs := false) (maxSteps := 2000000) (disch := first | rfl | exact Nat.le_of_ble_eq_true rfl | omega | (simp only [List.length_append, List.length_cons, List.length_nil, List.length_set]; omega)) only [L19, a1, X1, X2, X3, X4, XA, XB, lc_block, lc_cond, XZ, undef_eq, Nat.reduceAdd, Nat.reduceSub, ↓reduceIte, basic, cellsL, resOf, setAt, below, belowB, belowA, atomB, Nat.reduceLeDiff, Nat.reduceMul, Int.reduceToNat, Int.reduceLT, Int.reduceLE, Int.reduceAdd, Int.reduceNeg, Int.reduceEq, splice, Nat.reduceEqDiff, Nat.reduceLT, isAtom, Int.reduceSub, Int.reduceMul, implies_true]
    by_cases a2 : 14 < k
    · rw [hf (by omega)]; simp (contextual := true) (implicitDefEqProofs := false) (maxSteps := 2000000) (disch := first | rfl | exact Nat.le_of_ble_eq_true rfl | omega | (simp only [List.length_append, List.length_cons, List.length_nil, List.length_set]; omega)) only [L19, a1, a2, X1, X2, X3, X4, XA, XB, lc_block, lc_cond, XZ, undef_eq, Nat.reduceAdd, Nat.reduceSub, ↓reduceIte, basic, cellsL, resOf, setAt, below, belowB, belowA, atomB, Nat.reduceLeDiff, Nat.reduceMul, Int.reduceToNat, Int.reduceLT, Int.reduceLE, Int.reduceAdd, Int.reduceNeg, Int.reduceEq, splice, Nat.reduceEqDiff, Nat.reduceLT, isAtom, Int.reduceSub, Int.reduceMul, implies_true]
    by_cases a3 : s < 0
    · rw [hf (by omega)]; simp (contextual := true) (implicitDefEqProofs := false) (maxSteps := 2000000) (disch := first | rfl | exact Nat.le_of_ble_eq_true rfl | omega | (simp only [List.length_append, List.length_cons, List.length_nil, List.length_set]; omega)) only [L19, a1, a2, a3, X1, X2, X3, X4, XA, XB, lc_block, lc_cond, XZ, undef_eq, Nat.reduceAdd, Nat.reduceSub, ↓reduceIte, basic, cellsL, resOf, setAt, below, belowB, belowA, atomB, Nat.reduceLeDiff, Nat.reduceMul, Int.reduceToNat, Int.reduceLT, Int.reduceLE, Int.reduceAdd, Int.reduceNeg, Int.reduceEq, splice, Nat.reduceEqDiff, Nat.reduceLT, isAtom, Int.reduceSub, Int.reduceMul, implies_true]
    by_cases a4 : r < 0
    · rw [hf (by omega)]; simp (contextual := true) (implicitDefEqProofs := false) (maxSteps := 2000000) (disch := first | rfl | exact Nat.le_of_ble_eq_true rfl | omega | (simp only [List.length_append, List.length_cons, List.length_nil, List.length_set]; omega)) only [L19, a1, a2, a3, a4, X1, X2, X3, X4, XA, XB, lc_block, lc_cond, XZ, undef_eq, Nat.reduceAdd, Nat.reduceSub, ↓reduceIte, basic, cellsL, resOf, setAt, below, belowB, belowA, atomB, Nat.reduceLeDiff, Nat.reduceMul, Int.reduceToNat, Int.reduceLT, Int.reduceLE, Int.reduceAdd, Int.reduceNeg, Int.reduceEq, splice, Nat.reduceEqDiff, Nat.reduceLT, isAtom, Int.reduceSub, Int.reduceMul, implies_true]
    by_cases a5 : 128 ≤ s
    · rw [hf (by omega)]; simp (contextual := true) (implicitDefEqProofs := false) (maxSteps := 2000000) (disch := first | rfl | exact Nat.le_of_ble_eq_true rfl | omega | (simp only [List.length_append, List.length_cons, List.length_nil, List.length_set]; omega)) only [L19, a1, a2, a3, a4, a5, X1, X2, X3, X4, XA, XB, lc_block, lc_cond, XZ, undef_eq, Nat.reduceAdd, Nat.reduceSub, ↓reduceIte, basic, cellsL, resOf, setAt, below, belowB, belowA, atomB, Nat.reduceLeDiff, Nat.reduceMul, Int.reduceToNat, Int.reduceLT, Int.reduceLE, Int.reduceAdd, Int.reduceNeg, Int.reduceEq, splice, Nat.reduceEqDiff, Nat.reduceLT, isAtom, Int.reduceSub, Int.reduceMul, implies_true]
    by_cases a6 : 128 ≤ r
    · rw [hf (by omega)]; simp (contextual := true) (implicitDefEqProofs := false) (maxSteps := 2000000) (disch := first | rfl | exact Nat.le_of_ble_eq_true rfl | omega | (simp only [List.length_append, List.length_cons, List.length_nil, List.length_set]; omega)) only [L19, a1, a2, a3, a4, a5, a6, X1, X2, X3, X4, XA, XB, lc_block, lc_cond, XZ, undef_eq, Nat.reduceAdd, Nat.reduceSub, ↓reduceIte, basic, cellsL, resOf, setAt, below, belowB, belowA, atomB, Nat.reduceLeDiff, Nat.reduceMul, Int.reduceToNat, Int.reduceLT, Int.reduceLE, Int.reduceAdd, Int.reduceNeg, Int.reduceEq, splice, Nat.reduceEqDiff, Nat.reduceLT, isAtom, Int.reduceSub, Int.reduceMul, implies_true]
    by_cases b1 : k = 1
    · rw [htr (by omega)]
      have b3 : (k ≤ 5) = True := eq_true (by omega)
      simp (contextual := true) (implicitDefEqProofs := false) (maxSteps := 2000000) (disch := first | rfl | exact Nat.le_of_ble_eq_true rfl | omega | (simp only [List.length_append, List.length_cons, List.length_nil, List.length_set]; omega)) only [L19, a1, a2, a3, a4, a5, a6, b1, b3, X1, X2, X3, X4, XA, XB, lc_block, lc_cond, XZ, undef_eq, Nat.reduceAdd, Nat.reduceSub, ↓reduceIte, basic, cellsL, resOf, setAt, below, belowB, belowA, atomB, Nat.reduceLeDiff, Nat.reduceMul, Int.reduceToNat, Int.reduceLT, Int.reduceLE, Int.reduceAdd, Int.reduceNeg, Int.reduceEq, splice, Nat.reduceEqDiff, Nat.reduceLT, isAtom, Int.reduceSub, Int.reduceMul, implies_true]
    by_cases b2 : s = 0
    · by_cases b3 : k ≤ 5
      · rw [htr (by omega)]; simp (contextual := true) (implicitDefEqProofs := false) (maxSteps := 2000000) (disch := first | rfl | exact Nat.le_of_ble_eq_true rfl | omega | (simp only [List.length_append, List.length_cons, List.length_nil, List.length_set]; omega)) only [L19, a1, a2, a3, a4, a5, a6, b1, b2, b3, X1, X2, X3, X4, XA, XB, lc_block, lc_cond, XZ, undef_eq, Nat.reduceAdd, Nat.reduceSub, ↓reduceIte, basic, cellsL, resOf, setAt, below, belowB, belowA, atomB, Nat.reduceLeDiff, Nat.reduceMul, Int.reduceToNat, Int.reduceLT, Int.reduceLE, Int.reduceAdd, Int.reduceNeg, Int.reduceEq, splice, Nat.reduceEqDiff, Nat.reduceLT, isAtom, Int.reduceSub, Int.reduceMul, implies_true]
      · by_cases b4 : r = 0
        · rw [htr (by omega)]; simp (contextual := true) (implicitDefEqProofs := false) (maxSteps := 2000000) (disch := first | rfl | exact Nat.le_of_ble_eq_true rfl | omega | (simp only [List.length_append, List.length_cons, List.length_nil, List.length_set]; omega)) only [L19, a1, a2, a3, a4, a5, a6, b1, b2, b3, b4, X1, X2, X3, X4, XA, XB, lc_block, lc_cond, XZ, undef_eq, Nat.reduceAdd, Nat.reduceSub, ↓reduceIte, basic, cellsL, resOf, setAt, below, belowB, belowA, atomB, Nat.reduceLeDiff, Nat.reduceMul, Int.reduceToNat, Int.reduceLT, Int.reduceLE, Int.reduceAdd, Int.reduceNeg, Int.reduceEq, splice, Nat.reduceEqDiff, Nat.reduceLT, isAtom, Int.reduceSub, Int.reduceMul, implies_true]
        · rw [hf (by omega)]; simp (contextual := true) (implicitDefEqProofs := false) (maxSteps := 2000000) (disch := first | rfl | exact Nat.le_of_ble_eq_true rfl | omega | (simp only [List.length_append, List.length_cons, List.length_nil, List.length_set]; omega)) only [L19, a1, a2, a3, a4, a5, a6, b1, b2, b3, b4, X1, X2, X3, X4, XA, XB, lc_block, lc_cond, XZ, undef_eq, Nat.reduceAdd, Nat.reduceSub, ↓reduceIte, basic, cellsL, resOf, setAt, below, belowB, belowA, atomB, Nat.reduceLeDiff, Nat.reduceMul, Int.reduceToNat, Int.reduceLT, Int.reduceLE, Int.reduceAdd, Int.reduceNeg, Int.reduceEq, splice, Nat.reduceEqDiff, Nat.reduceLT, isAtom, Int.reduceSub, Int.reduceMul, implies_true]
    · rw [hf (by omega)]; simp (contextual := true) (implicitDefEqProofs := false) (maxSteps := 2000000) (disch := first | rfl | exact Nat.le_of_ble_eq_true rfl | omega | (simp only [List.length_append, List.length_cons, List.length_nil, List.length_set]; omega)) only [L19, a1, a2, a3, a4, a5, a6, b1, b2, X1, X2, X3, X4, XA, XB, lc_block, lc_cond, XZ, undef_eq, Nat.reduceAdd, Nat.reduceSub, ↓reduceIte, basic, cellsL, resOf, setAt, below, belowB, belowA, atomB, Nat.reduceLeDiff, Nat.reduceMul, Int.reduceToNat, Int.reduceLT, Int.reduceLE, Int.reduceAdd, Int.reduceNeg, Int.reduceEq, splice, Nat.reduceEqDiff, Nat.reduceLT, isAtom, Int.reduceSub, Int.reduceMul, implies_true]

theorem refput_spec (k r s : Int) (p w : Bool) (h : rightC k r s w = true) (m : Mem) (K : Value → Mem → Prop)
    (hk : ∀ i g T, (m ++ g)[i]? = some ⟨(putL8 k r s p w).map (Value.int .i64 ·), T, 1, 0, .own⟩ → K (.slice (some ⟨i, 0, none⟩) (putL8 k r s p w).length (putL8 k r s p w).length) (m ++ g)) :
    LCall Tryz.prog 34 [ctlV k r s p, .bool w] m K := by
  obtain ⟨hkk, hs, hrr, hk1, hk5⟩ := right_of h
  refine LCall_enter Tryz.func34 c34 ?_
  by_cases h6 : 6 ≤ k
  · have e : putL8 k r s p w = [baseL.getD (k - 6).toNat 0 + sixt p] := if_pos h6
    rw [e] at hk
    have h5 : ((5 : Int) < k) = True := eq_true (by omega)
    rcases nine_cases h6 hkk.2 with rfl | rfl | rfl | rfl | rfl | rfl | rfl | rfl | rfl <;> cases p <;>
    · simp (contextual := true) (implicitDefEqProofs := false) (maxSteps := 2000000) (disch := first | rfl | exact Nat.le_of_ble_eq_true rfl | omega | (simp only [List.length_append, List.length_cons, List.length_nil, List.length_set]; omega)) only [L34, h5, X1, X2, X3, X4, XA, XB, lc_block, lc_cond, XZ, undef_eq, Nat.reduceAdd, Nat.reduceSub, ↓reduceIte, basic, cellsL, resOf, setAt, below, belowB, belowA, atomB, Nat.reduceLeDiff, Nat.reduceMul, Int.reduceToNat, Int.reduceLT, Int.reduceLE, Int.reduceAdd, Int.reduceNeg, Int.reduceEq, splice, Nat.reduceEqDiff, Nat.reduceLT, isAtom, Int.reduceSub, Int.reduceMul, implies_true]
      exact hk (m.length + 2) _ 3 (by rw [List.getElem?_append_right (by omega)]; simp; rfl)
  · have h5 : ((5 : Int) < k) = False := eq_false (by omega)
    have hf := first_facts (k := k) (s := s) (by omega) hs.1 hk1
    have hm : m8 w ≤ 128 := by cases w <;> decide
    rcases (show k = 1 ∨ k = 2 ∨ k = 3 ∨ k = 4 ∨ k = 5 by omega) with rfl | rfl | rfl | rfl | rfl
    · cases w
      · rw [m8_f] at hs hrr
        cases p
        · have e : putL8 1 r s false false = [32 * r + 2 * s] := by simp [putL8, sixt, onee, firstC]
          rw [e] at hk
          simp (contextual := true) (implicitDefEqProofs := false) (maxSteps := 2000000) (disch := first | rfl | exact Nat.le_of_ble_eq_true rfl | omega | (simp only [List.length_append, List.length_cons, List.length_nil, List.length_set]; omega)) only [L34, h5, X1, X2, X3, X4, XA, XB, lc_block, lc_cond, XZ, undef_eq, Nat.reduceAdd, Nat.reduceSub, ↓reduceIte, basic, cellsL, resOf, setAt, below, belowB, belowA, atomB, Nat.reduceLeDiff, Nat.reduceMul, Int.reduceToNat, Int.reduceLT, Int.reduceLE, Int.reduceAdd, Int.reduceNeg, Int.reduceEq, splice, Nat.reduceEqDiff, Nat.reduceLT, isAtom, Int.reduceSub, Int.reduceMul, implies_true]
          exact hk (m.length + 1) _ 3 (by rw [List.getElem?_append_right (by omega)]; simp)
        · have e : putL8 1 r s true false = [32 * r + 16 + 2 * s] := by simp [putL8, sixt, onee, firstC]
          rw [e] at hk
          simp (contextual := true) (implicitDefEqProofs := false) (maxSteps := 2000000) (disch := first | rfl | exact Nat.le_of_ble_eq_true rfl | omega | (simp only [List.length_append, List.length_cons, List.length_nil, List.length_set]; omega)) only [L34, h5, X1, X2, X3, X4, XA, XB, lc_block, lc_cond, XZ, undef_eq, Nat.reduceAdd, Nat.reduceSub, ↓reduceIte, basic, cellsL, resOf, setAt, below, belowB, belowA, atomB, Nat.reduceLeDiff, Nat.reduceMul, Int.reduceToNat, Int.reduceLT, Int.reduceLE, Int.reduceAdd, Int.reduceNeg, Int.reduceEq, splice, Nat.reduceEqDiff, Nat.reduceLT, isAtom, Int.reduceSub, Int.reduceMul, implies_true]
          exact hk (m.length + 1) _ 3 (by rw [List.getElem?_append_right (by omega)]; simp)
      · rw [m8_t] at hs hrr
        cases p
        · have e : putL8 1 r s false true = [2 * s, 2 * r] := by simp [putL8, sixt, onee, firstC]
          rw [e] at hk
          simp (contextual := true) (implicitDefEqProofs := false) (maxSteps := 2000000) (disch := first | rfl | exact Nat.le_of_ble_eq_true rfl | omega | (simp only [List.length_append, List.length_cons, List.length_nil, List.length_set]; omega)) only [L34, h5, X1, X2, X3, X4, XA, XB, lc_block, lc_cond, XZ, undef_eq, Nat.reduceAdd, Nat.reduceSub, ↓reduceIte, basic, cellsL, resOf, setAt, below, belowB, belowA, atomB, Nat.reduceLeDiff, Nat.reduceMul, Int.reduceToNat, Int.reduceLT, Int.reduceLE, Int.reduceAdd, Int.reduceNeg, Int.reduceEq, splice, Nat.reduceEqDiff, Nat.reduceLT, isAtom, Int.reduceSub, Int.reduceMul, implies_true]
          exact hk (m.length + 1) _ 3 (by rw [List.getElem?_append_right (by omega)]; simp)
        · have e : putL8 1 r s true true = [2 * s, 2 * r + 1] := by simp [putL8, sixt, onee, firstC]
          rw [e] at hk
          simp (contextual := true) (implicitDefEqProofs := false) (maxSteps := 2000000) (disch := first | rfl | exact Nat.le_of_ble_eq_true rfl | omega | (simp only [List.length_append, List.length_cons, List.length_nil, List.length_set]; omega)) only [L34, h5, X1, X2, X3, X4, XA, XB, lc_block, lc_cond, XZ, undef_eq, Nat.reduceAdd, Nat.reduceSub, ↓reduceIte, basic, cellsL, resOf, setAt, below, belowB, belowA, atomB, Nat.reduceLeDiff, Nat.reduceMul, Int.reduceToNat, Int.reduceLT, Int.reduceLE, Int.reduceAdd, Int.reduceNeg, Int.reduceEq, splice, Nat.reduceEqDiff, Nat.reduceLT, isAtom, Int.reduceSub, Int.reduceMul, implies_true]
          exact hk (m.length + 1) _ 3 (by rw [List.getElem?_append_right (by omega)]; simp)
    · cases w
      · rw [m8_f] at hs hrr
        cases p
        · have e : putL8 2 r s false false = [32 * r + 1] := by simp [putL8, sixt, onee, firstC]
          rw [e] at hk
          simp (contextual := true) (implicitDefEqProofs := false) (maxSteps := 2000000) (disch := first | rfl | exact Nat.le_of_ble_eq_true rfl | omega | (simp only [List.length_append, List.length_cons, List.length_nil, List.length_set]; omega)) only [L34, h5, X1, X2, X3, X4, XA, XB, lc_block, lc_cond, XZ, undef_eq, Nat.reduceAdd, Nat.reduceSub, ↓reduceIte, basic, cellsL, resOf, setAt, below, belowB, belowA, atomB, Nat.reduceLeDiff, Nat.reduceMul, Int.reduceToNat, Int.reduceLT, Int.reduceLE, Int.reduceAdd, Int.reduceNeg, Int.reduceEq, splice, Nat.reduceEqDiff, Nat.reduceLT, isAtom, Int.reduceSub, Int.reduceMul, implies_true]
          exact hk (m.length + 2) _ 3 (by rw [List.getElem?_append_right (by omega)]; simp)
        · have e : putL8 2 r s true false = [32 * r + 16 + 1] := by simp [putL8, sixt, onee, firstC]
          rw [e] at hk
          simp (contextual := true) (implicitDefEqProofs := false) (maxSteps := 2000000) (disch := first | rfl | exact Nat.le_of_ble_eq_true rfl | omega | (simp only [List.length_append, List.length_cons, List.length_nil, List.length_set]; omega)) only [L34, h5, X1, X2, X3, X4, XA, XB, lc_block, lc_cond, XZ, undef_eq, Nat.reduceAdd, Nat.reduceSub, ↓reduceIte, basic, cellsL, resOf, setAt, below, belowB, belowA, atomB, Nat.reduceLeDiff, Nat.reduceMul, Int.reduceToNat, Int.reduceLT, Int.reduceLE, Int.reduceAdd, Int.reduceNeg, Int.reduceEq, splice, Nat.reduceEqDiff, Nat.reduceLT, isAtom, Int.reduceSub, Int.reduceMul, implies_true]
          exact hk (m.length + 2) _ 3 (by rw [List.getElem?_append_right (by omega)]; simp)
      · rw [m8_t] at hs hrr
        cases p
        · have e : putL8 2 r s false true = [1, 2 * r] := by simp [putL8, sixt, onee, firstC]
          rw [e] at hk
          simp (contextual := true) (implicitDefEqProofs := false) (maxSteps := 2000000) (disch := first | rfl | exact Nat.le_of_ble_eq_true rfl | omega | (simp only [List.length_append, List.length_cons, List.length_nil, List.length_set]; omega)) only [L34, h5, X1, X2, X3, X4, XA, XB, lc_block, lc_cond, XZ, undef_eq, Nat.reduceAdd, Nat.reduceSub, ↓reduceIte, basic, cellsL, resOf, setAt, below, belowB, belowA, atomB, Nat.reduceLeDiff, Nat.reduceMul, Int.reduceToNat, Int.reduceLT, Int.reduceLE, Int.reduceAdd, Int.reduceNeg, Int.reduceEq, splice, Nat.reduceEqDiff, Nat.reduceLT, isAtom, Int.reduceSub, Int.reduceMul, implies_true]
          exact hk (m.length + 2) _ 3 (by rw [List.getElem?_append_right (by omega)]; simp)
        · have e : putL8 2 r s true true = [1, 2 * r + 1] := by simp [putL8, sixt, onee, firstC]
          rw [e] at hk
          simp (contextual := true) (implicitDefEqProofs := false) (maxSteps := 2000000) (disch := first | rfl | exact Nat.le_of_ble_eq_true rfl | omega | (simp only [List.length_append, List.length_cons, List.length_nil, List.length_set]; omega)) only [L34, h5, X1, X2, X3, X4, XA, XB, lc_block, lc_cond, XZ, undef_eq, Nat.reduceAdd, Nat.reduceSub, ↓reduceIte, basic, cellsL, resOf, setAt, below, belowB, belowA, atomB, Nat.reduceLeDiff, Nat.reduceMul, Int.reduceToNat, Int.reduceLT, Int.reduceLE, Int.reduceAdd, Int.reduceNeg, Int.reduceEq, splice, Nat.reduceEqDiff, Nat.reduceLT, isAtom, Int.reduceSub, Int.reduceMul, implies_true]
          exact hk (m.length + 2) _ 3 (by rw [List.getElem?_append_right (by omega)]; simp)
    · cases w
      · rw [m8_f] at hs hrr
        cases p
        · have e : putL8 3 r s false false = [32 * r + 5] := by simp [putL8, sixt, onee, firstC]
          rw [e] at hk
          simp (contextual := true) (implicitDefEqProofs := false) (maxSteps := 2000000) (disch := first | rfl | exact Nat.le_of_ble_eq_true rfl | omega | (simp only [List.length_append, List.length_cons, List.length_nil, List.length_set]; omega)) only [L34, h5, X1, X2, X3, X4, XA, XB, lc_block, lc_cond, XZ, undef_eq, Nat.reduceAdd, Nat.reduceSub, ↓reduceIte, basic, cellsL, resOf, setAt, below, belowB, belowA, atomB, Nat.reduceLeDiff, Nat.reduceMul, Int.reduceToNat, Int.reduceLT, Int.reduceLE, Int.reduceAdd, Int.reduceNeg, Int.reduceEq, splice, Nat.reduceEqDiff, Nat.reduceLT, isAtom, Int.reduceSub, Int.reduceMul, implies_true]
          exact hk (m.length + 2) _ 3 (by rw [List.getElem?_append_right (by omega)]; simp)
        · have e : putL8 3 r s true false = [32 * r + 16 + 5] := by simp [putL8, sixt, onee, firstC]
          rw [e] at hk
          simp (contextual := true) (implicitDefEqProofs := false) (maxSteps := 2000000) (disch := first | rfl | exact Nat.le_of_ble_eq_true rfl | omega | (simp only [List.length_append, List.length_cons, List.length_nil, List.length_set]; omega)) only [L34, h5, X1, X2, X3, X4, XA, XB, lc_block, lc_cond, XZ, undef_eq, Nat.reduceAdd, Nat.reduceSub, ↓reduceIte, basic, cellsL, resOf, setAt, below, belowB, belowA, atomB, Nat.reduceLeDiff, Nat.reduceMul, Int.reduceToNat, Int.reduceLT, Int.reduceLE, Int.reduceAdd, Int.reduceNeg, Int.reduceEq, splice, Nat.reduceEqDiff, Nat.reduceLT, isAtom, Int.reduceSub, Int.reduceMul, implies_true]
          exact hk (m.length + 2) _ 3 (by rw [List.getElem?_append_right (by omega)]; simp)
      · rw [m8_t] at hs hrr
        cases p
        · have e : putL8 3 r s false true = [5, 2 * r] := by simp [putL8, sixt, onee, firstC]
          rw [e] at hk
          simp (contextual := true) (implicitDefEqProofs := false) (maxSteps := 2000000) (disch := first | rfl | exact Nat.le_of_ble_eq_true rfl | omega | (simp only [List.length_append, List.length_cons, List.length_nil, List.length_set]; omega)) only [L34, h5, X1, X2, X3, X4, XA, XB, lc_block, lc_cond, XZ, undef_eq, Nat.reduceAdd, Nat.reduceSub, ↓reduceIte, basic, cellsL, resOf, setAt, below, belowB, belowA, atomB, Nat.reduceLeDiff, Nat.reduceMul, Int.reduceToNat, Int.reduceLT, Int.reduceLE, Int.reduceAdd, Int.reduceNeg, Int.reduceEq, splice, Nat.reduceEqDiff, Nat.reduceLT, isAtom, Int.reduceSub, Int.reduceMul, implies_true]
          exact hk (m.length + 2) _ 3 (by rw [List.getElem?_append_right (by omega)]; simp)
        · have e : putL8 3 r s true true = [5, 2 * r + 1] := by simp [putL8, sixt, onee, firstC]
          rw [e] at hk
          simp (contextual := true) (implicitDefEqProofs := false) (maxSteps := 2000000) (disch := first | rfl | exact Nat.le_of_ble_eq_true rfl | omega | (simp only [List.length_append, List.length_cons, List.length_nil, List.length_set]; omega)) only [L34, h5, X1, X2, X3, X4, XA, XB, lc_block, lc_cond, XZ, undef_eq, Nat.reduceAdd, Nat.reduceSub, ↓reduceIte, basic, cellsL, resOf, setAt, below, belowB, belowA, atomB, Nat.reduceLeDiff, Nat.reduceMul, Int.reduceToNat, Int.reduceLT, Int.reduceLE, Int.reduceAdd, Int.reduceNeg, Int.reduceEq, splice, Nat.reduceEqDiff, Nat.reduceLT, isAtom, Int.reduceSub, Int.reduceMul, implies_true]
          exact hk (m.length + 2) _ 3 (by rw [List.getElem?_append_right (by omega)]; simp)
    · cases w
      · rw [m8_f] at hs hrr
        cases p
        · have e : putL8 4 r s false false = [32 * r + 9] := by simp [putL8, sixt, onee, firstC]
          rw [e] at hk
          simp (contextual := true) (implicitDefEqProofs := false) (maxSteps := 2000000) (disch := first | rfl | exact Nat.le_of_ble_eq_true rfl | omega | (simp only [List.length_append, List.length_cons, List.length_nil, List.length_set]; omega)) only [L34, h5, X1, X2, X3, X4, XA, XB, lc_block, lc_cond, XZ, undef_eq, Nat.reduceAdd, Nat.reduceSub, ↓reduceIte, basic, cellsL, resOf, setAt, below, belowB, belowA, atomB, Nat.reduceLeDiff, Nat.reduceMul, Int.reduceToNat, Int.reduceLT, Int.reduceLE, Int.reduceAdd, Int.reduceNeg, Int.reduceEq, splice, Nat.reduceEqDiff, Nat.reduceLT, isAtom, Int.reduceSub, Int.reduceMul, implies_true]
          exact hk (m.length + 2) _ 3 (by rw [List.getElem?_append_right (by omega)]; simp)
        · have e : putL8 4 r s true false = [32 * r + 16 + 9] := by simp [putL8, sixt, onee, firstC]
          rw [e] at hk
          simp (contextual := true) (implicitDefEqProofs := false) (maxSteps := 2000000) (disch := first | rfl | exact Nat.le_of_ble_eq_true rfl | omega | (simp only [List.length_append, List.length_cons, List.length_nil, List.length_set]; omega)) only [L34, h5, X1, X2, X3, X4, XA, XB, lc_block, lc_cond, XZ, undef_eq, Nat.reduceAdd, Nat.reduceSub, ↓reduceIte, basic, cellsL, resOf, setAt, below, belowB, belowA, atomB, Nat.reduceLeDiff, Nat.reduceMul, Int.reduceToNat, Int.reduceLT, Int.reduceLE, Int.reduceAdd, Int.reduceNeg, Int.reduceEq, splice, Nat.reduceEqDiff, Nat.reduceLT, isAtom, Int.reduceSub, Int.reduceMul, implies_true]
          exact hk (m.length + 2) _ 3 (by rw [List.getElem?_append_right (by omega)]; simp)
      · rw [m8_t] at hs hrr
        cases p
        · have e : putL8 4 r s false true = [9, 2 * r] := by simp [putL8, sixt, onee, firstC]
          rw [e] at hk
          simp (contextual := true) (implicitDefEqProofs := false) (maxSteps := 2000000) (disch := first | rfl | exact Nat.le_of_ble_eq_true rfl | omega | (simp only [List.length_append, List.length_cons, List.length_nil, List.length_set]; omega)) only [L34, h5, X1, X2, X3, X4, XA, XB, lc_block, lc_cond, XZ, undef_eq, Nat.reduceAdd, Nat.reduceSub, ↓reduceIte, basic, cellsL, resOf, setAt, below, belowB, belowA, atomB, Nat.reduceLeDiff, Nat.reduceMul, Int.reduceToNat, Int.reduceLT, Int.reduceLE, Int.reduceAdd, Int.reduceNeg, Int.reduceEq, splice, Nat.reduceEqDiff, Nat.reduceLT, isAtom, Int.reduceSub, Int.reduceMul, implies_true]
          exact hk (m.length + 2) _ 3 (by rw [List.getElem?_append_right (by omega)]; simp)
        · have e : putL8 4 r s true true = [9, 2 * r + 1] := by simp [putL8, sixt, onee, firstC]
          rw [e] at hk
          simp (contextual := true) (implicitDefEqProofs := false) (maxSteps := 2000000) (disch := first | rfl | exact Nat.le_of_ble_eq_true rfl | omega | (simp only [List.length_append, List.length_cons, List.length_nil, List.length_set]; omega)) only [L34, h5, X1, X2, X3, X4, XA, XB, lc_block, lc_cond, XZ, undef_eq, Nat.reduceAdd, Nat.reduceSub, ↓reduceIte, basic, cellsL, resOf, setAt, below, belowB, belowA, atomB, Nat.reduceLeDiff, Nat.reduceMul, Int.reduceToNat, Int.reduceLT, Int.reduceLE, Int.reduceAdd, Int.reduceNeg, Int.reduceEq, splice, Nat.reduceEqDiff, Nat.reduceLT, isAtom, Int.reduceSub, Int.reduceMul, implies_true]
          exact hk (m.length + 2) _ 3 (by rw [List.getElem?_append_right (by omega)]; simp)
    · cases w
      · rw [m8_f] at hs hrr
        cases p
        · have e : putL8 5 r s false false = [32 * r + 13] := by simp [putL8, sixt, onee, firstC]
          rw [e] at hk
          simp (contextual := true) (implicitDefEqProofs := false) (maxSteps := 2000000) (disch := first | rfl | exact Nat.le_of_ble_eq_true rfl | omega | (simp only [List.length_append, List.length_cons, List.length_nil, List.length_set]; omega)) only [L34, h5, X1, X2, X3, X4, XA, XB, lc_block, lc_cond, XZ, undef_eq, Nat.reduceAdd, Nat.reduceSub, ↓reduceIte, basic, cellsL, resOf, setAt, below, belowB, belowA, atomB, Nat.reduceLeDiff, Nat.reduceMul, Int.reduceToNat, Int.reduceLT, Int.reduceLE, Int.reduceAdd, Int.reduceNeg, Int.reduceEq, splice, Nat.reduceEqDiff, Nat.reduceLT, isAtom, Int.reduceSub, Int.reduceMul, implies_true]
          exact hk (m.length + 2) _ 3 (by rw [List.getElem?_append_right (by omega)]; simp)
        · have e : putL8 5 r s true false = [32 * r + 16 + 13] := by simp [putL8, sixt, onee, firstC]
          rw [e] at hk
          simp (contextual := true) (implicitDefEqProofs := false) (maxSteps := 2000000) (disch := first | rfl | exact Nat.le_of_ble_eq_true rfl | omega | (simp only [List.length_append, List.length_cons, List.length_nil, List.length_set]; omega)) only [L34, h5, X1, X2, X3, X4, XA, XB, lc_block, lc_cond, XZ, undef_eq, Nat.reduceAdd, Nat.reduceSub, ↓reduceIte, basic, cellsL, resOf, setAt, below, belowB, belowA, atomB, Nat.reduceLeDiff, Nat.reduceMul, Int.reduceToNat, Int.reduceLT, Int.reduceLE, Int.reduceAdd, Int.reduceNeg, Int.reduceEq, splice, Nat.reduceEqDiff, Nat.reduceLT, isAtom, Int.reduceSub, Int.reduceMul, implies_true]
          exact hk (m.length + 2) _ 3 (by rw [List.getElem?_append_right (by omega)]; simp)
      · rw [m8_t] at hs hrr
        cases p
        · have e : putL8 5 r s false true = [13, 2 * r] := by simp [putL8, sixt, onee, firstC]
          rw [e] at hk
          simp (contextual := true) (implicitDefEqProofs := false) (maxSteps := 2000000) (disch := first | rfl | exact Nat.le_of_ble_eq_true rfl | omega | (simp only [List.length_append, List.length_cons, List.length_nil, List.length_set]; omega)) only [L34, h5, X1, X2, X3, X4, XA, XB, lc_block, lc_cond, XZ, undef_eq, Nat.reduceAdd, Nat.reduceSub, ↓reduceIte, basic, cellsL, resOf, setAt, below, belowB, belowA, atomB, Nat.reduceLeDiff, Nat.reduceMul, Int.reduceToNat, Int.reduceLT, Int.reduceLE, Int.reduceAdd, Int.reduceNeg, Int.reduceEq, splice, Nat.reduceEqDiff, Nat.reduceLT, isAtom, Int.reduceSub, Int.reduceMul, implies_true]
          exact hk (m.length + 2) _ 3 (by rw [List.getElem?_append_right (by omega)]; simp)
        · have e : putL8 5 r s true true = [13, 2 * r + 1] := by simp [putL8, sixt, onee, firstC]
          rw [e] at hk
          simp (contextual := true) (implicitDefEqProofs := false) (maxSteps := 2000000) (disch := first | rfl | exact Nat.le_of_ble_eq_true rfl | omega | (simp only [List.length_append, List.length_cons, List.length_nil, List.length_set]; omega)) only [L34, h5, X1, X2, X3, X4, XA, XB, lc_block, lc_cond, XZ, undef_eq, Nat.reduceAdd, Nat.reduceSub, ↓reduceIte, basic, cellsL, resOf, setAt, below, belowB, belowA, atomB, Nat.reduceLeDiff, Nat.reduceMul, Int.reduceToNat, Int.reduceLT, Int.reduceLE, Int.reduceAdd, Int.reduceNeg, Int.reduceEq, splice, Nat.reduceEqDiff, Nat.reduceLT, isAtom, Int.reduceSub, Int.reduceMul, implies_true]
          exact hk (m.length + 2) _ 3 (by rw [List.getElem?_append_right (by omega)]; simp)

end Go.Proofs.YtenbkoalanfdhaaGreatDoor.K
/- The control of any bytes, walked. -/
namespace Go.Proofs.YtenbkoalanfdhaaGreatDoor.K
open Go.Lg
set_option maxRecDepth 8000
set_option maxHeartbeats 8000000
set_option linter.unusedSimpArgs false
set_option linter.unnecessarySimpa false
set_option linter.unusedVariables false

def rest16 (n : Nat) : Nat := n - 16 * (n / 16 % 2)
theorem andNot16 {n : Nat} (h : n < 256) : binV .andNot (.int .i64 (n : Int)) (.int .i64 16) = some (.int .i64 ((rest16 n : Nat) : Int)) := by
  have key : ∀ n : Fin 256, IntKind.i64.wrap ((BitVec.ofInt IntKind.i64.bits ((n.1 : Nat) : Int) &&& ~~~ BitVec.ofInt IntKind.i64.bits 16).toNat : Int) = ((rest16 n.1 : Nat) : Int) := by decide +kernel
  rw [bin_andNot]
  exact congrArg (fun y => some (Value.int .i64 y)) (key ⟨n, h⟩)
theorem rest_base : ∀ i, i < 9 → ∀ p, ((rest16 (baseL.getD i 0 + sixt p).toNat : Nat) : Int) = baseL.getD i 0 := by decide
theorem base_mem : ∀ i, i < 9 → baseL.getD i 0 ∈ baseL := by decide
theorem base_get : ∀ i, i < 9 → ∀ v, baseL[i]? = some v → baseL.getD i 0 = v := by
  intro i _ v h
  rw [List.getD_eq_getElem?_getD, h]; rfl
theorem plainAll_spec {n : Nat} (hn : n < 256) (m : Mem) : Ret Tryz.prog 54 [.int .i64 (n : Int)] m (.tuple #[(plainC n).2.1.val, .int .i64 (((plainC n).2.2 : Nat) : Int), .int .i64 (plainC n).1]) m := by
  rcases plainC_some hn with h | ⟨i, hi, p, h⟩
  · rw [h]
    refine LCall_drop (LCall_enter Tryz.func54 c54 ?_)
    simp (contextual := true) (implicitDefEqProofs := false) (maxSteps := 2000000) (disch := first | rfl | exact Nat.le_of_ble_eq_true rfl | omega | (simp only [List.length_append, List.length_cons, List.length_nil, List.length_set]; omega)) only [L54, X1, X2, X3, X4, XA, XB, lc_block, lc_cond, XZ, undef_eq, Nat.reduceAdd, Nat.reduceSub, ↓reduceIte, basic, cellsL, resOf, setAt, below, belowB, belowA, atomB, Nat.reduceLeDiff, Nat.reduceMul, Int.reduceToNat, Int.reduceLT, Int.reduceLE, Int.reduceAdd, Int.reduceNeg, Int.reduceEq, splice, Nat.reduceEqDiff, Nat.reduceLT, isAtom, Int.reduceSub, Int.reduceMul, implies_true]
    refine (bases_spec _).use ?_
    simp (contextual := true) (implicitDefEqProofs := false) (maxSteps := 2000000) (disch := first | rfl | exact Nat.le_of_ble_eq_true rfl | omega | (simp only [List.length_append, List.length_cons, List.length_nil, List.length_set]; omega)) only [andNot16 hn, X1, X2, X3, X4, XA, bin_add, bin_sub, bin_mul, bin_quo, bin_rem, bin_or, bin_xor, bin_eql, bin_neq, bin_lss, bin_leq, bin_gtr, bin_geq, bin_shl, bin_shr, bin_sadd, bin_seql, bin_sneq, lc_block, lc_cond, XZ, undef_eq, Nat.reduceAdd, Nat.reduceSub, ↓reduceIte, basic, cellsL, resOf, setAt, below, belowB, belowA, atomB, Nat.reduceLeDiff, Nat.reduceMul, Int.reduceToNat, Int.reduceLT, Int.reduceLE, Int.reduceAdd, Int.reduceNeg, Int.reduceEq, splice, Nat.reduceEqDiff, Nat.reduceLT, isAtom, Int.reduceSub, Int.reduceMul, implies_true]
    refine arr_full (cs := baseL.map (Value.int .i64 ·)) (T := 96) (f := 0) rfl (by simp [baseL]) (by decide) ?_
    simp (contextual := true) (implicitDefEqProofs := false) (maxSteps := 2000000) (disch := first | rfl | exact Nat.le_of_ble_eq_true rfl | omega | (simp only [List.length_append, List.length_cons, List.length_nil, List.length_set]; omega)) only [andNot16 hn, X1, X2, X3, X4, XA, bin_add, bin_sub, bin_mul, bin_quo, bin_rem, bin_or, bin_xor, bin_eql, bin_neq, bin_lss, bin_leq, bin_gtr, bin_geq, bin_shl, bin_shr, bin_sadd, bin_seql, bin_sneq, lc_block, lc_cond, XZ, undef_eq, Nat.reduceAdd, Nat.reduceSub, ↓reduceIte, basic, cellsL, resOf, setAt, below, belowB, belowA, atomB, Nat.reduceLeDiff, Nat.reduceMul, Int.reduceToNat, Int.reduceLT, Int.reduceLE, Int.reduceAdd, Int.reduceNeg, Int.reduceEq, splice, Nat.reduceEqDiff, Nat.reduceLT, isAtom, Int.reduceSub, Int.reduceMul, implies_true]
    refine index_spec (m.length + 1) 96 baseL _ _ (by simp [baseL]) (by decide) _ (fun k hk _ => ?_) (fun hm => ?_)
    · exfalso
      have hk9 : k < 9 := (List.getElem?_eq_some_iff.mp hk).1
      have h1 := base_get k hk9 _ hk
      have : (List.range 9).find? (fun i => decide (baseL.getD i 0 = ((n - 16 * (n / 16 % 2) : Nat) : Int))) ≠ none := by
        intro hnone
        rw [List.find?_eq_none] at hnone
        exact hnone k (by simpa using hk9) (decide_eq_true h1)
      unfold plainC at h
      split at h
      · cases h
      · rename_i h2; exact this h2
    · simp (contextual := true) (implicitDefEqProofs := false) (maxSteps := 2000000) (disch := first | rfl | exact Nat.le_of_ble_eq_true rfl | omega | (simp only [List.length_append, List.length_cons, List.length_nil, List.length_set]; omega)) only [czero, Ct.val, X1, X2, X3, X4, XA, XB, lc_block, lc_cond, XZ, undef_eq, Nat.reduceAdd, Nat.reduceSub, ↓reduceIte, basic, cellsL, resOf, setAt, below, belowB, belowA, atomB, Nat.reduceLeDiff, Nat.reduceMul, Int.reduceToNat, Int.reduceLT, Int.reduceLE, Int.reduceAdd, Int.reduceNeg, Int.reduceEq, splice, Nat.reduceEqDiff, Nat.reduceLT, isAtom, Int.reduceSub, Int.reduceMul, implies_true]
  · have hpn : plainC n = (0, ⟨6 + (i : Int), 0, 0, p⟩, 1) := by
      have := plainC_at hi p
      rw [← h] at this
      simpa using this
    rw [hpn, h]
    exact plain52_spec hi p m
theorem empty_get (w : Bool) (m : Mem) : Ret Tryz.prog 30 [str [], .bool w] m (.tuple #[czero.val, .int .i64 0, .int .i64 4]) m := by
  refine LCall_drop (LCall_enter Tryz.func30 c30 ?_)
  simp (contextual := true) (implicitDefEqProofs := false) (maxSteps := 2000000) (disch := first | rfl | exact Nat.le_of_ble_eq_true rfl | omega | (simp only [List.length_append, List.length_cons, List.length_nil, List.length_set]; omega)) only [L30, bin_ladd, str_cut, str_app, str_eq, string_mk_size, string_mk, czero, Ct.val, X1, X2, X3, X4, XA, XB, lc_block, lc_cond, XZ, undef_eq, Nat.reduceAdd, Nat.reduceSub, ↓reduceIte, basic, cellsL, resOf, setAt, below, belowB, belowA, atomB, Nat.reduceLeDiff, Nat.reduceMul, Int.reduceToNat, Int.reduceLT, Int.reduceLE, Int.reduceAdd, Int.reduceNeg, Int.reduceEq, splice, Nat.reduceEqDiff, Nat.reduceLT, isAtom, Int.reduceSub, Int.reduceMul, implies_true]
/-- The control of bytes. -/
theorem getK_spec (s : List UInt8) (w : Bool) (m : Mem) (hl : s.length ≤ 140737488355328) : Ret Tryz.prog 30 [str s, .bool w] m (.tuple #[(getC s w).2.1.val, .int .i64 (((getC s w).2.2 : Nat) : Int), .int .i64 (getC s w).1]) m := by
  match s, hl with
  | [], _ => exact empty_get w m
  | b :: r, hl =>
    have hn := b.toNat_lt
    have ht : (⟨(b :: r).toArray⟩ : ByteArray).data.toList[0]? = some b := by simp
    by_cases h3 : b.toNat % 4 = 3
    · have e : getC (b :: r) w = plainC b.toNat := by rw [getC, if_pos h3]
      rw [e]
      refine LCall_drop (LCall_enter Tryz.func30 c30 ?_)
      have h3' : (((b.toNat % 4 : Nat) : Int) = 3) = True := eq_true (by omega)
      simp (contextual := true) (implicitDefEqProofs := false) (maxSteps := 2000000) (disch := first | rfl | exact Nat.le_of_ble_eq_true rfl | omega | (simp only [List.length_append, List.length_cons, List.length_nil, List.length_set]; omega)) only [L30, ne_empty ht, ht, u8_wrap, b_and3 hn, h3', X1, X2, X3, X4, XA, bin_add, bin_sub, bin_mul, bin_quo, bin_rem, bin_or, bin_xor, bin_andNot, bin_eql, bin_neq, bin_lss, bin_leq, bin_gtr, bin_geq, bin_shl, bin_sadd, bin_seql, bin_sneq, lc_block, lc_cond, XZ, undef_eq, Nat.reduceAdd, Nat.reduceSub, ↓reduceIte, basic, cellsL, resOf, setAt, below, belowB, belowA, atomB, Nat.reduceLeDiff, Nat.reduceMul, Int.reduceToNat, Int.reduceLT, Int.reduceLE, Int.reduceAdd, Int.reduceNeg, Int.reduceEq, splice, Nat.reduceEqDiff, Nat.reduceLT, isAtom, Int.reduceSub, Int.reduceMul, implies_true]
      refine (plainAll_spec hn _).use ?_
      simp (contextual := true) (implicitDefEqProofs := false) (maxSteps := 2000000) (disch := first | rfl | exact Nat.le_of_ble_eq_true rfl | omega | (simp only [List.length_append, List.length_cons, List.length_nil, List.length_set]; omega)) only [Ct.val, X1, X2, X3, X4, XA, XB, lc_block, lc_cond, XZ, undef_eq, Nat.reduceAdd, Nat.reduceSub, ↓reduceIte, basic, cellsL, resOf, setAt, below, belowB, belowA, atomB, Nat.reduceLeDiff, Nat.reduceMul, Int.reduceToNat, Int.reduceLT, Int.reduceLE, Int.reduceAdd, Int.reduceNeg, Int.reduceEq, splice, Nat.reduceEqDiff, Nat.reduceLT, isAtom, Int.reduceSub, Int.reduceMul, implies_true]
    · cases w with
      | false =>
        have e : getC (b :: r) false = (0, narC b.toNat, 1) := by rw [getC, if_neg h3, if_pos rfl]
        rw [e]
        exact get_narrow _ b ht h3 m
      | true =>
        have e : getC (b :: r) true = wOf b.toNat r := by rw [getC, if_neg h3, if_neg (by decide)]
        rw [e]
        have h3' : (((b.toNat % 4 : Nat) : Int) = 3) = False := eq_false (by omega)
        match r, hl with
        | [], hl =>
          refine LCall_drop (LCall_enter Tryz.func30 c30 ?_)
          simp (contextual := true) (implicitDefEqProofs := false) (maxSteps := 2000000) (disch := first | rfl | exact Nat.le_of_ble_eq_true rfl | omega | (simp only [List.length_append, List.length_cons, List.length_nil, List.length_set]; omega)) only [L30, ne_empty ht, ht, u8_wrap, b_and3 hn, h3', bin_ladd, str_cut, str_app, str_eq, string_mk_size, string_mk, wOf, czero, Ct.val, X1, X2, X3, X4, XA, bin_add, bin_sub, bin_mul, bin_quo, bin_rem, bin_or, bin_xor, bin_andNot, bin_eql, bin_neq, bin_lss, bin_leq, bin_gtr, bin_geq, bin_shl, bin_sadd, bin_seql, bin_sneq, lc_block, lc_cond, XZ, undef_eq, Nat.reduceAdd, Nat.reduceSub, ↓reduceIte, basic, cellsL, resOf, setAt, below, belowB, belowA, atomB, Nat.reduceLeDiff, Nat.reduceMul, Int.reduceToNat, Int.reduceLT, Int.reduceLE, Int.reduceAdd, Int.reduceNeg, Int.reduceEq, splice, Nat.reduceEqDiff, Nat.reduceLT, isAtom, Int.reduceSub, Int.reduceMul, implies_true]
        | c :: r, hl =>
          have hc : (⟨(b :: c :: r).toArray⟩ : ByteArray).data.toList[1]? = some c := by simp
          by_cases h15 : b.toNat % 2 = 0 ∨ b.toNat ≤ 15
          · rw [wOf, if_pos h15]
            exact get_wide _ b c ht hc h3 h15 m
          · rw [wOf, if_neg h15]
            have hnc := c.toNat_lt
            have hsz : (((r.length + 1 + 1 : Nat) : Int) < 2) = False := eq_false (by omega)
            have h2' : (((b.toNat % 2 : Nat) : Int) = 0) = False := eq_false (by omega)
            have h15' : ((15 : Int) < ((b.toNat : Nat) : Int)) = True := eq_true (by omega)
            refine LCall_drop (LCall_enter Tryz.func30 c30 ?_)
            simp (contextual := true) (implicitDefEqProofs := false) (maxSteps := 2000000) (disch := first | rfl | exact Nat.le_of_ble_eq_true rfl | omega | (simp only [List.length_append, List.length_cons, List.length_nil, List.length_set]; omega)) only [L30, ne_empty ht, ht, hc, string_mk_size, hsz, u8_wrap, b_and3 hn, h3', b_and1 hn, b_and1u hnc, b_shr1, b_shr2, h2', h15', czero, Ct.val, X1, X2, X3, X4, XA, bin_add, bin_sub, bin_mul, bin_quo, bin_rem, bin_or, bin_xor, bin_andNot, bin_eql, bin_neq, bin_lss, bin_leq, bin_gtr, bin_geq, bin_shl, bin_sadd, bin_seql, bin_sneq, lc_block, lc_cond, XZ, undef_eq, Nat.reduceAdd, Nat.reduceSub, ↓reduceIte, basic, cellsL, resOf, setAt, below, belowB, belowA, atomB, Nat.reduceLeDiff, Nat.reduceMul, Int.reduceToNat, Int.reduceLT, Int.reduceLE, Int.reduceAdd, Int.reduceNeg, Int.reduceEq, splice, Nat.reduceEqDiff, Nat.reduceLT, isAtom, Int.reduceSub, Int.reduceMul, implies_true]
end Go.Proofs.YtenbkoalanfdhaaGreatDoor.K
/- Frames read: walked; kinds by the document. -/
namespace Go.Proofs.YtenbkoalanfdhaaGreatDoor
open Go.Lg
set_option maxRecDepth 8000
set_option maxHeartbeats 8000000
set_option linter.unusedSimpArgs false
set_option linter.unnecessarySimpa false
set_option linter.unusedVariables false

theorem hasPid_spec (k : Int) (m : Mem) : Ret Tryz.prog 20 [.int .i64 k] m (.bool (K.pidB k)) m := by
  refine LCall_drop (LCall_enter Tryz.func20 c20 ?_)
  by_cases h1 : k = 1 <;> by_cases h2 : k = 12 <;> simp (contextual := true) (implicitDefEqProofs := false) (maxSteps := 2000000) (disch := first | rfl | exact Nat.le_of_ble_eq_true rfl | omega | (simp only [List.length_append, List.length_cons, List.length_nil, List.length_set]; omega)) only [L20, h1, h2, K.pidB, X1, X2, X3, X4, XA, XB, lc_block, lc_cond, XZ, undef_eq, Nat.reduceAdd, Nat.reduceSub, ↓reduceIte, basic, cellsL, resOf, setAt, below, belowB, belowA, atomB, Nat.reduceLeDiff, Nat.reduceMul, Int.reduceToNat, Int.reduceLT, Int.reduceLE, Int.reduceAdd, Int.reduceNeg, Int.reduceEq, splice, Nat.reduceEqDiff, Nat.reduceLT, isAtom, Int.reduceSub, Int.reduceMul, implies_true]
  all_goals simp_all [K.pidB]
theorem hasInfo_spec (k : Int) (m : Mem) : Ret Tryz.prog 44 [.int .i64 k] m (.bool (K.infoB k)) m := by
  refine LCall_drop (LCall_enter Tryz.func44 c44 ?_)
  by_cases h1 : k = 1
  · simp (contextual := true) (implicitDefEqProofs := false) (maxSteps := 2000000) (disch := first | rfl | exact Nat.le_of_ble_eq_true rfl | omega | (simp only [List.length_append, List.length_cons, List.length_nil, List.length_set]; omega)) only [L44, h1, K.infoB, X1, X2, X3, X4, XA, XB, lc_block, lc_cond, XZ, undef_eq, Nat.reduceAdd, Nat.reduceSub, ↓reduceIte, basic, cellsL, resOf, setAt, below, belowB, belowA, atomB, Nat.reduceLeDiff, Nat.reduceMul, Int.reduceToNat, Int.reduceLT, Int.reduceLE, Int.reduceAdd, Int.reduceNeg, Int.reduceEq, splice, Nat.reduceEqDiff, Nat.reduceLT, isAtom, Int.reduceSub, Int.reduceMul, implies_true]
  · by_cases h2 : 11 ≤ k
    · have e : K.infoB k = decide (k ≤ 14) := by
        unfold K.infoB
        by_cases h3 : k ≤ 14
        · rw [decide_eq_true h3, decide_eq_true (by omega)]
        · rw [decide_eq_false h3, decide_eq_false (by omega)]
      rw [e]
      simp (contextual := true) (implicitDefEqProofs := false) (maxSteps := 2000000) (disch := first | rfl | exact Nat.le_of_ble_eq_true rfl | omega | (simp only [List.length_append, List.length_cons, List.length_nil, List.length_set]; omega)) only [L44, h1, h2, X1, X2, X3, X4, XA, XB, lc_block, lc_cond, XZ, undef_eq, Nat.reduceAdd, Nat.reduceSub, ↓reduceIte, basic, cellsL, resOf, setAt, below, belowB, belowA, atomB, Nat.reduceLeDiff, Nat.reduceMul, Int.reduceToNat, Int.reduceLT, Int.reduceLE, Int.reduceAdd, Int.reduceNeg, Int.reduceEq, splice, Nat.reduceEqDiff, Nat.reduceLT, isAtom, Int.reduceSub, Int.reduceMul, implies_true]
    · have e : K.infoB k = false := by unfold K.infoB; exact decide_eq_false (by omega)
      rw [e]
      simp (contextual := true) (implicitDefEqProofs := false) (maxSteps := 2000000) (disch := first | rfl | exact Nat.le_of_ble_eq_true rfl | omega | (simp only [List.length_append, List.length_cons, List.length_nil, List.length_set]; omega)) only [L44, h1, h2, X1, X2, X3, X4, XA, XB, lc_block, lc_cond, XZ, undef_eq, Nat.reduceAdd, Nat.reduceSub, ↓reduceIte, basic, cellsL, resOf, setAt, below, belowB, belowA, atomB, Nat.reduceLeDiff, Nat.reduceMul, Int.reduceToNat, Int.reduceLT, Int.reduceLE, Int.reduceAdd, Int.reduceNeg, Int.reduceEq, splice, Nat.reduceEqDiff, Nat.reduceLT, isAtom, Int.reduceSub, Int.reduceMul, implies_true]

/-- A frame. -/
structure Fr where
  L : List En
  c : Ct
  pid : Int
  info : List UInt8
def Fr.zero : Fr := ⟨[], K.czero, 0, []⟩
def decP (c : Ct) (s : List UInt8) : Option (Int × List UInt8) :=
  if K.pidB c.k = true then (match s with
    | [] => none
    | x :: r => some ((x.toNat : Int), r)) else some (0, s)
def decE (L : List En) (c : Ct) : Option (Int × List UInt8) → Int × Fr
  | none => (4, Fr.zero)
  | some (pid, info) => if infoE (K.infoB c.k) info = 0 then (0, ⟨L, c, pid, info⟩) else (infoE (K.infoB c.k) info, Fr.zero)
theorem decE_s {L : List En} {c : Ct} {pid : Int} {info : List UInt8} : decE L c (some (pid, info)) = if infoE (K.infoB c.k) info = 0 then (0, ⟨L, c, pid, info⟩) else (infoE (K.infoB c.k) info, Fr.zero) := rfl
theorem decP_f {c : Ct} {s : List UInt8} (h : K.pidB c.k = false) : decP c s = some (0, s) := by unfold decP; rw [if_neg (by rw [h]; decide)]
theorem decP_n {c : Ct} (h : K.pidB c.k = true) : decP c [] = none := by unfold decP; rw [if_pos h]
theorem decP_c {c : Ct} {q : UInt8} {s : List UInt8} (h : K.pidB c.k = true) : decP c (q :: s) = some ((q.toNat : Int), s) := by unfold decP; rw [if_pos h]
/-- The frame of bytes: the error's number, the frame. -/
def decF (s : List UInt8) (w : Bool) : Int × Fr :=
  if (getP s 11 []).1 = 0 then
    (if (K.getC (s.drop (7 * (getP s 11 []).2.length)) w).1 = 0 then
      decE (getP s 11 []).2 (K.getC (s.drop (7 * (getP s 11 []).2.length)) w).2.1 (decP (K.getC (s.drop (7 * (getP s 11 []).2.length)) w).2.1 (s.drop (7 * (getP s 11 []).2.length + (K.getC (s.drop (7 * (getP s 11 []).2.length)) w).2.2)))
    else ((K.getC (s.drop (7 * (getP s 11 []).2.length)) w).1, Fr.zero))
  else ((getP s 11 []).1, Fr.zero)
abbrev frV (x y : En) (sv : Value) (f : Fr) : Value := frameV x.b x.s y.b y.s x.k y.k sv f.c f.pid f.info
def zFrame : Value := .agg #[str [], .int .i64 0, str [], .int .i64 0, .bool false, .bool false, .slice none 0 0, .int .i64 0, .int .i64 0, .int .i64 0, .bool false, .int .i64 0, str []]
theorem decode_spec (s : List UInt8) (w : Bool) (hl : s.length ≤ 100000) (m : Mem) : LCall Tryz.prog 10 [str s, .bool w] m fun v M => Frm [] m M ∧
    if (decF s w).1 = 0 then ∃ x y l sv F, (decF s w).2.L = x :: y :: l ∧ v = .tuple #[frV x y sv (decF s w).2, .int .i64 0] ∧ Sl M 83 3 sv F (l.map En.row) ∧ ∀ x ∈ F, m.length ≤ x
    else v = .tuple #[zFrame, .int .i64 (decF s w).1] := by
  refine LCall_enter Tryz.func10 c10 ?_
  simp (contextual := true) (implicitDefEqProofs := false) (maxSteps := 2000000) (disch := first | rfl | exact Nat.le_of_ble_eq_true rfl | omega | (simp only [List.length_append, List.length_cons, List.length_nil, List.length_set]; omega)) only [L10, X1, X2, X3, X4, XA, XB, lc_block, lc_cond, XZ, undef_eq, Nat.reduceAdd, Nat.reduceSub, ↓reduceIte, basic, cellsL, resOf, setAt, below, belowB, belowA, atomB, Nat.reduceLeDiff, Nat.reduceMul, Int.reduceToNat, Int.reduceLT, Int.reduceLE, Int.reduceAdd, Int.reduceNeg, Int.reduceEq, splice, Nat.reduceEqDiff, Nat.reduceLT, isAtom, Int.reduceSub, Int.reduceMul, implies_true]
  refine (getP_spec s hl _).mono ?_
  rintro v M ⟨hf, hv⟩
  have hb0 := hf.get0 (i := m.length) (b := ⟨[.string ⟨#[]⟩, .int .i64 0, .string ⟨#[]⟩, .int .i64 0, .bool false, .bool false, .slice none 0 0, .int .i64 0, .int .i64 0, .int .i64 0, .bool false, .int .i64 0, .string ⟨#[]⟩], 30, 1, 0, .own⟩) (by simp)
  have l0 := lt_of_some hb0
  have hfm : Frm [] m M := (Frm.refl (F := []) (m := m)).app.nil_trans hf
  by_cases h1 : (getP s 11 []).1 = 0
  · have hsh := getP_shape (s := s) (n := 11) (L := []) rfl (by simp) h1
    rw [if_pos h1] at hv
    obtain ⟨x, y, l, sv, F, hL, rfl, hs, hF⟩ := hv
    obtain ⟨sa, rfl, _⟩ := hs.form
    have hdec : decF s w = if (K.getC (s.drop (7 * (getP s 11 []).2.length)) w).1 = 0 then
      decE (getP s 11 []).2 (K.getC (s.drop (7 * (getP s 11 []).2.length)) w).2.1 (decP (K.getC (s.drop (7 * (getP s 11 []).2.length)) w).2.1 (s.drop (7 * (getP s 11 []).2.length + (K.getC (s.drop (7 * (getP s 11 []).2.length)) w).2.2)))
      else ((K.getC (s.drop (7 * (getP s 11 []).2.length)) w).1, Fr.zero) := by rw [decF, if_pos h1]
    rw [hdec]
    clear hdec
    generalize (getP s 11 []).2 = L at hL hsh ⊢
    obtain ⟨hn2, hn10, hns, _, _⟩ := hsh
    obtain ⟨N, hN⟩ : ∃ N, 7 * L.length = N := ⟨_, rfl⟩
    rw [hN] at hns ⊢
    have hc0 : ((0 : Int) ≤ (N : Int)) = True := eq_true (by omega)
    have hc1 : ((N : Int) ≤ (s.length : Int)) = True := eq_true (by omega)
    have hcut : List.take (s.length - N) (List.drop N s) = s.drop N := List.take_of_length_le (by rw [List.length_drop]; exact Nat.le_refl _)
    simp (contextual := true) (implicitDefEqProofs := false) (maxSteps := 2000000) (disch := first | rfl | exact Nat.le_of_ble_eq_true rfl | omega | (simp only [List.length_append, List.length_cons, List.length_nil, List.length_set]; omega)) only [hb0, bin_ladd, str_cut, str_app, str_eq, string_mk_size, string_mk, hc0, hc1, hcut, Int.toNat_natCast, X1, X2, X3, X4, XA, XB, lc_block, lc_cond, XZ, undef_eq, Nat.reduceAdd, Nat.reduceSub, ↓reduceIte, basic, cellsL, resOf, setAt, below, belowB, belowA, atomB, Nat.reduceLeDiff, Nat.reduceMul, Int.reduceToNat, Int.reduceLT, Int.reduceLE, Int.reduceAdd, Int.reduceNeg, Int.reduceEq, splice, Nat.reduceEqDiff, Nat.reduceLT, isAtom, Int.reduceSub, Int.reduceMul, implies_true]
    refine (K.getK_spec (s.drop N) w _ (by rw [List.length_drop]; omega)).use ?_
    have hlen := K.getC_len (s := s.drop N) (w := w)
    have hlen3 := hlen.1
    rw [List.length_drop] at hlen
    generalize K.getC (s.drop N) w = kk at hlen hlen3 ⊢
    obtain ⟨ke, c, n⟩ := kk
    simp only at hlen hlen3 ⊢
    have hfA : ∀ B g, Frm [] m (M.set m.length B ++ g) := fun B g => (hfm.set (i := m.length) (.inr (Nat.le_refl _))).app
    have hsA : ∀ B g, Sl (M.set m.length B ++ g) 83 3 (.slice sa (l.map En.row).length (l.map En.row).length) F (l.map En.row) := fun B g => (hs.setb (fun hx => by have := hF _ hx; simp only [List.length_append, List.length_cons, List.length_nil] at this; omega)).frm0 Frm.refl.app
    by_cases h2 : ke = 0
    · subst h2
      rw [if_pos rfl]
      have hn0 : ((0 : Int) ≤ (n : Int)) = True := eq_true (by omega)
      have hn1 : ((n : Int) ≤ ((s.drop N).length : Int)) = True := eq_true (by rw [List.length_drop]; omega)
      have hcut2 : List.take ((s.drop N).length - n) (List.drop n (s.drop N)) = s.drop (N + n) := by
        rw [List.drop_drop, List.take_of_length_le (by rw [List.length_drop, List.length_drop]; omega)]
      simp (contextual := true) (implicitDefEqProofs := false) (maxSteps := 2000000) (disch := first | rfl | exact Nat.le_of_ble_eq_true rfl | omega | (simp only [List.length_append, List.length_cons, List.length_nil, List.length_set]; omega)) only [hb0, bin_ladd, str_cut, str_app, str_eq, string_mk_size, string_mk, hn0, hn1, hcut2, Int.toNat_natCast, Ct.val, X1, X2, X3, X4, XA, XB, lc_block, lc_cond, XZ, undef_eq, Nat.reduceAdd, Nat.reduceSub, ↓reduceIte, basic, cellsL, resOf, setAt, below, belowB, belowA, atomB, Nat.reduceLeDiff, Nat.reduceMul, Int.reduceToNat, Int.reduceLT, Int.reduceLE, Int.reduceAdd, Int.reduceNeg, Int.reduceEq, splice, Nat.reduceEqDiff, Nat.reduceLT, isAtom, Int.reduceSub, Int.reduceMul, implies_true]
      refine (K.pid_spec _ _).use ?_
      have hFm : ∀ z ∈ F, m.length ≤ z := fun z hz => by have := hF z hz; simp only [List.length_append, List.length_cons, List.length_nil] at this; omega
      have hdl : (s.drop (N + n)).length ≤ 100000 := by rw [List.length_drop]; omega
      cases hb : K.pidB c.k with
      | false =>
        have hdp : decP c (s.drop (N + n)) = some (0, s.drop (N + n)) := decP_f hb
        rw [hdp]
        generalize s.drop (N + n) = info at hdl ⊢
        simp (contextual := true) (implicitDefEqProofs := false) (maxSteps := 2000000) (disch := first | rfl | exact Nat.le_of_ble_eq_true rfl | omega | (simp only [List.length_append, List.length_cons, List.length_nil, List.length_set]; omega)) only [hb0, bin_ladd, str_cut, str_app, str_eq, string_mk_size, string_mk, X1, X2, X3, X4, XA, XB, lc_block, lc_cond, XZ, undef_eq, Nat.reduceAdd, Nat.reduceSub, ↓reduceIte, basic, cellsL, resOf, setAt, below, belowB, belowA, atomB, Nat.reduceLeDiff, Nat.reduceMul, Int.reduceToNat, Int.reduceLT, Int.reduceLE, Int.reduceAdd, Int.reduceNeg, Int.reduceEq, splice, Nat.reduceEqDiff, Nat.reduceLT, isAtom, Int.reduceSub, Int.reduceMul, implies_true]
        refine (info_spec (c := c) (fun m => K.info_spec _ m) (by omega)).use ?_
        rw [decE_s]
        by_cases hi : infoE (K.infoB c.k) info = 0
        · rw [if_pos hi, hi]
          simp (contextual := true) (implicitDefEqProofs := false) (maxSteps := 2000000) (disch := first | rfl | exact Nat.le_of_ble_eq_true rfl | omega | (simp only [List.length_append, List.length_cons, List.length_nil, List.length_set]; omega)) only [hb0, X1, X2, X3, X4, XA, XB, lc_block, lc_cond, XZ, undef_eq, Nat.reduceAdd, Nat.reduceSub, ↓reduceIte, basic, cellsL, resOf, setAt, below, belowB, belowA, atomB, Nat.reduceLeDiff, Nat.reduceMul, Int.reduceToNat, Int.reduceLT, Int.reduceLE, Int.reduceAdd, Int.reduceNeg, Int.reduceEq, splice, Nat.reduceEqDiff, Nat.reduceLT, isAtom, Int.reduceSub, Int.reduceMul, implies_true]
          exact ⟨hfA _ _, x, y, l, _, F, hL, rfl, hsA _ _, hFm⟩
        · rw [if_neg hi]
          have hi' : (infoE (K.infoB c.k) info = 0) = False := eq_false hi
          simp (contextual := true) (implicitDefEqProofs := false) (maxSteps := 2000000) (disch := first | rfl | exact Nat.le_of_ble_eq_true rfl | omega | (simp only [List.length_append, List.length_cons, List.length_nil, List.length_set]; omega)) only [hb0, hi', zFrame, X1, X2, X3, X4, XA, XB, lc_block, lc_cond, XZ, undef_eq, Nat.reduceAdd, Nat.reduceSub, ↓reduceIte, basic, cellsL, resOf, setAt, below, belowB, belowA, atomB, Nat.reduceLeDiff, Nat.reduceMul, Int.reduceToNat, Int.reduceLT, Int.reduceLE, Int.reduceAdd, Int.reduceNeg, Int.reduceEq, splice, Nat.reduceEqDiff, Nat.reduceLT, isAtom, Int.reduceSub, Int.reduceMul, implies_true]
          exact hfA _ _
      | true =>
        match hd : s.drop (N + n), hdl with
        | [], _ =>
          have hdp : decP c [] = none := decP_n hb
          rw [hdp]
          simp (contextual := true) (implicitDefEqProofs := false) (maxSteps := 2000000) (disch := first | rfl | exact Nat.le_of_ble_eq_true rfl | omega | (simp only [List.length_append, List.length_cons, List.length_nil, List.length_set]; omega)) only [hb0, bin_ladd, str_cut, str_app, str_eq, string_mk_size, string_mk, decE, zFrame, X1, X2, X3, X4, XA, XB, lc_block, lc_cond, XZ, undef_eq, Nat.reduceAdd, Nat.reduceSub, ↓reduceIte, basic, cellsL, resOf, setAt, below, belowB, belowA, atomB, Nat.reduceLeDiff, Nat.reduceMul, Int.reduceToNat, Int.reduceLT, Int.reduceLE, Int.reduceAdd, Int.reduceNeg, Int.reduceEq, splice, Nat.reduceEqDiff, Nat.reduceLT, isAtom, Int.reduceSub, Int.reduceMul, implies_true]
          exact hfA _ _
        | q :: info, hdl =>
          have hdp : decP c (q :: info) = some ((q.toNat : Int), info) := decP_c hb
          rw [hdp]
          have hx0 : (⟨(q :: info).toArray⟩ : ByteArray).data.toList[0]? = some q := by simp
          have hne : (q :: info = []) = False := by simp
          have h1l : ((1 : Int) ≤ (((q :: info).length : Nat) : Int)) = True := eq_true (by simp only [List.length_cons]; omega)
          have hwq : IntKind.i64.wrap (q.toNat : Int) = (q.toNat : Int) := K.u8_wrap q
          have hcut3 : List.take ((q :: info).length - 1) (List.drop 1 (q :: info)) = info := by simp
          have hl1 : info.length + 1 - 1 = info.length := rfl
          have htk : List.take info.length info = info := List.take_of_length_le (Nat.le_refl _)
          simp (contextual := true) (implicitDefEqProofs := false) (maxSteps := 2000000) (disch := first | rfl | exact Nat.le_of_ble_eq_true rfl | omega | (simp only [List.length_append, List.length_cons, List.length_nil, List.length_set]; omega)) only [hb0, bin_ladd, str_cut, str_app, str_eq, string_mk_size, string_mk, hx0, hne, h1l, hwq, hcut3, hl1, htk, Int.toNat_natCast, X1, X2, X3, X4, XA, XB, lc_block, lc_cond, XZ, undef_eq, Nat.reduceAdd, Nat.reduceSub, ↓reduceIte, basic, cellsL, resOf, setAt, below, belowB, belowA, atomB, Nat.reduceLeDiff, Nat.reduceMul, Int.reduceToNat, Int.reduceLT, Int.reduceLE, Int.reduceAdd, Int.reduceNeg, Int.reduceEq, splice, Nat.reduceEqDiff, Nat.reduceLT, isAtom, Int.reduceSub, Int.reduceMul, implies_true]
          simp only [List.length_cons] at hdl
          refine (info_spec (c := c) (fun m => K.info_spec _ m) (by omega)).use ?_
          rw [decE_s]
          by_cases hi : infoE (K.infoB c.k) info = 0
          · rw [if_pos hi, hi]
            simp (contextual := true) (implicitDefEqProofs := false) (maxSteps := 2000000) (disch := first | rfl | exact Nat.le_of_ble_eq_true rfl | omega | (simp only [List.length_append, List.length_cons, List.length_nil, List.length_set]; omega)) only [hb0, X1, X2, X3, X4, XA, XB, lc_block, lc_cond, XZ, undef_eq, Nat.reduceAdd, Nat.reduceSub, ↓reduceIte, basic, cellsL, resOf, setAt, below, belowB, belowA, atomB, Nat.reduceLeDiff, Nat.reduceMul, Int.reduceToNat, Int.reduceLT, Int.reduceLE, Int.reduceAdd, Int.reduceNeg, Int.reduceEq, splice, Nat.reduceEqDiff, Nat.reduceLT, isAtom, Int.reduceSub, Int.reduceMul, implies_true]
            exact ⟨hfA _ _, x, y, l, _, F, hL, rfl, hsA _ _, hFm⟩
          · rw [if_neg hi]
            have hi' : (infoE (K.infoB c.k) info = 0) = False := eq_false hi
            simp (contextual := true) (implicitDefEqProofs := false) (maxSteps := 2000000) (disch := first | rfl | exact Nat.le_of_ble_eq_true rfl | omega | (simp only [List.length_append, List.length_cons, List.length_nil, List.length_set]; omega)) only [hb0, hi', zFrame, X1, X2, X3, X4, XA, XB, lc_block, lc_cond, XZ, undef_eq, Nat.reduceAdd, Nat.reduceSub, ↓reduceIte, basic, cellsL, resOf, setAt, below, belowB, belowA, atomB, Nat.reduceLeDiff, Nat.reduceMul, Int.reduceToNat, Int.reduceLT, Int.reduceLE, Int.reduceAdd, Int.reduceNeg, Int.reduceEq, splice, Nat.reduceEqDiff, Nat.reduceLT, isAtom, Int.reduceSub, Int.reduceMul, implies_true]
            exact hfA _ _
    · rw [if_neg h2]
      have h2' : (ke = 0) = False := eq_false h2
      simp (contextual := true) (implicitDefEqProofs := false) (maxSteps := 2000000) (disch := first | rfl | exact Nat.le_of_ble_eq_true rfl | omega | (simp only [List.length_append, List.length_cons, List.length_nil, List.length_set]; omega)) only [hb0, bin_ladd, str_cut, str_app, str_eq, string_mk_size, string_mk, h2', zFrame, Ct.val, X1, X2, X3, X4, XA, XB, lc_block, lc_cond, XZ, undef_eq, Nat.reduceAdd, Nat.reduceSub, ↓reduceIte, basic, cellsL, resOf, setAt, below, belowB, belowA, atomB, Nat.reduceLeDiff, Nat.reduceMul, Int.reduceToNat, Int.reduceLT, Int.reduceLE, Int.reduceAdd, Int.reduceNeg, Int.reduceEq, splice, Nat.reduceEqDiff, Nat.reduceLT, isAtom, Int.reduceSub, Int.reduceMul, implies_true]
      exact hfA _ _
  · rw [if_neg h1] at hv
    have hdec : decF s w = ((getP s 11 []).1, Fr.zero) := by rw [decF, if_neg h1]
    have h1' : ((getP s 11 []).1 = 0) = False := eq_false h1
    subst hv
    rw [hdec]
    simp (contextual := true) (implicitDefEqProofs := false) (maxSteps := 2000000) (disch := first | rfl | exact Nat.le_of_ble_eq_true rfl | omega | (simp only [List.length_append, List.length_cons, List.length_nil, List.length_set]; omega)) only [hb0, h1', bin_ladd, str_cut, str_app, str_eq, string_mk_size, string_mk, zFrame, Fr.zero, X1, X2, X3, X4, XA, XB, lc_block, lc_cond, XZ, undef_eq, Nat.reduceAdd, Nat.reduceSub, ↓reduceIte, basic, cellsL, resOf, setAt, below, belowB, belowA, atomB, Nat.reduceLeDiff, Nat.reduceMul, Int.reduceToNat, Int.reduceLT, Int.reduceLE, Int.reduceAdd, Int.reduceNeg, Int.reduceEq, splice, Nat.reduceEqDiff, Nat.reduceLT, isAtom, Int.reduceSub, Int.reduceMul, implies_true]
    exact (hfm.set (i := m.length) (.inr (Nat.le_refl _))).app
end Go.Proofs.YtenbkoalanfdhaaGreatDoor
/- What was encoded is read: frames; plain. -/
namespace Go.Proofs.YtenbkoalanfdhaaGreatDoor
open Go.Lg
set_option maxRecDepth 8000
set_option linter.unusedSimpArgs false
set_option linter.unnecessarySimpa false
set_option linter.unusedVariables false

def Ct.bytes (c : Ct) (w : Bool) : List UInt8 := K.strL (K.putL8 c.k c.ns c.nr c.pf w)
def Ct.right (c : Ct) (w : Bool) : Bool := K.rightC c.k c.ns c.nr w
/-- What was encoded is read. -/
theorem decF_enc {L : List En} {c : Ct} {w : Bool} {pid : Int} {info : List UInt8} (hok : ∀ e ∈ L, e.ok = true) (h2 : 2 ≤ L.length) (h10 : L.length ≤ 10) (hB : ordB (L.drop 2) = true)
    (hc : c.right w = true) (hp : 0 ≤ pid ∧ pid ≤ 255) (hp0 : pid ≠ 0 → K.pidB c.k = true) (hi : infoE (K.infoB c.k) info = 0) :
    decF (encF L (c.bytes w) (K.pidB c.k) pid info) w = (0, ⟨L, c, pid, info⟩) := by
  have e0 : encF L (c.bytes w) (K.pidB c.k) pid info = putE L ++ (c.bytes w ++ ((if K.pidB c.k = true then [UInt8.ofNat pid.toNat] else []) ++ info)) := by
    unfold encF; simp only [List.append_assoc]
  have hg := getP_put (rest := c.bytes w ++ ((if K.pidB c.k = true then [UInt8.ofNat pid.toNat] else []) ++ info)) hok h2 h10 hB
  have hd : (putE L ++ (c.bytes w ++ ((if K.pidB c.k = true then [UInt8.ofNat pid.toNat] else []) ++ info))).drop (7 * L.length) = c.bytes w ++ ((if K.pidB c.k = true then [UInt8.ofNat pid.toNat] else []) ++ info) := List.drop_left' putE_len
  have hk := K.getC_put (p := c.pf) hc ((if K.pidB c.k = true then [UInt8.ofNat pid.toNat] else []) ++ info)
  have hl : (c.bytes w).length = (K.putL8 c.k c.ns c.nr c.pf w).length := K.strL_len
  have hd2 : (putE L ++ (c.bytes w ++ ((if K.pidB c.k = true then [UInt8.ofNat pid.toNat] else []) ++ info))).drop (7 * L.length + (K.putL8 c.k c.ns c.nr c.pf w).length) = (if K.pidB c.k = true then [UInt8.ofNat pid.toNat] else []) ++ info := by
    rw [← List.drop_drop, hd, ← hl, List.drop_left]
  rw [e0, decF, hg]
  simp only [if_true]
  rw [hd]
  change (if (K.getC (K.strL (K.putL8 c.k c.ns c.nr c.pf w) ++ ((if K.pidB c.k = true then [UInt8.ofNat pid.toNat] else []) ++ info)) w).1 = 0 then _ else _) = _
  have hk2 : K.getC (c.bytes w ++ ((if K.pidB c.k = true then [UInt8.ofNat pid.toNat] else []) ++ info)) w = (0, ⟨c.k, c.ns, c.nr, c.pf⟩, (K.putL8 c.k c.ns c.nr c.pf w).length) := hk
  rw [hk2, hk, if_pos rfl, hd2]
  cases hb : K.pidB c.k with
  | true =>
    have e1 : decP (⟨c.k, c.ns, c.nr, c.pf⟩ : Ct) ((if true = true then [UInt8.ofNat pid.toNat] else []) ++ info) = some (pid, info) := by
      unfold decP
      rw [if_pos hb, if_pos rfl]
      show some (((UInt8.ofNat pid.toNat).toNat : Int), info) = _
      rw [u8_of (by omega), show ((pid.toNat : Nat) : Int) = pid by omega]
    show decE L (⟨c.k, c.ns, c.nr, c.pf⟩ : Ct) (decP (⟨c.k, c.ns, c.nr, c.pf⟩ : Ct) ((if true = true then [UInt8.ofNat pid.toNat] else []) ++ info)) = _
    rw [e1]
    show (if infoE (K.infoB c.k) info = 0 then _ else _) = _
    rw [if_pos hi]
  | false =>
    have hpz : pid = 0 := by
      by_cases h : pid = 0
      · exact h
      · have := hp0 h; rw [hb] at this; cases this
    have e1 : decP (⟨c.k, c.ns, c.nr, c.pf⟩ : Ct) ((if false = true then [UInt8.ofNat pid.toNat] else []) ++ info) = some (0, info) := by
      unfold decP
      rw [if_neg (by rw [hb]; decide), if_neg (by decide)]; rfl
    show decE L (⟨c.k, c.ns, c.nr, c.pf⟩ : Ct) (decP (⟨c.k, c.ns, c.nr, c.pf⟩ : Ct) ((if false = true then [UInt8.ofNat pid.toNat] else []) ++ info)) = _
    rw [e1]
    show (if infoE (K.infoB c.k) info = 0 then _ else _) = _
    rw [if_pos hi, hpz]
theorem decE_some {L : List En} {c : Ct} {o : Option (Int × List UInt8)} (h : (decE L c o).1 = 0) : ∃ pid info, o = some (pid, info) ∧ (decE L c o).2 = ⟨L, c, pid, info⟩ ∧ infoE (K.infoB c.k) info = 0 := by
  match o, h with
  | none, h => cases h
  | some (pid, info), h =>
    simp only [decE] at h ⊢
    by_cases hi : infoE (K.infoB c.k) info = 0
    · rw [if_pos hi]; exact ⟨pid, info, rfl, rfl, hi⟩
    · rw [if_neg hi] at h; exact absurd h hi
/-- A frame that was read. -/
theorem decF_ok {s : List UInt8} {w : Bool} (h : (decF s w).1 = 0) : (getP s 11 []).1 = 0 ∧ (decF s w).2.L = (getP s 11 []).2 ∧ (K.getC (s.drop (7 * (getP s 11 []).2.length)) w).1 = 0 ∧ (decF s w).2.c = (K.getC (s.drop (7 * (getP s 11 []).2.length)) w).2.1 := by
  by_cases h1 : (getP s 11 []).1 = 0
  · by_cases h2 : (K.getC (s.drop (7 * (getP s 11 []).2.length)) w).1 = 0
    · rw [decF, if_pos h1, if_pos h2] at h ⊢
      obtain ⟨pid, info, _, e, _⟩ := decE_some h
      rw [e]
      exact ⟨h1, rfl, h2, rfl⟩
    · rw [decF, if_pos h1, if_neg h2] at h
      exact absurd h h2
  · rw [decF, if_neg h1] at h
    exact absurd h h1
end Go.Proofs.YtenbkoalanfdhaaGreatDoor
/- What is wrong with a frame; its bytes: walked. -/
namespace Go.Proofs.YtenbkoalanfdhaaGreatDoor
open Go.Lg
set_option maxRecDepth 8000
set_option maxHeartbeats 8000000
set_option linter.unusedSimpArgs false
set_option linter.unnecessarySimpa false
set_option linter.unusedVariables false

theorem wrong_spec {tb : List UInt8} {ts : Int} {fb : List UInt8} {fs : Int} {tm fm : Bool} {dv : Value} {l : List En} {c : Ct} {pid : Int} {info : List UInt8} {wide rb pb ib : Bool} {m : Mem}
    (htb : tb.length ≤ 140737488355328) (hfb : fb.length ≤ 140737488355328) (hb : ∀ e ∈ l, e.b.length ≤ 140737488355328) (h : Rd m 3 dv (l.map En.row)) (hn : l.length ≤ 1000000)
    (hR : ∀ m, Ret Tryz.prog 45 [c.val, .bool wide] m (.bool rb) m) (hP : ∀ m, Ret Tryz.prog 26 [.int .i64 c.k] m (.bool pb) m) (hI : ∀ m, Ret Tryz.prog 55 [.int .i64 c.k] m (.bool ib) m) (hl : info.length ≤ 140737488355328) :
    Ret Tryz.prog 22 [frameV tb ts fb fs tm fm dv c pid info, .bool wide] m (.int .i64 (wrongE (rightP tb ts fb fs l) rb pb ib pid info)) m := by
  have h0 := h
  obtain ⟨a, rfl, _⟩ := h
  refine LCall_drop (LCall_enter Tryz.func22 c22 ?_)
  simp (contextual := true) (implicitDefEqProofs := false) (maxSteps := 2000000) (disch := first | rfl | exact Nat.le_of_ble_eq_true rfl | omega | (simp only [List.length_append, List.length_cons, List.length_nil, List.length_set]; omega)) only [L22, X1, X2, X3, X4, XA, XB, lc_block, lc_cond, XZ, undef_eq, Nat.reduceAdd, Nat.reduceSub, ↓reduceIte, basic, cellsL, resOf, setAt, below, belowB, belowA, atomB, Nat.reduceLeDiff, Nat.reduceMul, Int.reduceToNat, Int.reduceLT, Int.reduceLE, Int.reduceAdd, Int.reduceNeg, Int.reduceEq, splice, Nat.reduceEqDiff, Nat.reduceLT, isAtom, Int.reduceSub, Int.reduceMul, implies_true]
  refine (rightP_spec htb hfb hb h0.app hn).use ?_
  cases hr : rightP tb ts fb fs l with
  | false => simp (contextual := true) (implicitDefEqProofs := false) (maxSteps := 2000000) (disch := first | rfl | exact Nat.le_of_ble_eq_true rfl | omega | (simp only [List.length_append, List.length_cons, List.length_nil, List.length_set]; omega)) only [wrongE, X1, X2, X3, X4, XA, XB, lc_block, lc_cond, XZ, undef_eq, Nat.reduceAdd, Nat.reduceSub, ↓reduceIte, basic, cellsL, resOf, setAt, below, belowB, belowA, atomB, Nat.reduceLeDiff, Nat.reduceMul, Int.reduceToNat, Int.reduceLT, Int.reduceLE, Int.reduceAdd, Int.reduceNeg, Int.reduceEq, splice, Nat.reduceEqDiff, Nat.reduceLT, isAtom, Int.reduceSub, Int.reduceMul, implies_true]
  | true =>
    simp (contextual := true) (implicitDefEqProofs := false) (maxSteps := 2000000) (disch := first | rfl | exact Nat.le_of_ble_eq_true rfl | omega | (simp only [List.length_append, List.length_cons, List.length_nil, List.length_set]; omega)) only [X1, X2, X3, X4, XA, XB, lc_block, lc_cond, XZ, undef_eq, Nat.reduceAdd, Nat.reduceSub, ↓reduceIte, basic, cellsL, resOf, setAt, below, belowB, belowA, atomB, Nat.reduceLeDiff, Nat.reduceMul, Int.reduceToNat, Int.reduceLT, Int.reduceLE, Int.reduceAdd, Int.reduceNeg, Int.reduceEq, splice, Nat.reduceEqDiff, Nat.reduceLT, isAtom, Int.reduceSub, Int.reduceMul, implies_true]
    refine (hR _).use ?_
    cases rb with
    | false =>
      simp (contextual := true) (implicitDefEqProofs := false) (maxSteps := 2000000) (disch := first | rfl | exact Nat.le_of_ble_eq_true rfl | omega | (simp only [List.length_append, List.length_cons, List.length_nil, List.length_set]; omega)) only [X1, X2, X3, X4, XA, XB, lc_block, lc_cond, XZ, undef_eq, Nat.reduceAdd, Nat.reduceSub, ↓reduceIte, basic, cellsL, resOf, setAt, below, belowB, belowA, atomB, Nat.reduceLeDiff, Nat.reduceMul, Int.reduceToNat, Int.reduceLT, Int.reduceLE, Int.reduceAdd, Int.reduceNeg, Int.reduceEq, splice, Nat.reduceEqDiff, Nat.reduceLT, isAtom, Int.reduceSub, Int.reduceMul, implies_true]
      simp [wrongE]
    | true =>
      by_cases h1 : pid < 0
      · have h1' : (pid < 0) = True := eq_true h1
        simp (contextual := true) (implicitDefEqProofs := false) (maxSteps := 2000000) (disch := first | rfl | exact Nat.le_of_ble_eq_true rfl | omega | (simp only [List.length_append, List.length_cons, List.length_nil, List.length_set]; omega)) only [h1', X1, X2, X3, X4, XA, XB, lc_block, lc_cond, XZ, undef_eq, Nat.reduceAdd, Nat.reduceSub, ↓reduceIte, basic, cellsL, resOf, setAt, below, belowB, belowA, atomB, Nat.reduceLeDiff, Nat.reduceMul, Int.reduceToNat, Int.reduceLT, Int.reduceLE, Int.reduceAdd, Int.reduceNeg, Int.reduceEq, splice, Nat.reduceEqDiff, Nat.reduceLT, isAtom, Int.reduceSub, Int.reduceMul, implies_true]
        simp [wrongE, h1]
      have h1' : (pid < 0) = False := eq_false h1
      by_cases h2 : 255 < pid
      · have h2' : (255 < pid) = True := eq_true h2
        simp (contextual := true) (implicitDefEqProofs := false) (maxSteps := 2000000) (disch := first | rfl | exact Nat.le_of_ble_eq_true rfl | omega | (simp only [List.length_append, List.length_cons, List.length_nil, List.length_set]; omega)) only [h1', h2', X1, X2, X3, X4, XA, XB, lc_block, lc_cond, XZ, undef_eq, Nat.reduceAdd, Nat.reduceSub, ↓reduceIte, basic, cellsL, resOf, setAt, below, belowB, belowA, atomB, Nat.reduceLeDiff, Nat.reduceMul, Int.reduceToNat, Int.reduceLT, Int.reduceLE, Int.reduceAdd, Int.reduceNeg, Int.reduceEq, splice, Nat.reduceEqDiff, Nat.reduceLT, isAtom, Int.reduceSub, Int.reduceMul, implies_true]
        simp [wrongE, h2]
      have h2' : (255 < pid) = False := eq_false h2
      by_cases h3 : pid = 0
      · have e : wrongE true true pb ib pid info = infoE ib info := by simp [wrongE, h1, h2, h3]
        subst h3
        simp (contextual := true) (implicitDefEqProofs := false) (maxSteps := 2000000) (disch := first | rfl | exact Nat.le_of_ble_eq_true rfl | omega | (simp only [List.length_append, List.length_cons, List.length_nil, List.length_set]; omega)) only [X1, X2, X3, X4, XA, XB, lc_block, lc_cond, XZ, undef_eq, Nat.reduceAdd, Nat.reduceSub, ↓reduceIte, basic, cellsL, resOf, setAt, below, belowB, belowA, atomB, Nat.reduceLeDiff, Nat.reduceMul, Int.reduceToNat, Int.reduceLT, Int.reduceLE, Int.reduceAdd, Int.reduceNeg, Int.reduceEq, splice, Nat.reduceEqDiff, Nat.reduceLT, isAtom, Int.reduceSub, Int.reduceMul, implies_true]
        refine (info_spec hI hl).use ?_
        simp (contextual := true) (implicitDefEqProofs := false) (maxSteps := 2000000) (disch := first | rfl | exact Nat.le_of_ble_eq_true rfl | omega | (simp only [List.length_append, List.length_cons, List.length_nil, List.length_set]; omega)) only [X1, X2, X3, X4, XA, XB, lc_block, lc_cond, XZ, undef_eq, Nat.reduceAdd, Nat.reduceSub, ↓reduceIte, basic, cellsL, resOf, setAt, below, belowB, belowA, atomB, Nat.reduceLeDiff, Nat.reduceMul, Int.reduceToNat, Int.reduceLT, Int.reduceLE, Int.reduceAdd, Int.reduceNeg, Int.reduceEq, splice, Nat.reduceEqDiff, Nat.reduceLT, isAtom, Int.reduceSub, Int.reduceMul, implies_true]
        rw [e]
      · have h3' : (pid = 0) = False := eq_false h3
        simp (contextual := true) (implicitDefEqProofs := false) (maxSteps := 2000000) (disch := first | rfl | exact Nat.le_of_ble_eq_true rfl | omega | (simp only [List.length_append, List.length_cons, List.length_nil, List.length_set]; omega)) only [h1', h2', h3', X1, X2, X3, X4, XA, XB, lc_block, lc_cond, XZ, undef_eq, Nat.reduceAdd, Nat.reduceSub, ↓reduceIte, basic, cellsL, resOf, setAt, below, belowB, belowA, atomB, Nat.reduceLeDiff, Nat.reduceMul, Int.reduceToNat, Int.reduceLT, Int.reduceLE, Int.reduceAdd, Int.reduceNeg, Int.reduceEq, splice, Nat.reduceEqDiff, Nat.reduceLT, isAtom, Int.reduceSub, Int.reduceMul, implies_true]
        refine (hP _).use ?_
        cases pb with
        | false =>
          simp (contextual := true) (implicitDefEqProofs := false) (maxSteps := 2000000) (disch := first | rfl | exact Nat.le_of_ble_eq_true rfl | omega | (simp only [List.length_append, List.length_cons, List.length_nil, List.length_set]; omega)) only [X1, X2, X3, X4, XA, XB, lc_block, lc_cond, XZ, undef_eq, Nat.reduceAdd, Nat.reduceSub, ↓reduceIte, basic, cellsL, resOf, setAt, below, belowB, belowA, atomB, Nat.reduceLeDiff, Nat.reduceMul, Int.reduceToNat, Int.reduceLT, Int.reduceLE, Int.reduceAdd, Int.reduceNeg, Int.reduceEq, splice, Nat.reduceEqDiff, Nat.reduceLT, isAtom, Int.reduceSub, Int.reduceMul, implies_true]
          simp [wrongE, h3]
        | true =>
          have e : wrongE true true true ib pid info = infoE ib info := by simp [wrongE, h1, h2]
          simp (contextual := true) (implicitDefEqProofs := false) (maxSteps := 2000000) (disch := first | rfl | exact Nat.le_of_ble_eq_true rfl | omega | (simp only [List.length_append, List.length_cons, List.length_nil, List.length_set]; omega)) only [X1, X2, X3, X4, XA, XB, lc_block, lc_cond, XZ, undef_eq, Nat.reduceAdd, Nat.reduceSub, ↓reduceIte, basic, cellsL, resOf, setAt, below, belowB, belowA, atomB, Nat.reduceLeDiff, Nat.reduceMul, Int.reduceToNat, Int.reduceLT, Int.reduceLE, Int.reduceAdd, Int.reduceNeg, Int.reduceEq, splice, Nat.reduceEqDiff, Nat.reduceLT, isAtom, Int.reduceSub, Int.reduceMul, implies_true]
          refine (info_spec hI hl).use ?_
          simp (contextual := true) (implicitDefEqProofs := false) (maxSteps := 2000000) (disch := first | rfl | exact Nat.le_of_ble_eq_true rfl | omega | (simp only [List.length_append, List.length_cons, List.length_nil, List.length_set]; omega)) only [X1, X2, X3, X4, XA, XB, lc_block, lc_cond, XZ, undef_eq, Nat.reduceAdd, Nat.reduceSub, ↓reduceIte, basic, cellsL, resOf, setAt, below, belowB, belowA, atomB, Nat.reduceLeDiff, Nat.reduceMul, Int.reduceToNat, Int.reduceLT, Int.reduceLE, Int.reduceAdd, Int.reduceNeg, Int.reduceEq, splice, Nat.reduceEqDiff, Nat.reduceLT, isAtom, Int.reduceSub, Int.reduceMul, implies_true]
          rw [e]

theorem encode_wrong {tb : List UInt8} {ts : Int} {fb : List UInt8} {fs : Int} {tm fm : Bool} {dv : Value} {l : List En} {c : Ct} {pid : Int} {info : List UInt8} {wide rb pb ib : Bool} {m : Mem}
    (htb : tb.length ≤ 140737488355328) (hfb : fb.length ≤ 140737488355328) (hb : ∀ e ∈ l, e.b.length ≤ 140737488355328) (h : Rd m 3 dv (l.map En.row)) (hn : l.length ≤ 1000000)
    (hR : ∀ m, Ret Tryz.prog 45 [c.val, .bool wide] m (.bool rb) m) (hP : ∀ m, Ret Tryz.prog 26 [.int .i64 c.k] m (.bool pb) m) (hI : ∀ m, Ret Tryz.prog 55 [.int .i64 c.k] m (.bool ib) m) (hl : info.length ≤ 140737488355328)
    (hw : wrongE (rightP tb ts fb fs l) rb pb ib pid info ≠ 0) :
    Ret Tryz.prog 8 [frameV tb ts fb fs tm fm dv c pid info, .bool wide] m (.tuple #[.string ⟨#[]⟩, .int .i64 (wrongE (rightP tb ts fb fs l) rb pb ib pid info)]) m := by
  have h0 := h
  obtain ⟨a, rfl, _⟩ := h
  refine LCall_drop (LCall_enter Tryz.func8 c8 ?_)
  simp (contextual := true) (implicitDefEqProofs := false) (maxSteps := 2000000) (disch := first | rfl | exact Nat.le_of_ble_eq_true rfl | omega | (simp only [List.length_append, List.length_cons, List.length_nil, List.length_set]; omega)) only [L8, X1, X2, X3, X4, XA, XB, lc_block, lc_cond, XZ, undef_eq, Nat.reduceAdd, Nat.reduceSub, ↓reduceIte, basic, cellsL, resOf, setAt, below, belowB, belowA, atomB, Nat.reduceLeDiff, Nat.reduceMul, Int.reduceToNat, Int.reduceLT, Int.reduceLE, Int.reduceAdd, Int.reduceNeg, Int.reduceEq, splice, Nat.reduceEqDiff, Nat.reduceLT, isAtom, Int.reduceSub, Int.reduceMul, implies_true]
  refine (wrong_spec htb hfb hb h0.app hn hR hP hI hl).use ?_
  have hw' : (wrongE (rightP tb ts fb fs l) rb pb ib pid info = 0) = False := eq_false hw
  simp (contextual := true) (implicitDefEqProofs := false) (maxSteps := 2000000) (disch := first | rfl | exact Nat.le_of_ble_eq_true rfl | omega | (simp only [List.length_append, List.length_cons, List.length_nil, List.length_set]; omega)) only [hw', X1, X2, X3, X4, XA, XB, lc_block, lc_cond, XZ, undef_eq, Nat.reduceAdd, Nat.reduceSub, ↓reduceIte, basic, cellsL, resOf, setAt, below, belowB, belowA, atomB, Nat.reduceLeDiff, Nat.reduceMul, Int.reduceToNat, Int.reduceLT, Int.reduceLE, Int.reduceAdd, Int.reduceNeg, Int.reduceEq, splice, Nat.reduceEqDiff, Nat.reduceLT, isAtom, Int.reduceSub, Int.reduceMul, implies_true]
theorem encode_spec {tb : List UInt8} {ts : Int} {fb : List UInt8} {fs : Int} {tm fm : Bool} {dv : Value} {l : List En} {c : Ct} {pid : Int} {info ct : List UInt8} {wide rb pb ib : Bool} {m : Mem}
    (h : RdN m 3 dv (l.map En.row))
    (hR : ∀ m, Ret Tryz.prog 45 [c.val, .bool wide] m (.bool rb) m) (hP : ∀ m, Ret Tryz.prog 26 [.int .i64 c.k] m (.bool pb) m) (hI : ∀ m, Ret Tryz.prog 55 [.int .i64 c.k] m (.bool ib) m)
    (hC : ∀ m, Ret Tryz.prog 24 [c.val, .bool wide] m (.tuple #[str ct, .int .i64 0]) m) (hct : ct.length ≤ 1000)
    (hw : wrongE (rightP tb ts fb fs l) rb pb ib pid info = 0) :
    Ret Tryz.prog 8 [frameV tb ts fb fs tm fm dv c pid info, .bool wide] m (.tuple #[str (encF (⟨tb, ts, tm⟩ :: ⟨fb, fs, fm⟩ :: l) ct pb pid info), .int .i64 0]) m := by
  have hrp : rightP tb ts fb fs l = true := by
    cases hr : rightP tb ts fb fs l with
    | true => rfl
    | false => rw [wrongE, if_pos hr] at hw; cases hw
  have hw0 := hw
  rw [hrp, wrongE, if_neg (by simp)] at hw
  split at hw
  · cases hw
  rename_i hw1
  have hil : info.length ≤ 256 := by
    unfold infoE at hw
    split at hw
    · cases hw
    split at hw
    · cases hw
    · omega
  obtain ⟨hl8, _, hok⟩ := rightP_le (tm := tm) (fm := fm) hrp
  have hlet : ∀ e ∈ (⟨tb, ts, tm⟩ :: ⟨fb, fs, fm⟩ :: l : List En), e.b.length ≤ 6 := fun e he => (right_le (hok e he)).2.1.2
  have htb := hlet ⟨tb, ts, tm⟩ (by simp)
  have hfb := hlet ⟨fb, fs, fm⟩ (by simp)
  simp only at htb hfb
  have h0 := h
  obtain ⟨a, rfl, _⟩ := h.1
  refine LCall_drop (LCall_enter Tryz.func8 c8 ?_)
  simp (contextual := true) (implicitDefEqProofs := false) (maxSteps := 2000000) (disch := first | rfl | exact Nat.le_of_ble_eq_true rfl | omega | (simp only [List.length_append, List.length_cons, List.length_nil, List.length_set]; omega)) only [L8, X1, X2, X3, X4, XA, XB, lc_block, lc_cond, XZ, undef_eq, Nat.reduceAdd, Nat.reduceSub, ↓reduceIte, basic, cellsL, resOf, setAt, below, belowB, belowA, atomB, Nat.reduceLeDiff, Nat.reduceMul, Int.reduceToNat, Int.reduceLT, Int.reduceLE, Int.reduceAdd, Int.reduceNeg, Int.reduceEq, splice, Nat.reduceEqDiff, Nat.reduceLT, isAtom, Int.reduceSub, Int.reduceMul, implies_true]
  refine (wrong_spec (l := l) (by omega) (by omega) (fun e he => by have := hlet e (by simp [he]); omega) h0.1.app (by omega) hR hP hI (by omega)).use ?_
  rw [hw0]
  simp (contextual := true) (implicitDefEqProofs := false) (maxSteps := 2000000) (disch := first | rfl | exact Nat.le_of_ble_eq_true rfl | omega | (simp only [List.length_append, List.length_cons, List.length_nil, List.length_set]; omega)) only [X1, X2, X3, X4, XA, XB, lc_block, lc_cond, XZ, undef_eq, Nat.reduceAdd, Nat.reduceSub, ↓reduceIte, basic, cellsL, resOf, setAt, below, belowB, belowA, atomB, Nat.reduceLeDiff, Nat.reduceMul, Int.reduceToNat, Int.reduceLT, Int.reduceLE, Int.reduceAdd, Int.reduceNeg, Int.reduceEq, splice, Nat.reduceEqDiff, Nat.reduceLT, isAtom, Int.reduceSub, Int.reduceMul, implies_true]
  have hpid : 0 ≤ pid ∧ pid ≤ 255 := by
    constructor
    · exact Int.not_lt.mp fun h => hw1 (.inr (.inl h))
    · exact Int.not_lt.mp fun h => hw1 (.inr (.inr (.inl h)))
  obtain ⟨x, hx⟩ : ∃ x : UInt8, IntKind.u8.wrap pid = (x.toNat : Int) ∧ UInt8.ofNat pid.toNat = x := by
    refine ⟨UInt8.ofNat pid.toNat, ?_, rfl⟩
    obtain ⟨n, rfl⟩ : ∃ n : Nat, pid = (n : Int) := ⟨pid.toNat, by omega⟩
    rw [Int.toNat_natCast, u8_of (by omega), wrap_u8n (by omega)]
  obtain ⟨hx, hx2⟩ := hx
  obtain ⟨M0, hM, hf0, hb0, hb1⟩ : ∃ M0, m ++ [⟨[str tb, .int .i64 ts, str fb, .int .i64 fs, .bool tm, .bool fm, .slice a (l.map En.row).length (l.map En.row).length, .int .i64 c.k, .int .i64 c.ns, .int .i64 c.nr, .bool c.pf, .int .i64 pid, str info], 30, 1, 0, .own⟩, ⟨[.pointer none, .slice none 0 0], 62, 0, 0, .own⟩] = M0 ∧ Frm [] m M0 ∧ M0[m.length]? = some ⟨[str tb, .int .i64 ts, str fb, .int .i64 fs, .bool tm, .bool fm, .slice a (l.map En.row).length (l.map En.row).length, .int .i64 c.k, .int .i64 c.ns, .int .i64 c.nr, .bool c.pf, .int .i64 pid, str info], 30, 1, 0, .own⟩ ∧ Bd 62 5 M0 (m.length + 1) [m.length + 1] [] := by
    refine ⟨_, rfl, Frm.refl.app, by simp, ?_⟩
    have := Bd.new (TB := 62) (T := 5) (m := m ++ [⟨[str tb, .int .i64 ts, str fb, .int .i64 fs, .bool tm, .bool fm, .slice a (l.map En.row).length (l.map En.row).length, .int .i64 c.k, .int .i64 c.ns, .int .i64 c.nr, .bool c.pf, .int .i64 pid, str info], 30, 1, 0, .own⟩])
    simpa using this
  rw [hM]
  clear hM
  have l0 := lt_of_some hb0
  refine (putP_spec (tm := tm) (fm := fm) (h0.frm0 hf0) hrp).use ?_
  have hLl : (putE (⟨tb, ts, tm⟩ :: ⟨fb, fs, fm⟩ :: l)).length ≤ 70 ∧ 0 < (putE (⟨tb, ts, tm⟩ :: ⟨fb, fs, fm⟩ :: l)).length := by
    unfold putE; rw [putTo_len (Nat.le_refl _)]; simp only [List.length_cons]; omega
  obtain ⟨hLl, hpos⟩ := hLl
  unfold encF
  generalize putE (⟨tb, ts, tm⟩ :: ⟨fb, fs, fm⟩ :: l) = pb0 at hLl hpos ⊢
  simp (contextual := true) (implicitDefEqProofs := false) (maxSteps := 2000000) (disch := first | rfl | exact Nat.le_of_ble_eq_true rfl | omega | (simp only [List.length_append, List.length_cons, List.length_nil, List.length_set]; omega)) only [hb0, X1, X2, X3, X4, XA, XB, lc_block, lc_cond, XZ, undef_eq, Nat.reduceAdd, Nat.reduceSub, ↓reduceIte, basic, cellsL, resOf, setAt, below, belowB, belowA, atomB, Nat.reduceLeDiff, Nat.reduceMul, Int.reduceToNat, Int.reduceLT, Int.reduceLE, Int.reduceAdd, Int.reduceNeg, Int.reduceEq, splice, Nat.reduceEqDiff, Nat.reduceLT, isAtom, Int.reduceSub, Int.reduceMul, implies_true]
  refine (hC _).use ?_
  simp (contextual := true) (implicitDefEqProofs := false) (maxSteps := 2000000) (disch := first | rfl | exact Nat.le_of_ble_eq_true rfl | omega | (simp only [List.length_append, List.length_cons, List.length_nil, List.length_set]; omega)) only [hb0, bin_ladd, str_cut, str_app, str_eq, string_mk_size, string_mk, X1, X2, X3, X4, XA, XB, lc_block, lc_cond, XZ, undef_eq, Nat.reduceAdd, Nat.reduceSub, ↓reduceIte, basic, cellsL, resOf, setAt, below, belowB, belowA, atomB, Nat.reduceLeDiff, Nat.reduceMul, Int.reduceToNat, Int.reduceLT, Int.reduceLE, Int.reduceAdd, Int.reduceNeg, Int.reduceEq, splice, Nat.reduceEqDiff, Nat.reduceLT, isAtom, Int.reduceSub, Int.reduceMul, implies_true]
  refine (wString_spec ⟨(pb0 ++ ct).toArray⟩ hb1 (by rw [string_mk_size]; simp only [List.length_nil, List.length_append]; omega)).mono ?_
  rintro _ M1 ⟨hf1, B1, hb2, hn1⟩
  rw [string_mk, List.nil_append] at hb2
  have hb01 := hf1.get hb0 (by simp)
  have l1 := lt_of_some hb01
  have hB1 : ∀ x ∈ B1, m.length < x := fun x hx => by
    rcases hn1 x hx with h1 | h1
    · simp at h1; omega
    · omega
  have hfm1 : Frm [] m M1 := hf0.trans hf1 fun x hx => .inr (by simp at hx; omega)
  simp (contextual := true) (implicitDefEqProofs := false) (maxSteps := 2000000) (disch := first | rfl | exact Nat.le_of_ble_eq_true rfl | omega | (simp only [List.length_append, List.length_cons, List.length_nil, List.length_set]; omega)) only [hb01, X1, X2, X3, X4, XA, XB, lc_block, lc_cond, XZ, undef_eq, Nat.reduceAdd, Nat.reduceSub, ↓reduceIte, basic, cellsL, resOf, setAt, below, belowB, belowA, atomB, Nat.reduceLeDiff, Nat.reduceMul, Int.reduceToNat, Int.reduceLT, Int.reduceLE, Int.reduceAdd, Int.reduceNeg, Int.reduceEq, splice, Nat.reduceEqDiff, Nat.reduceLT, isAtom, Int.reduceSub, Int.reduceMul, implies_true]
  refine (hP _).use ?_
  -- what follows when the bytes ahead of the information stand
  have last : ∀ (M2 : Mem) (B2 : List Nat) (q : List UInt8), q.length ≤ 2000 → Frm [] m M2 → m.length < M2.length → Bd 62 5 M2 (m.length + 1) B2 q → (∀ x ∈ B2, m.length < x) → 0 < q.length →
      LCall Tryz.prog 25 [.pointer (some ⟨m.length + 1, 0, none⟩), str info] M2 fun v M => Frm [] m M ∧ ∃ B3, Bd 62 5 M (m.length + 1) B3 (q ++ info) ∧ (∀ x ∈ B3, m.length < x) := by
    intro M2 B2 q hq hfm2 hml hbd hB2 _
    refine (wString_spec ⟨info.toArray⟩ hbd (by rw [string_mk_size]; omega)).mono ?_
    rintro _ M3 ⟨hf3, B3, hb3, hn3⟩
    rw [string_mk] at hb3
    refine ⟨hfm2.trans hf3 fun x hx => .inr (by have := hB2 x hx; omega), B3, hb3, fun x hx => ?_⟩
    rcases hn3 x hx with h1 | h1
    · exact hB2 x h1
    · omega
  have fin : ∀ (M3 : Mem) (B3 : List Nat) (q : List UInt8), q.length ≤ 3000 → 0 < q.length → Frm [] m M3 → Bd 62 5 M3 (m.length + 1) B3 q → (∀ x ∈ B3, m.length < x) →
      LCall Tryz.prog 28 [.pointer (some ⟨m.length + 1, 0, none⟩)] M3 fun v M => v = str q ∧ Frm [] m M := by
    intro M3 B3 q hq hq0 hf3 hb3 hB3
    refine (bString_spec hb3 (by omega) hq0).mono ?_
    rintro _ M4 ⟨rfl, hf4⟩
    exact ⟨rfl, hf3.trans hf4 fun x hx => .inr (by have := hB3 x hx; omega)⟩
  have hp0 : 0 < pb0.length := hpos
  cases pb with
  | false =>
    simp (contextual := true) (implicitDefEqProofs := false) (maxSteps := 2000000) (disch := first | rfl | exact Nat.le_of_ble_eq_true rfl | omega | (simp only [List.length_append, List.length_cons, List.length_nil, List.length_set]; omega)) only [hb01, bin_ladd, str_cut, str_app, str_eq, string_mk_size, string_mk, X1, X2, X3, X4, XA, XB, lc_block, lc_cond, XZ, undef_eq, Nat.reduceAdd, Nat.reduceSub, ↓reduceIte, basic, cellsL, resOf, setAt, below, belowB, belowA, atomB, Nat.reduceLeDiff, Nat.reduceMul, Int.reduceToNat, Int.reduceLT, Int.reduceLE, Int.reduceAdd, Int.reduceNeg, Int.reduceEq, splice, Nat.reduceEqDiff, Nat.reduceLT, isAtom, Int.reduceSub, Int.reduceMul, implies_true]
    refine (last M1 B1 (pb0 ++ ct) (by simp only [List.length_append]; omega) hfm1 l1 hb2 hB1 (by simp only [List.length_append]; omega)).mono ?_
    rintro _ M3 ⟨hf3, B3, hb3, hB3⟩
    simp (contextual := true) (implicitDefEqProofs := false) (maxSteps := 2000000) (disch := first | rfl | exact Nat.le_of_ble_eq_true rfl | omega | (simp only [List.length_append, List.length_cons, List.length_nil, List.length_set]; omega)) only [X1, X2, X3, X4, XA, XB, lc_block, lc_cond, XZ, undef_eq, Nat.reduceAdd, Nat.reduceSub, ↓reduceIte, basic, cellsL, resOf, setAt, below, belowB, belowA, atomB, Nat.reduceLeDiff, Nat.reduceMul, Int.reduceToNat, Int.reduceLT, Int.reduceLE, Int.reduceAdd, Int.reduceNeg, Int.reduceEq, splice, Nat.reduceEqDiff, Nat.reduceLT, isAtom, Int.reduceSub, Int.reduceMul, implies_true]
    refine (fin M3 B3 _ (by simp only [List.length_append]; omega) (by simp only [List.length_append]; omega) hf3 hb3 hB3).mono ?_
    rintro _ M4 ⟨rfl, hf4⟩
    simp (contextual := true) (implicitDefEqProofs := false) (maxSteps := 2000000) (disch := first | rfl | exact Nat.le_of_ble_eq_true rfl | omega | (simp only [List.length_append, List.length_cons, List.length_nil, List.length_set]; omega)) only [List.append_assoc, X1, X2, X3, X4, XA, XB, lc_block, lc_cond, XZ, undef_eq, Nat.reduceAdd, Nat.reduceSub, ↓reduceIte, basic, cellsL, resOf, setAt, below, belowB, belowA, atomB, Nat.reduceLeDiff, Nat.reduceMul, Int.reduceToNat, Int.reduceLT, Int.reduceLE, Int.reduceAdd, Int.reduceNeg, Int.reduceEq, splice, Nat.reduceEqDiff, Nat.reduceLT, isAtom, Int.reduceSub, Int.reduceMul, implies_true]
    exact hf4.ext (by simp)
  | true =>
    simp (contextual := true) (implicitDefEqProofs := false) (maxSteps := 2000000) (disch := first | rfl | exact Nat.le_of_ble_eq_true rfl | omega | (simp only [List.length_append, List.length_cons, List.length_nil, List.length_set]; omega)) only [hb01, hx, X1, X2, X3, X4, XA, XB, lc_block, lc_cond, XZ, undef_eq, Nat.reduceAdd, Nat.reduceSub, ↓reduceIte, basic, cellsL, resOf, setAt, below, belowB, belowA, atomB, Nat.reduceLeDiff, Nat.reduceMul, Int.reduceToNat, Int.reduceLT, Int.reduceLE, Int.reduceAdd, Int.reduceNeg, Int.reduceEq, splice, Nat.reduceEqDiff, Nat.reduceLT, isAtom, Int.reduceSub, Int.reduceMul, implies_true]
    refine (wByte_spec x hb2 (by simp only [List.length_append]; omega)).mono ?_
    rintro _ M2 ⟨hf2, B2, hb3, hn2⟩
    have hb02 := hf2.get hb01 (fun hx => by have := hB1 _ hx; omega)
    have l2 := lt_of_some hb02
    have hB2 : ∀ x ∈ B2, m.length < x := fun x hx => by
      rcases hn2 x hx with h1 | h1
      · exact hB1 x h1
      · omega
    have hfm2 : Frm [] m M2 := hfm1.trans hf2 fun x hx => .inr (by have := hB1 x hx; omega)
    simp (contextual := true) (implicitDefEqProofs := false) (maxSteps := 2000000) (disch := first | rfl | exact Nat.le_of_ble_eq_true rfl | omega | (simp only [List.length_append, List.length_cons, List.length_nil, List.length_set]; omega)) only [hb02, X1, X2, X3, X4, XA, XB, lc_block, lc_cond, XZ, undef_eq, Nat.reduceAdd, Nat.reduceSub, ↓reduceIte, basic, cellsL, resOf, setAt, below, belowB, belowA, atomB, Nat.reduceLeDiff, Nat.reduceMul, Int.reduceToNat, Int.reduceLT, Int.reduceLE, Int.reduceAdd, Int.reduceNeg, Int.reduceEq, splice, Nat.reduceEqDiff, Nat.reduceLT, isAtom, Int.reduceSub, Int.reduceMul, implies_true]
    refine (last M2 B2 (pb0 ++ ct ++ [x]) (by simp only [List.length_append, List.length_cons, List.length_nil]; omega) hfm2 l2 hb3 hB2 (by simp only [List.length_append]; omega)).mono ?_
    rintro _ M3 ⟨hf3, B3, hb4, hB3⟩
    simp (contextual := true) (implicitDefEqProofs := false) (maxSteps := 2000000) (disch := first | rfl | exact Nat.le_of_ble_eq_true rfl | omega | (simp only [List.length_append, List.length_cons, List.length_nil, List.length_set]; omega)) only [X1, X2, X3, X4, XA, XB, lc_block, lc_cond, XZ, undef_eq, Nat.reduceAdd, Nat.reduceSub, ↓reduceIte, basic, cellsL, resOf, setAt, below, belowB, belowA, atomB, Nat.reduceLeDiff, Nat.reduceMul, Int.reduceToNat, Int.reduceLT, Int.reduceLE, Int.reduceAdd, Int.reduceNeg, Int.reduceEq, splice, Nat.reduceEqDiff, Nat.reduceLT, isAtom, Int.reduceSub, Int.reduceMul, implies_true]
    refine (fin M3 B3 _ (by simp only [List.length_append, List.length_cons, List.length_nil]; omega) (by simp only [List.length_append]; omega) hf3 hb4 hB3).mono ?_
    rintro _ M4 ⟨rfl, hf4⟩
    simp (contextual := true) (implicitDefEqProofs := false) (maxSteps := 2000000) (disch := first | rfl | exact Nat.le_of_ble_eq_true rfl | omega | (simp only [List.length_append, List.length_cons, List.length_nil, List.length_set]; omega)) only [List.append_assoc, hx2, X1, X2, X3, X4, XA, XB, lc_block, lc_cond, XZ, undef_eq, Nat.reduceAdd, Nat.reduceSub, ↓reduceIte, basic, cellsL, resOf, setAt, below, belowB, belowA, atomB, Nat.reduceLeDiff, Nat.reduceMul, Int.reduceToNat, Int.reduceLT, Int.reduceLE, Int.reduceAdd, Int.reduceNeg, Int.reduceEq, splice, Nat.reduceEqDiff, Nat.reduceLT, isAtom, Int.reduceSub, Int.reduceMul, implies_true]
    exact hf4.ext (by simp)
end Go.Proofs.YtenbkoalanfdhaaGreatDoor
/- What is wrong with a frame, by the document: walked. -/
namespace Go.Proofs.YtenbkoalanfdhaaGreatDoor
open Go.Lg
set_option maxRecDepth 8000
set_option maxHeartbeats 8000000
set_option linter.unusedSimpArgs false
set_option linter.unnecessarySimpa false
set_option linter.unusedVariables false

theorem rwrong_spec {x y : En} {l : List En} {v : Value} {c : Ct} {pid : Int} {info : List UInt8} {wide rb pb ib : Bool} {m : Mem}
    (h : Rd m 3 v ((x :: y :: l).map En.row)) (hn : l.length ≤ 1000000)
    (hR : ∀ m, Ret Tryz.prog 19 [c.val, .bool wide] m (.bool rb) m) (hP : ∀ m, Ret Tryz.prog 20 [.int .i64 c.k] m (.bool pb) m) (hI : ∀ m, Ret Tryz.prog 44 [.int .i64 c.k] m (.bool ib) m) (hl : info.length ≤ 140737488355328) :
    Ret Tryz.prog 7 [rframeV v c pid info, .bool wide] m (.int .i64 (wrongE (rightP x.b x.s y.b y.s l) rb pb ib pid info)) m := by
  have h0 := h
  obtain ⟨a, rfl, _⟩ := h
  refine LCall_drop (LCall_enter Tryz.func7 c7 ?_)
  simp (contextual := true) (implicitDefEqProofs := false) (maxSteps := 2000000) (disch := first | rfl | exact Nat.le_of_ble_eq_true rfl | omega | (simp only [List.length_append, List.length_cons, List.length_nil, List.length_set]; omega)) only [L7, X1, X2, X3, X4, XA, XB, lc_block, lc_cond, XZ, undef_eq, Nat.reduceAdd, Nat.reduceSub, ↓reduceIte, basic, cellsL, resOf, setAt, below, belowB, belowA, atomB, Nat.reduceLeDiff, Nat.reduceMul, Int.reduceToNat, Int.reduceLT, Int.reduceLE, Int.reduceAdd, Int.reduceNeg, Int.reduceEq, splice, Nat.reduceEqDiff, Nat.reduceLT, isAtom, Int.reduceSub, Int.reduceMul, implies_true]
  refine (refrightP_spec h0.app hn).use ?_
  cases hr : rightP x.b x.s y.b y.s l with
  | false => simp (contextual := true) (implicitDefEqProofs := false) (maxSteps := 2000000) (disch := first | rfl | exact Nat.le_of_ble_eq_true rfl | omega | (simp only [List.length_append, List.length_cons, List.length_nil, List.length_set]; omega)) only [wrongE, X1, X2, X3, X4, XA, XB, lc_block, lc_cond, XZ, undef_eq, Nat.reduceAdd, Nat.reduceSub, ↓reduceIte, basic, cellsL, resOf, setAt, below, belowB, belowA, atomB, Nat.reduceLeDiff, Nat.reduceMul, Int.reduceToNat, Int.reduceLT, Int.reduceLE, Int.reduceAdd, Int.reduceNeg, Int.reduceEq, splice, Nat.reduceEqDiff, Nat.reduceLT, isAtom, Int.reduceSub, Int.reduceMul, implies_true]
  | true =>
    simp (contextual := true) (implicitDefEqProofs := false) (maxSteps := 2000000) (disch := first | rfl | exact Nat.le_of_ble_eq_true rfl | omega | (simp only [List.length_append, List.length_cons, List.length_nil, List.length_set]; omega)) only [X1, X2, X3, X4, XA, XB, lc_block, lc_cond, XZ, undef_eq, Nat.reduceAdd, Nat.reduceSub, ↓reduceIte, basic, cellsL, resOf, setAt, below, belowB, belowA, atomB, Nat.reduceLeDiff, Nat.reduceMul, Int.reduceToNat, Int.reduceLT, Int.reduceLE, Int.reduceAdd, Int.reduceNeg, Int.reduceEq, splice, Nat.reduceEqDiff, Nat.reduceLT, isAtom, Int.reduceSub, Int.reduceMul, implies_true]
    refine (hR _).use ?_
    cases rb with
    | false =>
      simp (contextual := true) (implicitDefEqProofs := false) (maxSteps := 2000000) (disch := first | rfl | exact Nat.le_of_ble_eq_true rfl | omega | (simp only [List.length_append, List.length_cons, List.length_nil, List.length_set]; omega)) only [X1, X2, X3, X4, XA, XB, lc_block, lc_cond, XZ, undef_eq, Nat.reduceAdd, Nat.reduceSub, ↓reduceIte, basic, cellsL, resOf, setAt, below, belowB, belowA, atomB, Nat.reduceLeDiff, Nat.reduceMul, Int.reduceToNat, Int.reduceLT, Int.reduceLE, Int.reduceAdd, Int.reduceNeg, Int.reduceEq, splice, Nat.reduceEqDiff, Nat.reduceLT, isAtom, Int.reduceSub, Int.reduceMul, implies_true]
      simp [wrongE]
    | true =>
      by_cases h1 : pid < 0
      · have h1' : (pid < 0) = True := eq_true h1
        simp (contextual := true) (implicitDefEqProofs := false) (maxSteps := 2000000) (disch := first | rfl | exact Nat.le_of_ble_eq_true rfl | omega | (simp only [List.length_append, List.length_cons, List.length_nil, List.length_set]; omega)) only [h1', X1, X2, X3, X4, XA, XB, lc_block, lc_cond, XZ, undef_eq, Nat.reduceAdd, Nat.reduceSub, ↓reduceIte, basic, cellsL, resOf, setAt, below, belowB, belowA, atomB, Nat.reduceLeDiff, Nat.reduceMul, Int.reduceToNat, Int.reduceLT, Int.reduceLE, Int.reduceAdd, Int.reduceNeg, Int.reduceEq, splice, Nat.reduceEqDiff, Nat.reduceLT, isAtom, Int.reduceSub, Int.reduceMul, implies_true]
        simp [wrongE, h1]
      have h1' : (pid < 0) = False := eq_false h1
      by_cases h2 : 255 < pid
      · have h2' : (255 < pid) = True := eq_true h2
        simp (contextual := true) (implicitDefEqProofs := false) (maxSteps := 2000000) (disch := first | rfl | exact Nat.le_of_ble_eq_true rfl | omega | (simp only [List.length_append, List.length_cons, List.length_nil, List.length_set]; omega)) only [h1', h2', X1, X2, X3, X4, XA, XB, lc_block, lc_cond, XZ, undef_eq, Nat.reduceAdd, Nat.reduceSub, ↓reduceIte, basic, cellsL, resOf, setAt, below, belowB, belowA, atomB, Nat.reduceLeDiff, Nat.reduceMul, Int.reduceToNat, Int.reduceLT, Int.reduceLE, Int.reduceAdd, Int.reduceNeg, Int.reduceEq, splice, Nat.reduceEqDiff, Nat.reduceLT, isAtom, Int.reduceSub, Int.reduceMul, implies_true]
        simp [wrongE, h2]
      have h2' : (255 < pid) = False := eq_false h2
      by_cases h3 : 0 < pid
      · have h3' : (0 < pid) = True := eq_true h3
        simp (contextual := true) (implicitDefEqProofs := false) (maxSteps := 2000000) (disch := first | rfl | exact Nat.le_of_ble_eq_true rfl | omega | (simp only [List.length_append, List.length_cons, List.length_nil, List.length_set]; omega)) only [h1', h2', h3', X1, X2, X3, X4, XA, XB, lc_block, lc_cond, XZ, undef_eq, Nat.reduceAdd, Nat.reduceSub, ↓reduceIte, basic, cellsL, resOf, setAt, below, belowB, belowA, atomB, Nat.reduceLeDiff, Nat.reduceMul, Int.reduceToNat, Int.reduceLT, Int.reduceLE, Int.reduceAdd, Int.reduceNeg, Int.reduceEq, splice, Nat.reduceEqDiff, Nat.reduceLT, isAtom, Int.reduceSub, Int.reduceMul, implies_true]
        refine (hP _).use ?_
        cases pb with
        | false =>
          simp (contextual := true) (implicitDefEqProofs := false) (maxSteps := 2000000) (disch := first | rfl | exact Nat.le_of_ble_eq_true rfl | omega | (simp only [List.length_append, List.length_cons, List.length_nil, List.length_set]; omega)) only [X1, X2, X3, X4, XA, XB, lc_block, lc_cond, XZ, undef_eq, Nat.reduceAdd, Nat.reduceSub, ↓reduceIte, basic, cellsL, resOf, setAt, below, belowB, belowA, atomB, Nat.reduceLeDiff, Nat.reduceMul, Int.reduceToNat, Int.reduceLT, Int.reduceLE, Int.reduceAdd, Int.reduceNeg, Int.reduceEq, splice, Nat.reduceEqDiff, Nat.reduceLT, isAtom, Int.reduceSub, Int.reduceMul, implies_true]
          have h3n : pid ≠ 0 := by omega
          simp [wrongE, h3n]
        | true =>
          have e : wrongE true true true ib pid info = infoE ib info := by simp [wrongE, h1, h2]
          simp (contextual := true) (implicitDefEqProofs := false) (maxSteps := 2000000) (disch := first | rfl | exact Nat.le_of_ble_eq_true rfl | omega | (simp only [List.length_append, List.length_cons, List.length_nil, List.length_set]; omega)) only [X1, X2, X3, X4, XA, XB, lc_block, lc_cond, XZ, undef_eq, Nat.reduceAdd, Nat.reduceSub, ↓reduceIte, basic, cellsL, resOf, setAt, below, belowB, belowA, atomB, Nat.reduceLeDiff, Nat.reduceMul, Int.reduceToNat, Int.reduceLT, Int.reduceLE, Int.reduceAdd, Int.reduceNeg, Int.reduceEq, splice, Nat.reduceEqDiff, Nat.reduceLT, isAtom, Int.reduceSub, Int.reduceMul, implies_true]
          refine (rinfo_spec hI hl).use ?_
          simp (contextual := true) (implicitDefEqProofs := false) (maxSteps := 2000000) (disch := first | rfl | exact Nat.le_of_ble_eq_true rfl | omega | (simp only [List.length_append, List.length_cons, List.length_nil, List.length_set]; omega)) only [X1, X2, X3, X4, XA, XB, lc_block, lc_cond, XZ, undef_eq, Nat.reduceAdd, Nat.reduceSub, ↓reduceIte, basic, cellsL, resOf, setAt, below, belowB, belowA, atomB, Nat.reduceLeDiff, Nat.reduceMul, Int.reduceToNat, Int.reduceLT, Int.reduceLE, Int.reduceAdd, Int.reduceNeg, Int.reduceEq, splice, Nat.reduceEqDiff, Nat.reduceLT, isAtom, Int.reduceSub, Int.reduceMul, implies_true]
          rw [e]
      · have h3' : (0 < pid) = False := eq_false h3
        have e0 : pid = 0 := by omega
        have e : wrongE true true pb ib pid info = infoE ib info := by simp [wrongE, e0]
        simp (contextual := true) (implicitDefEqProofs := false) (maxSteps := 2000000) (disch := first | rfl | exact Nat.le_of_ble_eq_true rfl | omega | (simp only [List.length_append, List.length_cons, List.length_nil, List.length_set]; omega)) only [h1', h2', h3', X1, X2, X3, X4, XA, XB, lc_block, lc_cond, XZ, undef_eq, Nat.reduceAdd, Nat.reduceSub, ↓reduceIte, basic, cellsL, resOf, setAt, below, belowB, belowA, atomB, Nat.reduceLeDiff, Nat.reduceMul, Int.reduceToNat, Int.reduceLT, Int.reduceLE, Int.reduceAdd, Int.reduceNeg, Int.reduceEq, splice, Nat.reduceEqDiff, Nat.reduceLT, isAtom, Int.reduceSub, Int.reduceMul, implies_true]
        refine (rinfo_spec hI hl).use ?_
        simp (contextual := true) (implicitDefEqProofs := false) (maxSteps := 2000000) (disch := first | rfl | exact Nat.le_of_ble_eq_true rfl | omega | (simp only [List.length_append, List.length_cons, List.length_nil, List.length_set]; omega)) only [X1, X2, X3, X4, XA, XB, lc_block, lc_cond, XZ, undef_eq, Nat.reduceAdd, Nat.reduceSub, ↓reduceIte, basic, cellsL, resOf, setAt, below, belowB, belowA, atomB, Nat.reduceLeDiff, Nat.reduceMul, Int.reduceToNat, Int.reduceLT, Int.reduceLE, Int.reduceAdd, Int.reduceNeg, Int.reduceEq, splice, Nat.reduceEqDiff, Nat.reduceLT, isAtom, Int.reduceSub, Int.reduceMul, implies_true]
        rw [e]

end Go.Proofs.YtenbkoalanfdhaaGreatDoor
/- Frames as the document has them: walked. -/
namespace Go.Proofs.YtenbkoalanfdhaaGreatDoor
open Go.Lg
set_option maxRecDepth 8000
set_option maxHeartbeats 8000000
set_option linter.unusedSimpArgs false
set_option linter.unnecessarySimpa false
set_option linter.unusedVariables false

abbrev pathR (sv : Value) : Value := .agg #[sv]
theorem awake07 (m : Mem) : Ret Tryz.prog 4 [] m (.bool true) m := run_alone tab_ok (n := 400) (d := 60) (by kernel_rfl) rfl rfl m
theorem great_spec {tb : List UInt8} {ts : Int} {fb : List UInt8} {fs : Int} {tm fm : Bool} {a : Option Addr} {n : Nat} {c : Ct} {pid : Int} {info : List UInt8} {m : Mem} : Ret Tryz.prog 5 [frameV tb ts fb fs tm fm (.slice a n n) c pid info] m (.bool (decide (30 < n) || decide (2000 < info.length))) m := by
  refine LCall_drop (LCall_enter Tryz.func5 c5 ?_)
  by_cases h1 : 30 < n
  · have h1' : ((30 : Int) < (n : Int)) = True := eq_true (by omega)
    simp (contextual := true) (implicitDefEqProofs := false) (maxSteps := 2000000) (disch := first | rfl | exact Nat.le_of_ble_eq_true rfl | omega | (simp only [List.length_append, List.length_cons, List.length_nil, List.length_set]; omega)) only [L5, bin_ladd, str_cut, str_app, str_eq, string_mk_size, string_mk, h1', X1, X2, X3, X4, XA, XB, lc_block, lc_cond, XZ, undef_eq, Nat.reduceAdd, Nat.reduceSub, ↓reduceIte, basic, cellsL, resOf, setAt, below, belowB, belowA, atomB, Nat.reduceLeDiff, Nat.reduceMul, Int.reduceToNat, Int.reduceLT, Int.reduceLE, Int.reduceAdd, Int.reduceNeg, Int.reduceEq, splice, Nat.reduceEqDiff, Nat.reduceLT, isAtom, Int.reduceSub, Int.reduceMul, implies_true]
    simp [h1]
  · have h1' : ((30 : Int) < (n : Int)) = False := eq_false (by omega)
    have e : ((2000 : Int) < (info.length : Int)) = (2000 < info.length) := by apply propext; omega
    simp (contextual := true) (implicitDefEqProofs := false) (maxSteps := 2000000) (disch := first | rfl | exact Nat.le_of_ble_eq_true rfl | omega | (simp only [List.length_append, List.length_cons, List.length_nil, List.length_set]; omega)) only [L5, bin_ladd, str_cut, str_app, str_eq, string_mk_size, string_mk, h1', e, X1, X2, X3, X4, XA, XB, lc_block, lc_cond, XZ, undef_eq, Nat.reduceAdd, Nat.reduceSub, ↓reduceIte, basic, cellsL, resOf, setAt, below, belowB, belowA, atomB, Nat.reduceLeDiff, Nat.reduceMul, Int.reduceToNat, Int.reduceLT, Int.reduceLE, Int.reduceAdd, Int.reduceNeg, Int.reduceEq, splice, Nat.reduceEqDiff, Nat.reduceLT, isAtom, Int.reduceSub, Int.reduceMul, implies_true]
    simp [h1]
/-- A path as the document has it. -/
theorem plainP_spec {tb : List UInt8} {ts : Int} {fb : List UInt8} {fs : Int} {tm fm : Bool} {dv : Value} {l : List En} {m : Mem} (h : Rd m 3 dv (l.map En.row)) (hn : l.length ≤ 1000000) :
    LCall Tryz.prog 17 [pathV tb ts fb fs tm fm dv] m fun v M => Frm [] m M ∧ ∃ sv F, v = pathR sv ∧ Sl M 90 3 sv F ((⟨tb, ts, tm⟩ :: ⟨fb, fs, fm⟩ :: l).map En.row) ∧ ∀ z ∈ F, m.length ≤ z := by
  obtain ⟨a, rfl, hform⟩ := h
  simp only [List.length_map] at hform ⊢
  refine LCall_enter Tryz.func17 c17 ?_
  simp (contextual := true) (implicitDefEqProofs := false) (maxSteps := 2000000) (disch := first | rfl | exact Nat.le_of_ble_eq_true rfl | omega | (simp only [List.length_append, List.length_cons, List.length_nil, List.length_set]; omega)) only [L17, X1, X2, X3, X4, XA, XB, lc_block, lc_cond, XZ, undef_eq, Nat.reduceAdd, Nat.reduceSub, ↓reduceIte, basic, cellsL, resOf, setAt, below, belowB, belowA, atomB, Nat.reduceLeDiff, Nat.reduceMul, Int.reduceToNat, Int.reduceLT, Int.reduceLE, Int.reduceAdd, Int.reduceNeg, Int.reduceEq, splice, Nat.reduceEqDiff, Nat.reduceLT, isAtom, Int.reduceSub, Int.reduceMul, implies_true]
  obtain ⟨M0, hM, hMl, hf0, hb1, hb2, hb3⟩ : ∃ M0, m ++ [⟨[str tb, .int .i64 ts, str fb, .int .i64 fs, .bool tm, .bool fm, .slice a l.length l.length], 26, 1, 0, .own⟩, ⟨[.slice none 0 0], 35, 1, 0, .own⟩, ⟨[str tb, .int .i64 ts, .bool tm, str fb, .int .i64 fs, .bool fm], 90, 3, 0, .own⟩, ⟨[.slice (some ⟨m.length + 2, 0, none⟩) 2 2], 35, 1, 0, .own⟩] = M0 ∧ M0.length = m.length + 4 ∧ Frm [] m M0 ∧ M0[m.length + 1]? = some ⟨[.slice none 0 0], 35, 1, 0, .own⟩ ∧ M0[m.length + 2]? = some ⟨[str tb, .int .i64 ts, .bool tm, str fb, .int .i64 fs, .bool fm], 90, 3, 0, .own⟩ ∧ M0[m.length + 3]? = some ⟨[.slice (some ⟨m.length + 2, 0, none⟩) 2 2], 35, 1, 0, .own⟩ := by
    refine ⟨_, rfl, by simp, Frm.refl.app, ?_, ?_, ?_⟩
    all_goals (rw [List.getElem?_append_right (by omega)]; simp)
  rw [hM]
  clear hM
  have hs0 : Sl M0 90 3 (.slice (some ⟨m.length + 2, 0, none⟩) 2 2) [m.length + 2] (((⟨tb, ts, tm⟩ : En) :: ⟨fb, fs, fm⟩ :: l.take 0).map En.row) :=
    Sl.own (T := 90) (sz := 3) (rows := [[str tb, .int .i64 ts, .bool tm], [str fb, .int .i64 fs, .bool fm]]) hb2 (by simp) (by simp) (by simp)
  refine loop_inv (fun n t M => ∃ (j : Nat) (sv : Value) (G : List Nat), n = l.length - j ∧ j ≤ l.length ∧ Frm [] m M ∧ M[m.length + 1]? = some ⟨[.slice none 0 0], 35, 1, 0, .own⟩ ∧ M[m.length + 3]? = some ⟨[sv], 35, 1, 0, .own⟩ ∧ Sl M 90 3 sv G (((⟨tb, ts, tm⟩ : En) :: ⟨fb, fs, fm⟩ :: l.take j).map En.row) ∧ (∀ z ∈ G, m.length + 2 ≤ z ∧ z ≠ m.length + 3) ∧
    Tab 37 [(2, .pointer (some ⟨m.length + 1, 0, none⟩)), (3, .pointer (some ⟨m.length + 3, 0, none⟩)), (19, .slice a l.length l.length), (20, .int .i64 (l.length : Int)), (21, .int .i64 (j : Int))] t) (n := l.length) ?_ ?_
  · exact ⟨0, _, _, rfl, Nat.zero_le _, hf0, hb1, hb3, hs0, by simp, ⟨rfl, by simp⟩⟩
  clear hb1 hb2 hb3 hs0 hf0
  rintro N t M ⟨j, sv, G, rfl, hj, hfm, hb1, hb3, hs, hG, ht⟩
  obtain ⟨f, rfl⟩ : ∃ f' : Nat → Value, t = [f' 0, f' 1, .pointer (some ⟨m.length + 1, 0, none⟩), .pointer (some ⟨m.length + 3, 0, none⟩), f' 4, f' 5, f' 6, f' 7, f' 8, f' 9, f' 10, f' 11, f' 12, f' 13, f' 14, f' 15, f' 16, f' 17, f' 18, .slice a l.length l.length, .int .i64 (l.length : Int), .int .i64 (j : Int), f' 22, f' 23, f' 24, f' 25, f' 26, f' 27, f' 28, f' 29, f' 30, f' 31, f' 32, f' 33, f' 34, f' 35, f' 36] := ht.open fun f' => rfl
  have l1 := lt_of_some hb1
  have l3 := lt_of_some hb3
  have hg1 : m.length + 1 ∉ G := fun hx => by have := (hG _ hx).1; omega
  have hg3 : m.length + 3 ∉ G := fun hx => (hG _ hx).2 rfl
  by_cases hlt : j < l.length
  · have hlt' : ((j : Int) < (l.length : Int)) = True := by simp [hlt]
    have h0' : ((0 : Int) ≤ (j : Int)) = True := by simp
    have hwj : IntKind.i64.wrap ((j : Int) + 1) = ((j + 1 : Nat) : Int) := by rw [wrap_i64 (by omega) (by omega)]; omega
    obtain ⟨b, o, cc, T, fz, kd, rfl, hb', hk, hl', hrow⟩ := hform (by omega)
    obtain ⟨e, he⟩ : ∃ r, l[j]? = some r := ⟨l[j], List.getElem?_eq_getElem hlt⟩
    have hr : (cc.drop (o + j * 3)).take 3 = [str e.b, .int .i64 e.s, .bool e.k] := hrow j e.row (by simp [he])
    have hlen : o + j * 3 + 3 ≤ cc.length := by omega
    have hbM := hfm.get0 hb'
    have hbl := lt_of_some hbM
    have htl : (l.take j).length = j := by rw [List.length_take]; omega
    simp (contextual := true) (implicitDefEqProofs := false) (maxSteps := 2000000) (disch := first | rfl | exact Nat.le_of_ble_eq_true rfl | omega | (simp only [List.length_append, List.length_cons, List.length_nil, List.length_set]; omega)) only [hb1, hb3, hbM, hlt', h0', hr, cellsB_l hk hlen, Int.toNat_natCast, X1, X2, X3, X4, XB, lc_block, lc_cond, XZ, undef_eq, Nat.reduceAdd, Nat.reduceSub, ↓reduceIte, basic, cellsL, resOf, setAt, below, belowB, belowA, atomB, Nat.reduceLeDiff, Nat.reduceMul, Int.reduceToNat, Int.reduceLT, Int.reduceLE, Int.reduceAdd, Int.reduceNeg, Int.reduceEq, splice, Nat.reduceEqDiff, Nat.reduceLT, isAtom, Int.reduceSub, Int.reduceMul, implies_true]
    refine app_row (bytes := 32) (hs.frm0 Frm.refl.app) rfl (by simp only [List.length_map, List.length_cons, htl]; omega) ?_
    intro v2 M2 G2 hM2 hf2 hs2 hG2
    simp only [List.length_append, List.length_cons, List.length_nil] at hM2 hG2
    have hf3 : Frm G M M2 := hf2.app_of
    have hb12 := hf3.get hb1 hg1
    have hb32 := hf3.get hb3 hg3
    have l32 := lt_of_some hb32
    have l12 := lt_of_some hb12
    have hs3 : Sl M2 90 3 v2 G2 (((⟨tb, ts, tm⟩ : En) :: ⟨fb, fs, fm⟩ :: l.take (j + 1)).map En.row) := by
      rw [take_snoc he]
      have h2 := hs2
      simp only [List.map_append, List.map_cons, List.map_nil, List.cons_append] at h2 ⊢
      exact h2
    obtain ⟨v2a, hv2, _⟩ := hs3.form
    subst hv2
    simp (contextual := true) (implicitDefEqProofs := false) (maxSteps := 2000000) (disch := first | rfl | exact Nat.le_of_ble_eq_true rfl | omega | (simp only [List.length_append, List.length_cons, List.length_nil, List.length_set]; omega)) only [hb12, hb32, X1, X2, X3, X4, XA, XB, lc_block, lc_cond, XZ, undef_eq, Nat.reduceAdd, Nat.reduceSub, ↓reduceIte, basic, cellsL, resOf, setAt, below, belowB, belowA, atomB, Nat.reduceLeDiff, Nat.reduceMul, Int.reduceToNat, Int.reduceLT, Int.reduceLE, Int.reduceAdd, Int.reduceNeg, Int.reduceEq, splice, Nat.reduceEqDiff, Nat.reduceLT, isAtom, Int.reduceSub, Int.reduceMul, implies_true]
    refine kInv_go ⟨j + 1, _, G2, rfl, by omega, ?_, ?_, by rw [List.getElem?_set_self l32]; rfl, hs3.setb fun hx => by have := hG2 _ hx; omega, fun x hx => by have := hG2 x hx; omega, ⟨rfl, by simp [hwj]⟩⟩ (by omega)
    · exact (hfm.trans hf3 fun x hx => .inr (by have := (hG x hx).1; omega)).set (i := m.length + 3) (.inr (by omega))
    · rw [List.getElem?_set_ne (show m.length + 3 ≠ m.length + 1 by omega)]; exact hb12
  · have hlt' : ((j : Int) < (l.length : Int)) = False := by simp; omega
    have hjl : j = l.length := by omega
    subst hjl
    rw [List.take_of_length_le (Nat.le_refl _)] at hs
    obtain ⟨sa, rfl, _⟩ := hs.form
    simp (contextual := true) (implicitDefEqProofs := false) (maxSteps := 2000000) (disch := first | rfl | exact Nat.le_of_ble_eq_true rfl | omega | (simp only [List.length_append, List.length_cons, List.length_nil, List.length_set]; omega)) only [hlt', hb1, hb3, X1, X2, X3, X4, XA, XB, lc_block, lc_cond, XZ, undef_eq, Nat.reduceAdd, Nat.reduceSub, ↓reduceIte, basic, cellsL, resOf, setAt, below, belowB, belowA, atomB, Nat.reduceLeDiff, Nat.reduceMul, Int.reduceToNat, Int.reduceLT, Int.reduceLE, Int.reduceAdd, Int.reduceNeg, Int.reduceEq, splice, Nat.reduceEqDiff, Nat.reduceLT, isAtom, Int.reduceSub, Int.reduceMul, implies_true]
    refine ⟨hfm.set (i := m.length + 1) (.inr (by omega)), _, G, rfl, ?_, fun z hz => by have := (hG z hz).1; omega⟩
    exact hs.setb hg1
/-- A frame as the document has it. -/
theorem plainF_spec {tb : List UInt8} {ts : Int} {fb : List UInt8} {fs : Int} {tm fm : Bool} {dv : Value} {l : List En} {c : Ct} {pid : Int} {info : List UInt8} {m : Mem} (h : Rd m 3 dv (l.map En.row)) (hn : l.length ≤ 1000000) :
    LCall Tryz.prog 6 [frameV tb ts fb fs tm fm dv c pid info] m fun v M => Frm [] m M ∧ ∃ sv F, v = rframeV sv c pid info ∧ Sl M 90 3 sv F ((⟨tb, ts, tm⟩ :: ⟨fb, fs, fm⟩ :: l).map En.row) ∧ ∀ z ∈ F, m.length ≤ z := by
  have h0 := h
  obtain ⟨a, rfl, _⟩ := h
  refine LCall_enter Tryz.func6 c6 ?_
  simp (contextual := true) (implicitDefEqProofs := false) (maxSteps := 2000000) (disch := first | rfl | exact Nat.le_of_ble_eq_true rfl | omega | (simp only [List.length_append, List.length_cons, List.length_nil, List.length_set]; omega)) only [L6, X1, X2, X3, X4, XA, XB, lc_block, lc_cond, XZ, undef_eq, Nat.reduceAdd, Nat.reduceSub, ↓reduceIte, basic, cellsL, resOf, setAt, below, belowB, belowA, atomB, Nat.reduceLeDiff, Nat.reduceMul, Int.reduceToNat, Int.reduceLT, Int.reduceLE, Int.reduceAdd, Int.reduceNeg, Int.reduceEq, splice, Nat.reduceEqDiff, Nat.reduceLT, isAtom, Int.reduceSub, Int.reduceMul, implies_true]
  refine (plainP_spec h0.app hn).mono ?_
  rintro v M ⟨hf, sv, F, rfl, hs, hF⟩
  obtain ⟨sa, rfl, _⟩ := hs.form
  have hb1 := hf.get0 (i := m.length + 1) (b := ⟨[.slice none 0 0, .int .i64 0, .int .i64 0, .int .i64 0, .bool false, .int .i64 0, .string ⟨#[]⟩], 38, 1, 0, .own⟩) (by rw [List.getElem?_append_right (by omega)]; simp)
  have l1 := lt_of_some hb1
  have hfm : Frm [] m M := (Frm.refl (F := []) (m := m)).app.nil_trans hf
  have hg1 : m.length + 1 ∉ F := fun hx => by have := hF _ hx; simp only [List.length_append, List.length_cons, List.length_nil] at this; omega
  have hb0 := hf.get0 (i := m.length) (b := ⟨[str tb, .int .i64 ts, str fb, .int .i64 fs, .bool tm, .bool fm, .slice a (l.map En.row).length (l.map En.row).length, .int .i64 c.k, .int .i64 c.ns, .int .i64 c.nr, .bool c.pf, .int .i64 pid, str info], 30, 1, 0, .own⟩) (by simp)
  have l0 := lt_of_some hb0
  simp (contextual := true) (implicitDefEqProofs := false) (maxSteps := 2000000) (disch := first | rfl | exact Nat.le_of_ble_eq_true rfl | omega | (simp only [List.length_append, List.length_cons, List.length_nil, List.length_set]; omega)) only [hb0, hb1, X1, X2, X3, X4, XA, XB, lc_block, lc_cond, XZ, undef_eq, Nat.reduceAdd, Nat.reduceSub, ↓reduceIte, basic, cellsL, resOf, setAt, below, belowB, belowA, atomB, Nat.reduceLeDiff, Nat.reduceMul, Int.reduceToNat, Int.reduceLT, Int.reduceLE, Int.reduceAdd, Int.reduceNeg, Int.reduceEq, splice, Nat.reduceEqDiff, Nat.reduceLT, isAtom, Int.reduceSub, Int.reduceMul, implies_true]
  refine ⟨hfm.set (i := m.length + 1) (.inr (by omega)), _, F, rfl, ?_, fun z hz => by have := hF z hz; simp only [List.length_append] at this; omega⟩
  exact hs.setb hg1
theorem right_frame {tb : List UInt8} {ts : Int} {fb : List UInt8} {fs : Int} {tm fm : Bool} {dv : Value} {l : List En} {c : Ct} {pid : Int} {info : List UInt8} {wide rb pb ib : Bool} {m : Mem}
    (htb : tb.length ≤ 140737488355328) (hfb : fb.length ≤ 140737488355328) (hb : ∀ e ∈ l, e.b.length ≤ 140737488355328) (h : Rd m 3 dv (l.map En.row)) (hn : l.length ≤ 1000000)
    (hR : ∀ m, Ret Tryz.prog 45 [c.val, .bool wide] m (.bool rb) m) (hP : ∀ m, Ret Tryz.prog 26 [.int .i64 c.k] m (.bool pb) m) (hI : ∀ m, Ret Tryz.prog 55 [.int .i64 c.k] m (.bool ib) m) (hl : info.length ≤ 140737488355328) :
    Ret Tryz.prog 9 [frameV tb ts fb fs tm fm dv c pid info, .bool wide] m (.bool (decide (wrongE (rightP tb ts fb fs l) rb pb ib pid info = 0))) m := by
  have h0 := h
  obtain ⟨a, rfl, _⟩ := h
  refine LCall_drop (LCall_enter Tryz.func9 c9 ?_)
  simp (contextual := true) (implicitDefEqProofs := false) (maxSteps := 2000000) (disch := first | rfl | exact Nat.le_of_ble_eq_true rfl | omega | (simp only [List.length_append, List.length_cons, List.length_nil, List.length_set]; omega)) only [L9, X1, X2, X3, X4, XA, XB, lc_block, lc_cond, XZ, undef_eq, Nat.reduceAdd, Nat.reduceSub, ↓reduceIte, basic, cellsL, resOf, setAt, below, belowB, belowA, atomB, Nat.reduceLeDiff, Nat.reduceMul, Int.reduceToNat, Int.reduceLT, Int.reduceLE, Int.reduceAdd, Int.reduceNeg, Int.reduceEq, splice, Nat.reduceEqDiff, Nat.reduceLT, isAtom, Int.reduceSub, Int.reduceMul, implies_true]
  refine (wrong_spec htb hfb hb h0.app hn hR hP hI hl).use ?_
  simp (contextual := true) (implicitDefEqProofs := false) (maxSteps := 2000000) (disch := first | rfl | exact Nat.le_of_ble_eq_true rfl | omega | (simp only [List.length_append, List.length_cons, List.length_nil, List.length_set]; omega)) only [X1, X2, X3, X4, XA, XB, lc_block, lc_cond, XZ, undef_eq, Nat.reduceAdd, Nat.reduceSub, ↓reduceIte, basic, cellsL, resOf, setAt, below, belowB, belowA, atomB, Nat.reduceLeDiff, Nat.reduceMul, Int.reduceToNat, Int.reduceLT, Int.reduceLE, Int.reduceAdd, Int.reduceNeg, Int.reduceEq, splice, Nat.reduceEqDiff, Nat.reduceLT, isAtom, Int.reduceSub, Int.reduceMul, implies_true]
/-- Two paths with the same entries are alike. -/
theorem sameP_spec {v v' : Value} {L : List En} {m : Mem} (h : Rd m 3 v (L.map En.row)) (h' : Rd m 3 v' (L.map En.row)) (hn : L.length ≤ 1000000) : Ret Tryz.prog 35 [pathR v, pathR v'] m (.bool true) m := by
  obtain ⟨a, rfl, hform⟩ := h
  obtain ⟨a', rfl, hform'⟩ := h'
  simp only [List.length_map] at hform hform' ⊢
  refine LCall_drop (LCall_enter Tryz.func35 c35 ?_)
  simp (contextual := true) (implicitDefEqProofs := false) (maxSteps := 2000000) (disch := first | rfl | exact Nat.le_of_ble_eq_true rfl | omega | (simp only [List.length_append, List.length_cons, List.length_nil, List.length_set]; omega)) only [L35, X1, X2, X3, X4, XA, XB, lc_block, lc_cond, XZ, undef_eq, Nat.reduceAdd, Nat.reduceSub, ↓reduceIte, basic, cellsL, resOf, setAt, below, belowB, belowA, atomB, Nat.reduceLeDiff, Nat.reduceMul, Int.reduceToNat, Int.reduceLT, Int.reduceLE, Int.reduceAdd, Int.reduceNeg, Int.reduceEq, splice, Nat.reduceEqDiff, Nat.reduceLT, isAtom, Int.reduceSub, Int.reduceMul, implies_true]
  obtain ⟨M0, hM, hf0, hb0, hb1⟩ : ∃ M0, m ++ [⟨[.slice a L.length L.length], 35, 1, 0, .own⟩, ⟨[.slice a' L.length L.length], 35, 1, 0, .own⟩] = M0 ∧ Frm [] m M0 ∧ M0[m.length]? = some ⟨[.slice a L.length L.length], 35, 1, 0, .own⟩ ∧ M0[m.length + 1]? = some ⟨[.slice a' L.length L.length], 35, 1, 0, .own⟩ := ⟨_, rfl, Frm.refl.app, by simp, by rw [List.getElem?_append_right (by omega)]; simp⟩
  rw [hM]
  have hext : ext m M0 := ⟨_, hM.symm⟩
  clear hM
  have l0 := lt_of_some hb0
  have l1 := lt_of_some hb1
  refine loop_inv (fun n t M => ∃ (j : Nat), n = L.length - j ∧ j ≤ L.length ∧ M = M0 ∧
    Tab 31 [(2, .pointer (some ⟨m.length, 0, none⟩)), (3, .pointer (some ⟨m.length + 1, 0, none⟩)), (5, .int .i64 (j : Int))] t) (n := L.length) ?_ ?_
  · exact ⟨0, rfl, Nat.zero_le _, rfl, ⟨rfl, by simp⟩⟩
  rintro N t M ⟨j, rfl, hj, rfl, ht⟩
  obtain ⟨f, rfl⟩ : ∃ f' : Nat → Value, t = [f' 0, f' 1, .pointer (some ⟨m.length, 0, none⟩), .pointer (some ⟨m.length + 1, 0, none⟩), f' 4, .int .i64 (j : Int), f' 6, f' 7, f' 8, f' 9, f' 10, f' 11, f' 12, f' 13, f' 14, f' 15, f' 16, f' 17, f' 18, f' 19, f' 20, f' 21, f' 22, f' 23, f' 24, f' 25, f' 26, f' 27, f' 28, f' 29, f' 30] := ht.open fun f' => rfl
  by_cases hlt : j < L.length
  · have hlt' : ((j : Int) < (L.length : Int)) = True := by simp [hlt]
    have h0' : ((0 : Int) ≤ (j : Int)) = True := by simp
    have hwj : IntKind.i64.wrap ((j : Int) + 1) = ((j + 1 : Nat) : Int) := by rw [wrap_i64 (by omega) (by omega)]; omega
    obtain ⟨b, o, cc, T, fz, kd, rfl, hb, hk, hl, hrow⟩ := hform (by omega)
    obtain ⟨b', o', cc', T', fz', kd', rfl, hb', hk', hl', hrow'⟩ := hform' (by omega)
    obtain ⟨e, he⟩ : ∃ r, L[j]? = some r := ⟨L[j], List.getElem?_eq_getElem hlt⟩
    have hr : (cc.drop (o + j * 3)).take 3 = [str e.b, .int .i64 e.s, .bool e.k] := hrow j e.row (by simp [he])
    have hr' : (cc'.drop (o' + j * 3)).take 3 = [str e.b, .int .i64 e.s, .bool e.k] := hrow' j e.row (by simp [he])
    have hlen : o + j * 3 + 3 ≤ cc.length := by omega
    have hlen' : o' + j * 3 + 3 ≤ cc'.length := by omega
    have hbM := hf0.get0 hb
    have hbM' := hf0.get0 hb'
    have hbl := lt_of_some hbM
    have hbl' := lt_of_some hbM'
    simp (contextual := true) (implicitDefEqProofs := false) (maxSteps := 2000000) (disch := first | rfl | exact Nat.le_of_ble_eq_true rfl | omega | (simp only [List.length_append, List.length_cons, List.length_nil, List.length_set]; omega)) only [hb0, hb1, hbM, hbM', hlt', h0', hr, hr', cellsB_l hk hlen, cellsB_l hk' hlen', eqN, eqLeaves, Int.toNat_natCast, X1, X2, X3, X4, XA, XB, lc_block, lc_cond, XZ, undef_eq, Nat.reduceAdd, Nat.reduceSub, ↓reduceIte, basic, cellsL, resOf, setAt, below, belowB, belowA, atomB, Nat.reduceLeDiff, Nat.reduceMul, Int.reduceToNat, Int.reduceLT, Int.reduceLE, Int.reduceAdd, Int.reduceNeg, Int.reduceEq, splice, Nat.reduceEqDiff, Nat.reduceLT, isAtom, Int.reduceSub, Int.reduceMul, implies_true]
    exact kInv_go ⟨j + 1, rfl, by omega, rfl, ⟨rfl, by simp [hwj]⟩⟩ (by omega)
  · have hlt' : ((j : Int) < (L.length : Int)) = False := by simp; omega
    simp (contextual := true) (implicitDefEqProofs := false) (maxSteps := 2000000) (disch := first | rfl | exact Nat.le_of_ble_eq_true rfl | omega | (simp only [List.length_append, List.length_cons, List.length_nil, List.length_set]; omega)) only [hb0, hb1, hlt', X1, X2, X3, X4, XA, XB, lc_block, lc_cond, XZ, undef_eq, Nat.reduceAdd, Nat.reduceSub, ↓reduceIte, basic, cellsL, resOf, setAt, below, belowB, belowA, atomB, Nat.reduceLeDiff, Nat.reduceMul, Int.reduceToNat, Int.reduceLT, Int.reduceLE, Int.reduceAdd, Int.reduceNeg, Int.reduceEq, splice, Nat.reduceEqDiff, Nat.reduceLT, isAtom, Int.reduceSub, Int.reduceMul, implies_true]
    exact hext
theorem sameF_spec {v v' : Value} {L : List En} {c : Ct} {pid : Int} {info : List UInt8} {m : Mem} (h : Rd m 3 v (L.map En.row)) (h' : Rd m 3 v' (L.map En.row)) (hn : L.length ≤ 1000000) : Ret Tryz.prog 12 [rframeV v c pid info, rframeV v' c pid info] m (.bool true) m := by
  have h0 := h
  have h0' := h'
  obtain ⟨a, rfl, _⟩ := h
  obtain ⟨a', rfl, _⟩ := h'
  refine LCall_drop (LCall_enter Tryz.func12 c12 ?_)
  simp (contextual := true) (implicitDefEqProofs := false) (maxSteps := 2000000) (disch := first | rfl | exact Nat.le_of_ble_eq_true rfl | omega | (simp only [List.length_append, List.length_cons, List.length_nil, List.length_set]; omega)) only [L12, X1, X2, X3, X4, XA, XB, lc_block, lc_cond, XZ, undef_eq, Nat.reduceAdd, Nat.reduceSub, ↓reduceIte, basic, cellsL, resOf, setAt, below, belowB, belowA, atomB, Nat.reduceLeDiff, Nat.reduceMul, Int.reduceToNat, Int.reduceLT, Int.reduceLE, Int.reduceAdd, Int.reduceNeg, Int.reduceEq, splice, Nat.reduceEqDiff, Nat.reduceLT, isAtom, Int.reduceSub, Int.reduceMul, implies_true]
  refine (sameP_spec h0.app h0'.app hn).use ?_
  simp (contextual := true) (implicitDefEqProofs := false) (maxSteps := 2000000) (disch := first | rfl | exact Nat.le_of_ble_eq_true rfl | omega | (simp only [List.length_append, List.length_cons, List.length_nil, List.length_set]; omega)) only [eqN, eqLeaves, X1, X2, X3, X4, XA, XB, lc_block, lc_cond, XZ, undef_eq, Nat.reduceAdd, Nat.reduceSub, ↓reduceIte, basic, cellsL, resOf, setAt, below, belowB, belowA, atomB, Nat.reduceLeDiff, Nat.reduceMul, Int.reduceToNat, Int.reduceLT, Int.reduceLE, Int.reduceAdd, Int.reduceNeg, Int.reduceEq, splice, Nat.reduceEqDiff, Nat.reduceLT, isAtom, Int.reduceSub, Int.reduceMul, implies_true]
end Go.Proofs.YtenbkoalanfdhaaGreatDoor
/- A frame's bytes, by the document; the law of frames: walked. -/
namespace Go.Proofs.YtenbkoalanfdhaaGreatDoor
open Go.Lg
set_option maxRecDepth 8000
set_option maxHeartbeats 8000000
set_option linter.unusedSimpArgs false
set_option linter.unnecessarySimpa false
set_option linter.unusedVariables false

theorem renc_spec {L : List En} {v : Value} {c : Ct} {w : Bool} {pid : Int} {info : List UInt8} {m : Mem} (h : Rd m 3 v (L.map En.row)) (hn : L.length ≤ 10) (hok : ∀ e ∈ L, e.ok = true) (hc : c.right w = true) (hpid : 0 ≤ pid ∧ pid ≤ 255) (hl : info.length ≤ 256) :
    Ret Tryz.prog 11 [rframeV v c pid info, .bool w] m (str (encF L (c.bytes w) (K.pidB c.k) pid info)) m := by
  have h0 := h
  obtain ⟨a, rfl, _⟩ := h
  obtain ⟨x, hx, hx2⟩ : ∃ x : UInt8, IntKind.u8.wrap pid = (x.toNat : Int) ∧ UInt8.ofNat pid.toNat = x := by
    refine ⟨UInt8.ofNat pid.toNat, ?_, rfl⟩
    obtain ⟨n, rfl⟩ : ∃ n : Nat, pid = (n : Int) := ⟨pid.toNat, by omega⟩
    rw [Int.toNat_natCast, u8_of (by omega), wrap_u8n (by omega)]
  have hb : bytesL [.int .u8 (x.toNat : Int)] = some [x] := bytesL_cells [x]
  refine LCall_drop (LCall_enter Tryz.func11 c11 ?_)
  simp (contextual := true) (implicitDefEqProofs := false) (maxSteps := 2000000) (disch := first | rfl | exact Nat.le_of_ble_eq_true rfl | omega | (simp only [List.length_append, List.length_cons, List.length_nil, List.length_set]; omega)) only [L11, X1, X2, X3, X4, XA, XB, lc_block, lc_cond, XZ, undef_eq, Nat.reduceAdd, Nat.reduceSub, ↓reduceIte, basic, cellsL, resOf, setAt, below, belowB, belowA, atomB, Nat.reduceLeDiff, Nat.reduceMul, Int.reduceToNat, Int.reduceLT, Int.reduceLE, Int.reduceAdd, Int.reduceNeg, Int.reduceEq, splice, Nat.reduceEqDiff, Nat.reduceLT, isAtom, Int.reduceSub, Int.reduceMul, implies_true]
  have hpl : (putE L).length ≤ 70 := by unfold putE; rw [putTo_len (Nat.le_refl _)]; omega
  refine (refputP_spec h0.app hn hok).use ?_
  obtain ⟨N, hN, hfN, hbN⟩ : ∃ N, m ++ [⟨[.slice a (L.map En.row).length (L.map En.row).length, .int .i64 c.k, .int .i64 c.ns, .int .i64 c.nr, .bool c.pf, .int .i64 pid, str info], 38, 1, 0, .own⟩] = N ∧ Frm [] m N ∧ N[m.length]? = some ⟨[.slice a (L.map En.row).length (L.map En.row).length, .int .i64 c.k, .int .i64 c.ns, .int .i64 c.nr, .bool c.pf, .int .i64 pid, str info], 38, 1, 0, .own⟩ := ⟨_, rfl, Frm.refl.app, by simp⟩
  rw [hN]
  clear hN
  have lN := lt_of_some hbN
  unfold encF
  generalize putE L = pb at hpl ⊢
  simp (contextual := true) (implicitDefEqProofs := false) (maxSteps := 2000000) (disch := first | rfl | exact Nat.le_of_ble_eq_true rfl | omega | (simp only [List.length_append, List.length_cons, List.length_nil, List.length_set]; omega)) only [hbN, X1, X2, X3, X4, XA, XB, lc_block, lc_cond, XZ, undef_eq, Nat.reduceAdd, Nat.reduceSub, ↓reduceIte, basic, cellsL, resOf, setAt, below, belowB, belowA, atomB, Nat.reduceLeDiff, Nat.reduceMul, Int.reduceToNat, Int.reduceLT, Int.reduceLE, Int.reduceAdd, Int.reduceNeg, Int.reduceEq, splice, Nat.reduceEqDiff, Nat.reduceLT, isAtom, Int.reduceSub, Int.reduceMul, implies_true]
  refine K.refput_spec c.k c.ns c.nr c.pf w hc _ _ fun i g T hm => ?_
  have hln : (K.putL8 c.k c.ns c.nr c.pf w).length ≤ 2 := by
    unfold K.putL8; split
    · simp
    · split <;> simp
  have hcl : (c.bytes w).length ≤ 2 := by unfold Ct.bytes; rw [K.strL_len]; exact hln
  have hin := K.put_inB (p := c.pf) hc
  have hby : K.strOf (K.putL8 c.k c.ns c.nr c.pf w) = ⟨(c.bytes w).toArray⟩ := rfl
  have hbM := (Frm.refl (F := []) (m := N)).app.get0 (m' := N ++ g) hbN
  have hfm := hfN.app (g := g)
  generalize N ++ g = M at hm hbM hfm ⊢
  have lM := lt_of_some hbM
  have li := lt_of_some hm
  simp (contextual := true) (implicitDefEqProofs := false) (maxSteps := 2000000) (disch := first | rfl | exact Nat.le_of_ble_eq_true rfl | omega | (simp only [List.length_append, List.length_cons, List.length_nil, List.length_set]; omega)) only [hbM, X1, X2, X3, X4, XA, XB, lc_block, lc_cond, XZ, undef_eq, Nat.reduceAdd, Nat.reduceSub, ↓reduceIte, basic, cellsL, resOf, setAt, below, belowB, belowA, atomB, Nat.reduceLeDiff, Nat.reduceMul, Int.reduceToNat, Int.reduceLT, Int.reduceLE, Int.reduceAdd, Int.reduceNeg, Int.reduceEq, splice, Nat.reduceEqDiff, Nat.reduceLT, isAtom, Int.reduceSub, Int.reduceMul, implies_true]
  refine (K.text_spec i T _ _ hm (by omega) hin).use ?_
  rw [hby]
  generalize c.bytes w = cb at hcl ⊢
  simp (contextual := true) (implicitDefEqProofs := false) (maxSteps := 2000000) (disch := first | rfl | exact Nat.le_of_ble_eq_true rfl | omega | (simp only [List.length_append, List.length_cons, List.length_nil, List.length_set]; omega)) only [hbM, bin_ladd, str_cut, str_app, str_eq, string_mk_size, string_mk, X1, X2, X3, X4, XA, XB, lc_block, lc_cond, XZ, undef_eq, Nat.reduceAdd, Nat.reduceSub, ↓reduceIte, basic, cellsL, resOf, setAt, below, belowB, belowA, atomB, Nat.reduceLeDiff, Nat.reduceMul, Int.reduceToNat, Int.reduceLT, Int.reduceLE, Int.reduceAdd, Int.reduceNeg, Int.reduceEq, splice, Nat.reduceEqDiff, Nat.reduceLT, isAtom, Int.reduceSub, Int.reduceMul, implies_true]
  refine (hasPid_spec _ _).use ?_
  cases hpb : K.pidB c.k with
  | false =>
    simp (contextual := true) (implicitDefEqProofs := false) (maxSteps := 2000000) (disch := first | rfl | exact Nat.le_of_ble_eq_true rfl | omega | (simp only [List.length_append, List.length_cons, List.length_nil, List.length_set]; omega)) only [hbM, bin_ladd, str_cut, str_app, str_eq, string_mk_size, string_mk, X1, X2, X3, X4, XA, XB, lc_block, lc_cond, XZ, undef_eq, Nat.reduceAdd, Nat.reduceSub, ↓reduceIte, basic, cellsL, resOf, setAt, below, belowB, belowA, atomB, Nat.reduceLeDiff, Nat.reduceMul, Int.reduceToNat, Int.reduceLT, Int.reduceLE, Int.reduceAdd, Int.reduceNeg, Int.reduceEq, splice, Nat.reduceEqDiff, Nat.reduceLT, isAtom, Int.reduceSub, Int.reduceMul, implies_true]
    exact hfm.ext (by simp)
  | true =>
    simp (contextual := true) (implicitDefEqProofs := false) (maxSteps := 2000000) (disch := first | rfl | exact Nat.le_of_ble_eq_true rfl | omega | (simp only [List.length_append, List.length_cons, List.length_nil, List.length_set]; omega)) only [hbM, hx, hb, bin_ladd, str_cut, str_app, str_eq, string_mk_size, string_mk, X1, X2, X3, X4, XA, XB, lc_block, lc_cond, XZ, undef_eq, Nat.reduceAdd, Nat.reduceSub, ↓reduceIte, basic, cellsL, resOf, setAt, below, belowB, belowA, atomB, Nat.reduceLeDiff, Nat.reduceMul, Int.reduceToNat, Int.reduceLT, Int.reduceLE, Int.reduceAdd, Int.reduceNeg, Int.reduceEq, splice, Nat.reduceEqDiff, Nat.reduceLT, isAtom, Int.reduceSub, Int.reduceMul, implies_true]
    rw [hx2]
    simp only [List.append_assoc, List.cons_append, List.nil_append, if_true]
    first
    | exact ⟨(hfm.nil_trans Frm.refl.app).ext (by simp), rfl⟩
    | exact ⟨(hfm.nil_trans Frm.refl.app).ext (by simp), trivial⟩
    | trace_state
theorem wrong_zero {tb : List UInt8} {ts : Int} {fb : List UInt8} {fs : Int} {tm fm : Bool} {l : List En} {rb pb ib : Bool} {pid : Int} {info : List UInt8} (h : wrongE (rightP tb ts fb fs l) rb pb ib pid info = 0) :
    (l.length ≤ 8 ∧ ordB l = true ∧ ∀ e ∈ (⟨tb, ts, tm⟩ :: ⟨fb, fs, fm⟩ :: l : List En), e.ok = true) ∧ rb = true ∧ (0 ≤ pid ∧ pid ≤ 255) ∧ (pid ≠ 0 → pb = true) ∧ infoE ib info = 0 ∧ info.length ≤ 256 := by
  have hrp : rightP tb ts fb fs l = true := by
    cases hr : rightP tb ts fb fs l with
    | true => rfl
    | false => rw [wrongE, if_pos hr] at h; cases h
  rw [hrp, wrongE, if_neg (by simp)] at h
  split at h
  · cases h
  rename_i hw1
  have hil : info.length ≤ 256 := by
    unfold infoE at h
    split at h
    · cases h
    split at h
    · cases h
    · omega
  refine ⟨rightP_le hrp, ?_, ⟨Int.not_lt.mp fun h => hw1 (.inr (.inl h)), Int.not_lt.mp fun h => hw1 (.inr (.inr (.inl h)))⟩, fun h0 => ?_, h, hil⟩
  · cases rb with
    | true => rfl
    | false => exact absurd (.inl rfl) hw1
  · cases pb with
    | true => rfl
    | false => exact absurd (.inr (.inr (.inr ⟨h0, rfl⟩))) hw1
theorem encF_len {L : List En} {cb : List UInt8} {pb : Bool} {pid : Int} {info : List UInt8} (hL : L.length ≤ 10) (hc : cb.length ≤ 2) (hi : info.length ≤ 256) : (encF L cb pb pid info).length ≤ 331 := by
  unfold encF
  rw [List.length_append, List.length_append, List.length_append, putE_len]
  split
  · simp only [List.length_cons, List.length_nil]; omega
  · simp only [List.length_nil]; omega
theorem bytes_len (c : Ct) (w : Bool) : (c.bytes w).length ≤ 2 := by
  unfold Ct.bytes; rw [K.strL_len]; unfold K.putL8; split
  · simp
  · split <;> simp
theorem ctl_put {c : Ct} {w : Bool} (hc : c.right w = true) (m : Mem) : Ret Tryz.prog 24 [c.val, .bool w] m (.tuple #[str (c.bytes w), .int .i64 0]) m := by
  have := K.ctlput_spec c.k c.ns c.nr c.pf w m
  have hc' : K.rightC c.k c.ns c.nr w = true := hc
  rw [hc'] at this
  exact this
theorem encodes_law {tb : List UInt8} {ts : Int} {fb : List UInt8} {fs : Int} {tm fm : Bool} {dv : Value} {l : List En} {c : Ct} {pid : Int} {info : List UInt8} {w : Bool} {m : Mem}
    (htb : tb.length ≤ 140737488355328) (hfb : fb.length ≤ 140737488355328) (hb : ∀ e ∈ l, e.b.length ≤ 140737488355328) (h : RdN m 3 dv (l.map En.row)) (hl : info.length ≤ 140737488355328) :
    LCall Tryz.prog 3 [frameV tb ts fb fs tm fm dv c pid info, .bool w] m fun v _ => v = .bool true := by
  have h0 := h
  obtain ⟨a, rfl, _⟩ := h.1
  refine LCall_enter Tryz.func3 c3 ?_
  simp (contextual := true) (implicitDefEqProofs := false) (maxSteps := 2000000) (disch := first | rfl | exact Nat.le_of_ble_eq_true rfl | omega | (simp only [List.length_append, List.length_cons, List.length_nil, List.length_set]; omega)) only [L3, X1, X2, X3, X4, XA, XB, lc_block, lc_cond, XZ, undef_eq, Nat.reduceAdd, Nat.reduceSub, ↓reduceIte, basic, cellsL, resOf, setAt, below, belowB, belowA, atomB, Nat.reduceLeDiff, Nat.reduceMul, Int.reduceToNat, Int.reduceLT, Int.reduceLE, Int.reduceAdd, Int.reduceNeg, Int.reduceEq, splice, Nat.reduceEqDiff, Nat.reduceLT, isAtom, Int.reduceSub, Int.reduceMul, implies_true]
  refine (awake07 _).use ?_
  simp (contextual := true) (implicitDefEqProofs := false) (maxSteps := 2000000) (disch := first | rfl | exact Nat.le_of_ble_eq_true rfl | omega | (simp only [List.length_append, List.length_cons, List.length_nil, List.length_set]; omega)) only [X1, X2, X3, X4, XA, XB, lc_block, lc_cond, XZ, undef_eq, Nat.reduceAdd, Nat.reduceSub, ↓reduceIte, basic, cellsL, resOf, setAt, below, belowB, belowA, atomB, Nat.reduceLeDiff, Nat.reduceMul, Int.reduceToNat, Int.reduceLT, Int.reduceLE, Int.reduceAdd, Int.reduceNeg, Int.reduceEq, splice, Nat.reduceEqDiff, Nat.reduceLT, isAtom, Int.reduceSub, Int.reduceMul, implies_true]
  refine great_spec.use ?_
  by_cases hg : 30 < (l.map En.row).length ∨ 2000 < info.length
  · have hg' : (decide (30 < (l.map En.row).length) || decide (2000 < info.length)) = true := by simpa using hg
    rw [hg']
    simp (contextual := true) (implicitDefEqProofs := false) (maxSteps := 2000000) (disch := first | rfl | exact Nat.le_of_ble_eq_true rfl | omega | (simp only [List.length_append, List.length_cons, List.length_nil, List.length_set]; omega)) only [X1, X2, X3, X4, XA, XB, lc_block, lc_cond, XZ, undef_eq, Nat.reduceAdd, Nat.reduceSub, ↓reduceIte, basic, cellsL, resOf, setAt, below, belowB, belowA, atomB, Nat.reduceLeDiff, Nat.reduceMul, Int.reduceToNat, Int.reduceLT, Int.reduceLE, Int.reduceAdd, Int.reduceNeg, Int.reduceEq, splice, Nat.reduceEqDiff, Nat.reduceLT, isAtom, Int.reduceSub, Int.reduceMul, implies_true]
  have hg' : (decide (30 < (l.map En.row).length) || decide (2000 < info.length)) = false := by simpa using hg
  rw [hg']
  have hln : l.length ≤ 30 := by
    have : ¬ 30 < (l.map En.row).length := fun h => hg (.inl h)
    rw [List.length_map] at this; omega
  simp (contextual := true) (implicitDefEqProofs := false) (maxSteps := 2000000) (disch := first | rfl | exact Nat.le_of_ble_eq_true rfl | omega | (simp only [List.length_append, List.length_cons, List.length_nil, List.length_set]; omega)) only [X1, X2, X3, X4, XA, XB, lc_block, lc_cond, XZ, undef_eq, Nat.reduceAdd, Nat.reduceSub, ↓reduceIte, basic, cellsL, resOf, setAt, below, belowB, belowA, atomB, Nat.reduceLeDiff, Nat.reduceMul, Int.reduceToNat, Int.reduceLT, Int.reduceLE, Int.reduceAdd, Int.reduceNeg, Int.reduceEq, splice, Nat.reduceEqDiff, Nat.reduceLT, isAtom, Int.reduceSub, Int.reduceMul, implies_true]
  refine (plainF_spec (l := l) h0.1.app (by omega)).mono ?_
  rintro v M ⟨hf, sv, F, rfl, hs, hF⟩
  obtain ⟨sa, rfl, _⟩ := hs.form
  have hb0 := hf.get0 (i := m.length) (b := ⟨[str tb, .int .i64 ts, str fb, .int .i64 fs, .bool tm, .bool fm, .slice a (l.map En.row).length (l.map En.row).length, .int .i64 c.k, .int .i64 c.ns, .int .i64 c.nr, .bool c.pf, .int .i64 pid, str info], 30, 1, 0, .own⟩) (by simp)
  have l0 := lt_of_some hb0
  have hR : ∀ m, Ret Tryz.prog 45 [c.val, .bool w] m (.bool (c.right w)) m := fun m => K.ctlright_spec c.k c.ns c.nr c.pf w m
  have hRr : ∀ m, Ret Tryz.prog 19 [c.val, .bool w] m (.bool (c.right w)) m := fun m => K.refctlright_spec c.k c.ns c.nr c.pf w m
  have hP : ∀ m, Ret Tryz.prog 26 [.int .i64 c.k] m (.bool (K.pidB c.k)) m := fun m => K.pid_spec c.k m
  have hPr : ∀ m, Ret Tryz.prog 20 [.int .i64 c.k] m (.bool (K.pidB c.k)) m := fun m => hasPid_spec c.k m
  have hI : ∀ m, Ret Tryz.prog 55 [.int .i64 c.k] m (.bool (K.infoB c.k)) m := fun m => K.info_spec c.k m
  have hIr : ∀ m, Ret Tryz.prog 44 [.int .i64 c.k] m (.bool (K.infoB c.k)) m := fun m => hasInfo_spec c.k m
  have hrd : ∀ g, RdN (M ++ g) 3 (.slice a (l.map En.row).length (l.map En.row).length) (l.map En.row) := fun g => h0.frm0 (((Frm.refl (F := []) (m := m)).app.nil_trans hf).app)
  simp (contextual := true) (implicitDefEqProofs := false) (maxSteps := 2000000) (disch := first | rfl | exact Nat.le_of_ble_eq_true rfl | omega | (simp only [List.length_append, List.length_cons, List.length_nil, List.length_set]; omega)) only [X1, X2, X3, X4, XA, XB, lc_block, lc_cond, XZ, undef_eq, Nat.reduceAdd, Nat.reduceSub, ↓reduceIte, basic, cellsL, resOf, setAt, below, belowB, belowA, atomB, Nat.reduceLeDiff, Nat.reduceMul, Int.reduceToNat, Int.reduceLT, Int.reduceLE, Int.reduceAdd, Int.reduceNeg, Int.reduceEq, splice, Nat.reduceEqDiff, Nat.reduceLT, isAtom, Int.reduceSub, Int.reduceMul, implies_true]
  refine (rwrong_spec (x := ⟨tb, ts, tm⟩) (y := ⟨fb, fs, fm⟩) (l := l) (c := c) (wide := w) (Sl.rd hs).app (by omega) hRr hPr hIr hl).use ?_
  have hwr : ∀ g, Ret Tryz.prog 9 [frameV tb ts fb fs tm fm (.slice a (l.map En.row).length (l.map En.row).length) c pid info, .bool w] (M ++ g) (.bool (decide (wrongE (rightP tb ts fb fs l) (c.right w) (K.pidB c.k) (K.infoB c.k) pid info = 0))) (M ++ g) := fun g => right_frame htb hfb hb (hrd g).1 (by omega) hR hP hI hl
  by_cases hw : wrongE (rightP tb ts fb fs l) (c.right w) (K.pidB c.k) (K.infoB c.k) pid info = 0
  · obtain ⟨⟨hl8, hB, hok⟩, hcr, hpid, hp0, hi, hil⟩ := wrong_zero (tm := tm) (fm := fm) hw
    have henc : ∀ g, Ret Tryz.prog 8 [frameV tb ts fb fs tm fm (.slice a (l.map En.row).length (l.map En.row).length) c pid info, .bool w] (M ++ g) (.tuple #[str (encF (⟨tb, ts, tm⟩ :: ⟨fb, fs, fm⟩ :: l) (c.bytes w) (K.pidB c.k) pid info), .int .i64 0]) (M ++ g) := fun g => encode_spec (hrd g) hR hP hI (ctl_put hcr) (by have := bytes_len c w; omega) hw
    have hren : ∀ (m : Mem) (v : Value), Rd m 3 v ((⟨tb, ts, tm⟩ :: ⟨fb, fs, fm⟩ :: l : List En).map En.row) → Ret Tryz.prog 11 [rframeV v c pid info, .bool w] m (str (encF (⟨tb, ts, tm⟩ :: ⟨fb, fs, fm⟩ :: l) (c.bytes w) (K.pidB c.k) pid info)) m := fun m v hr => renc_spec hr (by simp only [List.length_cons]; omega) hok hcr hpid hil
    have hdec := decF_enc (L := ⟨tb, ts, tm⟩ :: ⟨fb, fs, fm⟩ :: l) (c := c) (w := w) (pid := pid) (info := info) hok (by simp) (by simp only [List.length_cons]; omega) hB hcr hpid hp0 hi
    have hel := encF_len (L := ⟨tb, ts, tm⟩ :: ⟨fb, fs, fm⟩ :: l) (cb := c.bytes w) (pb := K.pidB c.k) (pid := pid) (info := info) (by simp only [List.length_cons]; omega) (bytes_len c w) hil
    generalize encF (⟨tb, ts, tm⟩ :: ⟨fb, fs, fm⟩ :: l) (c.bytes w) (K.pidB c.k) pid info = B at henc hren hdec hel ⊢
    rw [hw] at hwr ⊢
    simp (contextual := true) (implicitDefEqProofs := false) (maxSteps := 2000000) (disch := first | rfl | exact Nat.le_of_ble_eq_true rfl | omega | (simp only [List.length_append, List.length_cons, List.length_nil, List.length_set]; omega)) only [hb0, X1, X2, X3, X4, XA, XB, lc_block, lc_cond, XZ, undef_eq, Nat.reduceAdd, Nat.reduceSub, ↓reduceIte, basic, cellsL, resOf, setAt, below, belowB, belowA, atomB, Nat.reduceLeDiff, Nat.reduceMul, Int.reduceToNat, Int.reduceLT, Int.reduceLE, Int.reduceAdd, Int.reduceNeg, Int.reduceEq, splice, Nat.reduceEqDiff, Nat.reduceLT, isAtom, Int.reduceSub, Int.reduceMul, implies_true]
    refine (henc _).use ?_
    simp (contextual := true) (implicitDefEqProofs := false) (maxSteps := 2000000) (disch := first | rfl | exact Nat.le_of_ble_eq_true rfl | omega | (simp only [List.length_append, List.length_cons, List.length_nil, List.length_set]; omega)) only [hb0, X1, X2, X3, X4, XA, XB, lc_block, lc_cond, XZ, undef_eq, Nat.reduceAdd, Nat.reduceSub, ↓reduceIte, basic, cellsL, resOf, setAt, below, belowB, belowA, atomB, Nat.reduceLeDiff, Nat.reduceMul, Int.reduceToNat, Int.reduceLT, Int.reduceLE, Int.reduceAdd, Int.reduceNeg, Int.reduceEq, splice, Nat.reduceEqDiff, Nat.reduceLT, isAtom, Int.reduceSub, Int.reduceMul, implies_true]
    refine (hwr _).use ?_
    simp (contextual := true) (implicitDefEqProofs := false) (maxSteps := 2000000) (disch := first | rfl | exact Nat.le_of_ble_eq_true rfl | omega | (simp only [List.length_append, List.length_cons, List.length_nil, List.length_set]; omega)) only [X1, X2, X3, X4, XA, XB, lc_block, lc_cond, XZ, undef_eq, Nat.reduceAdd, Nat.reduceSub, ↓reduceIte, basic, cellsL, resOf, setAt, below, belowB, belowA, atomB, Nat.reduceLeDiff, Nat.reduceMul, Int.reduceToNat, Int.reduceLT, Int.reduceLE, Int.reduceAdd, Int.reduceNeg, Int.reduceEq, splice, Nat.reduceEqDiff, Nat.reduceLT, isAtom, Int.reduceSub, Int.reduceMul, implies_true]
    refine (decode_spec B w (by omega) _).mono ?_
    rintro v M2 ⟨hf2, hv2⟩
    rw [hdec] at hv2
    simp only [if_true] at hv2
    obtain ⟨x, y, l', sv2, F2, hL, rfl, hs2, hF2⟩ := hv2
    obtain ⟨rfl, h2⟩ := List.cons.inj hL
    obtain ⟨rfl, rfl⟩ := List.cons.inj h2
    clear hL h2
    obtain ⟨sa2, rfl, _⟩ := hs2.form
    have hb5 := hf2.get0 (i := M.length) (b := ⟨[.slice sa ((⟨tb, ts, tm⟩ :: ⟨fb, fs, fm⟩ :: l : List En).map En.row).length ((⟨tb, ts, tm⟩ :: ⟨fb, fs, fm⟩ :: l : List En).map En.row).length, .int .i64 c.k, .int .i64 c.ns, .int .i64 c.nr, .bool c.pf, .int .i64 pid, str info], 38, 1, 0, .own⟩) (by simp)
    have l5 := lt_of_some hb5
    have hrs2 : Rd M2 3 (.slice sa ((⟨tb, ts, tm⟩ :: ⟨fb, fs, fm⟩ :: l : List En).map En.row).length ((⟨tb, ts, tm⟩ :: ⟨fb, fs, fm⟩ :: l : List En).map En.row).length) ((⟨tb, ts, tm⟩ :: ⟨fb, fs, fm⟩ :: l : List En).map En.row) := ((Sl.rd hs).app).frm0 hf2
    have hq : ((⟨tb, ts, tm⟩ :: ⟨fb, fs, fm⟩ :: l : List En).map En.row).length = l.length + 1 + 1 := by simp
    simp (contextual := true) (implicitDefEqProofs := false) (maxSteps := 2000000) (disch := first | rfl | exact Nat.le_of_ble_eq_true rfl | omega | (simp only [List.length_append, List.length_cons, List.length_nil, List.length_set]; omega)) only [hb5, X1, X2, X3, X4, XA, XB, lc_block, lc_cond, XZ, undef_eq, Nat.reduceAdd, Nat.reduceSub, ↓reduceIte, basic, cellsL, resOf, setAt, below, belowB, belowA, atomB, Nat.reduceLeDiff, Nat.reduceMul, Int.reduceToNat, Int.reduceLT, Int.reduceLE, Int.reduceAdd, Int.reduceNeg, Int.reduceEq, splice, Nat.reduceEqDiff, Nat.reduceLT, isAtom, Int.reduceSub, Int.reduceMul, implies_true]
    refine (hren _ _ hrs2.app).use ?_
    simp (contextual := true) (implicitDefEqProofs := false) (maxSteps := 2000000) (disch := first | rfl | exact Nat.le_of_ble_eq_true rfl | omega | (simp only [List.length_append, List.length_cons, List.length_nil, List.length_set]; omega)) only [hb5, bin_ladd, str_cut, str_app, str_eq, string_mk_size, string_mk, X1, X2, X3, X4, XA, XB, lc_block, lc_cond, XZ, undef_eq, Nat.reduceAdd, Nat.reduceSub, ↓reduceIte, basic, cellsL, resOf, setAt, below, belowB, belowA, atomB, Nat.reduceLeDiff, Nat.reduceMul, Int.reduceToNat, Int.reduceLT, Int.reduceLE, Int.reduceAdd, Int.reduceNeg, Int.reduceEq, splice, Nat.reduceEqDiff, Nat.reduceLT, isAtom, Int.reduceSub, Int.reduceMul, implies_true]
    refine (plainF_spec (l := l) (c := c) ((Sl.rd hs2).app) (by omega)).mono ?_
    rintro v M4 ⟨hf4, sv4, F4, rfl, hs4, hF4⟩
    obtain ⟨sa4, rfl, _⟩ := hs4.form
    have hb54 := hf4.get0 (i := M.length) (b := ⟨[.slice sa ((⟨tb, ts, tm⟩ :: ⟨fb, fs, fm⟩ :: l : List En).map En.row).length ((⟨tb, ts, tm⟩ :: ⟨fb, fs, fm⟩ :: l : List En).map En.row).length, .int .i64 c.k, .int .i64 c.ns, .int .i64 c.nr, .bool c.pf, .int .i64 pid, str info], 38, 1, 0, .own⟩) (by rw [List.getElem?_append_left l5]; exact hb5)
    have hb94 := hf4.get0 (i := M2.length) (b := ⟨[str tb, .int .i64 ts, str fb, .int .i64 fs, .bool tm, .bool fm, .slice sa2 (l.map En.row).length (l.map En.row).length, .int .i64 c.k, .int .i64 c.ns, .int .i64 c.nr, .bool c.pf, .int .i64 pid, str info], 30, 1, 0, .own⟩) (by simp)
    have l54 := lt_of_some hb54
    have l94 := lt_of_some hb94
    have hrs4 := (hrs2.app (g := [⟨[str tb, .int .i64 ts, str fb, .int .i64 fs, .bool tm, .bool fm, .slice sa2 (l.map En.row).length (l.map En.row).length, .int .i64 c.k, .int .i64 c.ns, .int .i64 c.nr, .bool c.pf, .int .i64 pid, str info], 30, 1, 0, .own⟩])).frm0 hf4
    simp (contextual := true) (implicitDefEqProofs := false) (maxSteps := 2000000) (disch := first | rfl | exact Nat.le_of_ble_eq_true rfl | omega | (simp only [List.length_append, List.length_cons, List.length_nil, List.length_set]; omega)) only [hb54, hb94, bin_ladd, str_cut, str_app, str_eq, string_mk_size, string_mk, X1, X2, X3, X4, XA, XB, lc_block, lc_cond, XZ, undef_eq, Nat.reduceAdd, Nat.reduceSub, ↓reduceIte, basic, cellsL, resOf, setAt, below, belowB, belowA, atomB, Nat.reduceLeDiff, Nat.reduceMul, Int.reduceToNat, Int.reduceLT, Int.reduceLE, Int.reduceAdd, Int.reduceNeg, Int.reduceEq, splice, Nat.reduceEqDiff, Nat.reduceLT, isAtom, Int.reduceSub, Int.reduceMul, implies_true]
    refine (sameF_spec (L := (⟨tb, ts, tm⟩ :: ⟨fb, fs, fm⟩ :: l : List En)) (Sl.rd hs4) hrs4 (by simp only [List.length_cons]; omega)).use ?_
    have h331 : ((B.length : Int) ≤ 331) = True := eq_true (by omega)
    simp (contextual := true) (implicitDefEqProofs := false) (maxSteps := 2000000) (disch := first | rfl | exact Nat.le_of_ble_eq_true rfl | omega | (simp only [List.length_append, List.length_cons, List.length_nil, List.length_set]; omega)) only [hb54, hb94, bin_ladd, str_cut, str_app, str_eq, string_mk_size, string_mk, h331, X1, X2, X3, X4, XA, XB, lc_block, lc_cond, XZ, undef_eq, Nat.reduceAdd, Nat.reduceSub, ↓reduceIte, basic, cellsL, resOf, setAt, below, belowB, belowA, atomB, Nat.reduceLeDiff, Nat.reduceMul, Int.reduceToNat, Int.reduceLT, Int.reduceLE, Int.reduceAdd, Int.reduceNeg, Int.reduceEq, splice, Nat.reduceEqDiff, Nat.reduceLT, isAtom, Int.reduceSub, Int.reduceMul, implies_true]
  · have henc : ∀ g, Ret Tryz.prog 8 [frameV tb ts fb fs tm fm (.slice a (l.map En.row).length (l.map En.row).length) c pid info, .bool w] (M ++ g) (.tuple #[.string ⟨#[]⟩, .int .i64 (wrongE (rightP tb ts fb fs l) (c.right w) (K.pidB c.k) (K.infoB c.k) pid info)]) (M ++ g) := fun g => encode_wrong htb hfb hb (hrd g).1 (by omega) hR hP hI hl hw
    have hw' := eq_false hw
    have hd : decide (wrongE (rightP tb ts fb fs l) (c.right w) (K.pidB c.k) (K.infoB c.k) pid info = 0) = false := decide_eq_false hw
    rw [hd] at hwr
    generalize wrongE (rightP tb ts fb fs l) (c.right w) (K.pidB c.k) (K.infoB c.k) pid info = W at henc hw' ⊢
    simp (contextual := true) (implicitDefEqProofs := false) (maxSteps := 2000000) (disch := first | rfl | exact Nat.le_of_ble_eq_true rfl | omega | (simp only [List.length_append, List.length_cons, List.length_nil, List.length_set]; omega)) only [hb0, X1, X2, X3, X4, XA, XB, lc_block, lc_cond, XZ, undef_eq, Nat.reduceAdd, Nat.reduceSub, ↓reduceIte, basic, cellsL, resOf, setAt, below, belowB, belowA, atomB, Nat.reduceLeDiff, Nat.reduceMul, Int.reduceToNat, Int.reduceLT, Int.reduceLE, Int.reduceAdd, Int.reduceNeg, Int.reduceEq, splice, Nat.reduceEqDiff, Nat.reduceLT, isAtom, Int.reduceSub, Int.reduceMul, implies_true]
    refine (henc _).use ?_
    simp (contextual := true) (implicitDefEqProofs := false) (maxSteps := 2000000) (disch := first | rfl | exact Nat.le_of_ble_eq_true rfl | omega | (simp only [List.length_append, List.length_cons, List.length_nil, List.length_set]; omega)) only [hb0, X1, X2, X3, X4, XA, XB, lc_block, lc_cond, XZ, undef_eq, Nat.reduceAdd, Nat.reduceSub, ↓reduceIte, basic, cellsL, resOf, setAt, below, belowB, belowA, atomB, Nat.reduceLeDiff, Nat.reduceMul, Int.reduceToNat, Int.reduceLT, Int.reduceLE, Int.reduceAdd, Int.reduceNeg, Int.reduceEq, splice, Nat.reduceEqDiff, Nat.reduceLT, isAtom, Int.reduceSub, Int.reduceMul, implies_true]
    refine (hwr _).use ?_
    simp (contextual := true) (implicitDefEqProofs := false) (maxSteps := 2000000) (disch := first | rfl | exact Nat.le_of_ble_eq_true rfl | omega | (simp only [List.length_append, List.length_cons, List.length_nil, List.length_set]; omega)) only [hw', X1, X2, X3, X4, XA, XB, lc_block, lc_cond, XZ, undef_eq, Nat.reduceAdd, Nat.reduceSub, ↓reduceIte, basic, cellsL, resOf, setAt, below, belowB, belowA, atomB, Nat.reduceLeDiff, Nat.reduceMul, Int.reduceToNat, Int.reduceLT, Int.reduceLE, Int.reduceAdd, Int.reduceNeg, Int.reduceEq, splice, Nat.reduceEqDiff, Nat.reduceLT, isAtom, Int.reduceSub, Int.reduceMul, implies_true]
theorem en_of {m : Mem} {n : Nat} {xs : List Value} (h : TyL Tryz.prog m (n + 3) 83 xs) : ∃ e : En, xs = e.row ∧ e.b.length ≤ 140737488355328 := by
  obtain ⟨x1, _, rfl, h1, x2, _, rfl, h2, rfl⟩ := h.struct Tryz.underlying83 rfl
  obtain ⟨y1, _, rfl, k1, y2, _, rfl, k2, rfl⟩ := h1.struct Tryz.underlying23 rfl
  obtain ⟨s, rfl, hs⟩ := k1.text Tryz.underlying9
  obtain ⟨a, rfl, _⟩ := k2.int Tryz.underlying3
  obtain ⟨b, rfl⟩ := h2.bool Tryz.underlying4
  obtain ⟨l, rfl⟩ := str_is s
  exact ⟨⟨l, a, b⟩, rfl, by rw [string_mk_size] at hs; exact Nat.le_trans hs (by decide)⟩
theorem ens_rdn {m : Mem} {v : Value} {cells : List Value} {k : Nat} (h : SlIn m 3 cells k v) {l : List En} (hk : l.length = k) (hc : cells = (l.map En.row).flatten) : RdN m 3 v (l.map En.row) := by
  subst hk hc
  have hl := flatten_length (f := En.row) (s := 3) (fun _ => rfl) l
  constructor
  · obtain ⟨a, rfl, _, hf⟩ := h.form
    refine ⟨a, by simp, fun hp => ?_⟩
    simp only [List.length_map] at hp
    obtain ⟨i, T, rfl, hm, hi⟩ := hf hp
    refine ⟨i, 0, _, T, 0, .ro, rfl, hm, rfl, by simp only [List.length_map]; omega, fun j r hr => ?_⟩
    rw [List.getElem?_map] at hr
    obtain ⟨c, hc, rfl⟩ := Option.map_eq_some_iff.mp hr
    rw [Nat.zero_add]
    exact flatten_part (f := En.row) (s := 3) (fun _ => rfl) l j c hc
  · intro M hM
    rcases h with ⟨rfl, h1, _⟩ | ⟨i, T, k, h | h⟩
    · rw [h1]; rfl
    · obtain ⟨rfl, hm, rfl, _⟩ := h
      rw [new_sl, hM.get0 hm, cellsB_l rfl (by omega), List.drop_zero, List.take_of_length_le (by omega)]
      rfl
    · obtain ⟨rfl, hm, h1, _⟩ := h
      rw [h1, new_sl, hM.get0 hm, Nat.zero_mul]
      simp [cellsB, Kind.live, orNil]
theorem frameencodes_all (m : Mem) (vs : List Value) (h : F2 (TyV Tryz.prog m 6) [30, 4] vs) : LCall Tryz.prog 3 vs m fun v _ => v = .bool true := by
  obtain ⟨u, v, rfl, h1, h2⟩ := h.two_inv
  obtain ⟨b, rfl⟩ := h2.bool Tryz.underlying4
  obtain ⟨_, rfl, x1, _, rfl, k1, x2, _, rfl, k2, x3, _, rfl, k3, x4, _, rfl, k4, rfl⟩ := h1.struct Tryz.underlying30 rfl
  obtain ⟨y1, _, rfl, p1, y2, _, rfl, p2, y3, _, rfl, p3, y4, _, rfl, p4, y5, _, rfl, p5, rfl⟩ := k1.struct Tryz.underlying26 rfl
  obtain ⟨z1, _, rfl, q1, z2, _, rfl, q2, rfl⟩ := p1.struct Tryz.underlying23 rfl
  obtain ⟨w1, _, rfl, r1, w2, _, rfl, r2, rfl⟩ := p2.struct Tryz.underlying23 rfl
  obtain ⟨t1, rfl, b1⟩ := q1.text Tryz.underlying9
  obtain ⟨ts, rfl, _⟩ := q2.int Tryz.underlying3
  obtain ⟨t2, rfl, b2⟩ := r1.text Tryz.underlying9
  obtain ⟨fs, rfl, _⟩ := r2.int Tryz.underlying3
  obtain ⟨tb, rfl⟩ := str_is t1
  obtain ⟨fb, rfl⟩ := str_is t2
  rw [string_mk_size] at b1 b2
  obtain ⟨tm, rfl⟩ := p3.bool Tryz.underlying4
  obtain ⟨fm, rfl⟩ := p4.bool Tryz.underlying4
  obtain ⟨dv, cells, q, rfl, hs, hty⟩ := p5.slice Tryz.underlying24 (sz := 3) (by kernel_rfl)
  obtain ⟨l, hq, hcells, hcb⟩ := hty.map (f := En.row) fun xs hx => en_of hx
  obtain ⟨c1, _, rfl, u1, c2, _, rfl, u2, c3, _, rfl, u3, c4, _, rfl, u4, rfl⟩ := k2.struct Tryz.underlying28 rfl
  obtain ⟨ck, rfl, _⟩ := u1.int Tryz.underlying3
  obtain ⟨cr, rfl, _⟩ := u2.int Tryz.underlying3
  obtain ⟨cs, rfl, _⟩ := u3.int Tryz.underlying3
  obtain ⟨cp, rfl⟩ := u4.bool Tryz.underlying4
  obtain ⟨pid, rfl, _⟩ := k3.int Tryz.underlying3
  obtain ⟨t3, rfl, b3⟩ := k4.text Tryz.underlying9
  obtain ⟨info, rfl⟩ := str_is t3
  rw [string_mk_size] at b3
  exact encodes_law (c := ⟨ck, cr, cs, cp⟩) (Nat.le_trans b1 (by decide)) (Nat.le_trans b2 (by decide)) hcb (ens_rdn hs hq hcells) (Nat.le_trans b3 (by decide))
end Go.Proofs.YtenbkoalanfdhaaGreatDoor
