/- Names and kinds of controls; their bytes: walked. -/
import Derived.Test.YtenbkoalanfdhaaDoorZKA
namespace Go.Proofs.YtenbkoalanfdhaaDoor.K
open Go.Lg
set_option maxRecDepth 8000
set_option maxHeartbeats 8000000
set_option linter.unusedSimpArgs false
set_option linter.unnecessarySimpa false
set_option linter.unusedVariables false

def nameL : List ByteArray := [⟨#[]⟩, ⟨#[73]⟩, ⟨#[82, 82]⟩, ⟨#[82, 78, 82]⟩, ⟨#[82, 69, 74]⟩, ⟨#[83, 82, 69, 74]⟩, ⟨#[83, 65, 66, 77]⟩, ⟨#[83, 65, 66, 77, 69]⟩, ⟨#[68, 73, 83, 67]⟩, ⟨#[68, 77]⟩, ⟨#[85, 65]⟩, ⟨#[70, 82, 77, 82]⟩, ⟨#[85, 73]⟩, ⟨#[88, 73, 68]⟩, ⟨#[84, 69, 83, 84]⟩]

def nameS (k : Int) : ByteArray := if k < 1 ∨ 14 < k then ⟨#[]⟩ else nameL.getD k.toNat ⟨#[]⟩

theorem kind_cases {k : Int} (h : 1 ≤ k ∧ k ≤ 14) : k = 1 ∨ k = 2 ∨ k = 3 ∨ k = 4 ∨ k = 5 ∨ k = 6 ∨ k = 7 ∨ k = 8 ∨ k = 9 ∨ k = 10 ∨ k = 11 ∨ k = 12 ∨ k = 13 ∨ k = 14 := by omega

theorem name_spec (k : Int) (m : Mem) : Ret Tryd.prog 113 [.int .i64 k] m (.string (nameS k)) m := by
  by_cases h : 1 ≤ k ∧ k ≤ 14
  · rcases kind_cases h with rfl | rfl | rfl | rfl | rfl | rfl | rfl | rfl | rfl | rfl | rfl | rfl | rfl | rfl <;>
      exact run_alone tab_ok (n := 100) (d := 20) (by kernel_rfl) rfl rfl m
  · have e : nameS k = ⟨#[]⟩ := by unfold nameS; rw [if_pos (by omega)]
    rw [e]
    refine LCall_drop (LCall_enter Tryd.func113 c113 ?_)
    by_cases h1 : k < 1
    · simp (contextual := true) (implicitDefEqProofs := false) (maxSteps := 2000000) (disch := first | rfl | exact Nat.le_of_ble_eq_true rfl | omega | (simp only [List.length_append, List.length_cons, List.length_nil, List.length_set]; omega)) only [L113, h1, X1, X2, X3, X4, XA, XB, lc_block, lc_cond, XZ, undef_eq, Nat.reduceAdd, Nat.reduceSub, ↓reduceIte, basic, cellsL, resOf, setAt, below, belowB, belowA, atomB, Nat.reduceLeDiff, Nat.reduceMul, Int.reduceToNat, Int.reduceLT, Int.reduceLE, Int.reduceAdd, Int.reduceNeg, Int.reduceEq, splice, Nat.reduceEqDiff, Nat.reduceLT, isAtom, Int.reduceSub, Int.reduceMul, implies_true]
    · have h2 : (14 < k) = True := by simp; omega
      simp (contextual := true) (implicitDefEqProofs := false) (maxSteps := 2000000) (disch := first | rfl | exact Nat.le_of_ble_eq_true rfl | omega | (simp only [List.length_append, List.length_cons, List.length_nil, List.length_set]; omega)) only [L113, h1, h2, X1, X2, X3, X4, XA, XB, lc_block, lc_cond, XZ, undef_eq, Nat.reduceAdd, Nat.reduceSub, ↓reduceIte, basic, cellsL, resOf, setAt, below, belowB, belowA, atomB, Nat.reduceLeDiff, Nat.reduceMul, Int.reduceToNat, Int.reduceLT, Int.reduceLE, Int.reduceAdd, Int.reduceNeg, Int.reduceEq, splice, Nat.reduceEqDiff, Nat.reduceLT, isAtom, Int.reduceSub, Int.reduceMul, implies_true]

theorem name_empty {k : Int} : nameS k = ⟨#[]⟩ ↔ ¬ (1 ≤ k ∧ k ≤ 14) := by
  constructor
  · intro h h2
    rcases kind_cases h2 with rfl | rfl | rfl | rfl | rfl | rfl | rfl | rfl | rfl | rfl | rfl | rfl | rfl | rfl <;> exact absurd h (by decide)
  · intro h; unfold nameS; rw [if_pos (by omega)]

theorem sup_spec (k : Int) (m : Mem) : Ret Tryd.prog 115 [.int .i64 k] m (.bool (supB k)) m := by
  refine LCall_drop (LCall_enter Tryd.func115 c115 ?_)
  by_cases h1 : 2 ≤ k <;> by_cases h2 : k ≤ 5 <;> simp (contextual := true) (implicitDefEqProofs := false) (maxSteps := 2000000) (disch := first | rfl | exact Nat.le_of_ble_eq_true rfl | omega | (simp only [List.length_append, List.length_cons, List.length_nil, List.length_set]; omega)) only [L115, h1, h2, supB, X1, X2, X3, X4, XA, XB, lc_block, lc_cond, XZ, undef_eq, Nat.reduceAdd, Nat.reduceSub, ↓reduceIte, basic, cellsL, resOf, setAt, below, belowB, belowA, atomB, Nat.reduceLeDiff, Nat.reduceMul, Int.reduceToNat, Int.reduceLT, Int.reduceLE, Int.reduceAdd, Int.reduceNeg, Int.reduceEq, splice, Nat.reduceEqDiff, Nat.reduceLT, isAtom, Int.reduceSub, Int.reduceMul, implies_true]

theorem pid_spec (k : Int) (m : Mem) : Ret Tryd.prog 74 [.int .i64 k] m (.bool (pidB k)) m := by
  refine LCall_drop (LCall_enter Tryd.func74 c74 ?_)
  by_cases h1 : k = 1 <;> by_cases h2 : k = 12 <;> simp (contextual := true) (implicitDefEqProofs := false) (maxSteps := 2000000) (disch := first | rfl | exact Nat.le_of_ble_eq_true rfl | omega | (simp only [List.length_append, List.length_cons, List.length_nil, List.length_set]; omega)) only [L74, h1, h2, pidB, X1, X2, X3, X4, XA, XB, lc_block, lc_cond, XZ, undef_eq, Nat.reduceAdd, Nat.reduceSub, ↓reduceIte, basic, cellsL, resOf, setAt, below, belowB, belowA, atomB, Nat.reduceLeDiff, Nat.reduceMul, Int.reduceToNat, Int.reduceLT, Int.reduceLE, Int.reduceAdd, Int.reduceNeg, Int.reduceEq, splice, Nat.reduceEqDiff, Nat.reduceLT, isAtom, Int.reduceSub, Int.reduceMul, implies_true]
  all_goals simp_all [pidB]

/-- The first place of a number in a row. -/
theorem index_spec (i T : Nat) (l : List Int) (v : Int) (m : Mem) (hm : m[i]? = some ⟨l.map (Value.int .i64 ·), T, 1, 0, .own⟩) (hl : l.length ≤ 1000) (K : Value → Mem → Prop)
    (h1 : ∀ k : Nat, l[k]? = some v → (∀ j, j < k → l[j]? ≠ some v) → K (.int .i64 (k : Int)) m) (h2 : v ∉ l → K (.int .i64 (-1)) m) :
    LCall Tryd.prog 130 [.slice (some ⟨i, 0, none⟩) l.length l.length, .int .i64 v] m K := by
  have hi : i < m.length := (List.getElem?_eq_some_iff.mp hm).1
  refine LCall_drop (LCall_enter Tryd.func130 c130 ?_)
  simp (contextual := true) (implicitDefEqProofs := false) (maxSteps := 2000000) (disch := first | rfl | exact Nat.le_of_ble_eq_true rfl | omega | (simp only [List.length_append, List.length_cons, List.length_nil, List.length_set]; omega)) only [L130, X1, X2, X3, X4, XA, XB, lc_block, lc_cond, XZ, undef_eq, Nat.reduceAdd, Nat.reduceSub, ↓reduceIte, basic, cellsL, resOf, setAt, below, belowB, belowA, atomB, Nat.reduceLeDiff, Nat.reduceMul, Int.reduceToNat, Int.reduceLT, Int.reduceLE, Int.reduceAdd, Int.reduceNeg, Int.reduceEq, splice, Nat.reduceEqDiff, Nat.reduceLT, isAtom, Int.reduceSub, Int.reduceMul, implies_true]
  refine loop_inv (fun n t m' => ∃ (k : Nat), n = l.length - k ∧ k ≤ l.length ∧ (∀ j, j < k → l[j]? ≠ some v) ∧
    Tab 19 [(0, .slice (some ⟨i, 0, none⟩) l.length l.length), (1, .int .i64 v), (7, .int .i64 (l.length : Int)), (8, .int .i64 (k : Int))] t ∧ m' = m) (n := l.length) ?_ ?_
  · exact ⟨0, rfl, Nat.zero_le _, fun j hj => absurd hj (Nat.not_lt_zero _), ⟨rfl, by simp⟩, rfl⟩
  rintro n t m' ⟨k, rfl, hk, hno, ht, rfl⟩
  obtain ⟨f, rfl⟩ : ∃ f : Nat → Value, t = [.slice (some ⟨i, 0, none⟩) l.length l.length, .int .i64 v, f 2, f 3, f 4, f 5, f 6, .int .i64 (l.length : Int), .int .i64 (k : Int), f 9, f 10, f 11, f 12, f 13, f 14, f 15, f 16, f 17, f 18] := ht.open fun f => rfl
  by_cases hlt : k < l.length
  · have hlt' : ((k : Int) < (l.length : Int)) = True := by simp [hlt]
    have h0 : ((0 : Int) ≤ (k : Int)) = True := by simp
    obtain ⟨x, hx⟩ : ∃ x, l[k]? = some x := ⟨l[k], List.getElem?_eq_getElem hlt⟩
    have hc : (l.map (Value.int .i64 ·))[k]? = some (.int .i64 x) := by simp [hx]
    simp (contextual := true) (implicitDefEqProofs := false) (maxSteps := 2000000) (disch := first | rfl | exact Nat.le_of_ble_eq_true rfl | omega | (simp only [List.length_append, List.length_cons, List.length_nil, List.length_set]; omega)) only [hm, hlt', h0, Int.toNat_natCast, hc, X1, X2, X3, X4, XA, XB, lc_block, lc_cond, XZ, undef_eq, Nat.reduceAdd, Nat.reduceSub, ↓reduceIte, basic, cellsL, resOf, setAt, below, belowB, belowA, atomB, Nat.reduceLeDiff, Nat.reduceMul, Int.reduceToNat, Int.reduceLT, Int.reduceLE, Int.reduceAdd, Int.reduceNeg, Int.reduceEq, splice, Nat.reduceEqDiff, Nat.reduceLT, isAtom, Int.reduceSub, Int.reduceMul, implies_true]
    refine ifI (fun h => ?_) (fun h => ?_)
    · exact h1 k (by rw [hx, h]) hno
    · exact kInv_go ⟨k + 1, rfl, by omega, fun j hj => by
        rcases Nat.lt_succ_iff_lt_or_eq.1 hj with h' | rfl
        · exact hno j h'
        · rw [hx]; exact fun e => h (by simpa using e.symm), ⟨rfl, by simp⟩, rfl⟩ (by omega)
  · have hlt' : ((k : Int) < (l.length : Int)) = False := by simp; omega
    simp (contextual := true) (implicitDefEqProofs := false) (maxSteps := 2000000) (disch := first | rfl | exact Nat.le_of_ble_eq_true rfl | omega | (simp only [List.length_append, List.length_cons, List.length_nil, List.length_set]; omega)) only [hlt', X1, X2, X3, X4, XA, XB, lc_block, lc_cond, XZ, undef_eq, Nat.reduceAdd, Nat.reduceSub, ↓reduceIte, basic, cellsL, resOf, setAt, below, belowB, belowA, atomB, Nat.reduceLeDiff, Nat.reduceMul, Int.reduceToNat, Int.reduceLT, Int.reduceLE, Int.reduceAdd, Int.reduceNeg, Int.reduceEq, splice, Nat.reduceEqDiff, Nat.reduceLT, isAtom, Int.reduceSub, Int.reduceMul, implies_true]
    refine h2 fun hmem => ?_
    obtain ⟨j, hj, rfl⟩ := List.getElem_of_mem hmem
    exact hno j (by omega) (List.getElem?_eq_getElem hj)

theorem contains_spec (i T : Nat) (l : List Int) (v : Int) (m : Mem) (hm : m[i]? = some ⟨l.map (Value.int .i64 ·), T, 1, 0, .own⟩) (hl : l.length ≤ 1000) :
    Ret Tryd.prog 131 [.slice (some ⟨i, 0, none⟩) l.length l.length, .int .i64 v] m (.bool (decide (v ∈ l))) m := by
  refine LCall_drop (LCall_enter Tryd.func131 c131 ?_)
  simp (contextual := true) (implicitDefEqProofs := false) (maxSteps := 2000000) (disch := first | rfl | exact Nat.le_of_ble_eq_true rfl | omega | (simp only [List.length_append, List.length_cons, List.length_nil, List.length_set]; omega)) only [L131, X1, X2, X3, X4, XA, XB, lc_block, lc_cond, XZ, undef_eq, Nat.reduceAdd, Nat.reduceSub, ↓reduceIte, basic, cellsL, resOf, setAt, below, belowB, belowA, atomB, Nat.reduceLeDiff, Nat.reduceMul, Int.reduceToNat, Int.reduceLT, Int.reduceLE, Int.reduceAdd, Int.reduceNeg, Int.reduceEq, splice, Nat.reduceEqDiff, Nat.reduceLT, isAtom, Int.reduceSub, Int.reduceMul, implies_true]
  refine index_spec i T l v m hm hl _ (fun k hk _ => ?_) (fun h => ?_)
  · have h0 : ((0 : Int) ≤ (k : Int)) = True := by simp
    have hmem : v ∈ l := List.mem_of_getElem? hk
    simp (contextual := true) (implicitDefEqProofs := false) (maxSteps := 2000000) (disch := first | rfl | exact Nat.le_of_ble_eq_true rfl | omega | (simp only [List.length_append, List.length_cons, List.length_nil, List.length_set]; omega)) only [h0, hmem, X1, X2, X3, X4, XA, XB, lc_block, lc_cond, XZ, undef_eq, Nat.reduceAdd, Nat.reduceSub, ↓reduceIte, basic, cellsL, resOf, setAt, below, belowB, belowA, atomB, Nat.reduceLeDiff, Nat.reduceMul, Int.reduceToNat, Int.reduceLT, Int.reduceLE, Int.reduceAdd, Int.reduceNeg, Int.reduceEq, splice, Nat.reduceEqDiff, Nat.reduceLT, isAtom, Int.reduceSub, Int.reduceMul, implies_true]
  · simp (contextual := true) (implicitDefEqProofs := false) (maxSteps := 2000000) (disch := first | rfl | exact Nat.le_of_ble_eq_true rfl | omega | (simp only [List.length_append, List.length_cons, List.length_nil, List.length_set]; omega)) only [h, X1, X2, X3, X4, XA, XB, lc_block, lc_cond, XZ, undef_eq, Nat.reduceAdd, Nat.reduceSub, ↓reduceIte, basic, cellsL, resOf, setAt, below, belowB, belowA, atomB, Nat.reduceLeDiff, Nat.reduceMul, Int.reduceToNat, Int.reduceLT, Int.reduceLE, Int.reduceAdd, Int.reduceNeg, Int.reduceEq, splice, Nat.reduceEqDiff, Nat.reduceLT, isAtom, Int.reduceSub, Int.reduceMul, implies_true]

theorem info_spec (k : Int) (m : Mem) : Ret Tryd.prog 120 [.int .i64 k] m (.bool (infoB k)) m := by
  refine LCall_drop (LCall_enter Tryd.func120 c120 ?_)
  simp (contextual := true) (implicitDefEqProofs := false) (maxSteps := 2000000) (disch := first | rfl | exact Nat.le_of_ble_eq_true rfl | omega | (simp only [List.length_append, List.length_cons, List.length_nil, List.length_set]; omega)) only [L120, X1, X2, X3, X4, XA, XB, lc_block, lc_cond, XZ, undef_eq, Nat.reduceAdd, Nat.reduceSub, ↓reduceIte, basic, cellsL, resOf, setAt, below, belowB, belowA, atomB, Nat.reduceLeDiff, Nat.reduceMul, Int.reduceToNat, Int.reduceLT, Int.reduceLE, Int.reduceAdd, Int.reduceNeg, Int.reduceEq, splice, Nat.reduceEqDiff, Nat.reduceLT, isAtom, Int.reduceSub, Int.reduceMul, implies_true]
  refine (contains_spec _ 3 [1, 11, 12, 13, 14] k _ (by simp) (by decide)).use ?_
  have e : decide (k ∈ [1, 11, 12, 13, 14]) = infoB k := by
    unfold infoB
    simp only [List.mem_cons, List.not_mem_nil, or_false]
    by_cases h : k = 1 ∨ (11 ≤ k ∧ k ≤ 14)
    · rw [decide_eq_true h, decide_eq_true (by omega)]
    · rw [decide_eq_false h, decide_eq_false (by omega)]
  rw [e]
  simp (contextual := true) (implicitDefEqProofs := false) (maxSteps := 2000000) (disch := first | rfl | exact Nat.le_of_ble_eq_true rfl | omega | (simp only [List.length_append, List.length_cons, List.length_nil, List.length_set]; omega)) only [X1, X2, X3, X4, XA, XB, lc_block, lc_cond, XZ, undef_eq, Nat.reduceAdd, Nat.reduceSub, ↓reduceIte, basic, cellsL, resOf, setAt, below, belowB, belowA, atomB, Nat.reduceLeDiff, Nat.reduceMul, Int.reduceToNat, Int.reduceLT, Int.reduceLE, Int.reduceAdd, Int.reduceNeg, Int.reduceEq, splice, Nat.reduceEqDiff, Nat.reduceLT, isAtom, Int.reduceSub, Int.reduceMul, implies_true]

theorem mod_spec (w : Bool) (m : Mem) : Ret Tryd.prog 123 [.bool w] m (.int .i64 (m8 w)) m := by
  refine LCall_drop (LCall_enter Tryd.func123 c123 ?_)
  cases w <;> simp (contextual := true) (implicitDefEqProofs := false) (maxSteps := 2000000) (disch := first | rfl | exact Nat.le_of_ble_eq_true rfl | omega | (simp only [List.length_append, List.length_cons, List.length_nil, List.length_set]; omega)) only [L123, m8, X1, X2, X3, X4, XA, XB, lc_block, lc_cond, XZ, undef_eq, Nat.reduceAdd, Nat.reduceSub, ↓reduceIte, basic, cellsL, resOf, setAt, below, belowB, belowA, atomB, Nat.reduceLeDiff, Nat.reduceMul, Int.reduceToNat, Int.reduceLT, Int.reduceLE, Int.reduceAdd, Int.reduceNeg, Int.reduceEq, splice, Nat.reduceEqDiff, Nat.reduceLT, isAtom, Int.reduceSub, Int.reduceMul, implies_true]

theorem num_spec (n : Int) (th : Bool) (mod : Int) (m : Mem) : Ret Tryd.prog 124 [.int .i64 n, .bool th, .int .i64 mod] m (.bool (numB n th mod)) m := by
  refine LCall_drop (LCall_enter Tryd.func124 c124 ?_)
  cases th
  · simp (contextual := true) (implicitDefEqProofs := false) (maxSteps := 2000000) (disch := first | rfl | exact Nat.le_of_ble_eq_true rfl | omega | (simp only [List.length_append, List.length_cons, List.length_nil, List.length_set]; omega)) only [L124, numB, X1, X2, X3, X4, XA, XB, lc_block, lc_cond, XZ, undef_eq, Nat.reduceAdd, Nat.reduceSub, ↓reduceIte, basic, cellsL, resOf, setAt, below, belowB, belowA, atomB, Nat.reduceLeDiff, Nat.reduceMul, Int.reduceToNat, Int.reduceLT, Int.reduceLE, Int.reduceAdd, Int.reduceNeg, Int.reduceEq, splice, Nat.reduceEqDiff, Nat.reduceLT, isAtom, Int.reduceSub, Int.reduceMul, implies_true]
  · by_cases h : 0 ≤ n
    · simp (contextual := true) (implicitDefEqProofs := false) (maxSteps := 2000000) (disch := first | rfl | exact Nat.le_of_ble_eq_true rfl | omega | (simp only [List.length_append, List.length_cons, List.length_nil, List.length_set]; omega)) only [L124, numB, h, X1, X2, X3, X4, XA, XB, lc_block, lc_cond, XZ, undef_eq, Nat.reduceAdd, Nat.reduceSub, ↓reduceIte, basic, cellsL, resOf, setAt, below, belowB, belowA, atomB, Nat.reduceLeDiff, Nat.reduceMul, Int.reduceToNat, Int.reduceLT, Int.reduceLE, Int.reduceAdd, Int.reduceNeg, Int.reduceEq, splice, Nat.reduceEqDiff, Nat.reduceLT, isAtom, Int.reduceSub, Int.reduceMul, implies_true]
    · simp (contextual := true) (implicitDefEqProofs := false) (maxSteps := 2000000) (disch := first | rfl | exact Nat.le_of_ble_eq_true rfl | omega | (simp only [List.length_append, List.length_cons, List.length_nil, List.length_set]; omega)) only [L124, numB, h, false_and, X1, X2, X3, X4, XA, XB, lc_block, lc_cond, XZ, undef_eq, Nat.reduceAdd, Nat.reduceSub, ↓reduceIte, basic, cellsL, resOf, setAt, below, belowB, belowA, atomB, Nat.reduceLeDiff, Nat.reduceMul, Int.reduceToNat, Int.reduceLT, Int.reduceLE, Int.reduceAdd, Int.reduceNeg, Int.reduceEq, splice, Nat.reduceEqDiff, Nat.reduceLT, isAtom, Int.reduceSub, Int.reduceMul, implies_true]

theorem ctlright_spec (k r s : Int) (p w : Bool) (m : Mem) : Ret Tryd.prog 103 [ctlV k r s p, .bool w] m (.bool (rightC k r s w)) m := by
  refine LCall_drop (LCall_enter Tryd.func103 c103 ?_)
  simp (contextual := true) (implicitDefEqProofs := false) (maxSteps := 2000000) (disch := first | rfl | exact Nat.le_of_ble_eq_true rfl | omega | (simp only [List.length_append, List.length_cons, List.length_nil, List.length_set]; omega)) only [L103, X1, X2, X3, X4, XA, XB, lc_block, lc_cond, XZ, undef_eq, Nat.reduceAdd, Nat.reduceSub, ↓reduceIte, basic, cellsL, resOf, setAt, below, belowB, belowA, atomB, Nat.reduceLeDiff, Nat.reduceMul, Int.reduceToNat, Int.reduceLT, Int.reduceLE, Int.reduceAdd, Int.reduceNeg, Int.reduceEq, splice, Nat.reduceEqDiff, Nat.reduceLT, isAtom, Int.reduceSub, Int.reduceMul, implies_true]
  refine (mod_spec _ _).use ?_
  simp (contextual := true) (implicitDefEqProofs := false) (maxSteps := 2000000) (disch := first | rfl | exact Nat.le_of_ble_eq_true rfl | omega | (simp only [List.length_append, List.length_cons, List.length_nil, List.length_set]; omega)) only [X1, X2, X3, X4, XA, XB, lc_block, lc_cond, XZ, undef_eq, Nat.reduceAdd, Nat.reduceSub, ↓reduceIte, basic, cellsL, resOf, setAt, below, belowB, belowA, atomB, Nat.reduceLeDiff, Nat.reduceMul, Int.reduceToNat, Int.reduceLT, Int.reduceLE, Int.reduceAdd, Int.reduceNeg, Int.reduceEq, splice, Nat.reduceEqDiff, Nat.reduceLT, isAtom, Int.reduceSub, Int.reduceMul, implies_true]
  refine (name_spec _ _).use ?_
  have hne : (nameS k = ⟨#[]⟩) = ¬ (1 ≤ k ∧ k ≤ 14) := propext name_empty
  by_cases hk : 1 ≤ k ∧ k ≤ 14
  · simp (contextual := true) (implicitDefEqProofs := false) (maxSteps := 2000000) (disch := first | rfl | exact Nat.le_of_ble_eq_true rfl | omega | (simp only [List.length_append, List.length_cons, List.length_nil, List.length_set]; omega)) only [hne, hk, not_true_eq_false, X1, X2, X3, X4, XA, XB, lc_block, lc_cond, XZ, undef_eq, Nat.reduceAdd, Nat.reduceSub, ↓reduceIte, basic, cellsL, resOf, setAt, below, belowB, belowA, atomB, Nat.reduceLeDiff, Nat.reduceMul, Int.reduceToNat, Int.reduceLT, Int.reduceLE, Int.reduceAdd, Int.reduceNeg, Int.reduceEq, splice, Nat.reduceEqDiff, Nat.reduceLT, isAtom, Int.reduceSub, Int.reduceMul, implies_true]
    refine (num_spec _ _ _ _).use ?_
    cases hs : numB s (decide (k = 1)) (m8 w)
    · simp (contextual := true) (implicitDefEqProofs := false) (maxSteps := 2000000) (disch := first | rfl | exact Nat.le_of_ble_eq_true rfl | omega | (simp only [List.length_append, List.length_cons, List.length_nil, List.length_set]; omega)) only [X1, X2, X3, X4, XA, XB, lc_block, lc_cond, XZ, undef_eq, Nat.reduceAdd, Nat.reduceSub, ↓reduceIte, basic, cellsL, resOf, setAt, below, belowB, belowA, atomB, Nat.reduceLeDiff, Nat.reduceMul, Int.reduceToNat, Int.reduceLT, Int.reduceLE, Int.reduceAdd, Int.reduceNeg, Int.reduceEq, splice, Nat.reduceEqDiff, Nat.reduceLT, isAtom, Int.reduceSub, Int.reduceMul, implies_true]
      simp [rightC, hs]
    · by_cases h1 : k = 1
      · subst h1
        simp (contextual := true) (implicitDefEqProofs := false) (maxSteps := 2000000) (disch := first | rfl | exact Nat.le_of_ble_eq_true rfl | omega | (simp only [List.length_append, List.length_cons, List.length_nil, List.length_set]; omega)) only [X1, X2, X3, X4, XA, XB, lc_block, lc_cond, XZ, undef_eq, Nat.reduceAdd, Nat.reduceSub, ↓reduceIte, basic, cellsL, resOf, setAt, below, belowB, belowA, atomB, Nat.reduceLeDiff, Nat.reduceMul, Int.reduceToNat, Int.reduceLT, Int.reduceLE, Int.reduceAdd, Int.reduceNeg, Int.reduceEq, splice, Nat.reduceEqDiff, Nat.reduceLT, isAtom, Int.reduceSub, Int.reduceMul, implies_true]
        refine (num_spec _ _ _ _).use ?_
        simp (contextual := true) (implicitDefEqProofs := false) (maxSteps := 2000000) (disch := first | rfl | exact Nat.le_of_ble_eq_true rfl | omega | (simp only [List.length_append, List.length_cons, List.length_nil, List.length_set]; omega)) only [X1, X2, X3, X4, XA, XB, lc_block, lc_cond, XZ, undef_eq, Nat.reduceAdd, Nat.reduceSub, ↓reduceIte, basic, cellsL, resOf, setAt, below, belowB, belowA, atomB, Nat.reduceLeDiff, Nat.reduceMul, Int.reduceToNat, Int.reduceLT, Int.reduceLE, Int.reduceAdd, Int.reduceNeg, Int.reduceEq, splice, Nat.reduceEqDiff, Nat.reduceLT, isAtom, Int.reduceSub, Int.reduceMul, implies_true]
        have hs' : numB s true (m8 w) = true := hs
        simp [rightC, hs']
      · simp (contextual := true) (implicitDefEqProofs := false) (maxSteps := 2000000) (disch := first | rfl | exact Nat.le_of_ble_eq_true rfl | omega | (simp only [List.length_append, List.length_cons, List.length_nil, List.length_set]; omega)) only [h1, X1, X2, X3, X4, XA, XB, lc_block, lc_cond, XZ, undef_eq, Nat.reduceAdd, Nat.reduceSub, ↓reduceIte, basic, cellsL, resOf, setAt, below, belowB, belowA, atomB, Nat.reduceLeDiff, Nat.reduceMul, Int.reduceToNat, Int.reduceLT, Int.reduceLE, Int.reduceAdd, Int.reduceNeg, Int.reduceEq, splice, Nat.reduceEqDiff, Nat.reduceLT, isAtom, Int.reduceSub, Int.reduceMul, implies_true]
        refine (sup_spec _ _).use ?_
        simp (contextual := true) (implicitDefEqProofs := false) (maxSteps := 2000000) (disch := first | rfl | exact Nat.le_of_ble_eq_true rfl | omega | (simp only [List.length_append, List.length_cons, List.length_nil, List.length_set]; omega)) only [X1, X2, X3, X4, XA, XB, lc_block, lc_cond, XZ, undef_eq, Nat.reduceAdd, Nat.reduceSub, ↓reduceIte, basic, cellsL, resOf, setAt, below, belowB, belowA, atomB, Nat.reduceLeDiff, Nat.reduceMul, Int.reduceToNat, Int.reduceLT, Int.reduceLE, Int.reduceAdd, Int.reduceNeg, Int.reduceEq, splice, Nat.reduceEqDiff, Nat.reduceLT, isAtom, Int.reduceSub, Int.reduceMul, implies_true]
        refine (num_spec _ _ _ _).use ?_
        have e : supB k = decide (k ≤ 5) := by
          unfold supB
          by_cases h5 : k ≤ 5
          · rw [decide_eq_true h5, decide_eq_true (by omega)]
          · rw [decide_eq_false h5, decide_eq_false (by omega)]
        rw [e]
        simp (contextual := true) (implicitDefEqProofs := false) (maxSteps := 2000000) (disch := first | rfl | exact Nat.le_of_ble_eq_true rfl | omega | (simp only [List.length_append, List.length_cons, List.length_nil, List.length_set]; omega)) only [X1, X2, X3, X4, XA, XB, lc_block, lc_cond, XZ, undef_eq, Nat.reduceAdd, Nat.reduceSub, ↓reduceIte, basic, cellsL, resOf, setAt, below, belowB, belowA, atomB, Nat.reduceLeDiff, Nat.reduceMul, Int.reduceToNat, Int.reduceLT, Int.reduceLE, Int.reduceAdd, Int.reduceNeg, Int.reduceEq, splice, Nat.reduceEqDiff, Nat.reduceLT, isAtom, Int.reduceSub, Int.reduceMul, implies_true]
        simp [rightC, hs, hk]
  · simp (contextual := true) (implicitDefEqProofs := false) (maxSteps := 2000000) (disch := first | rfl | exact Nat.le_of_ble_eq_true rfl | omega | (simp only [List.length_append, List.length_cons, List.length_nil, List.length_set]; omega)) only [hne, hk, not_false_eq_true, X1, X2, X3, X4, XA, XB, lc_block, lc_cond, XZ, undef_eq, Nat.reduceAdd, Nat.reduceSub, ↓reduceIte, basic, cellsL, resOf, setAt, below, belowB, belowA, atomB, Nat.reduceLeDiff, Nat.reduceMul, Int.reduceToNat, Int.reduceLT, Int.reduceLE, Int.reduceAdd, Int.reduceNeg, Int.reduceEq, splice, Nat.reduceEqDiff, Nat.reduceLT, isAtom, Int.reduceSub, Int.reduceMul, implies_true]
    simp [rightC, hk]

theorem bases_spec (m : Mem) : Ret Tryd.prog 104 [] m (.agg #[.int .i64 47, .int .i64 111, .int .i64 67, .int .i64 15, .int .i64 99, .int .i64 135, .int .i64 3, .int .i64 175, .int .i64 227]) m :=
  run_alone tab_ok (n := 100) (d := 20) (by kernel_rfl) rfl rfl m

theorem mark_spec (p : Bool) (v : Int) (m : Mem) : Ret Tryd.prog 105 [.bool p, .int .i64 v] m (.int .i64 (if p = true then v else 0)) m := by
  refine LCall_drop (LCall_enter Tryd.func105 c105 ?_)
  cases p <;> simp (contextual := true) (implicitDefEqProofs := false) (maxSteps := 2000000) (disch := first | rfl | exact Nat.le_of_ble_eq_true rfl | omega | (simp only [List.length_append, List.length_cons, List.length_nil, List.length_set]; omega)) only [L105, X1, X2, X3, X4, XA, XB, lc_block, lc_cond, XZ, undef_eq, Nat.reduceAdd, Nat.reduceSub, ↓reduceIte, basic, cellsL, resOf, setAt, below, belowB, belowA, atomB, Nat.reduceLeDiff, Nat.reduceMul, Int.reduceToNat, Int.reduceLT, Int.reduceLE, Int.reduceAdd, Int.reduceNeg, Int.reduceEq, splice, Nat.reduceEqDiff, Nat.reduceLT, isAtom, Int.reduceSub, Int.reduceMul, implies_true]

theorem first_spec (k r s : Int) (p : Bool) (hk : 1 ≤ k ∧ k ≤ 5) (hs : 0 ≤ s ∧ s < 128) (m : Mem) : Ret Tryd.prog 106 [ctlV k r s p] m (.int .i64 (firstC k s)) m := by
  refine LCall_drop (LCall_enter Tryd.func106 c106 ?_)
  by_cases h : k = 1
  · subst h
    have hc : s * 2 = 2 * s := by omega
    simp (contextual := true) (implicitDefEqProofs := false) (maxSteps := 2000000) (disch := first | rfl | exact Nat.le_of_ble_eq_true rfl | omega | (simp only [List.length_append, List.length_cons, List.length_nil, List.length_set]; omega)) only [L106, firstC, hc, X1, X2, X3, X4, XA, XB, lc_block, lc_cond, XZ, undef_eq, Nat.reduceAdd, Nat.reduceSub, ↓reduceIte, basic, cellsL, resOf, setAt, below, belowB, belowA, atomB, Nat.reduceLeDiff, Nat.reduceMul, Int.reduceToNat, Int.reduceLT, Int.reduceLE, Int.reduceAdd, Int.reduceNeg, Int.reduceEq, splice, Nat.reduceEqDiff, Nat.reduceLT, isAtom, Int.reduceSub, Int.reduceMul, implies_true]
  · simp (contextual := true) (implicitDefEqProofs := false) (maxSteps := 2000000) (disch := first | rfl | exact Nat.le_of_ble_eq_true rfl | omega | (simp only [List.length_append, List.length_cons, List.length_nil, List.length_set]; omega)) only [L106, firstC, h, X1, X2, X3, X4, XA, XB, lc_block, lc_cond, XZ, undef_eq, Nat.reduceAdd, Nat.reduceSub, ↓reduceIte, basic, cellsL, resOf, setAt, below, belowB, belowA, atomB, Nat.reduceLeDiff, Nat.reduceMul, Int.reduceToNat, Int.reduceLT, Int.reduceLE, Int.reduceAdd, Int.reduceNeg, Int.reduceEq, splice, Nat.reduceEqDiff, Nat.reduceLT, isAtom, Int.reduceSub, Int.reduceMul, implies_true]

theorem wrap_u8i {e : Int} (h0 : 0 ≤ e) (h1 : e < 256) : IntKind.u8.wrap e = e := by
  simp [IntKind.wrap, IntKind.bits, IntKind.signed]; omega

theorem byL1 (e : Int) : bytesL [.int .u8 e] = some [UInt8.ofNat e.toNat] := rfl

theorem byL2 (e f : Int) : bytesL [.int .u8 e, .int .u8 f] = some [UInt8.ofNat e.toNat, UInt8.ofNat f.toNat] := rfl

theorem ctlput_spec (k r s : Int) (p w : Bool) (m : Mem) : Ret Tryd.prog 72 [ctlV k r s p, .bool w] m
    (.tuple #[.string (if rightC k r s w = true then strOf (putL8 k r s p w) else ⟨#[]⟩), .int .i64 (if rightC k r s w = true then 0 else 1)]) m := by
  refine LCall_drop (LCall_enter Tryd.func72 c72 ?_)
  simp (contextual := true) (implicitDefEqProofs := false) (maxSteps := 2000000) (disch := first | rfl | exact Nat.le_of_ble_eq_true rfl | omega | (simp only [List.length_append, List.length_cons, List.length_nil, List.length_set]; omega)) only [L72, X1, X2, X3, X4, XA, XB, lc_block, lc_cond, XZ, undef_eq, Nat.reduceAdd, Nat.reduceSub, ↓reduceIte, basic, cellsL, resOf, setAt, below, belowB, belowA, atomB, Nat.reduceLeDiff, Nat.reduceMul, Int.reduceToNat, Int.reduceLT, Int.reduceLE, Int.reduceAdd, Int.reduceNeg, Int.reduceEq, splice, Nat.reduceEqDiff, Nat.reduceLT, isAtom, Int.reduceSub, Int.reduceMul, implies_true]
  refine (ctlright_spec _ _ _ _ _ _).use ?_
  cases hr : rightC k r s w
  · simp (contextual := true) (implicitDefEqProofs := false) (maxSteps := 2000000) (disch := first | rfl | exact Nat.le_of_ble_eq_true rfl | omega | (simp only [List.length_append, List.length_cons, List.length_nil, List.length_set]; omega)) only [X1, X2, X3, X4, XA, XB, lc_block, lc_cond, XZ, undef_eq, Nat.reduceAdd, Nat.reduceSub, ↓reduceIte, basic, cellsL, resOf, setAt, below, belowB, belowA, atomB, Nat.reduceLeDiff, Nat.reduceMul, Int.reduceToNat, Int.reduceLT, Int.reduceLE, Int.reduceAdd, Int.reduceNeg, Int.reduceEq, splice, Nat.reduceEqDiff, Nat.reduceLT, isAtom, Int.reduceSub, Int.reduceMul, implies_true]
  obtain ⟨hk, hs, hrr, hk1, hk5⟩ := right_of hr
  have hm : m8 w ≤ 128 := by cases w <;> decide
  by_cases h6 : 6 ≤ k
  · have hputs : putL8 k r s p w = [baseL.getD (k - 6).toNat 0 + sixt p] := if_pos h6
    rw [hputs]
    simp (contextual := true) (implicitDefEqProofs := false) (maxSteps := 2000000) (disch := first | rfl | exact Nat.le_of_ble_eq_true rfl | omega | (simp only [List.length_append, List.length_cons, List.length_nil, List.length_set]; omega)) only [h6, X1, X2, X3, X4, XA, XB, lc_block, lc_cond, XZ, undef_eq, Nat.reduceAdd, Nat.reduceSub, ↓reduceIte, basic, cellsL, resOf, setAt, below, belowB, belowA, atomB, Nat.reduceLeDiff, Nat.reduceMul, Int.reduceToNat, Int.reduceLT, Int.reduceLE, Int.reduceAdd, Int.reduceNeg, Int.reduceEq, splice, Nat.reduceEqDiff, Nat.reduceLT, isAtom, Int.reduceSub, Int.reduceMul, implies_true]
    refine (bases_spec _).use ?_
    rcases nine_cases h6 hk.2 with rfl | rfl | rfl | rfl | rfl | rfl | rfl | rfl | rfl <;>
    · simp (contextual := true) (implicitDefEqProofs := false) (maxSteps := 2000000) (disch := first | rfl | exact Nat.le_of_ble_eq_true rfl | omega | (simp only [List.length_append, List.length_cons, List.length_nil, List.length_set]; omega)) only [X1, X2, X3, X4, XA, XB, lc_block, lc_cond, XZ, undef_eq, Nat.reduceAdd, Nat.reduceSub, ↓reduceIte, basic, cellsL, resOf, setAt, below, belowB, belowA, atomB, Nat.reduceLeDiff, Nat.reduceMul, Int.reduceToNat, Int.reduceLT, Int.reduceLE, Int.reduceAdd, Int.reduceNeg, Int.reduceEq, splice, Nat.reduceEqDiff, Nat.reduceLT, isAtom, Int.reduceSub, Int.reduceMul, implies_true]
      refine (mark_spec _ _ _).use ?_
      cases p <;> simp (contextual := true) (implicitDefEqProofs := false) (maxSteps := 2000000) (disch := first | rfl | exact Nat.le_of_ble_eq_true rfl | omega | (simp only [List.length_append, List.length_cons, List.length_nil, List.length_set]; omega)) only [byL1, wrap_u8i, X1, X2, X3, X4, XA, XB, lc_block, lc_cond, XZ, undef_eq, Nat.reduceAdd, Nat.reduceSub, ↓reduceIte, basic, cellsL, resOf, setAt, below, belowB, belowA, atomB, Nat.reduceLeDiff, Nat.reduceMul, Int.reduceToNat, Int.reduceLT, Int.reduceLE, Int.reduceAdd, Int.reduceNeg, Int.reduceEq, splice, Nat.reduceEqDiff, Nat.reduceLT, isAtom, Int.reduceSub, Int.reduceMul, implies_true] <;> rfl
  · have hf : 0 ≤ firstC k s ∧ firstC k s ≤ 255 := by
      unfold firstC; split <;> omega
    have hp16 : sixt p = if p = true then 16 else 0 := rfl
    have hp1 : onee p = if p = true then 1 else 0 := rfl
    cases w
    · have hputs : putL8 k r s p false = [32 * r + sixt p + firstC k s] := by
        unfold putL8; rw [if_neg h6, if_neg (by decide)]
      rw [hputs]
      have hf2 : firstC k s ≤ 15 := by
        rw [m8_f] at hs
        unfold firstC; split <;> omega
      rw [m8_f] at hrr
      simp (contextual := true) (implicitDefEqProofs := false) (maxSteps := 2000000) (disch := first | rfl | exact Nat.le_of_ble_eq_true rfl | omega | (simp only [List.length_append, List.length_cons, List.length_nil, List.length_set]; omega)) only [h6, X1, X2, X3, X4, XA, XB, lc_block, lc_cond, XZ, undef_eq, Nat.reduceAdd, Nat.reduceSub, ↓reduceIte, basic, cellsL, resOf, setAt, below, belowB, belowA, atomB, Nat.reduceLeDiff, Nat.reduceMul, Int.reduceToNat, Int.reduceLT, Int.reduceLE, Int.reduceAdd, Int.reduceNeg, Int.reduceEq, splice, Nat.reduceEqDiff, Nat.reduceLT, isAtom, Int.reduceSub, Int.reduceMul, implies_true]
      refine (mark_spec _ _ _).use ?_
      rw [← hp16]
      have h16 : 0 ≤ sixt p ∧ sixt p ≤ 16 := by cases p <;> decide
      simp (contextual := true) (implicitDefEqProofs := false) (maxSteps := 2000000) (disch := first | rfl | exact Nat.le_of_ble_eq_true rfl | omega | (simp only [List.length_append, List.length_cons, List.length_nil, List.length_set]; omega)) only [X1, X2, X3, X4, XA, XB, lc_block, lc_cond, XZ, undef_eq, Nat.reduceAdd, Nat.reduceSub, ↓reduceIte, basic, cellsL, resOf, setAt, below, belowB, belowA, atomB, Nat.reduceLeDiff, Nat.reduceMul, Int.reduceToNat, Int.reduceLT, Int.reduceLE, Int.reduceAdd, Int.reduceNeg, Int.reduceEq, splice, Nat.reduceEqDiff, Nat.reduceLT, isAtom, Int.reduceSub, Int.reduceMul, implies_true]
      refine (first_spec k r s p (by omega) (by omega) _).use ?_
      have hcomm : r * 32 = 32 * r := by omega
      simp (contextual := true) (implicitDefEqProofs := false) (maxSteps := 2000000) (disch := first | rfl | exact Nat.le_of_ble_eq_true rfl | omega | (simp only [List.length_append, List.length_cons, List.length_nil, List.length_set]; omega)) only [byL1, wrap_u8i, hcomm, X1, X2, X3, X4, XA, XB, lc_block, lc_cond, XZ, undef_eq, Nat.reduceAdd, Nat.reduceSub, ↓reduceIte, basic, cellsL, resOf, setAt, below, belowB, belowA, atomB, Nat.reduceLeDiff, Nat.reduceMul, Int.reduceToNat, Int.reduceLT, Int.reduceLE, Int.reduceAdd, Int.reduceNeg, Int.reduceEq, splice, Nat.reduceEqDiff, Nat.reduceLT, isAtom, Int.reduceSub, Int.reduceMul, implies_true]
      rfl
    · have hputs : putL8 k r s p true = [firstC k s, 2 * r + onee p] := by
        unfold putL8; rw [if_neg h6, if_pos rfl]
      rw [hputs]
      simp (contextual := true) (implicitDefEqProofs := false) (maxSteps := 2000000) (disch := first | rfl | exact Nat.le_of_ble_eq_true rfl | omega | (simp only [List.length_append, List.length_cons, List.length_nil, List.length_set]; omega)) only [h6, X1, X2, X3, X4, XA, XB, lc_block, lc_cond, XZ, undef_eq, Nat.reduceAdd, Nat.reduceSub, ↓reduceIte, basic, cellsL, resOf, setAt, below, belowB, belowA, atomB, Nat.reduceLeDiff, Nat.reduceMul, Int.reduceToNat, Int.reduceLT, Int.reduceLE, Int.reduceAdd, Int.reduceNeg, Int.reduceEq, splice, Nat.reduceEqDiff, Nat.reduceLT, isAtom, Int.reduceSub, Int.reduceMul, implies_true]
      refine (first_spec k r s p (by omega) (by omega) _).use ?_
      simp (contextual := true) (implicitDefEqProofs := false) (maxSteps := 2000000) (disch := first | rfl | exact Nat.le_of_ble_eq_true rfl | omega | (simp only [List.length_append, List.length_cons, List.length_nil, List.length_set]; omega)) only [X1, X2, X3, X4, XA, XB, lc_block, lc_cond, XZ, undef_eq, Nat.reduceAdd, Nat.reduceSub, ↓reduceIte, basic, cellsL, resOf, setAt, below, belowB, belowA, atomB, Nat.reduceLeDiff, Nat.reduceMul, Int.reduceToNat, Int.reduceLT, Int.reduceLE, Int.reduceAdd, Int.reduceNeg, Int.reduceEq, splice, Nat.reduceEqDiff, Nat.reduceLT, isAtom, Int.reduceSub, Int.reduceMul, implies_true]
      refine (mark_spec _ _ _).use ?_
      rw [← hp1]
      have h16 : 0 ≤ onee p ∧ onee p ≤ 1 := by cases p <;> decide
      rw [m8_t] at hrr
      have hcomm : r * 2 = 2 * r := by omega
      simp (contextual := true) (implicitDefEqProofs := false) (maxSteps := 2000000) (disch := first | rfl | exact Nat.le_of_ble_eq_true rfl | omega | (simp only [List.length_append, List.length_cons, List.length_nil, List.length_set]; omega)) only [byL2, wrap_u8i, hcomm, X1, X2, X3, X4, XA, XB, lc_block, lc_cond, XZ, undef_eq, Nat.reduceAdd, Nat.reduceSub, ↓reduceIte, basic, cellsL, resOf, setAt, below, belowB, belowA, atomB, Nat.reduceLeDiff, Nat.reduceMul, Int.reduceToNat, Int.reduceLT, Int.reduceLE, Int.reduceAdd, Int.reduceNeg, Int.reduceEq, splice, Nat.reduceEqDiff, Nat.reduceLT, isAtom, Int.reduceSub, Int.reduceMul, implies_true]
      rfl

end Go.Proofs.YtenbkoalanfdhaaDoor.K
/- Controls read from bytes, walked. -/
namespace Go.Proofs.YtenbkoalanfdhaaDoor.K
open Go.Lg
set_option maxRecDepth 8000
set_option maxHeartbeats 8000000
set_option linter.unusedSimpArgs false
set_option linter.unnecessarySimpa false
set_option linter.unusedVariables false

theorem ofInt_nat (n a : Nat) : BitVec.ofInt n (a : Int) = BitVec.ofNat n a := by
  apply BitVec.eq_of_toNat_eq
  rw [BitVec.toNat_ofInt, BitVec.toNat_ofNat]
  omega

theorem b_and64 {a b c : Nat} (ha : a < 256) (hb : b < 256) (h : a &&& b = c) : binV .and (.int .i64 (a : Int)) (.int .i64 (b : Int)) = some (.int .i64 (c : Int)) := by
  show (if IntKind.i64 = IntKind.i64 then some (Value.int .i64 (IntKind.i64.wrap ((BitVec.ofInt 64 (a : Int) &&& BitVec.ofInt 64 (b : Int)).toNat : Int))) else none) = _
  rw [if_pos rfl, ofInt_nat, ofInt_nat]
  have : (BitVec.ofNat 64 a &&& BitVec.ofNat 64 b).toNat = c := by
    rw [BitVec.toNat_and, BitVec.toNat_ofNat, BitVec.toNat_ofNat, Nat.mod_eq_of_lt (by omega), Nat.mod_eq_of_lt (by omega), h]
  have hc : c ≤ a := by rw [← h]; exact Nat.and_le_left
  rw [this, wrap_i64 (by omega) (by omega)]

theorem b_and8 {a b c : Nat} (ha : a < 256) (hb : b < 256) (h : a &&& b = c) : binV .and (.int .u8 (a : Int)) (.int .u8 (b : Int)) = some (.int .u8 (c : Int)) := by
  show (if IntKind.u8 = IntKind.u8 then some (Value.int .u8 (IntKind.u8.wrap ((BitVec.ofInt 8 (a : Int) &&& BitVec.ofInt 8 (b : Int)).toNat : Int))) else none) = _
  rw [if_pos rfl, ofInt_nat, ofInt_nat]
  have : (BitVec.ofNat 8 a &&& BitVec.ofNat 8 b).toNat = c := by
    rw [BitVec.toNat_and, BitVec.toNat_ofNat, BitVec.toNat_ofNat, Nat.mod_eq_of_lt (by omega), Nat.mod_eq_of_lt (by omega), h]
  have hc : c ≤ a := by rw [← h]; exact Nat.and_le_left
  rw [this, wrap_u8i (by omega) (by omega)]

theorem and3 (n : Nat) : n &&& 3 = n % 4 := Nat.and_two_pow_sub_one_eq_mod n 2

theorem and15 (n : Nat) : n &&& 15 = n % 16 := Nat.and_two_pow_sub_one_eq_mod n 4

theorem and1 (n : Nat) : n &&& 1 = n % 2 := Nat.and_two_pow_sub_one_eq_mod n 1

theorem and16 {n : Nat} (h : n < 256) : n &&& 16 = 16 * (n / 16 % 2) := by
  have : ∀ n, n < 256 → n &&& 16 = 16 * (n / 16 % 2) := by decide
  exact this n h

theorem b_and3 {n : Nat} (h : n < 256) : binV .and (.int .i64 (n : Int)) (.int .i64 3) = some (.int .i64 ((n % 4 : Nat) : Int)) := b_and64 h (by decide) (and3 n)

theorem b_and15 {n : Nat} (h : n < 256) : binV .and (.int .i64 (n : Int)) (.int .i64 15) = some (.int .i64 ((n % 16 : Nat) : Int)) := b_and64 h (by decide) (and15 n)

theorem b_and1 {n : Nat} (h : n < 256) : binV .and (.int .i64 (n : Int)) (.int .i64 1) = some (.int .i64 ((n % 2 : Nat) : Int)) := b_and64 h (by decide) (and1 n)

theorem b_and16 {n : Nat} (h : n < 256) : binV .and (.int .i64 (n : Int)) (.int .i64 16) = some (.int .i64 ((16 * (n / 16 % 2) : Nat) : Int)) := b_and64 h (by decide) (and16 h)

theorem b_and1u {n : Nat} (h : n < 256) : binV .and (.int .u8 (n : Int)) (.int .u8 1) = some (.int .u8 ((n % 2 : Nat) : Int)) := b_and8 h (by decide) (and1 n)

theorem b_shrN {a c : Nat} (h : c < 64) : binV .shr (.int .i64 (a : Int)) (.int .u64 (c : Int)) = some (.int .i64 ((a / 2 ^ c : Nat) : Int)) := by
  rw [bin_shr (by omega), Int.toNat_natCast, Nat.min_eq_left (show c ≤ IntKind.i64.bits by show c ≤ 64; omega)]
  rw [Int.fdiv_eq_ediv_of_nonneg _ (by exact_mod_cast Nat.zero_le (2 ^ c))]
  congr 2

theorem b_shr5 {a : Nat} : binV .shr (.int .i64 (a : Int)) (.int .u64 5) = some (.int .i64 ((a / 32 : Nat) : Int)) := b_shrN (c := 5) (by decide)

theorem b_shr1 {a : Nat} : binV .shr (.int .i64 (a : Int)) (.int .u64 1) = some (.int .i64 ((a / 2 : Nat) : Int)) := b_shrN (c := 1) (by decide)

theorem b_shr2 {a : Nat} : binV .shr (.int .i64 (a : Int)) (.int .u64 2) = some (.int .i64 ((a / 4 : Nat) : Int)) := b_shrN (c := 2) (by decide)

theorem base_andNot {i : Nat} (h : i < 9) (p : Bool) : binV .andNot (.int .i64 (baseL.getD i 0 + sixt p)) (.int .i64 16) = some (.int .i64 (baseL.getD i 0)) := by
  rcases nine_nat h with rfl | rfl | rfl | rfl | rfl | rfl | rfl | rfl | rfl <;> cases p <;> rfl

theorem base_and {i : Nat} (h : i < 9) (p : Bool) : binV .and (.int .i64 (baseL.getD i 0 + sixt p)) (.int .i64 16) = some (.int .i64 (sixt p)) := by
  rcases nine_nat h with rfl | rfl | rfl | rfl | rfl | rfl | rfl | rfl | rfl <;> cases p <;> rfl

theorem base_at : ∀ i, i < 9 → ∀ k, k < 9 → baseL[k]? = some (baseL.getD i 0) → k = i := by decide

theorem sixt_ne (p : Bool) : (!decide (sixt p = 0)) = p := by cases p <;> rfl

theorem arr_full {P : Program} {len sz b T f : Nat} {x : Operand} {t : List Value} {m : Mem} {cs : List Value} {K : Value → Mem → Prop} (hx : evL t x = .pointer (some ⟨b, 0, none⟩)) (hm : m[b]? = some ⟨cs, T, 1, f, .own⟩) (h1 : 1 ≤ sz ∧ len * sz ≤ cs.length)
    (hk : K (.slice (some ⟨b, 0, none⟩) len len) m) : LExec P (.sliceArr len sz x none none) (evL t) m K := by
  show lrun (.sliceArr len sz x none none) (evL t) m K
  simp only [lrun, hx]
  refine ⟨len, rfl, 0, rfl, _, hm, ⟨rfl, rfl, h1.1, by simpa using h1.2⟩, ?_⟩
  simpa using hk

theorem plain52_spec {i : Nat} (h : i < 9) (p : Bool) (m : Mem) : Ret Tryd.prog 116 [.int .i64 (baseL.getD i 0 + sixt p)] m (.tuple #[ctlV (6 + i) 0 0 p, .int .i64 1, .int .i64 0]) m := by
  refine LCall_drop (LCall_enter Tryd.func116 c116 ?_)
  simp (contextual := true) (implicitDefEqProofs := false) (maxSteps := 2000000) (disch := first | rfl | exact Nat.le_of_ble_eq_true rfl | omega | (simp only [List.length_append, List.length_cons, List.length_nil, List.length_set]; omega)) only [L116, X1, X2, X3, X4, XA, XB, lc_block, lc_cond, XZ, undef_eq, Nat.reduceAdd, Nat.reduceSub, ↓reduceIte, basic, cellsL, resOf, setAt, below, belowB, belowA, atomB, Nat.reduceLeDiff, Nat.reduceMul, Int.reduceToNat, Int.reduceLT, Int.reduceLE, Int.reduceAdd, Int.reduceNeg, Int.reduceEq, splice, Nat.reduceEqDiff, Nat.reduceLT, isAtom, Int.reduceSub, Int.reduceMul, implies_true]
  refine (bases_spec _).use ?_
  simp (contextual := true) (implicitDefEqProofs := false) (maxSteps := 2000000) (disch := first | rfl | exact Nat.le_of_ble_eq_true rfl | omega | (simp only [List.length_append, List.length_cons, List.length_nil, List.length_set]; omega)) only [base_andNot h, X1, X2, X3, X4, XA, bin_add, bin_sub, bin_mul, bin_quo, bin_rem, bin_or, bin_xor, bin_eql, bin_neq, bin_lss, bin_leq, bin_gtr, bin_geq, bin_shl, bin_shr, bin_sadd, bin_seql, bin_sneq, lc_block, lc_cond, XZ, undef_eq, Nat.reduceAdd, Nat.reduceSub, ↓reduceIte, basic, cellsL, resOf, setAt, below, belowB, belowA, atomB, Nat.reduceLeDiff, Nat.reduceMul, Int.reduceToNat, Int.reduceLT, Int.reduceLE, Int.reduceAdd, Int.reduceNeg, Int.reduceEq, splice, Nat.reduceEqDiff, Nat.reduceLT, isAtom, Int.reduceSub, Int.reduceMul, implies_true]
  refine arr_full (cs := baseL.map (Value.int .i64 ·)) (T := 181) (f := 0) rfl (by simp [baseL]) (by decide) ?_
  simp (contextual := true) (implicitDefEqProofs := false) (maxSteps := 2000000) (disch := first | rfl | exact Nat.le_of_ble_eq_true rfl | omega | (simp only [List.length_append, List.length_cons, List.length_nil, List.length_set]; omega)) only [base_andNot h, X1, X2, X3, X4, XA, bin_add, bin_sub, bin_mul, bin_quo, bin_rem, bin_or, bin_xor, bin_eql, bin_neq, bin_lss, bin_leq, bin_gtr, bin_geq, bin_shl, bin_shr, bin_sadd, bin_seql, bin_sneq, lc_block, lc_cond, XZ, undef_eq, Nat.reduceAdd, Nat.reduceSub, ↓reduceIte, basic, cellsL, resOf, setAt, below, belowB, belowA, atomB, Nat.reduceLeDiff, Nat.reduceMul, Int.reduceToNat, Int.reduceLT, Int.reduceLE, Int.reduceAdd, Int.reduceNeg, Int.reduceEq, splice, Nat.reduceEqDiff, Nat.reduceLT, isAtom, Int.reduceSub, Int.reduceMul, implies_true]
  refine index_spec (m.length + 1) 181 baseL (baseL.getD i 0) _ (by simp [baseL]) (by decide) _ (fun k hk _ => ?_) (fun hm => ?_)
  · have hk9 : k < 9 := (List.getElem?_eq_some_iff.mp hk).1
    obtain rfl : k = i := base_at i h k hk9 hk
    have h0 : ((k : Int) < 0) = False := eq_false (by omega)
    simp (contextual := true) (implicitDefEqProofs := false) (maxSteps := 2000000) (disch := first | rfl | exact Nat.le_of_ble_eq_true rfl | omega | (simp only [List.length_append, List.length_cons, List.length_nil, List.length_set]; omega)) only [h0, base_and h, X1, X2, X3, X4, XA, bin_add, bin_sub, bin_mul, bin_quo, bin_rem, bin_or, bin_xor, bin_eql, bin_neq, bin_lss, bin_leq, bin_gtr, bin_geq, bin_shl, bin_shr, bin_sadd, bin_seql, bin_sneq, lc_block, lc_cond, XZ, undef_eq, Nat.reduceAdd, Nat.reduceSub, ↓reduceIte, basic, cellsL, resOf, setAt, below, belowB, belowA, atomB, Nat.reduceLeDiff, Nat.reduceMul, Int.reduceToNat, Int.reduceLT, Int.reduceLE, Int.reduceAdd, Int.reduceNeg, Int.reduceEq, splice, Nat.reduceEqDiff, Nat.reduceLT, isAtom, Int.reduceSub, Int.reduceMul, implies_true]
    rw [sixt_ne]
  · exfalso
    apply hm
    have : ∀ i, i < 9 → baseL.getD i 0 ∈ baseL := by decide
    exact this i h

theorem u8_wrap (x : UInt8) : IntKind.i64.wrap (x.toNat : Int) = (x.toNat : Int) := by
  have := x.toNat_lt
  rw [wrap_i64 (by omega) (by omega)]

theorem ne_empty {t : ByteArray} {b : UInt8} (h : t.data.toList[0]? = some b) : (t = ⟨#[]⟩) = False := by
  apply eq_false
  rintro rfl
  simp at h

theorem get_plain {i : Nat} (hi : i < 9) (p w : Bool) (t : ByteArray) (b : UInt8) (ht : t.data.toList[0]? = some b) (hb : ((b.toNat : Nat) : Int) = baseL.getD i 0 + sixt p) (m : Mem) :
    Ret Tryd.prog 83 [.string t, .bool w] m (.tuple #[ctlV (6 + i) 0 0 p, .int .i64 1, .int .i64 0]) m := by
  have hn : b.toNat < 256 := b.toNat_lt
  have h3 : (((b.toNat % 4 : Nat) : Int) = 3) = True := eq_true (by have := (base_facts i hi p).2; omega)
  refine LCall_drop (LCall_enter Tryd.func83 c83 ?_)
  simp (contextual := true) (implicitDefEqProofs := false) (maxSteps := 2000000) (disch := first | rfl | exact Nat.le_of_ble_eq_true rfl | omega | (simp only [List.length_append, List.length_cons, List.length_nil, List.length_set]; omega)) only [L83, ne_empty ht, ht, u8_wrap, b_and3 hn, h3, X1, X2, X3, X4, XA, bin_add, bin_sub, bin_mul, bin_quo, bin_rem, bin_or, bin_xor, bin_andNot, bin_eql, bin_neq, bin_lss, bin_leq, bin_gtr, bin_geq, bin_shl, bin_sadd, bin_seql, bin_sneq, lc_block, lc_cond, XZ, undef_eq, Nat.reduceAdd, Nat.reduceSub, ↓reduceIte, basic, cellsL, resOf, setAt, below, belowB, belowA, atomB, Nat.reduceLeDiff, Nat.reduceMul, Int.reduceToNat, Int.reduceLT, Int.reduceLE, Int.reduceAdd, Int.reduceNeg, Int.reduceEq, splice, Nat.reduceEqDiff, Nat.reduceLT, isAtom, Int.reduceSub, Int.reduceMul, implies_true]
  rw [hb]
  refine (plain52_spec hi p _).use ?_
  simp (contextual := true) (implicitDefEqProofs := false) (maxSteps := 2000000) (disch := first | rfl | exact Nat.le_of_ble_eq_true rfl | omega | (simp only [List.length_append, List.length_cons, List.length_nil, List.length_set]; omega)) only [X1, X2, X3, X4, XA, XB, lc_block, lc_cond, XZ, undef_eq, Nat.reduceAdd, Nat.reduceSub, ↓reduceIte, basic, cellsL, resOf, setAt, below, belowB, belowA, atomB, Nat.reduceLeDiff, Nat.reduceMul, Int.reduceToNat, Int.reduceLT, Int.reduceLE, Int.reduceAdd, Int.reduceNeg, Int.reduceEq, splice, Nat.reduceEqDiff, Nat.reduceLT, isAtom, Int.reduceSub, Int.reduceMul, implies_true]

theorem get_narrow (t : ByteArray) (b : UInt8) (ht : t.data.toList[0]? = some b) (h3 : b.toNat % 4 ≠ 3) (m : Mem) :
    Ret Tryd.prog 83 [.string t, .bool false] m (.tuple #[ctlV (if b.toNat % 2 = 0 then 1 else 2 + ((b.toNat % 16 / 4 : Nat) : Int)) ((b.toNat / 32 : Nat) : Int) (if b.toNat % 2 = 0 then ((b.toNat % 16 / 2 : Nat) : Int) else 0) (!decide (b.toNat / 16 % 2 = 0)), .int .i64 1, .int .i64 0]) m := by
  have hn : b.toNat < 256 := b.toNat_lt
  have h3' : (((b.toNat % 4 : Nat) : Int) = 3) = False := eq_false (by omega)
  have h16 : b.toNat % 16 < 256 := by omega
  have hp : (((16 * (b.toNat / 16 % 2) : Nat) : Int) = 0) = (b.toNat / 16 % 2 = 0) := propext ⟨fun h => by omega, fun h => by omega⟩
  refine LCall_drop (LCall_enter Tryd.func83 c83 ?_)
  by_cases h2 : b.toNat % 2 = 0
  · have h2' : (((b.toNat % 16 % 2 : Nat) : Int) = 0) = True := eq_true (by omega)
    simp (contextual := true) (implicitDefEqProofs := false) (maxSteps := 2000000) (disch := first | rfl | exact Nat.le_of_ble_eq_true rfl | omega | (simp only [List.length_append, List.length_cons, List.length_nil, List.length_set]; omega)) only [L83, ne_empty ht, ht, u8_wrap, b_and3 hn, h3', b_and15 hn, b_and1 h16, b_and16 hn, b_shr5, b_shr1, b_shr2, h2', h2, hp, X1, X2, X3, X4, XA, bin_add, bin_sub, bin_mul, bin_quo, bin_rem, bin_or, bin_xor, bin_andNot, bin_eql, bin_neq, bin_lss, bin_leq, bin_gtr, bin_geq, bin_shl, bin_sadd, bin_seql, bin_sneq, lc_block, lc_cond, XZ, undef_eq, Nat.reduceAdd, Nat.reduceSub, ↓reduceIte, basic, cellsL, resOf, setAt, below, belowB, belowA, atomB, Nat.reduceLeDiff, Nat.reduceMul, Int.reduceToNat, Int.reduceLT, Int.reduceLE, Int.reduceAdd, Int.reduceNeg, Int.reduceEq, splice, Nat.reduceEqDiff, Nat.reduceLT, isAtom, Int.reduceSub, Int.reduceMul, implies_true]
  · have h2' : (((b.toNat % 16 % 2 : Nat) : Int) = 0) = False := eq_false (by omega)
    have h15 : ((15 : Int) < ((b.toNat % 16 : Nat) : Int)) = False := eq_false (by omega)
    simp (contextual := true) (implicitDefEqProofs := false) (maxSteps := 2000000) (disch := first | rfl | exact Nat.le_of_ble_eq_true rfl | omega | (simp only [List.length_append, List.length_cons, List.length_nil, List.length_set]; omega)) only [L83, ne_empty ht, ht, u8_wrap, b_and3 hn, h3', b_and15 hn, b_and1 h16, b_and16 hn, b_shr5, b_shr1, b_shr2, h2', h2, h15, hp, X1, X2, X3, X4, XA, bin_add, bin_sub, bin_mul, bin_quo, bin_rem, bin_or, bin_xor, bin_andNot, bin_eql, bin_neq, bin_lss, bin_leq, bin_gtr, bin_geq, bin_shl, bin_sadd, bin_seql, bin_sneq, lc_block, lc_cond, XZ, undef_eq, Nat.reduceAdd, Nat.reduceSub, ↓reduceIte, basic, cellsL, resOf, setAt, below, belowB, belowA, atomB, Nat.reduceLeDiff, Nat.reduceMul, Int.reduceToNat, Int.reduceLT, Int.reduceLE, Int.reduceAdd, Int.reduceNeg, Int.reduceEq, splice, Nat.reduceEqDiff, Nat.reduceLT, isAtom, Int.reduceSub, Int.reduceMul, implies_true]

theorem get_wide (t : ByteArray) (b c : UInt8) (ht : t.data.toList[0]? = some b) (hc : t.data.toList[1]? = some c) (h3 : b.toNat % 4 ≠ 3) (h15 : b.toNat % 2 = 0 ∨ b.toNat ≤ 15) (m : Mem) :
    Ret Tryd.prog 83 [.string t, .bool true] m (.tuple #[ctlV (if b.toNat % 2 = 0 then 1 else 2 + ((b.toNat / 4 : Nat) : Int)) ((c.toNat / 2 : Nat) : Int) (if b.toNat % 2 = 0 then ((b.toNat / 2 : Nat) : Int) else 0) (!decide (c.toNat % 2 = 0)), .int .i64 2, .int .i64 0]) m := by
  have hn : b.toNat < 256 := b.toNat_lt
  have hnc : c.toNat < 256 := c.toNat_lt
  have h3' : (((b.toNat % 4 : Nat) : Int) = 3) = False := eq_false (by omega)
  have hp : (((c.toNat % 2 : Nat) : Int) = 0) = (c.toNat % 2 = 0) := propext ⟨fun h => by omega, fun h => by omega⟩
  have hl : 1 < t.data.toList.length := (List.getElem?_eq_some_iff.mp hc).1
  have hsz : ((t.size : Int) < 2) = False := eq_false (by
    have : t.data.toList.length = t.size := by simp
    omega)
  refine LCall_drop (LCall_enter Tryd.func83 c83 ?_)
  by_cases h2 : b.toNat % 2 = 0
  · have h2' : (((b.toNat % 2 : Nat) : Int) = 0) = True := eq_true (by omega)
    simp (contextual := true) (implicitDefEqProofs := false) (maxSteps := 2000000) (disch := first | rfl | exact Nat.le_of_ble_eq_true rfl | omega | (simp only [List.length_append, List.length_cons, List.length_nil, List.length_set]; omega)) only [L83, ne_empty ht, ht, hc, hsz, u8_wrap, b_and3 hn, h3', b_and1 hn, b_and1u hnc, b_shr1, b_shr2, h2', h2, hp, X1, X2, X3, X4, XA, bin_add, bin_sub, bin_mul, bin_quo, bin_rem, bin_or, bin_xor, bin_andNot, bin_eql, bin_neq, bin_lss, bin_leq, bin_gtr, bin_geq, bin_shl, bin_sadd, bin_seql, bin_sneq, lc_block, lc_cond, XZ, undef_eq, Nat.reduceAdd, Nat.reduceSub, ↓reduceIte, basic, cellsL, resOf, setAt, below, belowB, belowA, atomB, Nat.reduceLeDiff, Nat.reduceMul, Int.reduceToNat, Int.reduceLT, Int.reduceLE, Int.reduceAdd, Int.reduceNeg, Int.reduceEq, splice, Nat.reduceEqDiff, Nat.reduceLT, isAtom, Int.reduceSub, Int.reduceMul, implies_true]
  · have h2' : (((b.toNat % 2 : Nat) : Int) = 0) = False := eq_false (by omega)
    have h15' : ((15 : Int) < ((b.toNat : Nat) : Int)) = False := eq_false (by omega)
    simp (contextual := true) (implicitDefEqProofs := false) (maxSteps := 2000000) (disch := first | rfl | exact Nat.le_of_ble_eq_true rfl | omega | (simp only [List.length_append, List.length_cons, List.length_nil, List.length_set]; omega)) only [L83, ne_empty ht, ht, hc, hsz, u8_wrap, b_and3 hn, h3', b_and1 hn, b_and1u hnc, b_shr1, b_shr2, h2', h2, h15', hp, X1, X2, X3, X4, XA, bin_add, bin_sub, bin_mul, bin_quo, bin_rem, bin_or, bin_xor, bin_andNot, bin_eql, bin_neq, bin_lss, bin_leq, bin_gtr, bin_geq, bin_shl, bin_sadd, bin_seql, bin_sneq, lc_block, lc_cond, XZ, undef_eq, Nat.reduceAdd, Nat.reduceSub, ↓reduceIte, basic, cellsL, resOf, setAt, below, belowB, belowA, atomB, Nat.reduceLeDiff, Nat.reduceMul, Int.reduceToNat, Int.reduceLT, Int.reduceLE, Int.reduceAdd, Int.reduceNeg, Int.reduceEq, splice, Nat.reduceEqDiff, Nat.reduceLT, isAtom, Int.reduceSub, Int.reduceMul, implies_true]

end Go.Proofs.YtenbkoalanfdhaaDoor.K
/- Controls by the document: right ones, and bytes: walked. -/
namespace Go.Proofs.YtenbkoalanfdhaaDoor.K
open Go.Lg
set_option maxRecDepth 8000
set_option maxHeartbeats 8000000
set_option linter.unusedSimpArgs false
set_option linter.unnecessarySimpa false
set_option linter.unusedVariables false

theorem strOf_list (l : List Int) : (strOf l).data.toList = l.map fun e => UInt8.ofNat e.toNat := rfl

theorem strOf_size (l : List Int) : (strOf l).size = l.length := by
  have : (strOf l).data.toList.length = (strOf l).size := by simp
  rw [← this, strOf_list, List.length_map]

theorem app_list (a b : ByteArray) : (a ++ b).data.toList = a.data.toList ++ b.data.toList := by simp

/-- The document's own. -/
theorem text_spec (i T : Nat) (l : List Int) (m : Mem) (hm : m[i]? = some ⟨l.map (Value.int .i64 ·), T, 1, 0, .own⟩) (hl : l.length ≤ 1000) (hb : inB l) :
    Ret Tryd.prog 91 [.slice (some ⟨i, 0, none⟩) l.length l.length] m (.string (strOf l)) m := by
  have hi : i < m.length := (List.getElem?_eq_some_iff.mp hm).1
  refine LCall_drop (LCall_enter Tryd.func91 c91 ?_)
  simp (contextual := true) (implicitDefEqProofs := false) (maxSteps := 2000000) (disch := first | rfl | exact Nat.le_of_ble_eq_true rfl | omega | (simp only [List.length_append, List.length_cons, List.length_nil, List.length_set]; omega)) only [L91, X1, X2, X3, X4, XA, XB, lc_block, lc_cond, XZ, undef_eq, Nat.reduceAdd, Nat.reduceSub, ↓reduceIte, basic, cellsL, resOf, setAt, below, belowB, belowA, atomB, Nat.reduceLeDiff, Nat.reduceMul, Int.reduceToNat, Int.reduceLT, Int.reduceLE, Int.reduceAdd, Int.reduceNeg, Int.reduceEq, splice, Nat.reduceEqDiff, Nat.reduceLT, isAtom, Int.reduceSub, Int.reduceMul, implies_true]
  refine loop_inv (fun n t m' => ∃ (k : Nat) (g : Mem), n = l.length - k ∧ k ≤ l.length ∧
    Tab 21 [(0, .slice (some ⟨i, 0, none⟩) l.length l.length), (3, .string (strOf (l.take k))), (4, .int .i64 (k : Int))] t ∧ m' = m ++ g) (n := l.length) ?_ ?_
  · exact ⟨0, [], rfl, Nat.zero_le _, ⟨rfl, by simp [strOf, strL]⟩, by simp⟩
  rintro n t m' ⟨k, g, rfl, hk, ht, rfl⟩
  obtain ⟨f, rfl⟩ : ∃ f : Nat → Value, t = [.slice (some ⟨i, 0, none⟩) l.length l.length, f 1, f 2, .string (strOf (l.take k)), .int .i64 (k : Int), f 5, f 6, f 7, f 8, f 9, f 10, f 11, f 12, f 13, f 14, f 15, f 16, f 17, f 18, f 19, f 20] := ht.open fun f => rfl
  by_cases hlt : k < l.length
  · have hlt' : ((k : Int) < (l.length : Int)) = True := eq_true (by omega)
    have h0 : ((0 : Int) ≤ (k : Int)) = True := eq_true (by omega)
    obtain ⟨x, hx⟩ : ∃ x, l[k]? = some x := ⟨l[k], List.getElem?_eq_getElem hlt⟩
    have hc : (l.map (Value.int .i64 ·))[k]? = some (.int .i64 x) := by simp [hx]
    obtain ⟨hx0, hx1⟩ := hb x (List.mem_of_getElem? hx)
    have hsz : ((strOf (l.take k)).size : Int) + ((ByteArray.size ⟨#[UInt8.ofNat x.toNat]⟩ : Nat) : Int) ≤ 9223372036854775807 := by
      rw [strOf_size, List.length_take]
      have : ByteArray.size ⟨#[UInt8.ofNat x.toNat]⟩ = 1 := rfl
      omega
    simp (contextual := true) (implicitDefEqProofs := false) (maxSteps := 2000000) (disch := first | rfl | exact Nat.le_of_ble_eq_true rfl | omega | (simp only [List.length_append, List.length_cons, List.length_nil, List.length_set]; omega)) only [hm, hlt', h0, Int.toNat_natCast, hc, wrap_u8i, byL1, X1, X2, X3, X4, XA, XB, lc_block, lc_cond, XZ, undef_eq, Nat.reduceAdd, Nat.reduceSub, ↓reduceIte, basic, cellsL, resOf, setAt, below, belowB, belowA, atomB, Nat.reduceLeDiff, Nat.reduceMul, Int.reduceToNat, Int.reduceLT, Int.reduceLE, Int.reduceAdd, Int.reduceNeg, Int.reduceEq, splice, Nat.reduceEqDiff, Nat.reduceLT, isAtom, Int.reduceSub, Int.reduceMul, implies_true]
    have hnext : strOf (l.take k) ++ ⟨#[UInt8.ofNat x.toNat]⟩ = strOf (l.take (k + 1)) := by
      apply ByteArray.ext; apply Array.ext'
      rw [app_list, strOf_list, strOf_list, List.take_add_one, hx]; simp
    exact kInv_go ⟨k + 1, _, rfl, by omega, ⟨rfl, by simp [hnext]⟩, rfl⟩ (by omega)
  · have hlt' : ((k : Int) < (l.length : Int)) = False := eq_false (by omega)
    obtain rfl : k = l.length := by omega
    simp (contextual := true) (implicitDefEqProofs := false) (maxSteps := 2000000) (disch := first | rfl | exact Nat.le_of_ble_eq_true rfl | omega | (simp only [List.length_append, List.length_cons, List.length_nil, List.length_set]; omega)) only [hlt', List.take_length, X1, X2, X3, X4, XA, XB, lc_block, lc_cond, XZ, undef_eq, Nat.reduceAdd, Nat.reduceSub, ↓reduceIte, basic, cellsL, resOf, setAt, below, belowB, belowA, atomB, Nat.reduceLeDiff, Nat.reduceMul, Int.reduceToNat, Int.reduceLT, Int.reduceLE, Int.reduceAdd, Int.reduceNeg, Int.reduceEq, splice, Nat.reduceEqDiff, Nat.reduceLT, isAtom, Int.reduceSub, Int.reduceMul, implies_true]

theorem refctlright_spec (k r s : Int) (p w : Bool) (m : Mem) : Ret Tryd.prog 90 [ctlV k r s p, .bool w] m (.bool (rightC k r s w)) m := by
  refine LCall_drop (LCall_enter Tryd.func90 c90 ?_)
  cases w
  · have hf := right_false (k := k) (r := r) (s := s) (w := false)
    have htr := right_true (k := k) (r := r) (s := s) (w := false)
    rw [m8_f] at hf htr
    by_cases a1 : k < 1
    · rw [hf (by omega)]; simp (contextual := true) (implicitDefEqProofs := false) (maxSteps := 2000000) (disch := first | rfl | exact Nat.le_of_ble_eq_true rfl | omega | (simp only [List.length_append, List.length_cons, List.length_nil, List.length_set]; omega)) only [L90, a1, X1, X2, X3, X4, XA, XB, lc_block, lc_cond, XZ, undef_eq, Nat.reduceAdd, Nat.reduceSub, ↓reduceIte, basic, cellsL, resOf, setAt, below, belowB, belowA, atomB, Nat.reduceLeDiff, Nat.reduceMul, Int.reduceToNat, Int.reduceLT, Int.reduceLE, Int.reduceAdd, Int.reduceNeg, Int.reduceEq, splice, Nat.reduceEqDiff, Nat.reduceLT, isAtom, Int.reduceSub, Int.reduceMul, implies_true]
    by_cases a2 : 14 < k
    · rw [hf (by omega)]; simp (contextual := true) (implicitDefEqProofs := false) (maxSteps := 2000000) (disch := first | rfl | exact Nat.le_of_ble_eq_true rfl | omega | (simp only [List.length_append, List.length_cons, List.length_nil, List.length_set]; omega)) only [L90, a1, a2, X1, X2, X3, X4, XA, XB, lc_block, lc_cond, XZ, undef_eq, Nat.reduceAdd, Nat.reduceSub, ↓reduceIte, basic, cellsL, resOf, setAt, below, belowB, belowA, atomB, Nat.reduceLeDiff, Nat.reduceMul, Int.reduceToNat, Int.reduceLT, Int.reduceLE, Int.reduceAdd, Int.reduceNeg, Int.reduceEq, splice, Nat.reduceEqDiff, Nat.reduceLT, isAtom, Int.reduceSub, Int.reduceMul, implies_true]
    by_cases a3 : s < 0
    · rw [hf (by omega)]; simp (contextual := true) (implicitDefEqProofs := false) (maxSteps := 2000000) (disch := first | rfl | exact Nat.le_of_ble_eq_true rfl | omega | (simp only [List.length_append, List.length_cons, List.length_nil, List.length_set]; omega)) only [L90, a1, a2, a3, X1, X2, X3, X4, XA, XB, lc_block, lc_cond, XZ, undef_eq, Nat.reduceAdd, Nat.reduceSub, ↓reduceIte, basic, cellsL, resOf, setAt, below, belowB, belowA, atomB, Nat.reduceLeDiff, Nat.reduceMul, Int.reduceToNat, Int.reduceLT, Int.reduceLE, Int.reduceAdd, Int.reduceNeg, Int.reduceEq, splice, Nat.reduceEqDiff, Nat.reduceLT, isAtom, Int.reduceSub, Int.reduceMul, implies_true]
    by_cases a4 : r < 0
    · rw [hf (by omega)]; simp (contextual := true) (implicitDefEqProofs := false) (maxSteps := 2000000) (disch := first | rfl | exact Nat.le_of_ble_eq_true rfl | omega | (simp only [List.length_append, List.length_cons, List.length_nil, List.length_set]; omega)) only [L90, a1, a2, a3, a4, X1, X2, X3, X4, XA, XB, lc_block, lc_cond, XZ, undef_eq, Nat.reduceAdd, Nat.reduceSub, ↓reduceIte, basic, cellsL, resOf, setAt, below, belowB, belowA, atomB, Nat.reduceLeDiff, Nat.reduceMul, Int.reduceToNat, Int.reduceLT, Int.reduceLE, Int.reduceAdd, Int.reduceNeg, Int.reduceEq, splice, Nat.reduceEqDiff, Nat.reduceLT, isAtom, Int.reduceSub, Int.reduceMul, implies_true]
    by_cases a5 : 8 ≤ s
    · rw [hf (by omega)]; simp (contextual := true) (implicitDefEqProofs := false) (maxSteps := 2000000) (disch := first | rfl | exact Nat.le_of_ble_eq_true rfl | omega | (simp only [List.length_append, List.length_cons, List.length_nil, List.length_set]; omega)) only [L90, a1, a2, a3, a4, a5, X1, X2, X3, X4, XA, XB, lc_block, lc_cond, XZ, undef_eq, Nat.reduceAdd, Nat.reduceSub, ↓reduceIte, basic, cellsL, resOf, setAt, below, belowB, belowA, atomB, Nat.reduceLeDiff, Nat.reduceMul, Int.reduceToNat, Int.reduceLT, Int.reduceLE, Int.reduceAdd, Int.reduceNeg, Int.reduceEq, splice, Nat.reduceEqDiff, Nat.reduceLT, isAtom, Int.reduceSub, Int.reduceMul, implies_true]
    by_cases a6 : 8 ≤ r
    · rw [hf (by omega)]; simp (contextual := true) (implicitDefEqProofs := false) (maxSteps := 2000000) (disch := first | rfl | exact Nat.le_of_ble_eq_true rfl | omega | (simp only [List.length_append, List.length_cons, List.length_nil, List.length_set]; omega)) only [L90, a1, a2, a3, a4, a5, a6, X1, X2, X3, X4, XA, XB, lc_block, lc_cond, XZ, undef_eq, Nat.reduceAdd, Nat.reduceSub, ↓reduceIte, basic, cellsL, resOf, setAt, below, belowB, belowA, atomB, Nat.reduceLeDiff, Nat.reduceMul, Int.reduceToNat, Int.reduceLT, Int.reduceLE, Int.reduceAdd, Int.reduceNeg, Int.reduceEq, splice, Nat.reduceEqDiff, Nat.reduceLT, isAtom, Int.reduceSub, Int.reduceMul, implies_true]
    by_cases b1 : k = 1
    · rw [htr (by omega)]
      have b3 : (k ≤ 5) = True := eq_true (by omega)
      simp (contextual := true) (implicitDefEqProofs := false) (maxSteps := 2000000) (disch := first | rfl | exact Nat.le_of_ble_eq_true rfl | omega | (simp only [List.length_append, List.length_cons, List.length_nil, List.length_set]; omega)) only [L90, a1, a2, a3, a4, a5, a6, b1, b3, X1, X2, X3, X4, XA, XB, lc_block, lc_cond, XZ, undef_eq, Nat.reduceAdd, Nat.reduceSub, ↓reduceIte, basic, cellsL, resOf, setAt, below, belowB, belowA, atomB, Nat.reduceLeDiff, Nat.reduceMul, Int.reduceToNat, Int.reduceLT, Int.reduceLE, Int.reduceAdd, Int.reduceNeg, Int.reduceEq, splice, Nat.reduceEqDiff, Nat.reduceLT, isAtom, Int.reduceSub, Int.reduceMul, implies_true]
    by_cases b2 : s = 0
    · by_cases b3 : k ≤ 5
      · rw [htr (by omega)]; simp (contextual := true) (implicitDefEqProofs := false) (maxSteps := 2000000) (disch := first | rfl | exact Nat.le_of_ble_eq_true rfl | omega | (simp only [List.length_append, List.length_cons, List.length_nil, List.length_set]; omega)) only [L90, a1, a2, a3, a4, a5, a6, b1, b2, b3, X1, X2, X3, X4, XA, XB, lc_block, lc_cond, XZ, undef_eq, Nat.reduceAdd, Nat.reduceSub, ↓reduceIte, basic, cellsL, resOf, setAt, below, belowB, belowA, atomB, Nat.reduceLeDiff, Nat.reduceMul, Int.reduceToNat, Int.reduceLT, Int.reduceLE, Int.reduceAdd, Int.reduceNeg, Int.reduceEq, splice, Nat.reduceEqDiff, Nat.reduceLT, isAtom, Int.reduceSub, Int.reduceMul, implies_true]
      · by_cases b4 : r = 0
        · rw [htr (by omega)]; simp (contextual := true) (implicitDefEqProofs := false) (maxSteps := 2000000) (disch := first | rfl | exact Nat.le_of_ble_eq_true rfl | omega | (simp only [List.length_append, List.length_cons, List.length_nil, List.length_set]; omega)) only [L90, a1, a2, a3, a4, a5, a6, b1, b2, b3, b4, X1, X2, X3, X4, XA, XB, lc_block, lc_cond, XZ, undef_eq, Nat.reduceAdd, Nat.reduceSub, ↓reduceIte, basic, cellsL, resOf, setAt, below, belowB, belowA, atomB, Nat.reduceLeDiff, Nat.reduceMul, Int.reduceToNat, Int.reduceLT, Int.reduceLE, Int.reduceAdd, Int.reduceNeg, Int.reduceEq, splice, Nat.reduceEqDiff, Nat.reduceLT, isAtom, Int.reduceSub, Int.reduceMul, implies_true]
        · rw [hf (by omega)]; simp (contextual := true) (implicitDefEqProofs := false) (maxSteps := 2000000) (disch := first | rfl | exact Nat.le_of_ble_eq_true rfl | omega | (simp only [List.length_append, List.length_cons, List.length_nil, List.length_set]; omega)) only [L90, a1, a2, a3, a4, a5, a6, b1, b2, b3, b4, X1, X2, X3, X4, XA, XB, lc_block, lc_cond, XZ, undef_eq, Nat.reduceAdd, Nat.reduceSub, ↓reduceIte, basic, cellsL, resOf, setAt, below, belowB, belowA, atomB, Nat.reduceLeDiff, Nat.reduceMul, Int.reduceToNat, Int.reduceLT, Int.reduceLE, Int.reduceAdd, Int.reduceNeg, Int.reduceEq, splice, Nat.reduceEqDiff, Nat.reduceLT, isAtom, Int.reduceSub, Int.reduceMul, implies_true]
    · rw [hf (by omega)]; simp (contextual := true) (implicitDefEqProofs := false) (maxSteps := 2000000) (disch := first | rfl | exact Nat.le_of_ble_eq_true rfl | omega | (simp only [List.length_append, List.length_cons, List.length_nil, List.length_set]; omega)) only [L90, a1, a2, a3, a4, a5, a6, b1, b2, X1, X2, X3, X4, XA, XB, lc_block, lc_cond, XZ, undef_eq, Nat.reduceAdd, Nat.reduceSub, ↓reduceIte, basic, cellsL, resOf, setAt, below, belowB, belowA, atomB, Nat.reduceLeDiff, Nat.reduceMul, Int.reduceToNat, Int.reduceLT, Int.reduceLE, Int.reduceAdd, Int.reduceNeg, Int.reduceEq, splice, Nat.reduceEqDiff, Nat.reduceLT, isAtom, Int.reduceSub, Int.reduceMul, implies_true]
  · have hf := right_false (k := k) (r := r) (s := s) (w := true)
    have htr := right_true (k := k) (r := r) (s := s) (w := true)
    rw [m8_t] at hf htr
    by_cases a1 : k < 1
    · rw [hf (by omega)]; simp (contextual := true) (implicitDefEqProofs := false) (maxSteps := 2000000) (disch := first | rfl | exact Nat.le_of_ble_eq_true rfl | omega | (simp only [List.length_append, List.length_cons, List.length_nil, List.length_set]; omega)) only [L90, a1, X1, X2, X3, X4, XA, XB, lc_block, lc_cond, XZ, undef_eq, Nat.reduceAdd, Nat.reduceSub, ↓reduceIte, basic, cellsL, resOf, setAt, below, belowB, belowA, atomB, Nat.reduceLeDiff, Nat.reduceMul, Int.reduceToNat, Int.reduceLT, Int.reduceLE, Int.reduceAdd, Int.reduceNeg, Int.reduceEq, splice, Nat.reduceEqDiff, Nat.reduceLT, isAtom, Int.reduceSub, Int.reduceMul, implies_true]
    by_cases a2 : 14 < k
    · rw [hf (by omega)]; simp (contextual := true) (implicitDefEqProofs := false) (maxSteps := 2000000) (disch := first | rfl | exact Nat.le_of_ble_eq_true rfl | omega | (simp only [List.length_append, List.length_cons, List.length_nil, List.length_set]; omega)) only [L90, a1, a2, X1, X2, X3, X4, XA, XB, lc_block, lc_cond, XZ, undef_eq, Nat.reduceAdd, Nat.reduceSub, ↓reduceIte, basic, cellsL, resOf, setAt, below, belowB, belowA, atomB, Nat.reduceLeDiff, Nat.reduceMul, Int.reduceToNat, Int.reduceLT, Int.reduceLE, Int.reduceAdd, Int.reduceNeg, Int.reduceEq, splice, Nat.reduceEqDiff, Nat.reduceLT, isAtom, Int.reduceSub, Int.reduceMul, implies_true]
    by_cases a3 : s < 0
    · rw [hf (by omega)]; simp (contextual := true) (implicitDefEqProofs := false) (maxSteps := 2000000) (disch := first | rfl | exact Nat.le_of_ble_eq_true rfl | omega | (simp only [List.length_append, List.length_cons, List.length_nil, List.length_set]; omega)) only [L90, a1, a2, a3, X1, X2, X3, X4, XA, XB, lc_block, lc_cond, XZ, undef_eq, Nat.reduceAdd, Nat.reduceSub, ↓reduceIte, basic, cellsL, resOf, setAt, below, belowB, belowA, atomB, Nat.reduceLeDiff, Nat.reduceMul, Int.reduceToNat, Int.reduceLT, Int.reduceLE, Int.reduceAdd, Int.reduceNeg, Int.reduceEq, splice, Nat.reduceEqDiff, Nat.reduceLT, isAtom, Int.reduceSub, Int.reduceMul, implies_true]
    by_cases a4 : r < 0
    · rw [hf (by omega)]; simp (contextual := true) (implicitDefEqProofs := false) (maxSteps := 2000000) (disch := first | rfl | exact Nat.le_of_ble_eq_true rfl | omega | (simp only [List.length_append, List.length_cons, List.length_nil, List.length_set]; omega)) only [L90, a1, a2, a3, a4, X1, X2, X3, X4, XA, XB, lc_block, lc_cond, XZ, undef_eq, Nat.reduceAdd, Nat.reduceSub, ↓reduceIte, basic, cellsL, resOf, setAt, below, belowB, belowA, atomB, Nat.reduceLeDiff, Nat.reduceMul, Int.reduceToNat, Int.reduceLT, Int.reduceLE, Int.reduceAdd, Int.reduceNeg, Int.reduceEq, splice, Nat.reduceEqDiff, Nat.reduceLT, isAtom, Int.reduceSub, Int.reduceMul, implies_true]
    by_cases a5 : 128 ≤ s
    · rw [hf (by omega)]; simp (contextual := true) (implicitDefEqProofs := false) (maxSteps := 2000000) (disch := first | rfl | exact Nat.le_of_ble_eq_true rfl | omega | (simp only [List.length_append, List.length_cons, List.length_nil, List.length_set]; omega)) only [L90, a1, a2, a3, a4, a5, X1, X2, X3, X4, XA, XB, lc_block, lc_cond, XZ, undef_eq, Nat.reduceAdd, Nat.reduceSub, ↓reduceIte, basic, cellsL, resOf, setAt, below, belowB, belowA, atomB, Nat.reduceLeDiff, Nat.reduceMul, Int.reduceToNat, Int.reduceLT, Int.reduceLE, Int.reduceAdd, Int.reduceNeg, Int.reduceEq, splice, Nat.reduceEqDiff, Nat.reduceLT, isAtom, Int.reduceSub, Int.reduceMul, implies_true]
    by_cases a6 : 128 ≤ r
    · rw [hf (by omega)]; simp (contextual := true) (implicitDefEqProofs := false) (maxSteps := 2000000) (disch := first | rfl | exact Nat.le_of_ble_eq_true rfl | omega | (simp only [List.length_append, List.length_cons, List.length_nil, List.length_set]; omega)) only [L90, a1, a2, a3, a4, a5, a6, X1, X2, X3, X4, XA, XB, lc_block, lc_cond, XZ, undef_eq, Nat.reduceAdd, Nat.reduceSub, ↓reduceIte, basic, cellsL, resOf, setAt, below, belowB, belowA, atomB, Nat.reduceLeDiff, Nat.reduceMul, Int.reduceToNat, Int.reduceLT, Int.reduceLE, Int.reduceAdd, Int.reduceNeg, Int.reduceEq, splice, Nat.reduceEqDiff, Nat.reduceLT, isAtom, Int.reduceSub, Int.reduceMul, implies_true]
    by_cases b1 : k = 1
    · rw [htr (by omega)]
      have b3 : (k ≤ 5) = True := eq_true (by omega)
      simp (contextual := true) (implicitDefEqProofs := false) (maxSteps := 2000000) (disch := first | rfl | exact Nat.le_of_ble_eq_true rfl | omega | (simp only [List.length_append, List.length_cons, List.length_nil, List.length_set]; omega)) only [L90, a1, a2, a3, a4, a5, a6, b1, b3, X1, X2, X3, X4, XA, XB, lc_block, lc_cond, XZ, undef_eq, Nat.reduceAdd, Nat.reduceSub, ↓reduceIte, basic, cellsL, resOf, setAt, below, belowB, belowA, atomB, Nat.reduceLeDiff, Nat.reduceMul, Int.reduceToNat, Int.reduceLT, Int.reduceLE, Int.reduceAdd, Int.reduceNeg, Int.reduceEq, splice, Nat.reduceEqDiff, Nat.reduceLT, isAtom, Int.reduceSub, Int.reduceMul, implies_true]
    by_cases b2 : s = 0
    · by_cases b3 : k ≤ 5
      · rw [htr (by omega)]; simp (contextual := true) (implicitDefEqProofs := false) (maxSteps := 2000000) (disch := first | rfl | exact Nat.le_of_ble_eq_true rfl | omega | (simp only [List.length_append, List.length_cons, List.length_nil, List.length_set]; omega)) only [L90, a1, a2, a3, a4, a5, a6, b1, b2, b3, X1, X2, X3, X4, XA, XB, lc_block, lc_cond, XZ, undef_eq, Nat.reduceAdd, Nat.reduceSub, ↓reduceIte, basic, cellsL, resOf, setAt, below, belowB, belowA, atomB, Nat.reduceLeDiff, Nat.reduceMul, Int.reduceToNat, Int.reduceLT, Int.reduceLE, Int.reduceAdd, Int.reduceNeg, Int.reduceEq, splice, Nat.reduceEqDiff, Nat.reduceLT, isAtom, Int.reduceSub, Int.reduceMul, implies_true]
      · by_cases b4 : r = 0
        · rw [htr (by omega)]; simp (contextual := true) (implicitDefEqProofs := false) (maxSteps := 2000000) (disch := first | rfl | exact Nat.le_of_ble_eq_true rfl | omega | (simp only [List.length_append, List.length_cons, List.length_nil, List.length_set]; omega)) only [L90, a1, a2, a3, a4, a5, a6, b1, b2, b3, b4, X1, X2, X3, X4, XA, XB, lc_block, lc_cond, XZ, undef_eq, Nat.reduceAdd, Nat.reduceSub, ↓reduceIte, basic, cellsL, resOf, setAt, below, belowB, belowA, atomB, Nat.reduceLeDiff, Nat.reduceMul, Int.reduceToNat, Int.reduceLT, Int.reduceLE, Int.reduceAdd, Int.reduceNeg, Int.reduceEq, splice, Nat.reduceEqDiff, Nat.reduceLT, isAtom, Int.reduceSub, Int.reduceMul, implies_true]
        · rw [hf (by omega)]; simp (contextual := true) (implicitDefEqProofs := false) (maxSteps := 2000000) (disch := first | rfl | exact Nat.le_of_ble_eq_true rfl | omega | (simp only [List.length_append, List.length_cons, List.length_nil, List.length_set]; omega)) only [L90, a1, a2, a3, a4, a5, a6, b1, b2, b3, b4, X1, X2, X3, X4, XA, XB, lc_block, lc_cond, XZ, undef_eq, Nat.reduceAdd, Nat.reduceSub, ↓reduceIte, basic, cellsL, resOf, setAt, below, belowB, belowA, atomB, Nat.reduceLeDiff, Nat.reduceMul, Int.reduceToNat, Int.reduceLT, Int.reduceLE, Int.reduceAdd, Int.reduceNeg, Int.reduceEq, splice, Nat.reduceEqDiff, Nat.reduceLT, isAtom, Int.reduceSub, Int.reduceMul, implies_true]
    · rw [hf (by omega)]; simp (contextual := true) (implicitDefEqProofs := false) (maxSteps := 2000000) (disch := first | rfl | exact Nat.le_of_ble_eq_true rfl | omega | (simp only [List.length_append, List.length_cons, List.length_nil, List.length_set]; omega)) only [L90, a1, a2, a3, a4, a5, a6, b1, b2, X1, X2, X3, X4, XA, XB, lc_block, lc_cond, XZ, undef_eq, Nat.reduceAdd, Nat.reduceSub, ↓reduceIte, basic, cellsL, resOf, setAt, below, belowB, belowA, atomB, Nat.reduceLeDiff, Nat.reduceMul, Int.reduceToNat, Int.reduceLT, Int.reduceLE, Int.reduceAdd, Int.reduceNeg, Int.reduceEq, splice, Nat.reduceEqDiff, Nat.reduceLT, isAtom, Int.reduceSub, Int.reduceMul, implies_true]

theorem refput_spec (k r s : Int) (p w : Bool) (h : rightC k r s w = true) (m : Mem) (K : Value → Mem → Prop)
    (hk : ∀ i g T, (m ++ g)[i]? = some ⟨(putL8 k r s p w).map (Value.int .i64 ·), T, 1, 0, .own⟩ → K (.slice (some ⟨i, 0, none⟩) (putL8 k r s p w).length (putL8 k r s p w).length) (m ++ g)) :
    LCall Tryd.prog 92 [ctlV k r s p, .bool w] m K := by
  obtain ⟨hkk, hs, hrr, hk1, hk5⟩ := right_of h
  refine LCall_enter Tryd.func92 c92 ?_
  by_cases h6 : 6 ≤ k
  · have e : putL8 k r s p w = [baseL.getD (k - 6).toNat 0 + sixt p] := if_pos h6
    rw [e] at hk
    have h5 : ((5 : Int) < k) = True := eq_true (by omega)
    rcases nine_cases h6 hkk.2 with rfl | rfl | rfl | rfl | rfl | rfl | rfl | rfl | rfl <;> cases p <;>
    · simp (contextual := true) (implicitDefEqProofs := false) (maxSteps := 2000000) (disch := first | rfl | exact Nat.le_of_ble_eq_true rfl | omega | (simp only [List.length_append, List.length_cons, List.length_nil, List.length_set]; omega)) only [L92, h5, X1, X2, X3, X4, XA, XB, lc_block, lc_cond, XZ, undef_eq, Nat.reduceAdd, Nat.reduceSub, ↓reduceIte, basic, cellsL, resOf, setAt, below, belowB, belowA, atomB, Nat.reduceLeDiff, Nat.reduceMul, Int.reduceToNat, Int.reduceLT, Int.reduceLE, Int.reduceAdd, Int.reduceNeg, Int.reduceEq, splice, Nat.reduceEqDiff, Nat.reduceLT, isAtom, Int.reduceSub, Int.reduceMul, implies_true]
      exact hk (m.length + 2) _ 3 (by rw [List.getElem?_append_right (by omega)]; simp; rfl)
  · have h5 : ((5 : Int) < k) = False := eq_false (by omega)
    have hf := first_facts (k := k) (s := s) (by omega) hs.1 hk1
    have hm : m8 w ≤ 128 := by cases w <;> decide
    rcases (show k = 1 ∨ k = 2 ∨ k = 3 ∨ k = 4 ∨ k = 5 by omega) with rfl | rfl | rfl | rfl | rfl
    · cases w
      · rw [m8_f] at hs hrr
        cases p
        · have e : putL8 1 r s false false = [32 * r + 2 * s] := by simp [putL8, sixt, onee, firstC]
          rw [e] at hk
          simp (contextual := true) (implicitDefEqProofs := false) (maxSteps := 2000000) (disch := first | rfl | exact Nat.le_of_ble_eq_true rfl | omega | (simp only [List.length_append, List.length_cons, List.length_nil, List.length_set]; omega)) only [L92, h5, X1, X2, X3, X4, XA, XB, lc_block, lc_cond, XZ, undef_eq, Nat.reduceAdd, Nat.reduceSub, ↓reduceIte, basic, cellsL, resOf, setAt, below, belowB, belowA, atomB, Nat.reduceLeDiff, Nat.reduceMul, Int.reduceToNat, Int.reduceLT, Int.reduceLE, Int.reduceAdd, Int.reduceNeg, Int.reduceEq, splice, Nat.reduceEqDiff, Nat.reduceLT, isAtom, Int.reduceSub, Int.reduceMul, implies_true]
          exact hk (m.length + 1) _ 3 (by rw [List.getElem?_append_right (by omega)]; simp)
        · have e : putL8 1 r s true false = [32 * r + 16 + 2 * s] := by simp [putL8, sixt, onee, firstC]
          rw [e] at hk
          simp (contextual := true) (implicitDefEqProofs := false) (maxSteps := 2000000) (disch := first | rfl | exact Nat.le_of_ble_eq_true rfl | omega | (simp only [List.length_append, List.length_cons, List.length_nil, List.length_set]; omega)) only [L92, h5, X1, X2, X3, X4, XA, XB, lc_block, lc_cond, XZ, undef_eq, Nat.reduceAdd, Nat.reduceSub, ↓reduceIte, basic, cellsL, resOf, setAt, below, belowB, belowA, atomB, Nat.reduceLeDiff, Nat.reduceMul, Int.reduceToNat, Int.reduceLT, Int.reduceLE, Int.reduceAdd, Int.reduceNeg, Int.reduceEq, splice, Nat.reduceEqDiff, Nat.reduceLT, isAtom, Int.reduceSub, Int.reduceMul, implies_true]
          exact hk (m.length + 1) _ 3 (by rw [List.getElem?_append_right (by omega)]; simp)
      · rw [m8_t] at hs hrr
        cases p
        · have e : putL8 1 r s false true = [2 * s, 2 * r] := by simp [putL8, sixt, onee, firstC]
          rw [e] at hk
          simp (contextual := true) (implicitDefEqProofs := false) (maxSteps := 2000000) (disch := first | rfl | exact Nat.le_of_ble_eq_true rfl | omega | (simp only [List.length_append, List.length_cons, List.length_nil, List.length_set]; omega)) only [L92, h5, X1, X2, X3, X4, XA, XB, lc_block, lc_cond, XZ, undef_eq, Nat.reduceAdd, Nat.reduceSub, ↓reduceIte, basic, cellsL, resOf, setAt, below, belowB, belowA, atomB, Nat.reduceLeDiff, Nat.reduceMul, Int.reduceToNat, Int.reduceLT, Int.reduceLE, Int.reduceAdd, Int.reduceNeg, Int.reduceEq, splice, Nat.reduceEqDiff, Nat.reduceLT, isAtom, Int.reduceSub, Int.reduceMul, implies_true]
          exact hk (m.length + 1) _ 3 (by rw [List.getElem?_append_right (by omega)]; simp)
        · have e : putL8 1 r s true true = [2 * s, 2 * r + 1] := by simp [putL8, sixt, onee, firstC]
          rw [e] at hk
          simp (contextual := true) (implicitDefEqProofs := false) (maxSteps := 2000000) (disch := first | rfl | exact Nat.le_of_ble_eq_true rfl | omega | (simp only [List.length_append, List.length_cons, List.length_nil, List.length_set]; omega)) only [L92, h5, X1, X2, X3, X4, XA, XB, lc_block, lc_cond, XZ, undef_eq, Nat.reduceAdd, Nat.reduceSub, ↓reduceIte, basic, cellsL, resOf, setAt, below, belowB, belowA, atomB, Nat.reduceLeDiff, Nat.reduceMul, Int.reduceToNat, Int.reduceLT, Int.reduceLE, Int.reduceAdd, Int.reduceNeg, Int.reduceEq, splice, Nat.reduceEqDiff, Nat.reduceLT, isAtom, Int.reduceSub, Int.reduceMul, implies_true]
          exact hk (m.length + 1) _ 3 (by rw [List.getElem?_append_right (by omega)]; simp)
    · cases w
      · rw [m8_f] at hs hrr
        cases p
        · have e : putL8 2 r s false false = [32 * r + 1] := by simp [putL8, sixt, onee, firstC]
          rw [e] at hk
          simp (contextual := true) (implicitDefEqProofs := false) (maxSteps := 2000000) (disch := first | rfl | exact Nat.le_of_ble_eq_true rfl | omega | (simp only [List.length_append, List.length_cons, List.length_nil, List.length_set]; omega)) only [L92, h5, X1, X2, X3, X4, XA, XB, lc_block, lc_cond, XZ, undef_eq, Nat.reduceAdd, Nat.reduceSub, ↓reduceIte, basic, cellsL, resOf, setAt, below, belowB, belowA, atomB, Nat.reduceLeDiff, Nat.reduceMul, Int.reduceToNat, Int.reduceLT, Int.reduceLE, Int.reduceAdd, Int.reduceNeg, Int.reduceEq, splice, Nat.reduceEqDiff, Nat.reduceLT, isAtom, Int.reduceSub, Int.reduceMul, implies_true]
          exact hk (m.length + 2) _ 3 (by rw [List.getElem?_append_right (by omega)]; simp)
        · have e : putL8 2 r s true false = [32 * r + 16 + 1] := by simp [putL8, sixt, onee, firstC]
          rw [e] at hk
          simp (contextual := true) (implicitDefEqProofs := false) (maxSteps := 2000000) (disch := first | rfl | exact Nat.le_of_ble_eq_true rfl | omega | (simp only [List.length_append, List.length_cons, List.length_nil, List.length_set]; omega)) only [L92, h5, X1, X2, X3, X4, XA, XB, lc_block, lc_cond, XZ, undef_eq, Nat.reduceAdd, Nat.reduceSub, ↓reduceIte, basic, cellsL, resOf, setAt, below, belowB, belowA, atomB, Nat.reduceLeDiff, Nat.reduceMul, Int.reduceToNat, Int.reduceLT, Int.reduceLE, Int.reduceAdd, Int.reduceNeg, Int.reduceEq, splice, Nat.reduceEqDiff, Nat.reduceLT, isAtom, Int.reduceSub, Int.reduceMul, implies_true]
          exact hk (m.length + 2) _ 3 (by rw [List.getElem?_append_right (by omega)]; simp)
      · rw [m8_t] at hs hrr
        cases p
        · have e : putL8 2 r s false true = [1, 2 * r] := by simp [putL8, sixt, onee, firstC]
          rw [e] at hk
          simp (contextual := true) (implicitDefEqProofs := false) (maxSteps := 2000000) (disch := first | rfl | exact Nat.le_of_ble_eq_true rfl | omega | (simp only [List.length_append, List.length_cons, List.length_nil, List.length_set]; omega)) only [L92, h5, X1, X2, X3, X4, XA, XB, lc_block, lc_cond, XZ, undef_eq, Nat.reduceAdd, Nat.reduceSub, ↓reduceIte, basic, cellsL, resOf, setAt, below, belowB, belowA, atomB, Nat.reduceLeDiff, Nat.reduceMul, Int.reduceToNat, Int.reduceLT, Int.reduceLE, Int.reduceAdd, Int.reduceNeg, Int.reduceEq, splice, Nat.reduceEqDiff, Nat.reduceLT, isAtom, Int.reduceSub, Int.reduceMul, implies_true]
          exact hk (m.length + 2) _ 3 (by rw [List.getElem?_append_right (by omega)]; simp)
        · have e : putL8 2 r s true true = [1, 2 * r + 1] := by simp [putL8, sixt, onee, firstC]
          rw [e] at hk
          simp (contextual := true) (implicitDefEqProofs := false) (maxSteps := 2000000) (disch := first | rfl | exact Nat.le_of_ble_eq_true rfl | omega | (simp only [List.length_append, List.length_cons, List.length_nil, List.length_set]; omega)) only [L92, h5, X1, X2, X3, X4, XA, XB, lc_block, lc_cond, XZ, undef_eq, Nat.reduceAdd, Nat.reduceSub, ↓reduceIte, basic, cellsL, resOf, setAt, below, belowB, belowA, atomB, Nat.reduceLeDiff, Nat.reduceMul, Int.reduceToNat, Int.reduceLT, Int.reduceLE, Int.reduceAdd, Int.reduceNeg, Int.reduceEq, splice, Nat.reduceEqDiff, Nat.reduceLT, isAtom, Int.reduceSub, Int.reduceMul, implies_true]
          exact hk (m.length + 2) _ 3 (by rw [List.getElem?_append_right (by omega)]; simp)
    · cases w
      · rw [m8_f] at hs hrr
        cases p
        · have e : putL8 3 r s false false = [32 * r + 5] := by simp [putL8, sixt, onee, firstC]
          rw [e] at hk
          simp (contextual := true) (implicitDefEqProofs := false) (maxSteps := 2000000) (disch := first | rfl | exact Nat.le_of_ble_eq_true rfl | omega | (simp only [List.length_append, List.length_cons, List.length_nil, List.length_set]; omega)) only [L92, h5, X1, X2, X3, X4, XA, XB, lc_block, lc_cond, XZ, undef_eq, Nat.reduceAdd, Nat.reduceSub, ↓reduceIte, basic, cellsL, resOf, setAt, below, belowB, belowA, atomB, Nat.reduceLeDiff, Nat.reduceMul, Int.reduceToNat, Int.reduceLT, Int.reduceLE, Int.reduceAdd, Int.reduceNeg, Int.reduceEq, splice, Nat.reduceEqDiff, Nat.reduceLT, isAtom, Int.reduceSub, Int.reduceMul, implies_true]
          exact hk (m.length + 2) _ 3 (by rw [List.getElem?_append_right (by omega)]; simp)
        · have e : putL8 3 r s true false = [32 * r + 16 + 5] := by simp [putL8, sixt, onee, firstC]
          rw [e] at hk
          simp (contextual := true) (implicitDefEqProofs := false) (maxSteps := 2000000) (disch := first | rfl | exact Nat.le_of_ble_eq_true rfl | omega | (simp only [List.length_append, List.length_cons, List.length_nil, List.length_set]; omega)) only [L92, h5, X1, X2, X3, X4, XA, XB, lc_block, lc_cond, XZ, undef_eq, Nat.reduceAdd, Nat.reduceSub, ↓reduceIte, basic, cellsL, resOf, setAt, below, belowB, belowA, atomB, Nat.reduceLeDiff, Nat.reduceMul, Int.reduceToNat, Int.reduceLT, Int.reduceLE, Int.reduceAdd, Int.reduceNeg, Int.reduceEq, splice, Nat.reduceEqDiff, Nat.reduceLT, isAtom, Int.reduceSub, Int.reduceMul, implies_true]
          exact hk (m.length + 2) _ 3 (by rw [List.getElem?_append_right (by omega)]; simp)
      · rw [m8_t] at hs hrr
        cases p
        · have e : putL8 3 r s false true = [5, 2 * r] := by simp [putL8, sixt, onee, firstC]
          rw [e] at hk
          simp (contextual := true) (implicitDefEqProofs := false) (maxSteps := 2000000) (disch := first | rfl | exact Nat.le_of_ble_eq_true rfl | omega | (simp only [List.length_append, List.length_cons, List.length_nil, List.length_set]; omega)) only [L92, h5, X1, X2, X3, X4, XA, XB, lc_block, lc_cond, XZ, undef_eq, Nat.reduceAdd, Nat.reduceSub, ↓reduceIte, basic, cellsL, resOf, setAt, below, belowB, belowA, atomB, Nat.reduceLeDiff, Nat.reduceMul, Int.reduceToNat, Int.reduceLT, Int.reduceLE, Int.reduceAdd, Int.reduceNeg, Int.reduceEq, splice, Nat.reduceEqDiff, Nat.reduceLT, isAtom, Int.reduceSub, Int.reduceMul, implies_true]
          exact hk (m.length + 2) _ 3 (by rw [List.getElem?_append_right (by omega)]; simp)
        · have e : putL8 3 r s true true = [5, 2 * r + 1] := by simp [putL8, sixt, onee, firstC]
          rw [e] at hk
          simp (contextual := true) (implicitDefEqProofs := false) (maxSteps := 2000000) (disch := first | rfl | exact Nat.le_of_ble_eq_true rfl | omega | (simp only [List.length_append, List.length_cons, List.length_nil, List.length_set]; omega)) only [L92, h5, X1, X2, X3, X4, XA, XB, lc_block, lc_cond, XZ, undef_eq, Nat.reduceAdd, Nat.reduceSub, ↓reduceIte, basic, cellsL, resOf, setAt, below, belowB, belowA, atomB, Nat.reduceLeDiff, Nat.reduceMul, Int.reduceToNat, Int.reduceLT, Int.reduceLE, Int.reduceAdd, Int.reduceNeg, Int.reduceEq, splice, Nat.reduceEqDiff, Nat.reduceLT, isAtom, Int.reduceSub, Int.reduceMul, implies_true]
          exact hk (m.length + 2) _ 3 (by rw [List.getElem?_append_right (by omega)]; simp)
    · cases w
      · rw [m8_f] at hs hrr
        cases p
        · have e : putL8 4 r s false false = [32 * r + 9] := by simp [putL8, sixt, onee, firstC]
          rw [e] at hk
          simp (contextual := true) (implicitDefEqProofs := false) (maxSteps := 2000000) (disch := first | rfl | exact Nat.le_of_ble_eq_true rfl | omega | (simp only [List.length_append, List.length_cons, List.length_nil, List.length_set]; omega)) only [L92, h5, X1, X2, X3, X4, XA, XB, lc_block, lc_cond, XZ, undef_eq, Nat.reduceAdd, Nat.reduceSub, ↓reduceIte, basic, cellsL, resOf, setAt, below, belowB, belowA, atomB, Nat.reduceLeDiff, Nat.reduceMul, Int.reduceToNat, Int.reduceLT, Int.reduceLE, Int.reduceAdd, Int.reduceNeg, Int.reduceEq, splice, Nat.reduceEqDiff, Nat.reduceLT, isAtom, Int.reduceSub, Int.reduceMul, implies_true]
          exact hk (m.length + 2) _ 3 (by rw [List.getElem?_append_right (by omega)]; simp)
        · have e : putL8 4 r s true false = [32 * r + 16 + 9] := by simp [putL8, sixt, onee, firstC]
          rw [e] at hk
          simp (contextual := true) (implicitDefEqProofs := false) (maxSteps := 2000000) (disch := first | rfl | exact Nat.le_of_ble_eq_true rfl | omega | (simp only [List.length_append, List.length_cons, List.length_nil, List.length_set]; omega)) only [L92, h5, X1, X2, X3, X4, XA, XB, lc_block, lc_cond, XZ, undef_eq, Nat.reduceAdd, Nat.reduceSub, ↓reduceIte, basic, cellsL, resOf, setAt, below, belowB, belowA, atomB, Nat.reduceLeDiff, Nat.reduceMul, Int.reduceToNat, Int.reduceLT, Int.reduceLE, Int.reduceAdd, Int.reduceNeg, Int.reduceEq, splice, Nat.reduceEqDiff, Nat.reduceLT, isAtom, Int.reduceSub, Int.reduceMul, implies_true]
          exact hk (m.length + 2) _ 3 (by rw [List.getElem?_append_right (by omega)]; simp)
      · rw [m8_t] at hs hrr
        cases p
        · have e : putL8 4 r s false true = [9, 2 * r] := by simp [putL8, sixt, onee, firstC]
          rw [e] at hk
          simp (contextual := true) (implicitDefEqProofs := false) (maxSteps := 2000000) (disch := first | rfl | exact Nat.le_of_ble_eq_true rfl | omega | (simp only [List.length_append, List.length_cons, List.length_nil, List.length_set]; omega)) only [L92, h5, X1, X2, X3, X4, XA, XB, lc_block, lc_cond, XZ, undef_eq, Nat.reduceAdd, Nat.reduceSub, ↓reduceIte, basic, cellsL, resOf, setAt, below, belowB, belowA, atomB, Nat.reduceLeDiff, Nat.reduceMul, Int.reduceToNat, Int.reduceLT, Int.reduceLE, Int.reduceAdd, Int.reduceNeg, Int.reduceEq, splice, Nat.reduceEqDiff, Nat.reduceLT, isAtom, Int.reduceSub, Int.reduceMul, implies_true]
          exact hk (m.length + 2) _ 3 (by rw [List.getElem?_append_right (by omega)]; simp)
        · have e : putL8 4 r s true true = [9, 2 * r + 1] := by simp [putL8, sixt, onee, firstC]
          rw [e] at hk
          simp (contextual := true) (implicitDefEqProofs := false) (maxSteps := 2000000) (disch := first | rfl | exact Nat.le_of_ble_eq_true rfl | omega | (simp only [List.length_append, List.length_cons, List.length_nil, List.length_set]; omega)) only [L92, h5, X1, X2, X3, X4, XA, XB, lc_block, lc_cond, XZ, undef_eq, Nat.reduceAdd, Nat.reduceSub, ↓reduceIte, basic, cellsL, resOf, setAt, below, belowB, belowA, atomB, Nat.reduceLeDiff, Nat.reduceMul, Int.reduceToNat, Int.reduceLT, Int.reduceLE, Int.reduceAdd, Int.reduceNeg, Int.reduceEq, splice, Nat.reduceEqDiff, Nat.reduceLT, isAtom, Int.reduceSub, Int.reduceMul, implies_true]
          exact hk (m.length + 2) _ 3 (by rw [List.getElem?_append_right (by omega)]; simp)
    · cases w
      · rw [m8_f] at hs hrr
        cases p
        · have e : putL8 5 r s false false = [32 * r + 13] := by simp [putL8, sixt, onee, firstC]
          rw [e] at hk
          simp (contextual := true) (implicitDefEqProofs := false) (maxSteps := 2000000) (disch := first | rfl | exact Nat.le_of_ble_eq_true rfl | omega | (simp only [List.length_append, List.length_cons, List.length_nil, List.length_set]; omega)) only [L92, h5, X1, X2, X3, X4, XA, XB, lc_block, lc_cond, XZ, undef_eq, Nat.reduceAdd, Nat.reduceSub, ↓reduceIte, basic, cellsL, resOf, setAt, below, belowB, belowA, atomB, Nat.reduceLeDiff, Nat.reduceMul, Int.reduceToNat, Int.reduceLT, Int.reduceLE, Int.reduceAdd, Int.reduceNeg, Int.reduceEq, splice, Nat.reduceEqDiff, Nat.reduceLT, isAtom, Int.reduceSub, Int.reduceMul, implies_true]
          exact hk (m.length + 2) _ 3 (by rw [List.getElem?_append_right (by omega)]; simp)
        · have e : putL8 5 r s true false = [32 * r + 16 + 13] := by simp [putL8, sixt, onee, firstC]
          rw [e] at hk
          simp (contextual := true) (implicitDefEqProofs := false) (maxSteps := 2000000) (disch := first | rfl | exact Nat.le_of_ble_eq_true rfl | omega | (simp only [List.length_append, List.length_cons, List.length_nil, List.length_set]; omega)) only [L92, h5, X1, X2, X3, X4, XA, XB, lc_block, lc_cond, XZ, undef_eq, Nat.reduceAdd, Nat.reduceSub, ↓reduceIte, basic, cellsL, resOf, setAt, below, belowB, belowA, atomB, Nat.reduceLeDiff, Nat.reduceMul, Int.reduceToNat, Int.reduceLT, Int.reduceLE, Int.reduceAdd, Int.reduceNeg, Int.reduceEq, splice, Nat.reduceEqDiff, Nat.reduceLT, isAtom, Int.reduceSub, Int.reduceMul, implies_true]
          exact hk (m.length + 2) _ 3 (by rw [List.getElem?_append_right (by omega)]; simp)
      · rw [m8_t] at hs hrr
        cases p
        · have e : putL8 5 r s false true = [13, 2 * r] := by simp [putL8, sixt, onee, firstC]
          rw [e] at hk
          simp (contextual := true) (implicitDefEqProofs := false) (maxSteps := 2000000) (disch := first | rfl | exact Nat.le_of_ble_eq_true rfl | omega | (simp only [List.length_append, List.length_cons, List.length_nil, List.length_set]; omega)) only [L92, h5, X1, X2, X3, X4, XA, XB, lc_block, lc_cond, XZ, undef_eq, Nat.reduceAdd, Nat.reduceSub, ↓reduceIte, basic, cellsL, resOf, setAt, below, belowB, belowA, atomB, Nat.reduceLeDiff, Nat.reduceMul, Int.reduceToNat, Int.reduceLT, Int.reduceLE, Int.reduceAdd, Int.reduceNeg, Int.reduceEq, splice, Nat.reduceEqDiff, Nat.reduceLT, isAtom, Int.reduceSub, Int.reduceMul, implies_true]
          exact hk (m.length + 2) _ 3 (by rw [List.getElem?_append_right (by omega)]; simp)
        · have e : putL8 5 r s true true = [13, 2 * r + 1] := by simp [putL8, sixt, onee, firstC]
          rw [e] at hk
          simp (contextual := true) (implicitDefEqProofs := false) (maxSteps := 2000000) (disch := first | rfl | exact Nat.le_of_ble_eq_true rfl | omega | (simp only [List.length_append, List.length_cons, List.length_nil, List.length_set]; omega)) only [L92, h5, X1, X2, X3, X4, XA, XB, lc_block, lc_cond, XZ, undef_eq, Nat.reduceAdd, Nat.reduceSub, ↓reduceIte, basic, cellsL, resOf, setAt, below, belowB, belowA, atomB, Nat.reduceLeDiff, Nat.reduceMul, Int.reduceToNat, Int.reduceLT, Int.reduceLE, Int.reduceAdd, Int.reduceNeg, Int.reduceEq, splice, Nat.reduceEqDiff, Nat.reduceLT, isAtom, Int.reduceSub, Int.reduceMul, implies_true]
          exact hk (m.length + 2) _ 3 (by rw [List.getElem?_append_right (by omega)]; simp)

end Go.Proofs.YtenbkoalanfdhaaDoor.K
/- The control of any bytes, walked. -/
namespace Go.Proofs.YtenbkoalanfdhaaDoor.K
open Go.Lg
set_option maxRecDepth 8000
set_option maxHeartbeats 8000000
set_option linter.unusedSimpArgs false
set_option linter.unnecessarySimpa false
set_option linter.unusedVariables false

def rest16 (n : Nat) : Nat := n - 16 * (n / 16 % 2)
theorem andNot16 {n : Nat} (h : n < 256) : binV .andNot (.int .i64 (n : Int)) (.int .i64 16) = some (.int .i64 ((rest16 n : Nat) : Int)) := by
  have key : ∀ n : Fin 256, IntKind.i64.wrap ((BitVec.ofInt IntKind.i64.bits ((n.1 : Nat) : Int) &&& ~~~ BitVec.ofInt IntKind.i64.bits 16).toNat : Int) = ((rest16 n.1 : Nat) : Int) := by decide +kernel
  rw [bin_andNot]
  exact congrArg (fun y => some (Value.int .i64 y)) (key ⟨n, h⟩)
theorem rest_base : ∀ i, i < 9 → ∀ p, ((rest16 (baseL.getD i 0 + sixt p).toNat : Nat) : Int) = baseL.getD i 0 := by decide
theorem base_mem : ∀ i, i < 9 → baseL.getD i 0 ∈ baseL := by decide
theorem base_get : ∀ i, i < 9 → ∀ v, baseL[i]? = some v → baseL.getD i 0 = v := by
  intro i _ v h
  rw [List.getD_eq_getElem?_getD, h]; rfl
theorem plainAll_spec {n : Nat} (hn : n < 256) (m : Mem) : Ret Tryd.prog 116 [.int .i64 (n : Int)] m (.tuple #[(plainC n).2.1.val, .int .i64 (((plainC n).2.2 : Nat) : Int), .int .i64 (plainC n).1]) m := by
  rcases plainC_some hn with h | ⟨i, hi, p, h⟩
  · rw [h]
    refine LCall_drop (LCall_enter Tryd.func116 c116 ?_)
    simp (contextual := true) (implicitDefEqProofs := false) (maxSteps := 2000000) (disch := first | rfl | exact Nat.le_of_ble_eq_true rfl | omega | (simp only [List.length_append, List.length_cons, List.length_nil, List.length_set]; omega)) only [L116, X1, X2, X3, X4, XA, XB, lc_block, lc_cond, XZ, undef_eq, Nat.reduceAdd, Nat.reduceSub, ↓reduceIte, basic, cellsL, resOf, setAt, below, belowB, belowA, atomB, Nat.reduceLeDiff, Nat.reduceMul, Int.reduceToNat, Int.reduceLT, Int.reduceLE, Int.reduceAdd, Int.reduceNeg, Int.reduceEq, splice, Nat.reduceEqDiff, Nat.reduceLT, isAtom, Int.reduceSub, Int.reduceMul, implies_true]
    refine (bases_spec _).use ?_
    simp (contextual := true) (implicitDefEqProofs := false) (maxSteps := 2000000) (disch := first | rfl | exact Nat.le_of_ble_eq_true rfl | omega | (simp only [List.length_append, List.length_cons, List.length_nil, List.length_set]; omega)) only [andNot16 hn, X1, X2, X3, X4, XA, bin_add, bin_sub, bin_mul, bin_quo, bin_rem, bin_or, bin_xor, bin_eql, bin_neq, bin_lss, bin_leq, bin_gtr, bin_geq, bin_shl, bin_shr, bin_sadd, bin_seql, bin_sneq, lc_block, lc_cond, XZ, undef_eq, Nat.reduceAdd, Nat.reduceSub, ↓reduceIte, basic, cellsL, resOf, setAt, below, belowB, belowA, atomB, Nat.reduceLeDiff, Nat.reduceMul, Int.reduceToNat, Int.reduceLT, Int.reduceLE, Int.reduceAdd, Int.reduceNeg, Int.reduceEq, splice, Nat.reduceEqDiff, Nat.reduceLT, isAtom, Int.reduceSub, Int.reduceMul, implies_true]
    refine arr_full (cs := baseL.map (Value.int .i64 ·)) (T := 181) (f := 0) rfl (by simp [baseL]) (by decide) ?_
    simp (contextual := true) (implicitDefEqProofs := false) (maxSteps := 2000000) (disch := first | rfl | exact Nat.le_of_ble_eq_true rfl | omega | (simp only [List.length_append, List.length_cons, List.length_nil, List.length_set]; omega)) only [andNot16 hn, X1, X2, X3, X4, XA, bin_add, bin_sub, bin_mul, bin_quo, bin_rem, bin_or, bin_xor, bin_eql, bin_neq, bin_lss, bin_leq, bin_gtr, bin_geq, bin_shl, bin_shr, bin_sadd, bin_seql, bin_sneq, lc_block, lc_cond, XZ, undef_eq, Nat.reduceAdd, Nat.reduceSub, ↓reduceIte, basic, cellsL, resOf, setAt, below, belowB, belowA, atomB, Nat.reduceLeDiff, Nat.reduceMul, Int.reduceToNat, Int.reduceLT, Int.reduceLE, Int.reduceAdd, Int.reduceNeg, Int.reduceEq, splice, Nat.reduceEqDiff, Nat.reduceLT, isAtom, Int.reduceSub, Int.reduceMul, implies_true]
    refine index_spec (m.length + 1) 181 baseL _ _ (by simp [baseL]) (by decide) _ (fun k hk _ => ?_) (fun hm => ?_)
    · exfalso
      have hk9 : k < 9 := (List.getElem?_eq_some_iff.mp hk).1
      have h1 := base_get k hk9 _ hk
      have : (List.range 9).find? (fun i => decide (baseL.getD i 0 = ((n - 16 * (n / 16 % 2) : Nat) : Int))) ≠ none := by
        intro hnone
        rw [List.find?_eq_none] at hnone
        exact hnone k (by simpa using hk9) (decide_eq_true h1)
      unfold plainC at h
      split at h
      · cases h
      · rename_i h2; exact this h2
    · simp (contextual := true) (implicitDefEqProofs := false) (maxSteps := 2000000) (disch := first | rfl | exact Nat.le_of_ble_eq_true rfl | omega | (simp only [List.length_append, List.length_cons, List.length_nil, List.length_set]; omega)) only [czero, Ct.val, X1, X2, X3, X4, XA, XB, lc_block, lc_cond, XZ, undef_eq, Nat.reduceAdd, Nat.reduceSub, ↓reduceIte, basic, cellsL, resOf, setAt, below, belowB, belowA, atomB, Nat.reduceLeDiff, Nat.reduceMul, Int.reduceToNat, Int.reduceLT, Int.reduceLE, Int.reduceAdd, Int.reduceNeg, Int.reduceEq, splice, Nat.reduceEqDiff, Nat.reduceLT, isAtom, Int.reduceSub, Int.reduceMul, implies_true]
  · have hpn : plainC n = (0, ⟨6 + (i : Int), 0, 0, p⟩, 1) := by
      have := plainC_at hi p
      rw [← h] at this
      simpa using this
    rw [hpn, h]
    exact plain52_spec hi p m
theorem empty_get (w : Bool) (m : Mem) : Ret Tryd.prog 83 [str [], .bool w] m (.tuple #[czero.val, .int .i64 0, .int .i64 4]) m := by
  refine LCall_drop (LCall_enter Tryd.func83 c83 ?_)
  simp (contextual := true) (implicitDefEqProofs := false) (maxSteps := 2000000) (disch := first | rfl | exact Nat.le_of_ble_eq_true rfl | omega | (simp only [List.length_append, List.length_cons, List.length_nil, List.length_set]; omega)) only [L83, bin_ladd, str_cut, str_app, str_eq, string_mk_size, string_mk, czero, Ct.val, X1, X2, X3, X4, XA, XB, lc_block, lc_cond, XZ, undef_eq, Nat.reduceAdd, Nat.reduceSub, ↓reduceIte, basic, cellsL, resOf, setAt, below, belowB, belowA, atomB, Nat.reduceLeDiff, Nat.reduceMul, Int.reduceToNat, Int.reduceLT, Int.reduceLE, Int.reduceAdd, Int.reduceNeg, Int.reduceEq, splice, Nat.reduceEqDiff, Nat.reduceLT, isAtom, Int.reduceSub, Int.reduceMul, implies_true]
/-- The control of bytes. -/
theorem getK_spec (s : List UInt8) (w : Bool) (m : Mem) (hl : s.length ≤ 140737488355328) : Ret Tryd.prog 83 [str s, .bool w] m (.tuple #[(getC s w).2.1.val, .int .i64 (((getC s w).2.2 : Nat) : Int), .int .i64 (getC s w).1]) m := by
  match s, hl with
  | [], _ => exact empty_get w m
  | b :: r, hl =>
    have hn := b.toNat_lt
    have ht : (⟨(b :: r).toArray⟩ : ByteArray).data.toList[0]? = some b := by simp
    by_cases h3 : b.toNat % 4 = 3
    · have e : getC (b :: r) w = plainC b.toNat := by rw [getC, if_pos h3]
      rw [e]
      refine LCall_drop (LCall_enter Tryd.func83 c83 ?_)
      have h3' : (((b.toNat % 4 : Nat) : Int) = 3) = True := eq_true (by omega)
      simp (contextual := true) (implicitDefEqProofs := false) (maxSteps := 2000000) (disch := first | rfl | exact Nat.le_of_ble_eq_true rfl | omega | (simp only [List.length_append, List.length_cons, List.length_nil, List.length_set]; omega)) only [L83, ne_empty ht, ht, u8_wrap, b_and3 hn, h3', X1, X2, X3, X4, XA, bin_add, bin_sub, bin_mul, bin_quo, bin_rem, bin_or, bin_xor, bin_andNot, bin_eql, bin_neq, bin_lss, bin_leq, bin_gtr, bin_geq, bin_shl, bin_sadd, bin_seql, bin_sneq, lc_block, lc_cond, XZ, undef_eq, Nat.reduceAdd, Nat.reduceSub, ↓reduceIte, basic, cellsL, resOf, setAt, below, belowB, belowA, atomB, Nat.reduceLeDiff, Nat.reduceMul, Int.reduceToNat, Int.reduceLT, Int.reduceLE, Int.reduceAdd, Int.reduceNeg, Int.reduceEq, splice, Nat.reduceEqDiff, Nat.reduceLT, isAtom, Int.reduceSub, Int.reduceMul, implies_true]
      refine (plainAll_spec hn _).use ?_
      simp (contextual := true) (implicitDefEqProofs := false) (maxSteps := 2000000) (disch := first | rfl | exact Nat.le_of_ble_eq_true rfl | omega | (simp only [List.length_append, List.length_cons, List.length_nil, List.length_set]; omega)) only [Ct.val, X1, X2, X3, X4, XA, XB, lc_block, lc_cond, XZ, undef_eq, Nat.reduceAdd, Nat.reduceSub, ↓reduceIte, basic, cellsL, resOf, setAt, below, belowB, belowA, atomB, Nat.reduceLeDiff, Nat.reduceMul, Int.reduceToNat, Int.reduceLT, Int.reduceLE, Int.reduceAdd, Int.reduceNeg, Int.reduceEq, splice, Nat.reduceEqDiff, Nat.reduceLT, isAtom, Int.reduceSub, Int.reduceMul, implies_true]
    · cases w with
      | false =>
        have e : getC (b :: r) false = (0, narC b.toNat, 1) := by rw [getC, if_neg h3, if_pos rfl]
        rw [e]
        exact get_narrow _ b ht h3 m
      | true =>
        have e : getC (b :: r) true = wOf b.toNat r := by rw [getC, if_neg h3, if_neg (by decide)]
        rw [e]
        have h3' : (((b.toNat % 4 : Nat) : Int) = 3) = False := eq_false (by omega)
        match r, hl with
        | [], hl =>
          refine LCall_drop (LCall_enter Tryd.func83 c83 ?_)
          simp (contextual := true) (implicitDefEqProofs := false) (maxSteps := 2000000) (disch := first | rfl | exact Nat.le_of_ble_eq_true rfl | omega | (simp only [List.length_append, List.length_cons, List.length_nil, List.length_set]; omega)) only [L83, ne_empty ht, ht, u8_wrap, b_and3 hn, h3', bin_ladd, str_cut, str_app, str_eq, string_mk_size, string_mk, wOf, czero, Ct.val, X1, X2, X3, X4, XA, bin_add, bin_sub, bin_mul, bin_quo, bin_rem, bin_or, bin_xor, bin_andNot, bin_eql, bin_neq, bin_lss, bin_leq, bin_gtr, bin_geq, bin_shl, bin_sadd, bin_seql, bin_sneq, lc_block, lc_cond, XZ, undef_eq, Nat.reduceAdd, Nat.reduceSub, ↓reduceIte, basic, cellsL, resOf, setAt, below, belowB, belowA, atomB, Nat.reduceLeDiff, Nat.reduceMul, Int.reduceToNat, Int.reduceLT, Int.reduceLE, Int.reduceAdd, Int.reduceNeg, Int.reduceEq, splice, Nat.reduceEqDiff, Nat.reduceLT, isAtom, Int.reduceSub, Int.reduceMul, implies_true]
        | c :: r, hl =>
          have hc : (⟨(b :: c :: r).toArray⟩ : ByteArray).data.toList[1]? = some c := by simp
          by_cases h15 : b.toNat % 2 = 0 ∨ b.toNat ≤ 15
          · rw [wOf, if_pos h15]
            exact get_wide _ b c ht hc h3 h15 m
          · rw [wOf, if_neg h15]
            have hnc := c.toNat_lt
            have hsz : (((r.length + 1 + 1 : Nat) : Int) < 2) = False := eq_false (by omega)
            have h2' : (((b.toNat % 2 : Nat) : Int) = 0) = False := eq_false (by omega)
            have h15' : ((15 : Int) < ((b.toNat : Nat) : Int)) = True := eq_true (by omega)
            refine LCall_drop (LCall_enter Tryd.func83 c83 ?_)
            simp (contextual := true) (implicitDefEqProofs := false) (maxSteps := 2000000) (disch := first | rfl | exact Nat.le_of_ble_eq_true rfl | omega | (simp only [List.length_append, List.length_cons, List.length_nil, List.length_set]; omega)) only [L83, ne_empty ht, ht, hc, string_mk_size, hsz, u8_wrap, b_and3 hn, h3', b_and1 hn, b_and1u hnc, b_shr1, b_shr2, h2', h15', czero, Ct.val, X1, X2, X3, X4, XA, bin_add, bin_sub, bin_mul, bin_quo, bin_rem, bin_or, bin_xor, bin_andNot, bin_eql, bin_neq, bin_lss, bin_leq, bin_gtr, bin_geq, bin_shl, bin_sadd, bin_seql, bin_sneq, lc_block, lc_cond, XZ, undef_eq, Nat.reduceAdd, Nat.reduceSub, ↓reduceIte, basic, cellsL, resOf, setAt, below, belowB, belowA, atomB, Nat.reduceLeDiff, Nat.reduceMul, Int.reduceToNat, Int.reduceLT, Int.reduceLE, Int.reduceAdd, Int.reduceNeg, Int.reduceEq, splice, Nat.reduceEqDiff, Nat.reduceLT, isAtom, Int.reduceSub, Int.reduceMul, implies_true]
end Go.Proofs.YtenbkoalanfdhaaDoor.K
/- The control of any bytes, by the document: walked. -/
namespace Go.Proofs.YtenbkoalanfdhaaDoor.K
open Go.Lg
set_option maxRecDepth 8000
set_option maxHeartbeats 8000000
set_option linter.unusedSimpArgs false
set_option linter.unnecessarySimpa false
set_option linter.unusedVariables false

theorem rem4 (n : Nat) : binV .rem (.int .i64 (n : Int)) (.int .i64 4) = some (.int .i64 ((n % 4 : Nat) : Int)) := by
  rw [bin_rem (by decide)]; rfl
theorem rem16 (n : Nat) : binV .rem (.int .i64 (n : Int)) (.int .i64 16) = some (.int .i64 ((n % 16 : Nat) : Int)) := by
  rw [bin_rem (by decide)]; rfl
theorem quo2 {n : Nat} (h : n < 256) : binV .quo (.int .i64 (n : Int)) (.int .i64 2) = some (.int .i64 ((n / 2 : Nat) : Int)) := by
  rw [bin_quo (by decide), show (n : Int).tdiv 2 = ((n / 2 : Nat) : Int) from rfl, wrap_i64 (by omega) (by omega)]
theorem quo32 {n : Nat} (h : n < 256) : binV .quo (.int .i64 (n : Int)) (.int .i64 32) = some (.int .i64 ((n / 32 : Nat) : Int)) := by
  rw [bin_quo (by decide), show (n : Int).tdiv 32 = ((n / 32 : Nat) : Int) from rfl, wrap_i64 (by omega) (by omega)]
theorem putL8_len {k r s : Int} {p w : Bool} : 1 ≤ (putL8 k r s p w).length ∧ (putL8 k r s p w).length ≤ 2 := by
  unfold putL8; split
  · simp
  · split <;> simp
/-- One candidate: tried. -/
theorem hit_iff {s : List UInt8} {w p : Bool} {k : Int} (h2 : w = true → k ≤ 5 → 2 ≤ s.length) : hit s w k p ↔ (putL8 k (cR s w k) (cS s w k) p w).length ≤ s.length ∧ strL (putL8 k (cR s w k) (cS s w k) p w) = s.take (putL8 k (cR s w k) (cS s w k) p w).length := by
  constructor
  · rintro ⟨_, rest, hs⟩
    generalize putL8 k (cR s w k) (cS s w k) p w = l at hs ⊢
    have hl : (strL l).length = l.length := strL_len
    rw [hs]
    constructor
    · rw [List.length_append]; omega
    · rw [List.take_left' hl]
  · rintro ⟨h1, h3⟩
    exact ⟨h2, s.drop (putL8 k (cR s w k) (cS s w k) p w).length, by rw [h3, List.take_append_drop]⟩
theorem rget_empty (w : Bool) (m : Mem) : Ret Tryd.prog 84 [str [], .bool w] m (.tuple #[czero.val, .int .i64 0, .int .i64 4]) m := by
  refine LCall_drop (LCall_enter Tryd.func84 c84 ?_)
  simp (contextual := true) (implicitDefEqProofs := false) (maxSteps := 2000000) (disch := first | rfl | exact Nat.le_of_ble_eq_true rfl | omega | (simp only [List.length_append, List.length_cons, List.length_nil, List.length_set]; omega)) only [L84, bin_ladd, str_cut, str_app, str_eq, string_mk_size, string_mk, czero, Ct.val, X1, X2, X3, X4, XA, XB, lc_block, lc_cond, XZ, undef_eq, Nat.reduceAdd, Nat.reduceSub, ↓reduceIte, basic, cellsL, resOf, setAt, below, belowB, belowA, atomB, Nat.reduceLeDiff, Nat.reduceMul, Int.reduceToNat, Int.reduceLT, Int.reduceLE, Int.reduceAdd, Int.reduceNeg, Int.reduceEq, splice, Nat.reduceEqDiff, Nat.reduceLT, isAtom, Int.reduceSub, Int.reduceMul, implies_true]
theorem rget_short (b : UInt8) (h3 : b.toNat % 4 ≠ 3) (m : Mem) : Ret Tryd.prog 84 [str [b], .bool true] m (.tuple #[czero.val, .int .i64 0, .int .i64 4]) m := by
  refine LCall_drop (LCall_enter Tryd.func84 c84 ?_)
  have ht : (⟨[b].toArray⟩ : ByteArray).data.toList[0]? = some b := by simp
  have h3' : (((b.toNat % 4 : Nat) : Int) = 3) = False := eq_false (by omega)
  simp (contextual := true) (implicitDefEqProofs := false) (maxSteps := 2000000) (disch := first | rfl | exact Nat.le_of_ble_eq_true rfl | omega | (simp only [List.length_append, List.length_cons, List.length_nil, List.length_set]; omega)) only [L84, ne_empty ht, ht, u8_wrap, rem4, h3', string_mk_size, czero, Ct.val, X1, X2, X3, X4, XA, bin_add, bin_sub, bin_mul, bin_quo, bin_and, bin_or, bin_xor, bin_andNot, bin_eql, bin_neq, bin_lss, bin_leq, bin_gtr, bin_geq, bin_shl, bin_shr, bin_sadd, bin_seql, bin_sneq, lc_block, lc_cond, XZ, undef_eq, Nat.reduceAdd, Nat.reduceSub, ↓reduceIte, basic, cellsL, resOf, setAt, below, belowB, belowA, atomB, Nat.reduceLeDiff, Nat.reduceMul, Int.reduceToNat, Int.reduceLT, Int.reduceLE, Int.reduceAdd, Int.reduceNeg, Int.reduceEq, splice, Nat.reduceEqDiff, Nat.reduceLT, isAtom, Int.reduceSub, Int.reduceMul, implies_true]
theorem rget_loop (b : UInt8) (r : List UInt8) (w : Bool) (hl : (b :: r).length ≤ 100000) (hr : w = true → b.toNat % 4 ≠ 3 → 2 ≤ (b :: r).length) (m : Mem) : Ret Tryd.prog 84 [str (b :: r), .bool w] m (.tuple #[(getC (b :: r) w).2.1.val, .int .i64 (((getC (b :: r) w).2.2 : Nat) : Int), .int .i64 (getC (b :: r) w).1]) m := by
  refine LCall_drop (LCall_enter Tryd.func84 c84 ?_)
  have hn := b.toNat_lt
  have ht : (⟨(b :: r).toArray⟩ : ByteArray).data.toList[0]? = some b := by simp
  have hempty := ne_empty ht
  simp only [List.length_cons] at hl
  cases w with
  | false =>
    clear hr
    simp (contextual := true) (implicitDefEqProofs := false) (maxSteps := 2000000) (disch := first | rfl | exact Nat.le_of_ble_eq_true rfl | omega | (simp only [List.length_append, List.length_cons, List.length_nil, List.length_set]; omega)) only [L84, hempty, ht, u8_wrap, rem4, string_mk_size, X1, X2, X3, X4, XA, bin_add, bin_sub, bin_mul, bin_quo, bin_and, bin_or, bin_xor, bin_andNot, bin_eql, bin_neq, bin_lss, bin_leq, bin_gtr, bin_geq, bin_shl, bin_shr, bin_sadd, bin_seql, bin_sneq, lc_block, lc_cond, XZ, undef_eq, Nat.reduceAdd, Nat.reduceSub, ↓reduceIte, basic, cellsL, resOf, setAt, below, belowB, belowA, atomB, Nat.reduceLeDiff, Nat.reduceMul, Int.reduceToNat, Int.reduceLT, Int.reduceLE, Int.reduceAdd, Int.reduceNeg, Int.reduceEq, splice, Nat.reduceEqDiff, Nat.reduceLT, isAtom, Int.reduceSub, Int.reduceMul, implies_true]
    refine loop_inv (fun n t M => ∃ (k : Nat), n = 15 - k ∧ 1 ≤ k ∧ k ≤ 15 ∧ (∀ k' : Int, ∀ p, 1 ≤ k' → k' < (k : Int) → ¬ hit (b :: r) false k' p) ∧ Frm [] m M ∧ M[m.length]? = some ⟨[.int .i64 0, .int .i64 0, .int .i64 0, .bool false], 101, 1, 0, .own⟩ ∧ Tab 103 [(0, str (b :: r)), (1, .bool false), (4, .pointer (some ⟨m.length, 0, none⟩)), (7, .int .i64 (b.toNat : Int)), (8, .int .i64 (k : Int))] t) (n := 14) ?_ ?_
    · exact ⟨1, rfl, Nat.le_refl _, by omega, fun k' p h1 h2 => by omega, Frm.refl.app, by simp, ⟨rfl, by simp⟩⟩
    rintro N t M ⟨k, rfl, hk1, hk, hno, hfm, hb0, ht0⟩
    obtain ⟨f, rfl⟩ : ∃ f' : Nat → Value, t = [str (b :: r), .bool false, f' 2, f' 3, .pointer (some ⟨m.length, 0, none⟩), f' 5, f' 6, .int .i64 (b.toNat : Int), .int .i64 (k : Int), f' 9, f' 10, f' 11, f' 12, f' 13, f' 14, f' 15, f' 16, f' 17, f' 18, f' 19, f' 20, f' 21, f' 22, f' 23, f' 24, f' 25, f' 26, f' 27, f' 28, f' 29, f' 30, f' 31, f' 32, f' 33, f' 34, f' 35, f' 36, f' 37, f' 38, f' 39, f' 40, f' 41, f' 42, f' 43, f' 44, f' 45, f' 46, f' 47, f' 48, f' 49, f' 50, f' 51, f' 52, f' 53, f' 54, f' 55, f' 56, f' 57, f' 58, f' 59, f' 60, f' 61, f' 62, f' 63, f' 64, f' 65, f' 66, f' 67, f' 68, f' 69, f' 70, f' 71, f' 72, f' 73, f' 74, f' 75, f' 76, f' 77, f' 78, f' 79, f' 80, f' 81, f' 82, f' 83, f' 84, f' 85, f' 86, f' 87, f' 88, f' 89, f' 90, f' 91, f' 92, f' 93, f' 94, f' 95, f' 96, f' 97, f' 98, f' 99, f' 100, f' 101, f' 102] := ht0.open fun f' => rfl
    have l0 := lt_of_some hb0
    by_cases hlt : k ≤ 14
    · have hlt' : ((k : Int) ≤ 14) = True := eq_true (by omega)
      have hwk : IntKind.i64.wrap ((k : Int) + 1) = ((k + 1 : Nat) : Int) := by rw [wrap_i64 (by omega) (by omega)]; omega
      simp (contextual := true) (implicitDefEqProofs := false) (maxSteps := 2000000) (disch := first | rfl | exact Nat.le_of_ble_eq_true rfl | omega | (simp only [List.length_append, List.length_cons, List.length_nil, List.length_set]; omega)) only [hlt', X1, X2, X3, X4, XA, XB, lc_block, lc_cond, XZ, undef_eq, Nat.reduceAdd, Nat.reduceSub, ↓reduceIte, basic, cellsL, resOf, setAt, below, belowB, belowA, atomB, Nat.reduceLeDiff, Nat.reduceMul, Int.reduceToNat, Int.reduceLT, Int.reduceLE, Int.reduceAdd, Int.reduceNeg, Int.reduceEq, splice, Nat.reduceEqDiff, Nat.reduceLT, isAtom, Int.reduceSub, Int.reduceMul, implies_true]
      refine loop_inv (fun n t M => ∃ (p : Nat), n = 2 - p ∧ p ≤ 2 ∧ (∀ p' : Nat, p' < p → ¬ hit (b :: r) false (k : Int) (decide (p' = 1))) ∧ Frm [] m M ∧ M[m.length]? = some ⟨[.int .i64 0, .int .i64 0, .int .i64 0, .bool false], 101, 1, 0, .own⟩ ∧ Tab 103 [(0, str (b :: r)), (1, .bool false), (4, .pointer (some ⟨m.length, 0, none⟩)), (7, .int .i64 (b.toNat : Int)), (8, .int .i64 (k : Int)), (9, .int .i64 (p : Int))] t) (n := 2) ?_ ?_
      · exact ⟨0, rfl, Nat.zero_le _, fun p' h => by omega, hfm, hb0, ⟨rfl, by simp⟩⟩
      clear hfm hb0 l0
      rintro N t M ⟨p, rfl, hp, hnp, hfm, hb0, ht0⟩
      obtain ⟨f, rfl⟩ : ∃ f' : Nat → Value, t = [str (b :: r), .bool false, f' 2, f' 3, .pointer (some ⟨m.length, 0, none⟩), f' 5, f' 6, .int .i64 (b.toNat : Int), .int .i64 (k : Int), .int .i64 (p : Int), f' 10, f' 11, f' 12, f' 13, f' 14, f' 15, f' 16, f' 17, f' 18, f' 19, f' 20, f' 21, f' 22, f' 23, f' 24, f' 25, f' 26, f' 27, f' 28, f' 29, f' 30, f' 31, f' 32, f' 33, f' 34, f' 35, f' 36, f' 37, f' 38, f' 39, f' 40, f' 41, f' 42, f' 43, f' 44, f' 45, f' 46, f' 47, f' 48, f' 49, f' 50, f' 51, f' 52, f' 53, f' 54, f' 55, f' 56, f' 57, f' 58, f' 59, f' 60, f' 61, f' 62, f' 63, f' 64, f' 65, f' 66, f' 67, f' 68, f' 69, f' 70, f' 71, f' 72, f' 73, f' 74, f' 75, f' 76, f' 77, f' 78, f' 79, f' 80, f' 81, f' 82, f' 83, f' 84, f' 85, f' 86, f' 87, f' 88, f' 89, f' 90, f' 91, f' 92, f' 93, f' 94, f' 95, f' 96, f' 97, f' 98, f' 99, f' 100, f' 101, f' 102] := ht0.open fun f' => rfl
      have l0 := lt_of_some hb0
      by_cases hp2 : p < 2
      · have hp' : ((p : Int) < 2) = True := eq_true (by omega)
        have hwp : IntKind.i64.wrap ((p : Int) + 1) = ((p + 1 : Nat) : Int) := by rw [wrap_i64 (by omega) (by omega)]; omega
        have hpe : ((p : Int) = 1) = (p = 1) := by apply propext; omega
        have h16 : b.toNat % 16 < 256 := by omega
        have hstep : ∀ p' : Nat, p' < p + 1 → ¬ hit (b :: r) false (k : Int) (decide (p = 1)) → ¬ hit (b :: r) false (k : Int) (decide (p' = 1)) := fun p' h1 h2 => by
          by_cases e : p' = p
          · rw [e]; exact h2
          · exact hnp p' (by omega)
        have happ : ∀ g : Mem, (M ++ g)[m.length]? = some ⟨[.int .i64 0, .int .i64 0, .int .i64 0, .bool false], 101, 1, 0, .own⟩ := fun g => by rw [List.getElem?_append_left l0]; exact hb0
        by_cases hka : k = 1
        · have hk1 : ((k : Int) = 1) = True := eq_true (by omega)
          have hk5 : ((k : Int) ≤ 5) = True := eq_true (by omega)
          have hcR : cR (b :: r) false (k : Int) = ((b.toNat / 32 : Nat) : Int) := by unfold cR; rw [if_neg (by omega), if_neg (by decide)]; rfl
          have hcS : cS (b :: r) false (k : Int) = ((b.toNat % 16 / 2 : Nat) : Int) := by unfold cS; rw [if_pos (by omega), if_neg (by decide)]; rfl
          simp (contextual := true) (implicitDefEqProofs := false) (maxSteps := 2000000) (disch := first | rfl | exact Nat.le_of_ble_eq_true rfl | omega | (simp only [List.length_append, List.length_cons, List.length_nil, List.length_set]; omega)) only [hb0, hlt', hp', hk1, hk5, rem4, rem16 b.toNat, quo2 hn, quo2 h16, quo32 hn, string_mk_size, hpe, ht, u8_wrap, X1, X2, X3, X4, XA, bin_add, bin_sub, bin_mul, bin_and, bin_or, bin_xor, bin_andNot, bin_eql, bin_neq, bin_lss, bin_leq, bin_gtr, bin_geq, bin_shl, bin_shr, bin_sadd, bin_seql, bin_sneq, lc_block, lc_cond, XZ, undef_eq, Nat.reduceAdd, Nat.reduceSub, ↓reduceIte, basic, cellsL, resOf, setAt, below, belowB, belowA, atomB, Nat.reduceLeDiff, Nat.reduceMul, Int.reduceToNat, Int.reduceLT, Int.reduceLE, Int.reduceAdd, Int.reduceNeg, Int.reduceEq, splice, Nat.reduceEqDiff, Nat.reduceLT, isAtom, Int.reduceSub, Int.reduceMul, implies_true]
          have hcand := cand_right (s := b :: r) (w := false) (k := (k : Int)) (by omega)
          have hiff := hit_iff (s := b :: r) (w := false) (p := decide (p = 1)) (k := (k : Int)) (fun hw h5 => by cases hw)
          have hget := hit_get (s := b :: r) (w := false) (p := decide (p = 1)) (k := (k : Int)) (by omega)
          rw [hcR, hcS] at hcand hiff hget
          have hl12 := putL8_len (k := (k : Int)) (r := ((b.toNat / 32 : Nat) : Int)) (s := ((b.toNat % 16 / 2 : Nat) : Int)) (p := decide (p = 1)) (w := false)
          refine refput_spec (k : Int) (((b.toNat / 32 : Nat) : Int)) (((b.toNat % 16 / 2 : Nat) : Int)) (decide (p = 1)) false hcand _ _ fun i g T hm => ?_
          have hin := put_inB (p := decide (p = 1)) hcand
          generalize putL8 (k : Int) (((b.toNat / 32 : Nat) : Int)) (((b.toNat % 16 / 2 : Nat) : Int)) (decide (p = 1)) false = l at hm hiff hget hl12 hin ⊢
          simp only [List.append_assoc, List.cons_append, List.nil_append] at hm ⊢
          have hi := lt_of_some hm
          have hb02 := (Frm.refl (F := []) (m := M)).app.get0 (m' := M ++ (⟨[.int .i64 (k : Int), .int .i64 (((b.toNat / 32 : Nat) : Int)), .int .i64 (((b.toNat % 16 / 2 : Nat) : Int)), .bool (decide (p = 1))], 101, 1, 0, .own⟩ :: g)) hb0
          have hb1 : (M ++ (⟨[.int .i64 (k : Int), .int .i64 (((b.toNat / 32 : Nat) : Int)), .int .i64 (((b.toNat % 16 / 2 : Nat) : Int)), .bool (decide (p = 1))], 101, 1, 0, .own⟩ :: g))[M.length]? = some ⟨[.int .i64 (k : Int), .int .i64 (((b.toNat / 32 : Nat) : Int)), .int .i64 (((b.toNat % 16 / 2 : Nat) : Int)), .bool (decide (p = 1))], 101, 1, 0, .own⟩ := by rw [List.getElem?_append_right (Nat.le_refl _), Nat.sub_self]; rfl
          have hfm2 : Frm [] m (M ++ (⟨[.int .i64 (k : Int), .int .i64 (((b.toNat / 32 : Nat) : Int)), .int .i64 (((b.toNat % 16 / 2 : Nat) : Int)), .bool (decide (p = 1))], 101, 1, 0, .own⟩ :: g)) := hfm.app
          generalize M ++ ((⟨[.int .i64 (k : Int), .int .i64 (((b.toNat / 32 : Nat) : Int)), .int .i64 (((b.toNat % 16 / 2 : Nat) : Int)), .bool (decide (p = 1))], 101, 1, 0, .own⟩ : Blk) :: g) = M2 at hm hi hb02 hb1 hfm2 ⊢
          have l02 := lt_of_some hb02
          have l12 := lt_of_some hb1
          by_cases hle : l.length ≤ r.length + 1
          · have hle' : ((l.length : Int) ≤ ((r.length + 1 : Nat) : Int)) = True := eq_true (by omega)
            simp (contextual := true) (implicitDefEqProofs := false) (maxSteps := 2000000) (disch := first | rfl | exact Nat.le_of_ble_eq_true rfl | omega | (simp only [List.length_append, List.length_cons, List.length_nil, List.length_set]; omega)) only [hle', string_mk_size, X1, X2, X3, X4, XA, XB, lc_block, lc_cond, XZ, undef_eq, Nat.reduceAdd, Nat.reduceSub, ↓reduceIte, basic, cellsL, resOf, setAt, below, belowB, belowA, atomB, Nat.reduceLeDiff, Nat.reduceMul, Int.reduceToNat, Int.reduceLT, Int.reduceLE, Int.reduceAdd, Int.reduceNeg, Int.reduceEq, splice, Nat.reduceEqDiff, Nat.reduceLT, isAtom, Int.reduceSub, Int.reduceMul, implies_true]
            refine (text_spec i T l _ hm (by omega) hin).use ?_
            have htk : List.take (l.length - 0) (List.drop 0 (b :: r)) = (b :: r).take l.length := by simp
            by_cases heq : strL l = (b :: r).take l.length
            · have hh := hget (hiff.mpr ⟨hle, heq⟩)
              rw [hh]
              have heq' : (strL l = (b :: r).take l.length) = True := eq_true heq
              simp (contextual := true) (implicitDefEqProofs := false) (maxSteps := 2000000) (disch := first | rfl | exact Nat.le_of_ble_eq_true rfl | omega | (simp only [List.length_append, List.length_cons, List.length_nil, List.length_set]; omega)) only [hb02, hb1, hle', str_cut, str_eq, strOf, htk, heq', Int.toNat_natCast, string_mk_size, Ct.val, X1, X2, X3, X4, XA, XB, lc_block, lc_cond, XZ, undef_eq, Nat.reduceAdd, Nat.reduceSub, ↓reduceIte, basic, cellsL, resOf, setAt, below, belowB, belowA, atomB, Nat.reduceLeDiff, Nat.reduceMul, Int.reduceToNat, Int.reduceLT, Int.reduceLE, Int.reduceAdd, Int.reduceNeg, Int.reduceEq, splice, Nat.reduceEqDiff, Nat.reduceLT, isAtom, Int.reduceSub, Int.reduceMul, implies_true]
              exact (hfm2.set (i := m.length) (.inr (Nat.le_refl _))).ext (by simp)
            · have heq' : (strL l = (b :: r).take l.length) = False := eq_false heq
              simp (contextual := true) (implicitDefEqProofs := false) (maxSteps := 2000000) (disch := first | rfl | exact Nat.le_of_ble_eq_true rfl | omega | (simp only [List.length_append, List.length_cons, List.length_nil, List.length_set]; omega)) only [hb02, hb1, hle', str_cut, str_eq, strOf, htk, heq', Int.toNat_natCast, string_mk_size, X1, X2, X3, X4, XA, XB, lc_block, lc_cond, XZ, undef_eq, Nat.reduceAdd, Nat.reduceSub, ↓reduceIte, basic, cellsL, resOf, setAt, below, belowB, belowA, atomB, Nat.reduceLeDiff, Nat.reduceMul, Int.reduceToNat, Int.reduceLT, Int.reduceLE, Int.reduceAdd, Int.reduceNeg, Int.reduceEq, splice, Nat.reduceEqDiff, Nat.reduceLT, isAtom, Int.reduceSub, Int.reduceMul, implies_true]
              exact kInv_go ⟨p + 1, rfl, by omega, fun p' hp1 => hstep p' hp1 fun hh => heq (hiff.mp hh).2, hfm2, hb02, ⟨rfl, by simp [hwp]⟩⟩ (by omega)
          · have hle' : ((l.length : Int) ≤ ((r.length + 1 : Nat) : Int)) = False := eq_false (by omega)
            simp (contextual := true) (implicitDefEqProofs := false) (maxSteps := 2000000) (disch := first | rfl | exact Nat.le_of_ble_eq_true rfl | omega | (simp only [List.length_append, List.length_cons, List.length_nil, List.length_set]; omega)) only [hle', string_mk_size, X1, X2, X3, X4, XA, XB, lc_block, lc_cond, XZ, undef_eq, Nat.reduceAdd, Nat.reduceSub, ↓reduceIte, basic, cellsL, resOf, setAt, below, belowB, belowA, atomB, Nat.reduceLeDiff, Nat.reduceMul, Int.reduceToNat, Int.reduceLT, Int.reduceLE, Int.reduceAdd, Int.reduceNeg, Int.reduceEq, splice, Nat.reduceEqDiff, Nat.reduceLT, isAtom, Int.reduceSub, Int.reduceMul, implies_true]
            exact kInv_go ⟨p + 1, rfl, by omega, fun p' hp1 => hstep p' hp1 fun hh => hle (hiff.mp hh).1, hfm2, hb02, ⟨rfl, by simp [hwp]⟩⟩ (by omega)
        by_cases hkb : k ≤ 5
        · have hk1 : ((k : Int) = 1) = False := eq_false (by omega)
          have hk5 : ((k : Int) ≤ 5) = True := eq_true (by omega)
          have hcR : cR (b :: r) false (k : Int) = ((b.toNat / 32 : Nat) : Int) := by unfold cR; rw [if_neg (by omega), if_neg (by decide)]; rfl
          have hcS : cS (b :: r) false (k : Int) = 0 := by unfold cS; rw [if_neg (by omega)]
          simp (contextual := true) (implicitDefEqProofs := false) (maxSteps := 2000000) (disch := first | rfl | exact Nat.le_of_ble_eq_true rfl | omega | (simp only [List.length_append, List.length_cons, List.length_nil, List.length_set]; omega)) only [hb0, hlt', hp', hk1, hk5, rem4, rem16 b.toNat, quo2 hn, quo2 h16, quo32 hn, string_mk_size, hpe, ht, u8_wrap, X1, X2, X3, X4, XA, bin_add, bin_sub, bin_mul, bin_and, bin_or, bin_xor, bin_andNot, bin_eql, bin_neq, bin_lss, bin_leq, bin_gtr, bin_geq, bin_shl, bin_shr, bin_sadd, bin_seql, bin_sneq, lc_block, lc_cond, XZ, undef_eq, Nat.reduceAdd, Nat.reduceSub, ↓reduceIte, basic, cellsL, resOf, setAt, below, belowB, belowA, atomB, Nat.reduceLeDiff, Nat.reduceMul, Int.reduceToNat, Int.reduceLT, Int.reduceLE, Int.reduceAdd, Int.reduceNeg, Int.reduceEq, splice, Nat.reduceEqDiff, Nat.reduceLT, isAtom, Int.reduceSub, Int.reduceMul, implies_true]
          have hcand := cand_right (s := b :: r) (w := false) (k := (k : Int)) (by omega)
          have hiff := hit_iff (s := b :: r) (w := false) (p := decide (p = 1)) (k := (k : Int)) (fun hw h5 => by cases hw)
          have hget := hit_get (s := b :: r) (w := false) (p := decide (p = 1)) (k := (k : Int)) (by omega)
          rw [hcR, hcS] at hcand hiff hget
          have hl12 := putL8_len (k := (k : Int)) (r := ((b.toNat / 32 : Nat) : Int)) (s := 0) (p := decide (p = 1)) (w := false)
          refine refput_spec (k : Int) (((b.toNat / 32 : Nat) : Int)) (0) (decide (p = 1)) false hcand _ _ fun i g T hm => ?_
          have hin := put_inB (p := decide (p = 1)) hcand
          generalize putL8 (k : Int) (((b.toNat / 32 : Nat) : Int)) (0) (decide (p = 1)) false = l at hm hiff hget hl12 hin ⊢
          simp only [List.append_assoc, List.cons_append, List.nil_append] at hm ⊢
          have hi := lt_of_some hm
          have hb02 := (Frm.refl (F := []) (m := M)).app.get0 (m' := M ++ (⟨[.int .i64 (k : Int), .int .i64 (((b.toNat / 32 : Nat) : Int)), .int .i64 (0), .bool (decide (p = 1))], 101, 1, 0, .own⟩ :: g)) hb0
          have hb1 : (M ++ (⟨[.int .i64 (k : Int), .int .i64 (((b.toNat / 32 : Nat) : Int)), .int .i64 (0), .bool (decide (p = 1))], 101, 1, 0, .own⟩ :: g))[M.length]? = some ⟨[.int .i64 (k : Int), .int .i64 (((b.toNat / 32 : Nat) : Int)), .int .i64 (0), .bool (decide (p = 1))], 101, 1, 0, .own⟩ := by rw [List.getElem?_append_right (Nat.le_refl _), Nat.sub_self]; rfl
          have hfm2 : Frm [] m (M ++ (⟨[.int .i64 (k : Int), .int .i64 (((b.toNat / 32 : Nat) : Int)), .int .i64 (0), .bool (decide (p = 1))], 101, 1, 0, .own⟩ :: g)) := hfm.app
          generalize M ++ ((⟨[.int .i64 (k : Int), .int .i64 (((b.toNat / 32 : Nat) : Int)), .int .i64 (0), .bool (decide (p = 1))], 101, 1, 0, .own⟩ : Blk) :: g) = M2 at hm hi hb02 hb1 hfm2 ⊢
          have l02 := lt_of_some hb02
          have l12 := lt_of_some hb1
          by_cases hle : l.length ≤ r.length + 1
          · have hle' : ((l.length : Int) ≤ ((r.length + 1 : Nat) : Int)) = True := eq_true (by omega)
            simp (contextual := true) (implicitDefEqProofs := false) (maxSteps := 2000000) (disch := first | rfl | exact Nat.le_of_ble_eq_true rfl | omega | (simp only [List.length_append, List.length_cons, List.length_nil, List.length_set]; omega)) only [hle', string_mk_size, X1, X2, X3, X4, XA, XB, lc_block, lc_cond, XZ, undef_eq, Nat.reduceAdd, Nat.reduceSub, ↓reduceIte, basic, cellsL, resOf, setAt, below, belowB, belowA, atomB, Nat.reduceLeDiff, Nat.reduceMul, Int.reduceToNat, Int.reduceLT, Int.reduceLE, Int.reduceAdd, Int.reduceNeg, Int.reduceEq, splice, Nat.reduceEqDiff, Nat.reduceLT, isAtom, Int.reduceSub, Int.reduceMul, implies_true]
            refine (text_spec i T l _ hm (by omega) hin).use ?_
            have htk : List.take (l.length - 0) (List.drop 0 (b :: r)) = (b :: r).take l.length := by simp
            by_cases heq : strL l = (b :: r).take l.length
            · have hh := hget (hiff.mpr ⟨hle, heq⟩)
              rw [hh]
              have heq' : (strL l = (b :: r).take l.length) = True := eq_true heq
              simp (contextual := true) (implicitDefEqProofs := false) (maxSteps := 2000000) (disch := first | rfl | exact Nat.le_of_ble_eq_true rfl | omega | (simp only [List.length_append, List.length_cons, List.length_nil, List.length_set]; omega)) only [hb02, hb1, hle', str_cut, str_eq, strOf, htk, heq', Int.toNat_natCast, string_mk_size, Ct.val, X1, X2, X3, X4, XA, XB, lc_block, lc_cond, XZ, undef_eq, Nat.reduceAdd, Nat.reduceSub, ↓reduceIte, basic, cellsL, resOf, setAt, below, belowB, belowA, atomB, Nat.reduceLeDiff, Nat.reduceMul, Int.reduceToNat, Int.reduceLT, Int.reduceLE, Int.reduceAdd, Int.reduceNeg, Int.reduceEq, splice, Nat.reduceEqDiff, Nat.reduceLT, isAtom, Int.reduceSub, Int.reduceMul, implies_true]
              exact (hfm2.set (i := m.length) (.inr (Nat.le_refl _))).ext (by simp)
            · have heq' : (strL l = (b :: r).take l.length) = False := eq_false heq
              simp (contextual := true) (implicitDefEqProofs := false) (maxSteps := 2000000) (disch := first | rfl | exact Nat.le_of_ble_eq_true rfl | omega | (simp only [List.length_append, List.length_cons, List.length_nil, List.length_set]; omega)) only [hb02, hb1, hle', str_cut, str_eq, strOf, htk, heq', Int.toNat_natCast, string_mk_size, X1, X2, X3, X4, XA, XB, lc_block, lc_cond, XZ, undef_eq, Nat.reduceAdd, Nat.reduceSub, ↓reduceIte, basic, cellsL, resOf, setAt, below, belowB, belowA, atomB, Nat.reduceLeDiff, Nat.reduceMul, Int.reduceToNat, Int.reduceLT, Int.reduceLE, Int.reduceAdd, Int.reduceNeg, Int.reduceEq, splice, Nat.reduceEqDiff, Nat.reduceLT, isAtom, Int.reduceSub, Int.reduceMul, implies_true]
              exact kInv_go ⟨p + 1, rfl, by omega, fun p' hp1 => hstep p' hp1 fun hh => heq (hiff.mp hh).2, hfm2, hb02, ⟨rfl, by simp [hwp]⟩⟩ (by omega)
          · have hle' : ((l.length : Int) ≤ ((r.length + 1 : Nat) : Int)) = False := eq_false (by omega)
            simp (contextual := true) (implicitDefEqProofs := false) (maxSteps := 2000000) (disch := first | rfl | exact Nat.le_of_ble_eq_true rfl | omega | (simp only [List.length_append, List.length_cons, List.length_nil, List.length_set]; omega)) only [hle', string_mk_size, X1, X2, X3, X4, XA, XB, lc_block, lc_cond, XZ, undef_eq, Nat.reduceAdd, Nat.reduceSub, ↓reduceIte, basic, cellsL, resOf, setAt, below, belowB, belowA, atomB, Nat.reduceLeDiff, Nat.reduceMul, Int.reduceToNat, Int.reduceLT, Int.reduceLE, Int.reduceAdd, Int.reduceNeg, Int.reduceEq, splice, Nat.reduceEqDiff, Nat.reduceLT, isAtom, Int.reduceSub, Int.reduceMul, implies_true]
            exact kInv_go ⟨p + 1, rfl, by omega, fun p' hp1 => hstep p' hp1 fun hh => hle (hiff.mp hh).1, hfm2, hb02, ⟨rfl, by simp [hwp]⟩⟩ (by omega)
        have hk1 : ((k : Int) = 1) = False := eq_false (by omega)
        have hk5 : ((k : Int) ≤ 5) = False := eq_false (by omega)
        have hcR : cR (b :: r) false (k : Int) = 0 := by unfold cR; rw [if_pos (by omega)]
        have hcS : cS (b :: r) false (k : Int) = 0 := by unfold cS; rw [if_neg (by omega)]
        simp (contextual := true) (implicitDefEqProofs := false) (maxSteps := 2000000) (disch := first | rfl | exact Nat.le_of_ble_eq_true rfl | omega | (simp only [List.length_append, List.length_cons, List.length_nil, List.length_set]; omega)) only [hb0, hlt', hp', hk1, hk5, rem4, rem16 b.toNat, quo2 hn, quo2 h16, quo32 hn, string_mk_size, hpe, ht, u8_wrap, X1, X2, X3, X4, XA, bin_add, bin_sub, bin_mul, bin_and, bin_or, bin_xor, bin_andNot, bin_eql, bin_neq, bin_lss, bin_leq, bin_gtr, bin_geq, bin_shl, bin_shr, bin_sadd, bin_seql, bin_sneq, lc_block, lc_cond, XZ, undef_eq, Nat.reduceAdd, Nat.reduceSub, ↓reduceIte, basic, cellsL, resOf, setAt, below, belowB, belowA, atomB, Nat.reduceLeDiff, Nat.reduceMul, Int.reduceToNat, Int.reduceLT, Int.reduceLE, Int.reduceAdd, Int.reduceNeg, Int.reduceEq, splice, Nat.reduceEqDiff, Nat.reduceLT, isAtom, Int.reduceSub, Int.reduceMul, implies_true]
        have hcand := cand_right (s := b :: r) (w := false) (k := (k : Int)) (by omega)
        have hiff := hit_iff (s := b :: r) (w := false) (p := decide (p = 1)) (k := (k : Int)) (fun hw h5 => by cases hw)
        have hget := hit_get (s := b :: r) (w := false) (p := decide (p = 1)) (k := (k : Int)) (by omega)
        rw [hcR, hcS] at hcand hiff hget
        have hl12 := putL8_len (k := (k : Int)) (r := 0) (s := 0) (p := decide (p = 1)) (w := false)
        refine refput_spec (k : Int) (0) (0) (decide (p = 1)) false hcand _ _ fun i g T hm => ?_
        have hin := put_inB (p := decide (p = 1)) hcand
        generalize putL8 (k : Int) (0) (0) (decide (p = 1)) false = l at hm hiff hget hl12 hin ⊢
        simp only [List.append_assoc, List.cons_append, List.nil_append] at hm ⊢
        have hi := lt_of_some hm
        have hb02 := (Frm.refl (F := []) (m := M)).app.get0 (m' := M ++ (⟨[.int .i64 (k : Int), .int .i64 (0), .int .i64 (0), .bool (decide (p = 1))], 101, 1, 0, .own⟩ :: g)) hb0
        have hb1 : (M ++ (⟨[.int .i64 (k : Int), .int .i64 (0), .int .i64 (0), .bool (decide (p = 1))], 101, 1, 0, .own⟩ :: g))[M.length]? = some ⟨[.int .i64 (k : Int), .int .i64 (0), .int .i64 (0), .bool (decide (p = 1))], 101, 1, 0, .own⟩ := by rw [List.getElem?_append_right (Nat.le_refl _), Nat.sub_self]; rfl
        have hfm2 : Frm [] m (M ++ (⟨[.int .i64 (k : Int), .int .i64 (0), .int .i64 (0), .bool (decide (p = 1))], 101, 1, 0, .own⟩ :: g)) := hfm.app
        generalize M ++ ((⟨[.int .i64 (k : Int), .int .i64 (0), .int .i64 (0), .bool (decide (p = 1))], 101, 1, 0, .own⟩ : Blk) :: g) = M2 at hm hi hb02 hb1 hfm2 ⊢
        have l02 := lt_of_some hb02
        have l12 := lt_of_some hb1
        by_cases hle : l.length ≤ r.length + 1
        · have hle' : ((l.length : Int) ≤ ((r.length + 1 : Nat) : Int)) = True := eq_true (by omega)
          simp (contextual := true) (implicitDefEqProofs := false) (maxSteps := 2000000) (disch := first | rfl | exact Nat.le_of_ble_eq_true rfl | omega | (simp only [List.length_append, List.length_cons, List.length_nil, List.length_set]; omega)) only [hle', string_mk_size, X1, X2, X3, X4, XA, XB, lc_block, lc_cond, XZ, undef_eq, Nat.reduceAdd, Nat.reduceSub, ↓reduceIte, basic, cellsL, resOf, setAt, below, belowB, belowA, atomB, Nat.reduceLeDiff, Nat.reduceMul, Int.reduceToNat, Int.reduceLT, Int.reduceLE, Int.reduceAdd, Int.reduceNeg, Int.reduceEq, splice, Nat.reduceEqDiff, Nat.reduceLT, isAtom, Int.reduceSub, Int.reduceMul, implies_true]
          refine (text_spec i T l _ hm (by omega) hin).use ?_
          have htk : List.take (l.length - 0) (List.drop 0 (b :: r)) = (b :: r).take l.length := by simp
          by_cases heq : strL l = (b :: r).take l.length
          · have hh := hget (hiff.mpr ⟨hle, heq⟩)
            rw [hh]
            have heq' : (strL l = (b :: r).take l.length) = True := eq_true heq
            simp (contextual := true) (implicitDefEqProofs := false) (maxSteps := 2000000) (disch := first | rfl | exact Nat.le_of_ble_eq_true rfl | omega | (simp only [List.length_append, List.length_cons, List.length_nil, List.length_set]; omega)) only [hb02, hb1, hle', str_cut, str_eq, strOf, htk, heq', Int.toNat_natCast, string_mk_size, Ct.val, X1, X2, X3, X4, XA, XB, lc_block, lc_cond, XZ, undef_eq, Nat.reduceAdd, Nat.reduceSub, ↓reduceIte, basic, cellsL, resOf, setAt, below, belowB, belowA, atomB, Nat.reduceLeDiff, Nat.reduceMul, Int.reduceToNat, Int.reduceLT, Int.reduceLE, Int.reduceAdd, Int.reduceNeg, Int.reduceEq, splice, Nat.reduceEqDiff, Nat.reduceLT, isAtom, Int.reduceSub, Int.reduceMul, implies_true]
            exact (hfm2.set (i := m.length) (.inr (Nat.le_refl _))).ext (by simp)
          · have heq' : (strL l = (b :: r).take l.length) = False := eq_false heq
            simp (contextual := true) (implicitDefEqProofs := false) (maxSteps := 2000000) (disch := first | rfl | exact Nat.le_of_ble_eq_true rfl | omega | (simp only [List.length_append, List.length_cons, List.length_nil, List.length_set]; omega)) only [hb02, hb1, hle', str_cut, str_eq, strOf, htk, heq', Int.toNat_natCast, string_mk_size, X1, X2, X3, X4, XA, XB, lc_block, lc_cond, XZ, undef_eq, Nat.reduceAdd, Nat.reduceSub, ↓reduceIte, basic, cellsL, resOf, setAt, below, belowB, belowA, atomB, Nat.reduceLeDiff, Nat.reduceMul, Int.reduceToNat, Int.reduceLT, Int.reduceLE, Int.reduceAdd, Int.reduceNeg, Int.reduceEq, splice, Nat.reduceEqDiff, Nat.reduceLT, isAtom, Int.reduceSub, Int.reduceMul, implies_true]
            exact kInv_go ⟨p + 1, rfl, by omega, fun p' hp1 => hstep p' hp1 fun hh => heq (hiff.mp hh).2, hfm2, hb02, ⟨rfl, by simp [hwp]⟩⟩ (by omega)
        · have hle' : ((l.length : Int) ≤ ((r.length + 1 : Nat) : Int)) = False := eq_false (by omega)
          simp (contextual := true) (implicitDefEqProofs := false) (maxSteps := 2000000) (disch := first | rfl | exact Nat.le_of_ble_eq_true rfl | omega | (simp only [List.length_append, List.length_cons, List.length_nil, List.length_set]; omega)) only [hle', string_mk_size, X1, X2, X3, X4, XA, XB, lc_block, lc_cond, XZ, undef_eq, Nat.reduceAdd, Nat.reduceSub, ↓reduceIte, basic, cellsL, resOf, setAt, below, belowB, belowA, atomB, Nat.reduceLeDiff, Nat.reduceMul, Int.reduceToNat, Int.reduceLT, Int.reduceLE, Int.reduceAdd, Int.reduceNeg, Int.reduceEq, splice, Nat.reduceEqDiff, Nat.reduceLT, isAtom, Int.reduceSub, Int.reduceMul, implies_true]
          exact kInv_go ⟨p + 1, rfl, by omega, fun p' hp1 => hstep p' hp1 fun hh => hle (hiff.mp hh).1, hfm2, hb02, ⟨rfl, by simp [hwp]⟩⟩ (by omega)
      · have hp' : ((p : Int) < 2) = False := eq_false (by omega)
        have hp2' : p = 2 := by omega
        subst hp2'
        simp (contextual := true) (implicitDefEqProofs := false) (maxSteps := 2000000) (disch := first | rfl | exact Nat.le_of_ble_eq_true rfl | omega | (simp only [List.length_append, List.length_cons, List.length_nil, List.length_set]; omega)) only [hp', X1, X2, X3, X4, XA, XB, lc_block, lc_cond, XZ, undef_eq, Nat.reduceAdd, Nat.reduceSub, ↓reduceIte, basic, cellsL, resOf, setAt, below, belowB, belowA, atomB, Nat.reduceLeDiff, Nat.reduceMul, Int.reduceToNat, Int.reduceLT, Int.reduceLE, Int.reduceAdd, Int.reduceNeg, Int.reduceEq, splice, Nat.reduceEqDiff, Nat.reduceLT, isAtom, Int.reduceSub, Int.reduceMul, implies_true]
        refine kInv_go ⟨k + 1, rfl, by omega, by omega, fun k' p h1 h2 => ?_, hfm, hb0, ⟨rfl, by simp [hwk]⟩⟩ (by omega)
        by_cases e : k' = (k : Int)
        · rw [e]; cases p with | false => exact hnp 0 (by omega) | true => exact hnp 1 (by omega)
        · exact hno k' p h1 (by omega)
    · have hlt' : ((k : Int) ≤ 14) = False := eq_false (by omega)
      have hnone : getC (b :: r) false = (2, czero, 0) := by
        rcases get_none (s := b :: r) (w := false) (fun k' p h1 h2 => hno k' p h1 (by omega)) with h | h | ⟨h1, h2, h3⟩
        · exact h
        · cases h
        · cases h1
      rw [hnone]
      simp (contextual := true) (implicitDefEqProofs := false) (maxSteps := 2000000) (disch := first | rfl | exact Nat.le_of_ble_eq_true rfl | omega | (simp only [List.length_append, List.length_cons, List.length_nil, List.length_set]; omega)) only [hlt', hb0, czero, Ct.val, X1, X2, X3, X4, XA, XB, lc_block, lc_cond, XZ, undef_eq, Nat.reduceAdd, Nat.reduceSub, ↓reduceIte, basic, cellsL, resOf, setAt, below, belowB, belowA, atomB, Nat.reduceLeDiff, Nat.reduceMul, Int.reduceToNat, Int.reduceLT, Int.reduceLE, Int.reduceAdd, Int.reduceNeg, Int.reduceEq, splice, Nat.reduceEqDiff, Nat.reduceLT, isAtom, Int.reduceSub, Int.reduceMul, implies_true]
      exact (hfm.set (i := m.length) (.inr (Nat.le_refl _))).ext (by simp)
  | true =>
    by_cases h3 : ((b.toNat % 4 : Nat) : Int) = 3
    · simp (contextual := true) (implicitDefEqProofs := false) (maxSteps := 2000000) (disch := first | rfl | exact Nat.le_of_ble_eq_true rfl | omega | (simp only [List.length_append, List.length_cons, List.length_nil, List.length_set]; omega)) only [L84, hempty, ht, u8_wrap, rem4, string_mk_size, eq_true h3, X1, X2, X3, X4, XA, bin_add, bin_sub, bin_mul, bin_quo, bin_and, bin_or, bin_xor, bin_andNot, bin_eql, bin_neq, bin_lss, bin_leq, bin_gtr, bin_geq, bin_shl, bin_shr, bin_sadd, bin_seql, bin_sneq, lc_block, lc_cond, XZ, undef_eq, Nat.reduceAdd, Nat.reduceSub, ↓reduceIte, basic, cellsL, resOf, setAt, below, belowB, belowA, atomB, Nat.reduceLeDiff, Nat.reduceMul, Int.reduceToNat, Int.reduceLT, Int.reduceLE, Int.reduceAdd, Int.reduceNeg, Int.reduceEq, splice, Nat.reduceEqDiff, Nat.reduceLT, isAtom, Int.reduceSub, Int.reduceMul, implies_true]
      refine loop_inv (fun n t M => ∃ (k : Nat), n = 15 - k ∧ 1 ≤ k ∧ k ≤ 15 ∧ (∀ k' : Int, ∀ p, 1 ≤ k' → k' < (k : Int) → ¬ hit (b :: r) true k' p) ∧ Frm [] m M ∧ M[m.length]? = some ⟨[.int .i64 0, .int .i64 0, .int .i64 0, .bool false], 101, 1, 0, .own⟩ ∧ Tab 103 [(0, str (b :: r)), (1, .bool true), (4, .pointer (some ⟨m.length, 0, none⟩)), (7, .int .i64 (b.toNat : Int)), (8, .int .i64 (k : Int))] t) (n := 14) ?_ ?_
      · exact ⟨1, rfl, Nat.le_refl _, by omega, fun k' p h1 h2 => by omega, Frm.refl.app, by simp, ⟨rfl, by simp⟩⟩
      rintro N t M ⟨k, rfl, hk1, hk, hno, hfm, hb0, ht0⟩
      obtain ⟨f, rfl⟩ : ∃ f' : Nat → Value, t = [str (b :: r), .bool true, f' 2, f' 3, .pointer (some ⟨m.length, 0, none⟩), f' 5, f' 6, .int .i64 (b.toNat : Int), .int .i64 (k : Int), f' 9, f' 10, f' 11, f' 12, f' 13, f' 14, f' 15, f' 16, f' 17, f' 18, f' 19, f' 20, f' 21, f' 22, f' 23, f' 24, f' 25, f' 26, f' 27, f' 28, f' 29, f' 30, f' 31, f' 32, f' 33, f' 34, f' 35, f' 36, f' 37, f' 38, f' 39, f' 40, f' 41, f' 42, f' 43, f' 44, f' 45, f' 46, f' 47, f' 48, f' 49, f' 50, f' 51, f' 52, f' 53, f' 54, f' 55, f' 56, f' 57, f' 58, f' 59, f' 60, f' 61, f' 62, f' 63, f' 64, f' 65, f' 66, f' 67, f' 68, f' 69, f' 70, f' 71, f' 72, f' 73, f' 74, f' 75, f' 76, f' 77, f' 78, f' 79, f' 80, f' 81, f' 82, f' 83, f' 84, f' 85, f' 86, f' 87, f' 88, f' 89, f' 90, f' 91, f' 92, f' 93, f' 94, f' 95, f' 96, f' 97, f' 98, f' 99, f' 100, f' 101, f' 102] := ht0.open fun f' => rfl
      have l0 := lt_of_some hb0
      by_cases hlt : k ≤ 14
      · have hlt' : ((k : Int) ≤ 14) = True := eq_true (by omega)
        have hwk : IntKind.i64.wrap ((k : Int) + 1) = ((k + 1 : Nat) : Int) := by rw [wrap_i64 (by omega) (by omega)]; omega
        simp (contextual := true) (implicitDefEqProofs := false) (maxSteps := 2000000) (disch := first | rfl | exact Nat.le_of_ble_eq_true rfl | omega | (simp only [List.length_append, List.length_cons, List.length_nil, List.length_set]; omega)) only [hlt', X1, X2, X3, X4, XA, XB, lc_block, lc_cond, XZ, undef_eq, Nat.reduceAdd, Nat.reduceSub, ↓reduceIte, basic, cellsL, resOf, setAt, below, belowB, belowA, atomB, Nat.reduceLeDiff, Nat.reduceMul, Int.reduceToNat, Int.reduceLT, Int.reduceLE, Int.reduceAdd, Int.reduceNeg, Int.reduceEq, splice, Nat.reduceEqDiff, Nat.reduceLT, isAtom, Int.reduceSub, Int.reduceMul, implies_true]
        refine loop_inv (fun n t M => ∃ (p : Nat), n = 2 - p ∧ p ≤ 2 ∧ (∀ p' : Nat, p' < p → ¬ hit (b :: r) true (k : Int) (decide (p' = 1))) ∧ Frm [] m M ∧ M[m.length]? = some ⟨[.int .i64 0, .int .i64 0, .int .i64 0, .bool false], 101, 1, 0, .own⟩ ∧ Tab 103 [(0, str (b :: r)), (1, .bool true), (4, .pointer (some ⟨m.length, 0, none⟩)), (7, .int .i64 (b.toNat : Int)), (8, .int .i64 (k : Int)), (9, .int .i64 (p : Int))] t) (n := 2) ?_ ?_
        · exact ⟨0, rfl, Nat.zero_le _, fun p' h => by omega, hfm, hb0, ⟨rfl, by simp⟩⟩
        clear hfm hb0 l0
        rintro N t M ⟨p, rfl, hp, hnp, hfm, hb0, ht0⟩
        obtain ⟨f, rfl⟩ : ∃ f' : Nat → Value, t = [str (b :: r), .bool true, f' 2, f' 3, .pointer (some ⟨m.length, 0, none⟩), f' 5, f' 6, .int .i64 (b.toNat : Int), .int .i64 (k : Int), .int .i64 (p : Int), f' 10, f' 11, f' 12, f' 13, f' 14, f' 15, f' 16, f' 17, f' 18, f' 19, f' 20, f' 21, f' 22, f' 23, f' 24, f' 25, f' 26, f' 27, f' 28, f' 29, f' 30, f' 31, f' 32, f' 33, f' 34, f' 35, f' 36, f' 37, f' 38, f' 39, f' 40, f' 41, f' 42, f' 43, f' 44, f' 45, f' 46, f' 47, f' 48, f' 49, f' 50, f' 51, f' 52, f' 53, f' 54, f' 55, f' 56, f' 57, f' 58, f' 59, f' 60, f' 61, f' 62, f' 63, f' 64, f' 65, f' 66, f' 67, f' 68, f' 69, f' 70, f' 71, f' 72, f' 73, f' 74, f' 75, f' 76, f' 77, f' 78, f' 79, f' 80, f' 81, f' 82, f' 83, f' 84, f' 85, f' 86, f' 87, f' 88, f' 89, f' 90, f' 91, f' 92, f' 93, f' 94, f' 95, f' 96, f' 97, f' 98, f' 99, f' 100, f' 101, f' 102] := ht0.open fun f' => rfl
        have l0 := lt_of_some hb0
        by_cases hp2 : p < 2
        · have hp' : ((p : Int) < 2) = True := eq_true (by omega)
          have hwp : IntKind.i64.wrap ((p : Int) + 1) = ((p + 1 : Nat) : Int) := by rw [wrap_i64 (by omega) (by omega)]; omega
          have hpe : ((p : Int) = 1) = (p = 1) := by apply propext; omega
          have h16 : b.toNat % 16 < 256 := by omega
          have hstep : ∀ p' : Nat, p' < p + 1 → ¬ hit (b :: r) true (k : Int) (decide (p = 1)) → ¬ hit (b :: r) true (k : Int) (decide (p' = 1)) := fun p' h1 h2 => by
            by_cases e : p' = p
            · rw [e]; exact h2
            · exact hnp p' (by omega)
          have happ : ∀ g : Mem, (M ++ g)[m.length]? = some ⟨[.int .i64 0, .int .i64 0, .int .i64 0, .bool false], 101, 1, 0, .own⟩ := fun g => by rw [List.getElem?_append_left l0]; exact hb0
          by_cases hka : k = 1
          · have hk1 : ((k : Int) = 1) = True := eq_true (by omega)
            have hk5 : ((k : Int) ≤ 5) = True := eq_true (by omega)
            by_cases h2 : r.length + 1 < 2
            · have h2' : (((r.length + 1 : Nat) : Int) < 2) = True := eq_true (by omega)
              simp (contextual := true) (implicitDefEqProofs := false) (maxSteps := 2000000) (disch := first | rfl | exact Nat.le_of_ble_eq_true rfl | omega | (simp only [List.length_append, List.length_cons, List.length_nil, List.length_set]; omega)) only [hb0, hlt', hp', hk1, hk5, rem4, rem16 b.toNat, quo2 hn, quo2 h16, quo32 hn, string_mk_size, h2', hpe, ht, X1, X2, X3, X4, XA, bin_add, bin_sub, bin_mul, bin_and, bin_or, bin_xor, bin_andNot, bin_eql, bin_neq, bin_lss, bin_leq, bin_gtr, bin_geq, bin_shl, bin_shr, bin_sadd, bin_seql, bin_sneq, lc_block, lc_cond, XZ, undef_eq, Nat.reduceAdd, Nat.reduceSub, ↓reduceIte, basic, cellsL, resOf, setAt, below, belowB, belowA, atomB, Nat.reduceLeDiff, Nat.reduceMul, Int.reduceToNat, Int.reduceLT, Int.reduceLE, Int.reduceAdd, Int.reduceNeg, Int.reduceEq, splice, Nat.reduceEqDiff, Nat.reduceLT, isAtom, Int.reduceSub, Int.reduceMul, implies_true]
              exact kInv_go ⟨p + 1, rfl, by omega, fun p' hp1 => hstep p' hp1 fun hh => by have := hh.1 rfl (by omega); simp only [List.length_cons] at this; omega, hfm.app, happ _, ⟨rfl, by simp [hwp]⟩⟩ (by omega)
            have h2' : (((r.length + 1 : Nat) : Int) < 2) = False := eq_false (by omega)
            obtain ⟨c1, r1, hr1⟩ : ∃ c1 r1, r = c1 :: r1 := by cases r with | nil => exact absurd (by simp) h2 | cons c1 r1 => exact ⟨c1, r1, rfl⟩
            have ht1 : (⟨(b :: r).toArray⟩ : ByteArray).data.toList[1]? = some c1 := by rw [hr1]; simp
            have hc1 := c1.toNat_lt
            have hcR : cR (b :: r) true (k : Int) = ((c1.toNat / 2 : Nat) : Int) := by unfold cR; rw [if_neg (by omega), if_pos rfl, hr1]; rfl
            have hcS : cS (b :: r) true (k : Int) = ((b.toNat / 2 : Nat) : Int) := by unfold cS; rw [if_pos (by omega), if_pos rfl]; rfl
            simp (contextual := true) (implicitDefEqProofs := false) (maxSteps := 2000000) (disch := first | rfl | exact Nat.le_of_ble_eq_true rfl | omega | (simp only [List.length_append, List.length_cons, List.length_nil, List.length_set]; omega)) only [hb0, hlt', hp', hk1, hk5, rem4, rem16 b.toNat, quo2 hn, quo2 h16, quo32 hn, string_mk_size, hpe, ht, u8_wrap, h2', ht1, quo2 hc1, X1, X2, X3, X4, XA, bin_add, bin_sub, bin_mul, bin_and, bin_or, bin_xor, bin_andNot, bin_eql, bin_neq, bin_lss, bin_leq, bin_gtr, bin_geq, bin_shl, bin_shr, bin_sadd, bin_seql, bin_sneq, lc_block, lc_cond, XZ, undef_eq, Nat.reduceAdd, Nat.reduceSub, ↓reduceIte, basic, cellsL, resOf, setAt, below, belowB, belowA, atomB, Nat.reduceLeDiff, Nat.reduceMul, Int.reduceToNat, Int.reduceLT, Int.reduceLE, Int.reduceAdd, Int.reduceNeg, Int.reduceEq, splice, Nat.reduceEqDiff, Nat.reduceLT, isAtom, Int.reduceSub, Int.reduceMul, implies_true]
            have hcand := cand_right (s := b :: r) (w := true) (k := (k : Int)) (by omega)
            have hiff := hit_iff (s := b :: r) (w := true) (p := decide (p = 1)) (k := (k : Int)) (fun hw h5 => by simp only [List.length_cons]; omega)
            have hget := hit_get (s := b :: r) (w := true) (p := decide (p = 1)) (k := (k : Int)) (by omega)
            rw [hcR, hcS] at hcand hiff hget
            have hl12 := putL8_len (k := (k : Int)) (r := ((c1.toNat / 2 : Nat) : Int)) (s := ((b.toNat / 2 : Nat) : Int)) (p := decide (p = 1)) (w := true)
            refine refput_spec (k : Int) (((c1.toNat / 2 : Nat) : Int)) (((b.toNat / 2 : Nat) : Int)) (decide (p = 1)) true hcand _ _ fun i g T hm => ?_
            have hin := put_inB (p := decide (p = 1)) hcand
            generalize putL8 (k : Int) (((c1.toNat / 2 : Nat) : Int)) (((b.toNat / 2 : Nat) : Int)) (decide (p = 1)) true = l at hm hiff hget hl12 hin ⊢
            simp only [List.append_assoc, List.cons_append, List.nil_append] at hm ⊢
            have hi := lt_of_some hm
            have hb02 := (Frm.refl (F := []) (m := M)).app.get0 (m' := M ++ (⟨[.int .i64 (k : Int), .int .i64 (((c1.toNat / 2 : Nat) : Int)), .int .i64 (((b.toNat / 2 : Nat) : Int)), .bool (decide (p = 1))], 101, 1, 0, .own⟩ :: g)) hb0
            have hb1 : (M ++ (⟨[.int .i64 (k : Int), .int .i64 (((c1.toNat / 2 : Nat) : Int)), .int .i64 (((b.toNat / 2 : Nat) : Int)), .bool (decide (p = 1))], 101, 1, 0, .own⟩ :: g))[M.length]? = some ⟨[.int .i64 (k : Int), .int .i64 (((c1.toNat / 2 : Nat) : Int)), .int .i64 (((b.toNat / 2 : Nat) : Int)), .bool (decide (p = 1))], 101, 1, 0, .own⟩ := by rw [List.getElem?_append_right (Nat.le_refl _), Nat.sub_self]; rfl
            have hfm2 : Frm [] m (M ++ (⟨[.int .i64 (k : Int), .int .i64 (((c1.toNat / 2 : Nat) : Int)), .int .i64 (((b.toNat / 2 : Nat) : Int)), .bool (decide (p = 1))], 101, 1, 0, .own⟩ :: g)) := hfm.app
            generalize M ++ ((⟨[.int .i64 (k : Int), .int .i64 (((c1.toNat / 2 : Nat) : Int)), .int .i64 (((b.toNat / 2 : Nat) : Int)), .bool (decide (p = 1))], 101, 1, 0, .own⟩ : Blk) :: g) = M2 at hm hi hb02 hb1 hfm2 ⊢
            have l02 := lt_of_some hb02
            have l12 := lt_of_some hb1
            by_cases hle : l.length ≤ r.length + 1
            · have hle' : ((l.length : Int) ≤ ((r.length + 1 : Nat) : Int)) = True := eq_true (by omega)
              simp (contextual := true) (implicitDefEqProofs := false) (maxSteps := 2000000) (disch := first | rfl | exact Nat.le_of_ble_eq_true rfl | omega | (simp only [List.length_append, List.length_cons, List.length_nil, List.length_set]; omega)) only [hle', string_mk_size, X1, X2, X3, X4, XA, XB, lc_block, lc_cond, XZ, undef_eq, Nat.reduceAdd, Nat.reduceSub, ↓reduceIte, basic, cellsL, resOf, setAt, below, belowB, belowA, atomB, Nat.reduceLeDiff, Nat.reduceMul, Int.reduceToNat, Int.reduceLT, Int.reduceLE, Int.reduceAdd, Int.reduceNeg, Int.reduceEq, splice, Nat.reduceEqDiff, Nat.reduceLT, isAtom, Int.reduceSub, Int.reduceMul, implies_true]
              refine (text_spec i T l _ hm (by omega) hin).use ?_
              have htk : List.take (l.length - 0) (List.drop 0 (b :: r)) = (b :: r).take l.length := by simp
              by_cases heq : strL l = (b :: r).take l.length
              · have hh := hget (hiff.mpr ⟨hle, heq⟩)
                rw [hh]
                have heq' : (strL l = (b :: r).take l.length) = True := eq_true heq
                simp (contextual := true) (implicitDefEqProofs := false) (maxSteps := 2000000) (disch := first | rfl | exact Nat.le_of_ble_eq_true rfl | omega | (simp only [List.length_append, List.length_cons, List.length_nil, List.length_set]; omega)) only [hb02, hb1, hle', str_cut, str_eq, strOf, htk, heq', Int.toNat_natCast, string_mk_size, Ct.val, X1, X2, X3, X4, XA, XB, lc_block, lc_cond, XZ, undef_eq, Nat.reduceAdd, Nat.reduceSub, ↓reduceIte, basic, cellsL, resOf, setAt, below, belowB, belowA, atomB, Nat.reduceLeDiff, Nat.reduceMul, Int.reduceToNat, Int.reduceLT, Int.reduceLE, Int.reduceAdd, Int.reduceNeg, Int.reduceEq, splice, Nat.reduceEqDiff, Nat.reduceLT, isAtom, Int.reduceSub, Int.reduceMul, implies_true]
                exact (hfm2.set (i := m.length) (.inr (Nat.le_refl _))).ext (by simp)
              · have heq' : (strL l = (b :: r).take l.length) = False := eq_false heq
                simp (contextual := true) (implicitDefEqProofs := false) (maxSteps := 2000000) (disch := first | rfl | exact Nat.le_of_ble_eq_true rfl | omega | (simp only [List.length_append, List.length_cons, List.length_nil, List.length_set]; omega)) only [hb02, hb1, hle', str_cut, str_eq, strOf, htk, heq', Int.toNat_natCast, string_mk_size, X1, X2, X3, X4, XA, XB, lc_block, lc_cond, XZ, undef_eq, Nat.reduceAdd, Nat.reduceSub, ↓reduceIte, basic, cellsL, resOf, setAt, below, belowB, belowA, atomB, Nat.reduceLeDiff, Nat.reduceMul, Int.reduceToNat, Int.reduceLT, Int.reduceLE, Int.reduceAdd, Int.reduceNeg, Int.reduceEq, splice, Nat.reduceEqDiff, Nat.reduceLT, isAtom, Int.reduceSub, Int.reduceMul, implies_true]
                exact kInv_go ⟨p + 1, rfl, by omega, fun p' hp1 => hstep p' hp1 fun hh => heq (hiff.mp hh).2, hfm2, hb02, ⟨rfl, by simp [hwp]⟩⟩ (by omega)
            · have hle' : ((l.length : Int) ≤ ((r.length + 1 : Nat) : Int)) = False := eq_false (by omega)
              simp (contextual := true) (implicitDefEqProofs := false) (maxSteps := 2000000) (disch := first | rfl | exact Nat.le_of_ble_eq_true rfl | omega | (simp only [List.length_append, List.length_cons, List.length_nil, List.length_set]; omega)) only [hle', string_mk_size, X1, X2, X3, X4, XA, XB, lc_block, lc_cond, XZ, undef_eq, Nat.reduceAdd, Nat.reduceSub, ↓reduceIte, basic, cellsL, resOf, setAt, below, belowB, belowA, atomB, Nat.reduceLeDiff, Nat.reduceMul, Int.reduceToNat, Int.reduceLT, Int.reduceLE, Int.reduceAdd, Int.reduceNeg, Int.reduceEq, splice, Nat.reduceEqDiff, Nat.reduceLT, isAtom, Int.reduceSub, Int.reduceMul, implies_true]
              exact kInv_go ⟨p + 1, rfl, by omega, fun p' hp1 => hstep p' hp1 fun hh => hle (hiff.mp hh).1, hfm2, hb02, ⟨rfl, by simp [hwp]⟩⟩ (by omega)
          by_cases hkb : k ≤ 5
          · have hk1 : ((k : Int) = 1) = False := eq_false (by omega)
            have hk5 : ((k : Int) ≤ 5) = True := eq_true (by omega)
            by_cases h2 : r.length + 1 < 2
            · have h2' : (((r.length + 1 : Nat) : Int) < 2) = True := eq_true (by omega)
              simp (contextual := true) (implicitDefEqProofs := false) (maxSteps := 2000000) (disch := first | rfl | exact Nat.le_of_ble_eq_true rfl | omega | (simp only [List.length_append, List.length_cons, List.length_nil, List.length_set]; omega)) only [hb0, hlt', hp', hk1, hk5, rem4, rem16 b.toNat, quo2 hn, quo2 h16, quo32 hn, string_mk_size, h2', hpe, ht, X1, X2, X3, X4, XA, bin_add, bin_sub, bin_mul, bin_and, bin_or, bin_xor, bin_andNot, bin_eql, bin_neq, bin_lss, bin_leq, bin_gtr, bin_geq, bin_shl, bin_shr, bin_sadd, bin_seql, bin_sneq, lc_block, lc_cond, XZ, undef_eq, Nat.reduceAdd, Nat.reduceSub, ↓reduceIte, basic, cellsL, resOf, setAt, below, belowB, belowA, atomB, Nat.reduceLeDiff, Nat.reduceMul, Int.reduceToNat, Int.reduceLT, Int.reduceLE, Int.reduceAdd, Int.reduceNeg, Int.reduceEq, splice, Nat.reduceEqDiff, Nat.reduceLT, isAtom, Int.reduceSub, Int.reduceMul, implies_true]
              exact kInv_go ⟨p + 1, rfl, by omega, fun p' hp1 => hstep p' hp1 fun hh => by have := hh.1 rfl (by omega); simp only [List.length_cons] at this; omega, hfm.app, happ _, ⟨rfl, by simp [hwp]⟩⟩ (by omega)
            have h2' : (((r.length + 1 : Nat) : Int) < 2) = False := eq_false (by omega)
            obtain ⟨c1, r1, hr1⟩ : ∃ c1 r1, r = c1 :: r1 := by cases r with | nil => exact absurd (by simp) h2 | cons c1 r1 => exact ⟨c1, r1, rfl⟩
            have ht1 : (⟨(b :: r).toArray⟩ : ByteArray).data.toList[1]? = some c1 := by rw [hr1]; simp
            have hc1 := c1.toNat_lt
            have hcR : cR (b :: r) true (k : Int) = ((c1.toNat / 2 : Nat) : Int) := by unfold cR; rw [if_neg (by omega), if_pos rfl, hr1]; rfl
            have hcS : cS (b :: r) true (k : Int) = 0 := by unfold cS; rw [if_neg (by omega)]
            simp (contextual := true) (implicitDefEqProofs := false) (maxSteps := 2000000) (disch := first | rfl | exact Nat.le_of_ble_eq_true rfl | omega | (simp only [List.length_append, List.length_cons, List.length_nil, List.length_set]; omega)) only [hb0, hlt', hp', hk1, hk5, rem4, rem16 b.toNat, quo2 hn, quo2 h16, quo32 hn, string_mk_size, hpe, ht, u8_wrap, h2', ht1, quo2 hc1, X1, X2, X3, X4, XA, bin_add, bin_sub, bin_mul, bin_and, bin_or, bin_xor, bin_andNot, bin_eql, bin_neq, bin_lss, bin_leq, bin_gtr, bin_geq, bin_shl, bin_shr, bin_sadd, bin_seql, bin_sneq, lc_block, lc_cond, XZ, undef_eq, Nat.reduceAdd, Nat.reduceSub, ↓reduceIte, basic, cellsL, resOf, setAt, below, belowB, belowA, atomB, Nat.reduceLeDiff, Nat.reduceMul, Int.reduceToNat, Int.reduceLT, Int.reduceLE, Int.reduceAdd, Int.reduceNeg, Int.reduceEq, splice, Nat.reduceEqDiff, Nat.reduceLT, isAtom, Int.reduceSub, Int.reduceMul, implies_true]
            have hcand := cand_right (s := b :: r) (w := true) (k := (k : Int)) (by omega)
            have hiff := hit_iff (s := b :: r) (w := true) (p := decide (p = 1)) (k := (k : Int)) (fun hw h5 => by simp only [List.length_cons]; omega)
            have hget := hit_get (s := b :: r) (w := true) (p := decide (p = 1)) (k := (k : Int)) (by omega)
            rw [hcR, hcS] at hcand hiff hget
            have hl12 := putL8_len (k := (k : Int)) (r := ((c1.toNat / 2 : Nat) : Int)) (s := 0) (p := decide (p = 1)) (w := true)
            refine refput_spec (k : Int) (((c1.toNat / 2 : Nat) : Int)) (0) (decide (p = 1)) true hcand _ _ fun i g T hm => ?_
            have hin := put_inB (p := decide (p = 1)) hcand
            generalize putL8 (k : Int) (((c1.toNat / 2 : Nat) : Int)) (0) (decide (p = 1)) true = l at hm hiff hget hl12 hin ⊢
            simp only [List.append_assoc, List.cons_append, List.nil_append] at hm ⊢
            have hi := lt_of_some hm
            have hb02 := (Frm.refl (F := []) (m := M)).app.get0 (m' := M ++ (⟨[.int .i64 (k : Int), .int .i64 (((c1.toNat / 2 : Nat) : Int)), .int .i64 (0), .bool (decide (p = 1))], 101, 1, 0, .own⟩ :: g)) hb0
            have hb1 : (M ++ (⟨[.int .i64 (k : Int), .int .i64 (((c1.toNat / 2 : Nat) : Int)), .int .i64 (0), .bool (decide (p = 1))], 101, 1, 0, .own⟩ :: g))[M.length]? = some ⟨[.int .i64 (k : Int), .int .i64 (((c1.toNat / 2 : Nat) : Int)), .int .i64 (0), .bool (decide (p = 1))], 101, 1, 0, .own⟩ := by rw [List.getElem?_append_right (Nat.le_refl _), Nat.sub_self]; rfl
            have hfm2 : Frm [] m (M ++ (⟨[.int .i64 (k : Int), .int .i64 (((c1.toNat / 2 : Nat) : Int)), .int .i64 (0), .bool (decide (p = 1))], 101, 1, 0, .own⟩ :: g)) := hfm.app
            generalize M ++ ((⟨[.int .i64 (k : Int), .int .i64 (((c1.toNat / 2 : Nat) : Int)), .int .i64 (0), .bool (decide (p = 1))], 101, 1, 0, .own⟩ : Blk) :: g) = M2 at hm hi hb02 hb1 hfm2 ⊢
            have l02 := lt_of_some hb02
            have l12 := lt_of_some hb1
            by_cases hle : l.length ≤ r.length + 1
            · have hle' : ((l.length : Int) ≤ ((r.length + 1 : Nat) : Int)) = True := eq_true (by omega)
              simp (contextual := true) (implicitDefEqProofs := false) (maxSteps := 2000000) (disch := first | rfl | exact Nat.le_of_ble_eq_true rfl | omega | (simp only [List.length_append, List.length_cons, List.length_nil, List.length_set]; omega)) only [hle', string_mk_size, X1, X2, X3, X4, XA, XB, lc_block, lc_cond, XZ, undef_eq, Nat.reduceAdd, Nat.reduceSub, ↓reduceIte, basic, cellsL, resOf, setAt, below, belowB, belowA, atomB, Nat.reduceLeDiff, Nat.reduceMul, Int.reduceToNat, Int.reduceLT, Int.reduceLE, Int.reduceAdd, Int.reduceNeg, Int.reduceEq, splice, Nat.reduceEqDiff, Nat.reduceLT, isAtom, Int.reduceSub, Int.reduceMul, implies_true]
              refine (text_spec i T l _ hm (by omega) hin).use ?_
              have htk : List.take (l.length - 0) (List.drop 0 (b :: r)) = (b :: r).take l.length := by simp
              by_cases heq : strL l = (b :: r).take l.length
              · have hh := hget (hiff.mpr ⟨hle, heq⟩)
                rw [hh]
                have heq' : (strL l = (b :: r).take l.length) = True := eq_true heq
                simp (contextual := true) (implicitDefEqProofs := false) (maxSteps := 2000000) (disch := first | rfl | exact Nat.le_of_ble_eq_true rfl | omega | (simp only [List.length_append, List.length_cons, List.length_nil, List.length_set]; omega)) only [hb02, hb1, hle', str_cut, str_eq, strOf, htk, heq', Int.toNat_natCast, string_mk_size, Ct.val, X1, X2, X3, X4, XA, XB, lc_block, lc_cond, XZ, undef_eq, Nat.reduceAdd, Nat.reduceSub, ↓reduceIte, basic, cellsL, resOf, setAt, below, belowB, belowA, atomB, Nat.reduceLeDiff, Nat.reduceMul, Int.reduceToNat, Int.reduceLT, Int.reduceLE, Int.reduceAdd, Int.reduceNeg, Int.reduceEq, splice, Nat.reduceEqDiff, Nat.reduceLT, isAtom, Int.reduceSub, Int.reduceMul, implies_true]
                exact (hfm2.set (i := m.length) (.inr (Nat.le_refl _))).ext (by simp)
              · have heq' : (strL l = (b :: r).take l.length) = False := eq_false heq
                simp (contextual := true) (implicitDefEqProofs := false) (maxSteps := 2000000) (disch := first | rfl | exact Nat.le_of_ble_eq_true rfl | omega | (simp only [List.length_append, List.length_cons, List.length_nil, List.length_set]; omega)) only [hb02, hb1, hle', str_cut, str_eq, strOf, htk, heq', Int.toNat_natCast, string_mk_size, X1, X2, X3, X4, XA, XB, lc_block, lc_cond, XZ, undef_eq, Nat.reduceAdd, Nat.reduceSub, ↓reduceIte, basic, cellsL, resOf, setAt, below, belowB, belowA, atomB, Nat.reduceLeDiff, Nat.reduceMul, Int.reduceToNat, Int.reduceLT, Int.reduceLE, Int.reduceAdd, Int.reduceNeg, Int.reduceEq, splice, Nat.reduceEqDiff, Nat.reduceLT, isAtom, Int.reduceSub, Int.reduceMul, implies_true]
                exact kInv_go ⟨p + 1, rfl, by omega, fun p' hp1 => hstep p' hp1 fun hh => heq (hiff.mp hh).2, hfm2, hb02, ⟨rfl, by simp [hwp]⟩⟩ (by omega)
            · have hle' : ((l.length : Int) ≤ ((r.length + 1 : Nat) : Int)) = False := eq_false (by omega)
              simp (contextual := true) (implicitDefEqProofs := false) (maxSteps := 2000000) (disch := first | rfl | exact Nat.le_of_ble_eq_true rfl | omega | (simp only [List.length_append, List.length_cons, List.length_nil, List.length_set]; omega)) only [hle', string_mk_size, X1, X2, X3, X4, XA, XB, lc_block, lc_cond, XZ, undef_eq, Nat.reduceAdd, Nat.reduceSub, ↓reduceIte, basic, cellsL, resOf, setAt, below, belowB, belowA, atomB, Nat.reduceLeDiff, Nat.reduceMul, Int.reduceToNat, Int.reduceLT, Int.reduceLE, Int.reduceAdd, Int.reduceNeg, Int.reduceEq, splice, Nat.reduceEqDiff, Nat.reduceLT, isAtom, Int.reduceSub, Int.reduceMul, implies_true]
              exact kInv_go ⟨p + 1, rfl, by omega, fun p' hp1 => hstep p' hp1 fun hh => hle (hiff.mp hh).1, hfm2, hb02, ⟨rfl, by simp [hwp]⟩⟩ (by omega)
          have hk1 : ((k : Int) = 1) = False := eq_false (by omega)
          have hk5 : ((k : Int) ≤ 5) = False := eq_false (by omega)
          have hcR : cR (b :: r) true (k : Int) = 0 := by unfold cR; rw [if_pos (by omega)]
          have hcS : cS (b :: r) true (k : Int) = 0 := by unfold cS; rw [if_neg (by omega)]
          simp (contextual := true) (implicitDefEqProofs := false) (maxSteps := 2000000) (disch := first | rfl | exact Nat.le_of_ble_eq_true rfl | omega | (simp only [List.length_append, List.length_cons, List.length_nil, List.length_set]; omega)) only [hb0, hlt', hp', hk1, hk5, rem4, rem16 b.toNat, quo2 hn, quo2 h16, quo32 hn, string_mk_size, hpe, ht, u8_wrap, X1, X2, X3, X4, XA, bin_add, bin_sub, bin_mul, bin_and, bin_or, bin_xor, bin_andNot, bin_eql, bin_neq, bin_lss, bin_leq, bin_gtr, bin_geq, bin_shl, bin_shr, bin_sadd, bin_seql, bin_sneq, lc_block, lc_cond, XZ, undef_eq, Nat.reduceAdd, Nat.reduceSub, ↓reduceIte, basic, cellsL, resOf, setAt, below, belowB, belowA, atomB, Nat.reduceLeDiff, Nat.reduceMul, Int.reduceToNat, Int.reduceLT, Int.reduceLE, Int.reduceAdd, Int.reduceNeg, Int.reduceEq, splice, Nat.reduceEqDiff, Nat.reduceLT, isAtom, Int.reduceSub, Int.reduceMul, implies_true]
          have hcand := cand_right (s := b :: r) (w := true) (k := (k : Int)) (by omega)
          have hiff := hit_iff (s := b :: r) (w := true) (p := decide (p = 1)) (k := (k : Int)) (fun hw h5 => by omega)
          have hget := hit_get (s := b :: r) (w := true) (p := decide (p = 1)) (k := (k : Int)) (by omega)
          rw [hcR, hcS] at hcand hiff hget
          have hl12 := putL8_len (k := (k : Int)) (r := 0) (s := 0) (p := decide (p = 1)) (w := true)
          refine refput_spec (k : Int) (0) (0) (decide (p = 1)) true hcand _ _ fun i g T hm => ?_
          have hin := put_inB (p := decide (p = 1)) hcand
          generalize putL8 (k : Int) (0) (0) (decide (p = 1)) true = l at hm hiff hget hl12 hin ⊢
          simp only [List.append_assoc, List.cons_append, List.nil_append] at hm ⊢
          have hi := lt_of_some hm
          have hb02 := (Frm.refl (F := []) (m := M)).app.get0 (m' := M ++ (⟨[.int .i64 (k : Int), .int .i64 (0), .int .i64 (0), .bool (decide (p = 1))], 101, 1, 0, .own⟩ :: g)) hb0
          have hb1 : (M ++ (⟨[.int .i64 (k : Int), .int .i64 (0), .int .i64 (0), .bool (decide (p = 1))], 101, 1, 0, .own⟩ :: g))[M.length]? = some ⟨[.int .i64 (k : Int), .int .i64 (0), .int .i64 (0), .bool (decide (p = 1))], 101, 1, 0, .own⟩ := by rw [List.getElem?_append_right (Nat.le_refl _), Nat.sub_self]; rfl
          have hfm2 : Frm [] m (M ++ (⟨[.int .i64 (k : Int), .int .i64 (0), .int .i64 (0), .bool (decide (p = 1))], 101, 1, 0, .own⟩ :: g)) := hfm.app
          generalize M ++ ((⟨[.int .i64 (k : Int), .int .i64 (0), .int .i64 (0), .bool (decide (p = 1))], 101, 1, 0, .own⟩ : Blk) :: g) = M2 at hm hi hb02 hb1 hfm2 ⊢
          have l02 := lt_of_some hb02
          have l12 := lt_of_some hb1
          by_cases hle : l.length ≤ r.length + 1
          · have hle' : ((l.length : Int) ≤ ((r.length + 1 : Nat) : Int)) = True := eq_true (by omega)
            simp (contextual := true) (implicitDefEqProofs := false) (maxSteps := 2000000) (disch := first | rfl | exact Nat.le_of_ble_eq_true rfl | omega | (simp only [List.length_append, List.length_cons, List.length_nil, List.length_set]; omega)) only [hle', string_mk_size, X1, X2, X3, X4, XA, XB, lc_block, lc_cond, XZ, undef_eq, Nat.reduceAdd, Nat.reduceSub, ↓reduceIte, basic, cellsL, resOf, setAt, below, belowB, belowA, atomB, Nat.reduceLeDiff, Nat.reduceMul, Int.reduceToNat, Int.reduceLT, Int.reduceLE, Int.reduceAdd, Int.reduceNeg, Int.reduceEq, splice, Nat.reduceEqDiff, Nat.reduceLT, isAtom, Int.reduceSub, Int.reduceMul, implies_true]
            refine (text_spec i T l _ hm (by omega) hin).use ?_
            have htk : List.take (l.length - 0) (List.drop 0 (b :: r)) = (b :: r).take l.length := by simp
            by_cases heq : strL l = (b :: r).take l.length
            · have hh := hget (hiff.mpr ⟨hle, heq⟩)
              rw [hh]
              have heq' : (strL l = (b :: r).take l.length) = True := eq_true heq
              simp (contextual := true) (implicitDefEqProofs := false) (maxSteps := 2000000) (disch := first | rfl | exact Nat.le_of_ble_eq_true rfl | omega | (simp only [List.length_append, List.length_cons, List.length_nil, List.length_set]; omega)) only [hb02, hb1, hle', str_cut, str_eq, strOf, htk, heq', Int.toNat_natCast, string_mk_size, Ct.val, X1, X2, X3, X4, XA, XB, lc_block, lc_cond, XZ, undef_eq, Nat.reduceAdd, Nat.reduceSub, ↓reduceIte, basic, cellsL, resOf, setAt, below, belowB, belowA, atomB, Nat.reduceLeDiff, Nat.reduceMul, Int.reduceToNat, Int.reduceLT, Int.reduceLE, Int.reduceAdd, Int.reduceNeg, Int.reduceEq, splice, Nat.reduceEqDiff, Nat.reduceLT, isAtom, Int.reduceSub, Int.reduceMul, implies_true]
              exact (hfm2.set (i := m.length) (.inr (Nat.le_refl _))).ext (by simp)
            · have heq' : (strL l = (b :: r).take l.length) = False := eq_false heq
              simp (contextual := true) (implicitDefEqProofs := false) (maxSteps := 2000000) (disch := first | rfl | exact Nat.le_of_ble_eq_true rfl | omega | (simp only [List.length_append, List.length_cons, List.length_nil, List.length_set]; omega)) only [hb02, hb1, hle', str_cut, str_eq, strOf, htk, heq', Int.toNat_natCast, string_mk_size, X1, X2, X3, X4, XA, XB, lc_block, lc_cond, XZ, undef_eq, Nat.reduceAdd, Nat.reduceSub, ↓reduceIte, basic, cellsL, resOf, setAt, below, belowB, belowA, atomB, Nat.reduceLeDiff, Nat.reduceMul, Int.reduceToNat, Int.reduceLT, Int.reduceLE, Int.reduceAdd, Int.reduceNeg, Int.reduceEq, splice, Nat.reduceEqDiff, Nat.reduceLT, isAtom, Int.reduceSub, Int.reduceMul, implies_true]
              exact kInv_go ⟨p + 1, rfl, by omega, fun p' hp1 => hstep p' hp1 fun hh => heq (hiff.mp hh).2, hfm2, hb02, ⟨rfl, by simp [hwp]⟩⟩ (by omega)
          · have hle' : ((l.length : Int) ≤ ((r.length + 1 : Nat) : Int)) = False := eq_false (by omega)
            simp (contextual := true) (implicitDefEqProofs := false) (maxSteps := 2000000) (disch := first | rfl | exact Nat.le_of_ble_eq_true rfl | omega | (simp only [List.length_append, List.length_cons, List.length_nil, List.length_set]; omega)) only [hle', string_mk_size, X1, X2, X3, X4, XA, XB, lc_block, lc_cond, XZ, undef_eq, Nat.reduceAdd, Nat.reduceSub, ↓reduceIte, basic, cellsL, resOf, setAt, below, belowB, belowA, atomB, Nat.reduceLeDiff, Nat.reduceMul, Int.reduceToNat, Int.reduceLT, Int.reduceLE, Int.reduceAdd, Int.reduceNeg, Int.reduceEq, splice, Nat.reduceEqDiff, Nat.reduceLT, isAtom, Int.reduceSub, Int.reduceMul, implies_true]
            exact kInv_go ⟨p + 1, rfl, by omega, fun p' hp1 => hstep p' hp1 fun hh => hle (hiff.mp hh).1, hfm2, hb02, ⟨rfl, by simp [hwp]⟩⟩ (by omega)
        · have hp' : ((p : Int) < 2) = False := eq_false (by omega)
          have hp2' : p = 2 := by omega
          subst hp2'
          simp (contextual := true) (implicitDefEqProofs := false) (maxSteps := 2000000) (disch := first | rfl | exact Nat.le_of_ble_eq_true rfl | omega | (simp only [List.length_append, List.length_cons, List.length_nil, List.length_set]; omega)) only [hp', X1, X2, X3, X4, XA, XB, lc_block, lc_cond, XZ, undef_eq, Nat.reduceAdd, Nat.reduceSub, ↓reduceIte, basic, cellsL, resOf, setAt, below, belowB, belowA, atomB, Nat.reduceLeDiff, Nat.reduceMul, Int.reduceToNat, Int.reduceLT, Int.reduceLE, Int.reduceAdd, Int.reduceNeg, Int.reduceEq, splice, Nat.reduceEqDiff, Nat.reduceLT, isAtom, Int.reduceSub, Int.reduceMul, implies_true]
          refine kInv_go ⟨k + 1, rfl, by omega, by omega, fun k' p h1 h2 => ?_, hfm, hb0, ⟨rfl, by simp [hwk]⟩⟩ (by omega)
          by_cases e : k' = (k : Int)
          · rw [e]; cases p with | false => exact hnp 0 (by omega) | true => exact hnp 1 (by omega)
          · exact hno k' p h1 (by omega)
      · have hlt' : ((k : Int) ≤ 14) = False := eq_false (by omega)
        have hnone : getC (b :: r) true = (2, czero, 0) := by
          rcases get_none (s := b :: r) (w := true) (fun k' p h1 h2 => hno k' p h1 (by omega)) with h | h | ⟨h1, h2, h3⟩
          · exact h
          · cases h
          · exact absurd (show b.toNat % 4 = 3 by omega) h3
        rw [hnone]
        simp (contextual := true) (implicitDefEqProofs := false) (maxSteps := 2000000) (disch := first | rfl | exact Nat.le_of_ble_eq_true rfl | omega | (simp only [List.length_append, List.length_cons, List.length_nil, List.length_set]; omega)) only [hlt', hb0, czero, Ct.val, X1, X2, X3, X4, XA, XB, lc_block, lc_cond, XZ, undef_eq, Nat.reduceAdd, Nat.reduceSub, ↓reduceIte, basic, cellsL, resOf, setAt, below, belowB, belowA, atomB, Nat.reduceLeDiff, Nat.reduceMul, Int.reduceToNat, Int.reduceLT, Int.reduceLE, Int.reduceAdd, Int.reduceNeg, Int.reduceEq, splice, Nat.reduceEqDiff, Nat.reduceLT, isAtom, Int.reduceSub, Int.reduceMul, implies_true]
        exact (hfm.set (i := m.length) (.inr (Nat.le_refl _))).ext (by simp)
    · have hs : (((r.length + 1 : Nat) : Int) < 2) = False := eq_false (by
        have := hr rfl (by omega)
        simp only [List.length_cons] at this; omega)
      simp (contextual := true) (implicitDefEqProofs := false) (maxSteps := 2000000) (disch := first | rfl | exact Nat.le_of_ble_eq_true rfl | omega | (simp only [List.length_append, List.length_cons, List.length_nil, List.length_set]; omega)) only [L84, hempty, ht, u8_wrap, rem4, string_mk_size, eq_false h3, hs, X1, X2, X3, X4, XA, bin_add, bin_sub, bin_mul, bin_quo, bin_and, bin_or, bin_xor, bin_andNot, bin_eql, bin_neq, bin_lss, bin_leq, bin_gtr, bin_geq, bin_shl, bin_shr, bin_sadd, bin_seql, bin_sneq, lc_block, lc_cond, XZ, undef_eq, Nat.reduceAdd, Nat.reduceSub, ↓reduceIte, basic, cellsL, resOf, setAt, below, belowB, belowA, atomB, Nat.reduceLeDiff, Nat.reduceMul, Int.reduceToNat, Int.reduceLT, Int.reduceLE, Int.reduceAdd, Int.reduceNeg, Int.reduceEq, splice, Nat.reduceEqDiff, Nat.reduceLT, isAtom, Int.reduceSub, Int.reduceMul, implies_true]
      refine loop_inv (fun n t M => ∃ (k : Nat), n = 15 - k ∧ 1 ≤ k ∧ k ≤ 15 ∧ (∀ k' : Int, ∀ p, 1 ≤ k' → k' < (k : Int) → ¬ hit (b :: r) true k' p) ∧ Frm [] m M ∧ M[m.length]? = some ⟨[.int .i64 0, .int .i64 0, .int .i64 0, .bool false], 101, 1, 0, .own⟩ ∧ Tab 103 [(0, str (b :: r)), (1, .bool true), (4, .pointer (some ⟨m.length, 0, none⟩)), (7, .int .i64 (b.toNat : Int)), (8, .int .i64 (k : Int))] t) (n := 14) ?_ ?_
      · exact ⟨1, rfl, Nat.le_refl _, by omega, fun k' p h1 h2 => by omega, Frm.refl.app, by simp, ⟨rfl, by simp⟩⟩
      rintro N t M ⟨k, rfl, hk1, hk, hno, hfm, hb0, ht0⟩
      obtain ⟨f, rfl⟩ : ∃ f' : Nat → Value, t = [str (b :: r), .bool true, f' 2, f' 3, .pointer (some ⟨m.length, 0, none⟩), f' 5, f' 6, .int .i64 (b.toNat : Int), .int .i64 (k : Int), f' 9, f' 10, f' 11, f' 12, f' 13, f' 14, f' 15, f' 16, f' 17, f' 18, f' 19, f' 20, f' 21, f' 22, f' 23, f' 24, f' 25, f' 26, f' 27, f' 28, f' 29, f' 30, f' 31, f' 32, f' 33, f' 34, f' 35, f' 36, f' 37, f' 38, f' 39, f' 40, f' 41, f' 42, f' 43, f' 44, f' 45, f' 46, f' 47, f' 48, f' 49, f' 50, f' 51, f' 52, f' 53, f' 54, f' 55, f' 56, f' 57, f' 58, f' 59, f' 60, f' 61, f' 62, f' 63, f' 64, f' 65, f' 66, f' 67, f' 68, f' 69, f' 70, f' 71, f' 72, f' 73, f' 74, f' 75, f' 76, f' 77, f' 78, f' 79, f' 80, f' 81, f' 82, f' 83, f' 84, f' 85, f' 86, f' 87, f' 88, f' 89, f' 90, f' 91, f' 92, f' 93, f' 94, f' 95, f' 96, f' 97, f' 98, f' 99, f' 100, f' 101, f' 102] := ht0.open fun f' => rfl
      have l0 := lt_of_some hb0
      by_cases hlt : k ≤ 14
      · have hlt' : ((k : Int) ≤ 14) = True := eq_true (by omega)
        have hwk : IntKind.i64.wrap ((k : Int) + 1) = ((k + 1 : Nat) : Int) := by rw [wrap_i64 (by omega) (by omega)]; omega
        simp (contextual := true) (implicitDefEqProofs := false) (maxSteps := 2000000) (disch := first | rfl | exact Nat.le_of_ble_eq_true rfl | omega | (simp only [List.length_append, List.length_cons, List.length_nil, List.length_set]; omega)) only [hlt', X1, X2, X3, X4, XA, XB, lc_block, lc_cond, XZ, undef_eq, Nat.reduceAdd, Nat.reduceSub, ↓reduceIte, basic, cellsL, resOf, setAt, below, belowB, belowA, atomB, Nat.reduceLeDiff, Nat.reduceMul, Int.reduceToNat, Int.reduceLT, Int.reduceLE, Int.reduceAdd, Int.reduceNeg, Int.reduceEq, splice, Nat.reduceEqDiff, Nat.reduceLT, isAtom, Int.reduceSub, Int.reduceMul, implies_true]
        refine loop_inv (fun n t M => ∃ (p : Nat), n = 2 - p ∧ p ≤ 2 ∧ (∀ p' : Nat, p' < p → ¬ hit (b :: r) true (k : Int) (decide (p' = 1))) ∧ Frm [] m M ∧ M[m.length]? = some ⟨[.int .i64 0, .int .i64 0, .int .i64 0, .bool false], 101, 1, 0, .own⟩ ∧ Tab 103 [(0, str (b :: r)), (1, .bool true), (4, .pointer (some ⟨m.length, 0, none⟩)), (7, .int .i64 (b.toNat : Int)), (8, .int .i64 (k : Int)), (9, .int .i64 (p : Int))] t) (n := 2) ?_ ?_
        · exact ⟨0, rfl, Nat.zero_le _, fun p' h => by omega, hfm, hb0, ⟨rfl, by simp⟩⟩
        clear hfm hb0 l0
        rintro N t M ⟨p, rfl, hp, hnp, hfm, hb0, ht0⟩
        obtain ⟨f, rfl⟩ : ∃ f' : Nat → Value, t = [str (b :: r), .bool true, f' 2, f' 3, .pointer (some ⟨m.length, 0, none⟩), f' 5, f' 6, .int .i64 (b.toNat : Int), .int .i64 (k : Int), .int .i64 (p : Int), f' 10, f' 11, f' 12, f' 13, f' 14, f' 15, f' 16, f' 17, f' 18, f' 19, f' 20, f' 21, f' 22, f' 23, f' 24, f' 25, f' 26, f' 27, f' 28, f' 29, f' 30, f' 31, f' 32, f' 33, f' 34, f' 35, f' 36, f' 37, f' 38, f' 39, f' 40, f' 41, f' 42, f' 43, f' 44, f' 45, f' 46, f' 47, f' 48, f' 49, f' 50, f' 51, f' 52, f' 53, f' 54, f' 55, f' 56, f' 57, f' 58, f' 59, f' 60, f' 61, f' 62, f' 63, f' 64, f' 65, f' 66, f' 67, f' 68, f' 69, f' 70, f' 71, f' 72, f' 73, f' 74, f' 75, f' 76, f' 77, f' 78, f' 79, f' 80, f' 81, f' 82, f' 83, f' 84, f' 85, f' 86, f' 87, f' 88, f' 89, f' 90, f' 91, f' 92, f' 93, f' 94, f' 95, f' 96, f' 97, f' 98, f' 99, f' 100, f' 101, f' 102] := ht0.open fun f' => rfl
        have l0 := lt_of_some hb0
        by_cases hp2 : p < 2
        · have hp' : ((p : Int) < 2) = True := eq_true (by omega)
          have hwp : IntKind.i64.wrap ((p : Int) + 1) = ((p + 1 : Nat) : Int) := by rw [wrap_i64 (by omega) (by omega)]; omega
          have hpe : ((p : Int) = 1) = (p = 1) := by apply propext; omega
          have h16 : b.toNat % 16 < 256 := by omega
          have hstep : ∀ p' : Nat, p' < p + 1 → ¬ hit (b :: r) true (k : Int) (decide (p = 1)) → ¬ hit (b :: r) true (k : Int) (decide (p' = 1)) := fun p' h1 h2 => by
            by_cases e : p' = p
            · rw [e]; exact h2
            · exact hnp p' (by omega)
          have happ : ∀ g : Mem, (M ++ g)[m.length]? = some ⟨[.int .i64 0, .int .i64 0, .int .i64 0, .bool false], 101, 1, 0, .own⟩ := fun g => by rw [List.getElem?_append_left l0]; exact hb0
          by_cases hka : k = 1
          · have hk1 : ((k : Int) = 1) = True := eq_true (by omega)
            have hk5 : ((k : Int) ≤ 5) = True := eq_true (by omega)
            by_cases h2 : r.length + 1 < 2
            · have h2' : (((r.length + 1 : Nat) : Int) < 2) = True := eq_true (by omega)
              simp (contextual := true) (implicitDefEqProofs := false) (maxSteps := 2000000) (disch := first | rfl | exact Nat.le_of_ble_eq_true rfl | omega | (simp only [List.length_append, List.length_cons, List.length_nil, List.length_set]; omega)) only [hb0, hlt', hp', hk1, hk5, rem4, rem16 b.toNat, quo2 hn, quo2 h16, quo32 hn, string_mk_size, h2', hpe, ht, X1, X2, X3, X4, XA, bin_add, bin_sub, bin_mul, bin_and, bin_or, bin_xor, bin_andNot, bin_eql, bin_neq, bin_lss, bin_leq, bin_gtr, bin_geq, bin_shl, bin_shr, bin_sadd, bin_seql, bin_sneq, lc_block, lc_cond, XZ, undef_eq, Nat.reduceAdd, Nat.reduceSub, ↓reduceIte, basic, cellsL, resOf, setAt, below, belowB, belowA, atomB, Nat.reduceLeDiff, Nat.reduceMul, Int.reduceToNat, Int.reduceLT, Int.reduceLE, Int.reduceAdd, Int.reduceNeg, Int.reduceEq, splice, Nat.reduceEqDiff, Nat.reduceLT, isAtom, Int.reduceSub, Int.reduceMul, implies_true]
              exact kInv_go ⟨p + 1, rfl, by omega, fun p' hp1 => hstep p' hp1 fun hh => by have := hh.1 rfl (by omega); simp only [List.length_cons] at this; omega, hfm.app, happ _, ⟨rfl, by simp [hwp]⟩⟩ (by omega)
            have h2' : (((r.length + 1 : Nat) : Int) < 2) = False := eq_false (by omega)
            obtain ⟨c1, r1, hr1⟩ : ∃ c1 r1, r = c1 :: r1 := by cases r with | nil => exact absurd (by simp) h2 | cons c1 r1 => exact ⟨c1, r1, rfl⟩
            have ht1 : (⟨(b :: r).toArray⟩ : ByteArray).data.toList[1]? = some c1 := by rw [hr1]; simp
            have hc1 := c1.toNat_lt
            have hcR : cR (b :: r) true (k : Int) = ((c1.toNat / 2 : Nat) : Int) := by unfold cR; rw [if_neg (by omega), if_pos rfl, hr1]; rfl
            have hcS : cS (b :: r) true (k : Int) = ((b.toNat / 2 : Nat) : Int) := by unfold cS; rw [if_pos (by omega), if_pos rfl]; rfl
            simp (contextual := true) (implicitDefEqProofs := false) (maxSteps := 2000000) (disch := first | rfl | exact Nat.le_of_ble_eq_true rfl | omega | (simp only [List.length_append, List.length_cons, List.length_nil, List.length_set]; omega)) only [hb0, hlt', hp', hk1, hk5, rem4, rem16 b.toNat, quo2 hn, quo2 h16, quo32 hn, string_mk_size, hpe, ht, u8_wrap, h2', ht1, quo2 hc1, X1, X2, X3, X4, XA, bin_add, bin_sub, bin_mul, bin_and, bin_or, bin_xor, bin_andNot, bin_eql, bin_neq, bin_lss, bin_leq, bin_gtr, bin_geq, bin_shl, bin_shr, bin_sadd, bin_seql, bin_sneq, lc_block, lc_cond, XZ, undef_eq, Nat.reduceAdd, Nat.reduceSub, ↓reduceIte, basic, cellsL, resOf, setAt, below, belowB, belowA, atomB, Nat.reduceLeDiff, Nat.reduceMul, Int.reduceToNat, Int.reduceLT, Int.reduceLE, Int.reduceAdd, Int.reduceNeg, Int.reduceEq, splice, Nat.reduceEqDiff, Nat.reduceLT, isAtom, Int.reduceSub, Int.reduceMul, implies_true]
            have hcand := cand_right (s := b :: r) (w := true) (k := (k : Int)) (by omega)
            have hiff := hit_iff (s := b :: r) (w := true) (p := decide (p = 1)) (k := (k : Int)) (fun hw h5 => by simp only [List.length_cons]; omega)
            have hget := hit_get (s := b :: r) (w := true) (p := decide (p = 1)) (k := (k : Int)) (by omega)
            rw [hcR, hcS] at hcand hiff hget
            have hl12 := putL8_len (k := (k : Int)) (r := ((c1.toNat / 2 : Nat) : Int)) (s := ((b.toNat / 2 : Nat) : Int)) (p := decide (p = 1)) (w := true)
            refine refput_spec (k : Int) (((c1.toNat / 2 : Nat) : Int)) (((b.toNat / 2 : Nat) : Int)) (decide (p = 1)) true hcand _ _ fun i g T hm => ?_
            have hin := put_inB (p := decide (p = 1)) hcand
            generalize putL8 (k : Int) (((c1.toNat / 2 : Nat) : Int)) (((b.toNat / 2 : Nat) : Int)) (decide (p = 1)) true = l at hm hiff hget hl12 hin ⊢
            simp only [List.append_assoc, List.cons_append, List.nil_append] at hm ⊢
            have hi := lt_of_some hm
            have hb02 := (Frm.refl (F := []) (m := M)).app.get0 (m' := M ++ (⟨[.int .i64 (k : Int), .int .i64 (((c1.toNat / 2 : Nat) : Int)), .int .i64 (((b.toNat / 2 : Nat) : Int)), .bool (decide (p = 1))], 101, 1, 0, .own⟩ :: g)) hb0
            have hb1 : (M ++ (⟨[.int .i64 (k : Int), .int .i64 (((c1.toNat / 2 : Nat) : Int)), .int .i64 (((b.toNat / 2 : Nat) : Int)), .bool (decide (p = 1))], 101, 1, 0, .own⟩ :: g))[M.length]? = some ⟨[.int .i64 (k : Int), .int .i64 (((c1.toNat / 2 : Nat) : Int)), .int .i64 (((b.toNat / 2 : Nat) : Int)), .bool (decide (p = 1))], 101, 1, 0, .own⟩ := by rw [List.getElem?_append_right (Nat.le_refl _), Nat.sub_self]; rfl
            have hfm2 : Frm [] m (M ++ (⟨[.int .i64 (k : Int), .int .i64 (((c1.toNat / 2 : Nat) : Int)), .int .i64 (((b.toNat / 2 : Nat) : Int)), .bool (decide (p = 1))], 101, 1, 0, .own⟩ :: g)) := hfm.app
            generalize M ++ ((⟨[.int .i64 (k : Int), .int .i64 (((c1.toNat / 2 : Nat) : Int)), .int .i64 (((b.toNat / 2 : Nat) : Int)), .bool (decide (p = 1))], 101, 1, 0, .own⟩ : Blk) :: g) = M2 at hm hi hb02 hb1 hfm2 ⊢
            have l02 := lt_of_some hb02
            have l12 := lt_of_some hb1
            by_cases hle : l.length ≤ r.length + 1
            · have hle' : ((l.length : Int) ≤ ((r.length + 1 : Nat) : Int)) = True := eq_true (by omega)
              simp (contextual := true) (implicitDefEqProofs := false) (maxSteps := 2000000) (disch := first | rfl | exact Nat.le_of_ble_eq_true rfl | omega | (simp only [List.length_append, List.length_cons, List.length_nil, List.length_set]; omega)) only [hle', string_mk_size, X1, X2, X3, X4, XA, XB, lc_block, lc_cond, XZ, undef_eq, Nat.reduceAdd, Nat.reduceSub, ↓reduceIte, basic, cellsL, resOf, setAt, below, belowB, belowA, atomB, Nat.reduceLeDiff, Nat.reduceMul, Int.reduceToNat, Int.reduceLT, Int.reduceLE, Int.reduceAdd, Int.reduceNeg, Int.reduceEq, splice, Nat.reduceEqDiff, Nat.reduceLT, isAtom, Int.reduceSub, Int.reduceMul, implies_true]
              refine (text_spec i T l _ hm (by omega) hin).use ?_
              have htk : List.take (l.length - 0) (List.drop 0 (b :: r)) = (b :: r).take l.length := by simp
              by_cases heq : strL l = (b :: r).take l.length
              · have hh := hget (hiff.mpr ⟨hle, heq⟩)
                rw [hh]
                have heq' : (strL l = (b :: r).take l.length) = True := eq_true heq
                simp (contextual := true) (implicitDefEqProofs := false) (maxSteps := 2000000) (disch := first | rfl | exact Nat.le_of_ble_eq_true rfl | omega | (simp only [List.length_append, List.length_cons, List.length_nil, List.length_set]; omega)) only [hb02, hb1, hle', str_cut, str_eq, strOf, htk, heq', Int.toNat_natCast, string_mk_size, Ct.val, X1, X2, X3, X4, XA, XB, lc_block, lc_cond, XZ, undef_eq, Nat.reduceAdd, Nat.reduceSub, ↓reduceIte, basic, cellsL, resOf, setAt, below, belowB, belowA, atomB, Nat.reduceLeDiff, Nat.reduceMul, Int.reduceToNat, Int.reduceLT, Int.reduceLE, Int.reduceAdd, Int.reduceNeg, Int.reduceEq, splice, Nat.reduceEqDiff, Nat.reduceLT, isAtom, Int.reduceSub, Int.reduceMul, implies_true]
                exact (hfm2.set (i := m.length) (.inr (Nat.le_refl _))).ext (by simp)
              · have heq' : (strL l = (b :: r).take l.length) = False := eq_false heq
                simp (contextual := true) (implicitDefEqProofs := false) (maxSteps := 2000000) (disch := first | rfl | exact Nat.le_of_ble_eq_true rfl | omega | (simp only [List.length_append, List.length_cons, List.length_nil, List.length_set]; omega)) only [hb02, hb1, hle', str_cut, str_eq, strOf, htk, heq', Int.toNat_natCast, string_mk_size, X1, X2, X3, X4, XA, XB, lc_block, lc_cond, XZ, undef_eq, Nat.reduceAdd, Nat.reduceSub, ↓reduceIte, basic, cellsL, resOf, setAt, below, belowB, belowA, atomB, Nat.reduceLeDiff, Nat.reduceMul, Int.reduceToNat, Int.reduceLT, Int.reduceLE, Int.reduceAdd, Int.reduceNeg, Int.reduceEq, splice, Nat.reduceEqDiff, Nat.reduceLT, isAtom, Int.reduceSub, Int.reduceMul, implies_true]
                exact kInv_go ⟨p + 1, rfl, by omega, fun p' hp1 => hstep p' hp1 fun hh => heq (hiff.mp hh).2, hfm2, hb02, ⟨rfl, by simp [hwp]⟩⟩ (by omega)
            · have hle' : ((l.length : Int) ≤ ((r.length + 1 : Nat) : Int)) = False := eq_false (by omega)
              simp (contextual := true) (implicitDefEqProofs := false) (maxSteps := 2000000) (disch := first | rfl | exact Nat.le_of_ble_eq_true rfl | omega | (simp only [List.length_append, List.length_cons, List.length_nil, List.length_set]; omega)) only [hle', string_mk_size, X1, X2, X3, X4, XA, XB, lc_block, lc_cond, XZ, undef_eq, Nat.reduceAdd, Nat.reduceSub, ↓reduceIte, basic, cellsL, resOf, setAt, below, belowB, belowA, atomB, Nat.reduceLeDiff, Nat.reduceMul, Int.reduceToNat, Int.reduceLT, Int.reduceLE, Int.reduceAdd, Int.reduceNeg, Int.reduceEq, splice, Nat.reduceEqDiff, Nat.reduceLT, isAtom, Int.reduceSub, Int.reduceMul, implies_true]
              exact kInv_go ⟨p + 1, rfl, by omega, fun p' hp1 => hstep p' hp1 fun hh => hle (hiff.mp hh).1, hfm2, hb02, ⟨rfl, by simp [hwp]⟩⟩ (by omega)
          by_cases hkb : k ≤ 5
          · have hk1 : ((k : Int) = 1) = False := eq_false (by omega)
            have hk5 : ((k : Int) ≤ 5) = True := eq_true (by omega)
            by_cases h2 : r.length + 1 < 2
            · have h2' : (((r.length + 1 : Nat) : Int) < 2) = True := eq_true (by omega)
              simp (contextual := true) (implicitDefEqProofs := false) (maxSteps := 2000000) (disch := first | rfl | exact Nat.le_of_ble_eq_true rfl | omega | (simp only [List.length_append, List.length_cons, List.length_nil, List.length_set]; omega)) only [hb0, hlt', hp', hk1, hk5, rem4, rem16 b.toNat, quo2 hn, quo2 h16, quo32 hn, string_mk_size, h2', hpe, ht, X1, X2, X3, X4, XA, bin_add, bin_sub, bin_mul, bin_and, bin_or, bin_xor, bin_andNot, bin_eql, bin_neq, bin_lss, bin_leq, bin_gtr, bin_geq, bin_shl, bin_shr, bin_sadd, bin_seql, bin_sneq, lc_block, lc_cond, XZ, undef_eq, Nat.reduceAdd, Nat.reduceSub, ↓reduceIte, basic, cellsL, resOf, setAt, below, belowB, belowA, atomB, Nat.reduceLeDiff, Nat.reduceMul, Int.reduceToNat, Int.reduceLT, Int.reduceLE, Int.reduceAdd, Int.reduceNeg, Int.reduceEq, splice, Nat.reduceEqDiff, Nat.reduceLT, isAtom, Int.reduceSub, Int.reduceMul, implies_true]
              exact kInv_go ⟨p + 1, rfl, by omega, fun p' hp1 => hstep p' hp1 fun hh => by have := hh.1 rfl (by omega); simp only [List.length_cons] at this; omega, hfm.app, happ _, ⟨rfl, by simp [hwp]⟩⟩ (by omega)
            have h2' : (((r.length + 1 : Nat) : Int) < 2) = False := eq_false (by omega)
            obtain ⟨c1, r1, hr1⟩ : ∃ c1 r1, r = c1 :: r1 := by cases r with | nil => exact absurd (by simp) h2 | cons c1 r1 => exact ⟨c1, r1, rfl⟩
            have ht1 : (⟨(b :: r).toArray⟩ : ByteArray).data.toList[1]? = some c1 := by rw [hr1]; simp
            have hc1 := c1.toNat_lt
            have hcR : cR (b :: r) true (k : Int) = ((c1.toNat / 2 : Nat) : Int) := by unfold cR; rw [if_neg (by omega), if_pos rfl, hr1]; rfl
            have hcS : cS (b :: r) true (k : Int) = 0 := by unfold cS; rw [if_neg (by omega)]
            simp (contextual := true) (implicitDefEqProofs := false) (maxSteps := 2000000) (disch := first | rfl | exact Nat.le_of_ble_eq_true rfl | omega | (simp only [List.length_append, List.length_cons, List.length_nil, List.length_set]; omega)) only [hb0, hlt', hp', hk1, hk5, rem4, rem16 b.toNat, quo2 hn, quo2 h16, quo32 hn, string_mk_size, hpe, ht, u8_wrap, h2', ht1, quo2 hc1, X1, X2, X3, X4, XA, bin_add, bin_sub, bin_mul, bin_and, bin_or, bin_xor, bin_andNot, bin_eql, bin_neq, bin_lss, bin_leq, bin_gtr, bin_geq, bin_shl, bin_shr, bin_sadd, bin_seql, bin_sneq, lc_block, lc_cond, XZ, undef_eq, Nat.reduceAdd, Nat.reduceSub, ↓reduceIte, basic, cellsL, resOf, setAt, below, belowB, belowA, atomB, Nat.reduceLeDiff, Nat.reduceMul, Int.reduceToNat, Int.reduceLT, Int.reduceLE, Int.reduceAdd, Int.reduceNeg, Int.reduceEq, splice, Nat.reduceEqDiff, Nat.reduceLT, isAtom, Int.reduceSub, Int.reduceMul, implies_true]
            have hcand := cand_right (s := b :: r) (w := true) (k := (k : Int)) (by omega)
            have hiff := hit_iff (s := b :: r) (w := true) (p := decide (p = 1)) (k := (k : Int)) (fun hw h5 => by simp only [List.length_cons]; omega)
            have hget := hit_get (s := b :: r) (w := true) (p := decide (p = 1)) (k := (k : Int)) (by omega)
            rw [hcR, hcS] at hcand hiff hget
            have hl12 := putL8_len (k := (k : Int)) (r := ((c1.toNat / 2 : Nat) : Int)) (s := 0) (p := decide (p = 1)) (w := true)
            refine refput_spec (k : Int) (((c1.toNat / 2 : Nat) : Int)) (0) (decide (p = 1)) true hcand _ _ fun i g T hm => ?_
            have hin := put_inB (p := decide (p = 1)) hcand
            generalize putL8 (k : Int) (((c1.toNat / 2 : Nat) : Int)) (0) (decide (p = 1)) true = l at hm hiff hget hl12 hin ⊢
            simp only [List.append_assoc, List.cons_append, List.nil_append] at hm ⊢
            have hi := lt_of_some hm
            have hb02 := (Frm.refl (F := []) (m := M)).app.get0 (m' := M ++ (⟨[.int .i64 (k : Int), .int .i64 (((c1.toNat / 2 : Nat) : Int)), .int .i64 (0), .bool (decide (p = 1))], 101, 1, 0, .own⟩ :: g)) hb0
            have hb1 : (M ++ (⟨[.int .i64 (k : Int), .int .i64 (((c1.toNat / 2 : Nat) : Int)), .int .i64 (0), .bool (decide (p = 1))], 101, 1, 0, .own⟩ :: g))[M.length]? = some ⟨[.int .i64 (k : Int), .int .i64 (((c1.toNat / 2 : Nat) : Int)), .int .i64 (0), .bool (decide (p = 1))], 101, 1, 0, .own⟩ := by rw [List.getElem?_append_right (Nat.le_refl _), Nat.sub_self]; rfl
            have hfm2 : Frm [] m (M ++ (⟨[.int .i64 (k : Int), .int .i64 (((c1.toNat / 2 : Nat) : Int)), .int .i64 (0), .bool (decide (p = 1))], 101, 1, 0, .own⟩ :: g)) := hfm.app
            generalize M ++ ((⟨[.int .i64 (k : Int), .int .i64 (((c1.toNat / 2 : Nat) : Int)), .int .i64 (0), .bool (decide (p = 1))], 101, 1, 0, .own⟩ : Blk) :: g) = M2 at hm hi hb02 hb1 hfm2 ⊢
            have l02 := lt_of_some hb02
            have l12 := lt_of_some hb1
            by_cases hle : l.length ≤ r.length + 1
            · have hle' : ((l.length : Int) ≤ ((r.length + 1 : Nat) : Int)) = True := eq_true (by omega)
              simp (contextual := true) (implicitDefEqProofs := false) (maxSteps := 2000000) (disch := first | rfl | exact Nat.le_of_ble_eq_true rfl | omega | (simp only [List.length_append, List.length_cons, List.length_nil, List.length_set]; omega)) only [hle', string_mk_size, X1, X2, X3, X4, XA, XB, lc_block, lc_cond, XZ, undef_eq, Nat.reduceAdd, Nat.reduceSub, ↓reduceIte, basic, cellsL, resOf, setAt, below, belowB, belowA, atomB, Nat.reduceLeDiff, Nat.reduceMul, Int.reduceToNat, Int.reduceLT, Int.reduceLE, Int.reduceAdd, Int.reduceNeg, Int.reduceEq, splice, Nat.reduceEqDiff, Nat.reduceLT, isAtom, Int.reduceSub, Int.reduceMul, implies_true]
              refine (text_spec i T l _ hm (by omega) hin).use ?_
              have htk : List.take (l.length - 0) (List.drop 0 (b :: r)) = (b :: r).take l.length := by simp
              by_cases heq : strL l = (b :: r).take l.length
              · have hh := hget (hiff.mpr ⟨hle, heq⟩)
                rw [hh]
                have heq' : (strL l = (b :: r).take l.length) = True := eq_true heq
                simp (contextual := true) (implicitDefEqProofs := false) (maxSteps := 2000000) (disch := first | rfl | exact Nat.le_of_ble_eq_true rfl | omega | (simp only [List.length_append, List.length_cons, List.length_nil, List.length_set]; omega)) only [hb02, hb1, hle', str_cut, str_eq, strOf, htk, heq', Int.toNat_natCast, string_mk_size, Ct.val, X1, X2, X3, X4, XA, XB, lc_block, lc_cond, XZ, undef_eq, Nat.reduceAdd, Nat.reduceSub, ↓reduceIte, basic, cellsL, resOf, setAt, below, belowB, belowA, atomB, Nat.reduceLeDiff, Nat.reduceMul, Int.reduceToNat, Int.reduceLT, Int.reduceLE, Int.reduceAdd, Int.reduceNeg, Int.reduceEq, splice, Nat.reduceEqDiff, Nat.reduceLT, isAtom, Int.reduceSub, Int.reduceMul, implies_true]
                exact (hfm2.set (i := m.length) (.inr (Nat.le_refl _))).ext (by simp)
              · have heq' : (strL l = (b :: r).take l.length) = False := eq_false heq
                simp (contextual := true) (implicitDefEqProofs := false) (maxSteps := 2000000) (disch := first | rfl | exact Nat.le_of_ble_eq_true rfl | omega | (simp only [List.length_append, List.length_cons, List.length_nil, List.length_set]; omega)) only [hb02, hb1, hle', str_cut, str_eq, strOf, htk, heq', Int.toNat_natCast, string_mk_size, X1, X2, X3, X4, XA, XB, lc_block, lc_cond, XZ, undef_eq, Nat.reduceAdd, Nat.reduceSub, ↓reduceIte, basic, cellsL, resOf, setAt, below, belowB, belowA, atomB, Nat.reduceLeDiff, Nat.reduceMul, Int.reduceToNat, Int.reduceLT, Int.reduceLE, Int.reduceAdd, Int.reduceNeg, Int.reduceEq, splice, Nat.reduceEqDiff, Nat.reduceLT, isAtom, Int.reduceSub, Int.reduceMul, implies_true]
                exact kInv_go ⟨p + 1, rfl, by omega, fun p' hp1 => hstep p' hp1 fun hh => heq (hiff.mp hh).2, hfm2, hb02, ⟨rfl, by simp [hwp]⟩⟩ (by omega)
            · have hle' : ((l.length : Int) ≤ ((r.length + 1 : Nat) : Int)) = False := eq_false (by omega)
              simp (contextual := true) (implicitDefEqProofs := false) (maxSteps := 2000000) (disch := first | rfl | exact Nat.le_of_ble_eq_true rfl | omega | (simp only [List.length_append, List.length_cons, List.length_nil, List.length_set]; omega)) only [hle', string_mk_size, X1, X2, X3, X4, XA, XB, lc_block, lc_cond, XZ, undef_eq, Nat.reduceAdd, Nat.reduceSub, ↓reduceIte, basic, cellsL, resOf, setAt, below, belowB, belowA, atomB, Nat.reduceLeDiff, Nat.reduceMul, Int.reduceToNat, Int.reduceLT, Int.reduceLE, Int.reduceAdd, Int.reduceNeg, Int.reduceEq, splice, Nat.reduceEqDiff, Nat.reduceLT, isAtom, Int.reduceSub, Int.reduceMul, implies_true]
              exact kInv_go ⟨p + 1, rfl, by omega, fun p' hp1 => hstep p' hp1 fun hh => hle (hiff.mp hh).1, hfm2, hb02, ⟨rfl, by simp [hwp]⟩⟩ (by omega)
          have hk1 : ((k : Int) = 1) = False := eq_false (by omega)
          have hk5 : ((k : Int) ≤ 5) = False := eq_false (by omega)
          have hcR : cR (b :: r) true (k : Int) = 0 := by unfold cR; rw [if_pos (by omega)]
          have hcS : cS (b :: r) true (k : Int) = 0 := by unfold cS; rw [if_neg (by omega)]
          simp (contextual := true) (implicitDefEqProofs := false) (maxSteps := 2000000) (disch := first | rfl | exact Nat.le_of_ble_eq_true rfl | omega | (simp only [List.length_append, List.length_cons, List.length_nil, List.length_set]; omega)) only [hb0, hlt', hp', hk1, hk5, rem4, rem16 b.toNat, quo2 hn, quo2 h16, quo32 hn, string_mk_size, hpe, ht, u8_wrap, X1, X2, X3, X4, XA, bin_add, bin_sub, bin_mul, bin_and, bin_or, bin_xor, bin_andNot, bin_eql, bin_neq, bin_lss, bin_leq, bin_gtr, bin_geq, bin_shl, bin_shr, bin_sadd, bin_seql, bin_sneq, lc_block, lc_cond, XZ, undef_eq, Nat.reduceAdd, Nat.reduceSub, ↓reduceIte, basic, cellsL, resOf, setAt, below, belowB, belowA, atomB, Nat.reduceLeDiff, Nat.reduceMul, Int.reduceToNat, Int.reduceLT, Int.reduceLE, Int.reduceAdd, Int.reduceNeg, Int.reduceEq, splice, Nat.reduceEqDiff, Nat.reduceLT, isAtom, Int.reduceSub, Int.reduceMul, implies_true]
          have hcand := cand_right (s := b :: r) (w := true) (k := (k : Int)) (by omega)
          have hiff := hit_iff (s := b :: r) (w := true) (p := decide (p = 1)) (k := (k : Int)) (fun hw h5 => by omega)
          have hget := hit_get (s := b :: r) (w := true) (p := decide (p = 1)) (k := (k : Int)) (by omega)
          rw [hcR, hcS] at hcand hiff hget
          have hl12 := putL8_len (k := (k : Int)) (r := 0) (s := 0) (p := decide (p = 1)) (w := true)
          refine refput_spec (k : Int) (0) (0) (decide (p = 1)) true hcand _ _ fun i g T hm => ?_
          have hin := put_inB (p := decide (p = 1)) hcand
          generalize putL8 (k : Int) (0) (0) (decide (p = 1)) true = l at hm hiff hget hl12 hin ⊢
          simp only [List.append_assoc, List.cons_append, List.nil_append] at hm ⊢
          have hi := lt_of_some hm
          have hb02 := (Frm.refl (F := []) (m := M)).app.get0 (m' := M ++ (⟨[.int .i64 (k : Int), .int .i64 (0), .int .i64 (0), .bool (decide (p = 1))], 101, 1, 0, .own⟩ :: g)) hb0
          have hb1 : (M ++ (⟨[.int .i64 (k : Int), .int .i64 (0), .int .i64 (0), .bool (decide (p = 1))], 101, 1, 0, .own⟩ :: g))[M.length]? = some ⟨[.int .i64 (k : Int), .int .i64 (0), .int .i64 (0), .bool (decide (p = 1))], 101, 1, 0, .own⟩ := by rw [List.getElem?_append_right (Nat.le_refl _), Nat.sub_self]; rfl
          have hfm2 : Frm [] m (M ++ (⟨[.int .i64 (k : Int), .int .i64 (0), .int .i64 (0), .bool (decide (p = 1))], 101, 1, 0, .own⟩ :: g)) := hfm.app
          generalize M ++ ((⟨[.int .i64 (k : Int), .int .i64 (0), .int .i64 (0), .bool (decide (p = 1))], 101, 1, 0, .own⟩ : Blk) :: g) = M2 at hm hi hb02 hb1 hfm2 ⊢
          have l02 := lt_of_some hb02
          have l12 := lt_of_some hb1
          by_cases hle : l.length ≤ r.length + 1
          · have hle' : ((l.length : Int) ≤ ((r.length + 1 : Nat) : Int)) = True := eq_true (by omega)
            simp (contextual := true) (implicitDefEqProofs := false) (maxSteps := 2000000) (disch := first | rfl | exact Nat.le_of_ble_eq_true rfl | omega | (simp only [List.length_append, List.length_cons, List.length_nil, List.length_set]; omega)) only [hle', string_mk_size, X1, X2, X3, X4, XA, XB, lc_block, lc_cond, XZ, undef_eq, Nat.reduceAdd, Nat.reduceSub, ↓reduceIte, basic, cellsL, resOf, setAt, below, belowB, belowA, atomB, Nat.reduceLeDiff, Nat.reduceMul, Int.reduceToNat, Int.reduceLT, Int.reduceLE, Int.reduceAdd, Int.reduceNeg, Int.reduceEq, splice, Nat.reduceEqDiff, Nat.reduceLT, isAtom, Int.reduceSub, Int.reduceMul, implies_true]
            refine (text_spec i T l _ hm (by omega) hin).use ?_
            have htk : List.take (l.length - 0) (List.drop 0 (b :: r)) = (b :: r).take l.length := by simp
            by_cases heq : strL l = (b :: r).take l.length
            · have hh := hget (hiff.mpr ⟨hle, heq⟩)
              rw [hh]
              have heq' : (strL l = (b :: r).take l.length) = True := eq_true heq
              simp (contextual := true) (implicitDefEqProofs := false) (maxSteps := 2000000) (disch := first | rfl | exact Nat.le_of_ble_eq_true rfl | omega | (simp only [List.length_append, List.length_cons, List.length_nil, List.length_set]; omega)) only [hb02, hb1, hle', str_cut, str_eq, strOf, htk, heq', Int.toNat_natCast, string_mk_size, Ct.val, X1, X2, X3, X4, XA, XB, lc_block, lc_cond, XZ, undef_eq, Nat.reduceAdd, Nat.reduceSub, ↓reduceIte, basic, cellsL, resOf, setAt, below, belowB, belowA, atomB, Nat.reduceLeDiff, Nat.reduceMul, Int.reduceToNat, Int.reduceLT, Int.reduceLE, Int.reduceAdd, Int.reduceNeg, Int.reduceEq, splice, Nat.reduceEqDiff, Nat.reduceLT, isAtom, Int.reduceSub, Int.reduceMul, implies_true]
              exact (hfm2.set (i := m.length) (.inr (Nat.le_refl _))).ext (by simp)
            · have heq' : (strL l = (b :: r).take l.length) = False := eq_false heq
              simp (contextual := true) (implicitDefEqProofs := false) (maxSteps := 2000000) (disch := first | rfl | exact Nat.le_of_ble_eq_true rfl | omega | (simp only [List.length_append, List.length_cons, List.length_nil, List.length_set]; omega)) only [hb02, hb1, hle', str_cut, str_eq, strOf, htk, heq', Int.toNat_natCast, string_mk_size, X1, X2, X3, X4, XA, XB, lc_block, lc_cond, XZ, undef_eq, Nat.reduceAdd, Nat.reduceSub, ↓reduceIte, basic, cellsL, resOf, setAt, below, belowB, belowA, atomB, Nat.reduceLeDiff, Nat.reduceMul, Int.reduceToNat, Int.reduceLT, Int.reduceLE, Int.reduceAdd, Int.reduceNeg, Int.reduceEq, splice, Nat.reduceEqDiff, Nat.reduceLT, isAtom, Int.reduceSub, Int.reduceMul, implies_true]
              exact kInv_go ⟨p + 1, rfl, by omega, fun p' hp1 => hstep p' hp1 fun hh => heq (hiff.mp hh).2, hfm2, hb02, ⟨rfl, by simp [hwp]⟩⟩ (by omega)
          · have hle' : ((l.length : Int) ≤ ((r.length + 1 : Nat) : Int)) = False := eq_false (by omega)
            simp (contextual := true) (implicitDefEqProofs := false) (maxSteps := 2000000) (disch := first | rfl | exact Nat.le_of_ble_eq_true rfl | omega | (simp only [List.length_append, List.length_cons, List.length_nil, List.length_set]; omega)) only [hle', string_mk_size, X1, X2, X3, X4, XA, XB, lc_block, lc_cond, XZ, undef_eq, Nat.reduceAdd, Nat.reduceSub, ↓reduceIte, basic, cellsL, resOf, setAt, below, belowB, belowA, atomB, Nat.reduceLeDiff, Nat.reduceMul, Int.reduceToNat, Int.reduceLT, Int.reduceLE, Int.reduceAdd, Int.reduceNeg, Int.reduceEq, splice, Nat.reduceEqDiff, Nat.reduceLT, isAtom, Int.reduceSub, Int.reduceMul, implies_true]
            exact kInv_go ⟨p + 1, rfl, by omega, fun p' hp1 => hstep p' hp1 fun hh => hle (hiff.mp hh).1, hfm2, hb02, ⟨rfl, by simp [hwp]⟩⟩ (by omega)
        · have hp' : ((p : Int) < 2) = False := eq_false (by omega)
          have hp2' : p = 2 := by omega
          subst hp2'
          simp (contextual := true) (implicitDefEqProofs := false) (maxSteps := 2000000) (disch := first | rfl | exact Nat.le_of_ble_eq_true rfl | omega | (simp only [List.length_append, List.length_cons, List.length_nil, List.length_set]; omega)) only [hp', X1, X2, X3, X4, XA, XB, lc_block, lc_cond, XZ, undef_eq, Nat.reduceAdd, Nat.reduceSub, ↓reduceIte, basic, cellsL, resOf, setAt, below, belowB, belowA, atomB, Nat.reduceLeDiff, Nat.reduceMul, Int.reduceToNat, Int.reduceLT, Int.reduceLE, Int.reduceAdd, Int.reduceNeg, Int.reduceEq, splice, Nat.reduceEqDiff, Nat.reduceLT, isAtom, Int.reduceSub, Int.reduceMul, implies_true]
          refine kInv_go ⟨k + 1, rfl, by omega, by omega, fun k' p h1 h2 => ?_, hfm, hb0, ⟨rfl, by simp [hwk]⟩⟩ (by omega)
          by_cases e : k' = (k : Int)
          · rw [e]; cases p with | false => exact hnp 0 (by omega) | true => exact hnp 1 (by omega)
          · exact hno k' p h1 (by omega)
      · have hlt' : ((k : Int) ≤ 14) = False := eq_false (by omega)
        have hnone : getC (b :: r) true = (2, czero, 0) := by
          rcases get_none (s := b :: r) (w := true) (fun k' p h1 h2 => hno k' p h1 (by omega)) with h | h | ⟨h1, h2, h3⟩
          · exact h
          · cases h
          · exact absurd h2 (by have := hr rfl (by omega); omega)
        rw [hnone]
        simp (contextual := true) (implicitDefEqProofs := false) (maxSteps := 2000000) (disch := first | rfl | exact Nat.le_of_ble_eq_true rfl | omega | (simp only [List.length_append, List.length_cons, List.length_nil, List.length_set]; omega)) only [hlt', hb0, czero, Ct.val, X1, X2, X3, X4, XA, XB, lc_block, lc_cond, XZ, undef_eq, Nat.reduceAdd, Nat.reduceSub, ↓reduceIte, basic, cellsL, resOf, setAt, below, belowB, belowA, atomB, Nat.reduceLeDiff, Nat.reduceMul, Int.reduceToNat, Int.reduceLT, Int.reduceLE, Int.reduceAdd, Int.reduceNeg, Int.reduceEq, splice, Nat.reduceEqDiff, Nat.reduceLT, isAtom, Int.reduceSub, Int.reduceMul, implies_true]
        exact (hfm.set (i := m.length) (.inr (Nat.le_refl _))).ext (by simp)

theorem rgetK_spec (s : List UInt8) (w : Bool) (hl : s.length ≤ 100000) (m : Mem) : Ret Tryd.prog 84 [str s, .bool w] m (.tuple #[(getC s w).2.1.val, .int .i64 (((getC s w).2.2 : Nat) : Int), .int .i64 (getC s w).1]) m := by
  match s, hl with
  | [], _ => exact rget_empty w m
  | b :: r, hl =>
    by_cases h : w = true ∧ b.toNat % 4 ≠ 3 ∧ r = []
    · obtain ⟨rfl, h3, rfl⟩ := h
      have e : getC [b] true = (4, czero, 0) := by rw [getC, if_neg h3, if_neg (by decide), wOf]
      rw [e]
      exact rget_short b h3 m
    · refine rget_loop b r w hl (fun hw h3 => ?_) m
      cases r with
      | nil => exact absurd ⟨hw, h3, rfl⟩ h
      | cons => simp
end Go.Proofs.YtenbkoalanfdhaaDoor.K
/- Frames read: walked; kinds by the document. -/
namespace Go.Proofs.YtenbkoalanfdhaaDoor
open Go.Lg
set_option maxRecDepth 8000
set_option maxHeartbeats 8000000
set_option linter.unusedSimpArgs false
set_option linter.unnecessarySimpa false
set_option linter.unusedVariables false

theorem hasPid_spec (k : Int) (m : Mem) : Ret Tryd.prog 85 [.int .i64 k] m (.bool (K.pidB k)) m := by
  refine LCall_drop (LCall_enter Tryd.func85 c85 ?_)
  by_cases h1 : k = 1 <;> by_cases h2 : k = 12 <;> simp (contextual := true) (implicitDefEqProofs := false) (maxSteps := 2000000) (disch := first | rfl | exact Nat.le_of_ble_eq_true rfl | omega | (simp only [List.length_append, List.length_cons, List.length_nil, List.length_set]; omega)) only [L85, h1, h2, K.pidB, X1, X2, X3, X4, XA, XB, lc_block, lc_cond, XZ, undef_eq, Nat.reduceAdd, Nat.reduceSub, ↓reduceIte, basic, cellsL, resOf, setAt, below, belowB, belowA, atomB, Nat.reduceLeDiff, Nat.reduceMul, Int.reduceToNat, Int.reduceLT, Int.reduceLE, Int.reduceAdd, Int.reduceNeg, Int.reduceEq, splice, Nat.reduceEqDiff, Nat.reduceLT, isAtom, Int.reduceSub, Int.reduceMul, implies_true]
  all_goals simp_all [K.pidB]
theorem hasInfo_spec (k : Int) (m : Mem) : Ret Tryd.prog 117 [.int .i64 k] m (.bool (K.infoB k)) m := by
  refine LCall_drop (LCall_enter Tryd.func117 c117 ?_)
  by_cases h1 : k = 1
  · simp (contextual := true) (implicitDefEqProofs := false) (maxSteps := 2000000) (disch := first | rfl | exact Nat.le_of_ble_eq_true rfl | omega | (simp only [List.length_append, List.length_cons, List.length_nil, List.length_set]; omega)) only [L117, h1, K.infoB, X1, X2, X3, X4, XA, XB, lc_block, lc_cond, XZ, undef_eq, Nat.reduceAdd, Nat.reduceSub, ↓reduceIte, basic, cellsL, resOf, setAt, below, belowB, belowA, atomB, Nat.reduceLeDiff, Nat.reduceMul, Int.reduceToNat, Int.reduceLT, Int.reduceLE, Int.reduceAdd, Int.reduceNeg, Int.reduceEq, splice, Nat.reduceEqDiff, Nat.reduceLT, isAtom, Int.reduceSub, Int.reduceMul, implies_true]
  · by_cases h2 : 11 ≤ k
    · have e : K.infoB k = decide (k ≤ 14) := by
        unfold K.infoB
        by_cases h3 : k ≤ 14
        · rw [decide_eq_true h3, decide_eq_true (by omega)]
        · rw [decide_eq_false h3, decide_eq_false (by omega)]
      rw [e]
      simp (contextual := true) (implicitDefEqProofs := false) (maxSteps := 2000000) (disch := first | rfl | exact Nat.le_of_ble_eq_true rfl | omega | (simp only [List.length_append, List.length_cons, List.length_nil, List.length_set]; omega)) only [L117, h1, h2, X1, X2, X3, X4, XA, XB, lc_block, lc_cond, XZ, undef_eq, Nat.reduceAdd, Nat.reduceSub, ↓reduceIte, basic, cellsL, resOf, setAt, below, belowB, belowA, atomB, Nat.reduceLeDiff, Nat.reduceMul, Int.reduceToNat, Int.reduceLT, Int.reduceLE, Int.reduceAdd, Int.reduceNeg, Int.reduceEq, splice, Nat.reduceEqDiff, Nat.reduceLT, isAtom, Int.reduceSub, Int.reduceMul, implies_true]
    · have e : K.infoB k = false := by unfold K.infoB; exact decide_eq_false (by omega)
      rw [e]
      simp (contextual := true) (implicitDefEqProofs := false) (maxSteps := 2000000) (disch := first | rfl | exact Nat.le_of_ble_eq_true rfl | omega | (simp only [List.length_append, List.length_cons, List.length_nil, List.length_set]; omega)) only [L117, h1, h2, X1, X2, X3, X4, XA, XB, lc_block, lc_cond, XZ, undef_eq, Nat.reduceAdd, Nat.reduceSub, ↓reduceIte, basic, cellsL, resOf, setAt, below, belowB, belowA, atomB, Nat.reduceLeDiff, Nat.reduceMul, Int.reduceToNat, Int.reduceLT, Int.reduceLE, Int.reduceAdd, Int.reduceNeg, Int.reduceEq, splice, Nat.reduceEqDiff, Nat.reduceLT, isAtom, Int.reduceSub, Int.reduceMul, implies_true]

/-- A frame. -/
structure Fr where
  L : List En
  c : Ct
  pid : Int
  info : List UInt8
def Fr.zero : Fr := ⟨[], K.czero, 0, []⟩
def decP (c : Ct) (s : List UInt8) : Option (Int × List UInt8) :=
  if K.pidB c.k = true then (match s with
    | [] => none
    | x :: r => some ((x.toNat : Int), r)) else some (0, s)
def decE (L : List En) (c : Ct) : Option (Int × List UInt8) → Int × Fr
  | none => (4, Fr.zero)
  | some (pid, info) => if infoE (K.infoB c.k) info = 0 then (0, ⟨L, c, pid, info⟩) else (infoE (K.infoB c.k) info, Fr.zero)
theorem decE_s {L : List En} {c : Ct} {pid : Int} {info : List UInt8} : decE L c (some (pid, info)) = if infoE (K.infoB c.k) info = 0 then (0, ⟨L, c, pid, info⟩) else (infoE (K.infoB c.k) info, Fr.zero) := rfl
theorem decP_f {c : Ct} {s : List UInt8} (h : K.pidB c.k = false) : decP c s = some (0, s) := by unfold decP; rw [if_neg (by rw [h]; decide)]
theorem decP_n {c : Ct} (h : K.pidB c.k = true) : decP c [] = none := by unfold decP; rw [if_pos h]
theorem decP_c {c : Ct} {q : UInt8} {s : List UInt8} (h : K.pidB c.k = true) : decP c (q :: s) = some ((q.toNat : Int), s) := by unfold decP; rw [if_pos h]
/-- The frame of bytes: the error's number, the frame. -/
def decF (s : List UInt8) (w : Bool) : Int × Fr :=
  if (getP s 11 []).1 = 0 then
    (if (K.getC (s.drop (7 * (getP s 11 []).2.length)) w).1 = 0 then
      decE (getP s 11 []).2 (K.getC (s.drop (7 * (getP s 11 []).2.length)) w).2.1 (decP (K.getC (s.drop (7 * (getP s 11 []).2.length)) w).2.1 (s.drop (7 * (getP s 11 []).2.length + (K.getC (s.drop (7 * (getP s 11 []).2.length)) w).2.2)))
    else ((K.getC (s.drop (7 * (getP s 11 []).2.length)) w).1, Fr.zero))
  else ((getP s 11 []).1, Fr.zero)
abbrev frV (x y : En) (sv : Value) (f : Fr) : Value := frameV x.b x.s y.b y.s x.k y.k sv f.c f.pid f.info
def zFrame : Value := .agg #[str [], .int .i64 0, str [], .int .i64 0, .bool false, .bool false, .slice none 0 0, .int .i64 0, .int .i64 0, .int .i64 0, .bool false, .int .i64 0, str []]
theorem decode_spec (s : List UInt8) (w : Bool) (hl : s.length ≤ 100000) (m : Mem) : LCall Tryd.prog 60 [str s, .bool w] m fun v M => Frm [] m M ∧
    if (decF s w).1 = 0 then ∃ x y l sv F, (decF s w).2.L = x :: y :: l ∧ v = .tuple #[frV x y sv (decF s w).2, .int .i64 0] ∧ Sl M 118 3 sv F (l.map En.row) ∧ ∀ x ∈ F, m.length ≤ x
    else v = .tuple #[zFrame, .int .i64 (decF s w).1] := by
  refine LCall_enter Tryd.func60 c60 ?_
  simp (contextual := true) (implicitDefEqProofs := false) (maxSteps := 2000000) (disch := first | rfl | exact Nat.le_of_ble_eq_true rfl | omega | (simp only [List.length_append, List.length_cons, List.length_nil, List.length_set]; omega)) only [L60, X1, X2, X3, X4, XA, XB, lc_block, lc_cond, XZ, undef_eq, Nat.reduceAdd, Nat.reduceSub, ↓reduceIte, basic, cellsL, resOf, setAt, below, belowB, belowA, atomB, Nat.reduceLeDiff, Nat.reduceMul, Int.reduceToNat, Int.reduceLT, Int.reduceLE, Int.reduceAdd, Int.reduceNeg, Int.reduceEq, splice, Nat.reduceEqDiff, Nat.reduceLT, isAtom, Int.reduceSub, Int.reduceMul, implies_true]
  refine (getP_spec s hl _).mono ?_
  rintro v M ⟨hf, hv⟩
  have hb0 := hf.get0 (i := m.length) (b := ⟨[.string ⟨#[]⟩, .int .i64 0, .string ⟨#[]⟩, .int .i64 0, .bool false, .bool false, .slice none 0 0, .int .i64 0, .int .i64 0, .int .i64 0, .bool false, .int .i64 0, .string ⟨#[]⟩], 90, 1, 0, .own⟩) (by simp)
  have l0 := lt_of_some hb0
  have hfm : Frm [] m M := (Frm.refl (F := []) (m := m)).app.nil_trans hf
  by_cases h1 : (getP s 11 []).1 = 0
  · have hsh := getP_shape (s := s) (n := 11) (L := []) rfl (by simp) h1
    rw [if_pos h1] at hv
    obtain ⟨x, y, l, sv, F, hL, rfl, hs, hF⟩ := hv
    obtain ⟨sa, rfl, _⟩ := hs.form
    have hdec : decF s w = if (K.getC (s.drop (7 * (getP s 11 []).2.length)) w).1 = 0 then
      decE (getP s 11 []).2 (K.getC (s.drop (7 * (getP s 11 []).2.length)) w).2.1 (decP (K.getC (s.drop (7 * (getP s 11 []).2.length)) w).2.1 (s.drop (7 * (getP s 11 []).2.length + (K.getC (s.drop (7 * (getP s 11 []).2.length)) w).2.2)))
      else ((K.getC (s.drop (7 * (getP s 11 []).2.length)) w).1, Fr.zero) := by rw [decF, if_pos h1]
    rw [hdec]
    clear hdec
    generalize (getP s 11 []).2 = L at hL hsh ⊢
    obtain ⟨hn2, hn10, hns, _, _⟩ := hsh
    obtain ⟨N, hN⟩ : ∃ N, 7 * L.length = N := ⟨_, rfl⟩
    rw [hN] at hns ⊢
    have hc0 : ((0 : Int) ≤ (N : Int)) = True := eq_true (by omega)
    have hc1 : ((N : Int) ≤ (s.length : Int)) = True := eq_true (by omega)
    have hcut : List.take (s.length - N) (List.drop N s) = s.drop N := List.take_of_length_le (by rw [List.length_drop]; exact Nat.le_refl _)
    simp (contextual := true) (implicitDefEqProofs := false) (maxSteps := 2000000) (disch := first | rfl | exact Nat.le_of_ble_eq_true rfl | omega | (simp only [List.length_append, List.length_cons, List.length_nil, List.length_set]; omega)) only [hb0, bin_ladd, str_cut, str_app, str_eq, string_mk_size, string_mk, hc0, hc1, hcut, Int.toNat_natCast, X1, X2, X3, X4, XA, XB, lc_block, lc_cond, XZ, undef_eq, Nat.reduceAdd, Nat.reduceSub, ↓reduceIte, basic, cellsL, resOf, setAt, below, belowB, belowA, atomB, Nat.reduceLeDiff, Nat.reduceMul, Int.reduceToNat, Int.reduceLT, Int.reduceLE, Int.reduceAdd, Int.reduceNeg, Int.reduceEq, splice, Nat.reduceEqDiff, Nat.reduceLT, isAtom, Int.reduceSub, Int.reduceMul, implies_true]
    refine (K.getK_spec (s.drop N) w _ (by rw [List.length_drop]; omega)).use ?_
    have hlen := K.getC_len (s := s.drop N) (w := w)
    have hlen3 := hlen.1
    rw [List.length_drop] at hlen
    generalize K.getC (s.drop N) w = kk at hlen hlen3 ⊢
    obtain ⟨ke, c, n⟩ := kk
    simp only at hlen hlen3 ⊢
    have hfA : ∀ B g, Frm [] m (M.set m.length B ++ g) := fun B g => (hfm.set (i := m.length) (.inr (Nat.le_refl _))).app
    have hsA : ∀ B g, Sl (M.set m.length B ++ g) 118 3 (.slice sa (l.map En.row).length (l.map En.row).length) F (l.map En.row) := fun B g => (hs.setb (fun hx => by have := hF _ hx; simp only [List.length_append, List.length_cons, List.length_nil] at this; omega)).frm0 Frm.refl.app
    by_cases h2 : ke = 0
    · subst h2
      rw [if_pos rfl]
      have hn0 : ((0 : Int) ≤ (n : Int)) = True := eq_true (by omega)
      have hn1 : ((n : Int) ≤ ((s.drop N).length : Int)) = True := eq_true (by rw [List.length_drop]; omega)
      have hcut2 : List.take ((s.drop N).length - n) (List.drop n (s.drop N)) = s.drop (N + n) := by
        rw [List.drop_drop, List.take_of_length_le (by rw [List.length_drop, List.length_drop]; omega)]
      simp (contextual := true) (implicitDefEqProofs := false) (maxSteps := 2000000) (disch := first | rfl | exact Nat.le_of_ble_eq_true rfl | omega | (simp only [List.length_append, List.length_cons, List.length_nil, List.length_set]; omega)) only [hb0, bin_ladd, str_cut, str_app, str_eq, string_mk_size, string_mk, hn0, hn1, hcut2, Int.toNat_natCast, Ct.val, X1, X2, X3, X4, XA, XB, lc_block, lc_cond, XZ, undef_eq, Nat.reduceAdd, Nat.reduceSub, ↓reduceIte, basic, cellsL, resOf, setAt, below, belowB, belowA, atomB, Nat.reduceLeDiff, Nat.reduceMul, Int.reduceToNat, Int.reduceLT, Int.reduceLE, Int.reduceAdd, Int.reduceNeg, Int.reduceEq, splice, Nat.reduceEqDiff, Nat.reduceLT, isAtom, Int.reduceSub, Int.reduceMul, implies_true]
      refine (K.pid_spec _ _).use ?_
      have hFm : ∀ z ∈ F, m.length ≤ z := fun z hz => by have := hF z hz; simp only [List.length_append, List.length_cons, List.length_nil] at this; omega
      have hdl : (s.drop (N + n)).length ≤ 100000 := by rw [List.length_drop]; omega
      cases hb : K.pidB c.k with
      | false =>
        have hdp : decP c (s.drop (N + n)) = some (0, s.drop (N + n)) := decP_f hb
        rw [hdp]
        generalize s.drop (N + n) = info at hdl ⊢
        simp (contextual := true) (implicitDefEqProofs := false) (maxSteps := 2000000) (disch := first | rfl | exact Nat.le_of_ble_eq_true rfl | omega | (simp only [List.length_append, List.length_cons, List.length_nil, List.length_set]; omega)) only [hb0, bin_ladd, str_cut, str_app, str_eq, string_mk_size, string_mk, X1, X2, X3, X4, XA, XB, lc_block, lc_cond, XZ, undef_eq, Nat.reduceAdd, Nat.reduceSub, ↓reduceIte, basic, cellsL, resOf, setAt, below, belowB, belowA, atomB, Nat.reduceLeDiff, Nat.reduceMul, Int.reduceToNat, Int.reduceLT, Int.reduceLE, Int.reduceAdd, Int.reduceNeg, Int.reduceEq, splice, Nat.reduceEqDiff, Nat.reduceLT, isAtom, Int.reduceSub, Int.reduceMul, implies_true]
        refine (info_spec (c := c) (fun m => K.info_spec _ m) (by omega)).use ?_
        rw [decE_s]
        by_cases hi : infoE (K.infoB c.k) info = 0
        · rw [if_pos hi, hi]
          simp (contextual := true) (implicitDefEqProofs := false) (maxSteps := 2000000) (disch := first | rfl | exact Nat.le_of_ble_eq_true rfl | omega | (simp only [List.length_append, List.length_cons, List.length_nil, List.length_set]; omega)) only [hb0, X1, X2, X3, X4, XA, XB, lc_block, lc_cond, XZ, undef_eq, Nat.reduceAdd, Nat.reduceSub, ↓reduceIte, basic, cellsL, resOf, setAt, below, belowB, belowA, atomB, Nat.reduceLeDiff, Nat.reduceMul, Int.reduceToNat, Int.reduceLT, Int.reduceLE, Int.reduceAdd, Int.reduceNeg, Int.reduceEq, splice, Nat.reduceEqDiff, Nat.reduceLT, isAtom, Int.reduceSub, Int.reduceMul, implies_true]
          exact ⟨hfA _ _, x, y, l, _, F, hL, rfl, hsA _ _, hFm⟩
        · rw [if_neg hi]
          have hi' : (infoE (K.infoB c.k) info = 0) = False := eq_false hi
          simp (contextual := true) (implicitDefEqProofs := false) (maxSteps := 2000000) (disch := first | rfl | exact Nat.le_of_ble_eq_true rfl | omega | (simp only [List.length_append, List.length_cons, List.length_nil, List.length_set]; omega)) only [hb0, hi', zFrame, X1, X2, X3, X4, XA, XB, lc_block, lc_cond, XZ, undef_eq, Nat.reduceAdd, Nat.reduceSub, ↓reduceIte, basic, cellsL, resOf, setAt, below, belowB, belowA, atomB, Nat.reduceLeDiff, Nat.reduceMul, Int.reduceToNat, Int.reduceLT, Int.reduceLE, Int.reduceAdd, Int.reduceNeg, Int.reduceEq, splice, Nat.reduceEqDiff, Nat.reduceLT, isAtom, Int.reduceSub, Int.reduceMul, implies_true]
          exact hfA _ _
      | true =>
        match hd : s.drop (N + n), hdl with
        | [], _ =>
          have hdp : decP c [] = none := decP_n hb
          rw [hdp]
          simp (contextual := true) (implicitDefEqProofs := false) (maxSteps := 2000000) (disch := first | rfl | exact Nat.le_of_ble_eq_true rfl | omega | (simp only [List.length_append, List.length_cons, List.length_nil, List.length_set]; omega)) only [hb0, bin_ladd, str_cut, str_app, str_eq, string_mk_size, string_mk, decE, zFrame, X1, X2, X3, X4, XA, XB, lc_block, lc_cond, XZ, undef_eq, Nat.reduceAdd, Nat.reduceSub, ↓reduceIte, basic, cellsL, resOf, setAt, below, belowB, belowA, atomB, Nat.reduceLeDiff, Nat.reduceMul, Int.reduceToNat, Int.reduceLT, Int.reduceLE, Int.reduceAdd, Int.reduceNeg, Int.reduceEq, splice, Nat.reduceEqDiff, Nat.reduceLT, isAtom, Int.reduceSub, Int.reduceMul, implies_true]
          exact hfA _ _
        | q :: info, hdl =>
          have hdp : decP c (q :: info) = some ((q.toNat : Int), info) := decP_c hb
          rw [hdp]
          have hx0 : (⟨(q :: info).toArray⟩ : ByteArray).data.toList[0]? = some q := by simp
          have hne : (q :: info = []) = False := by simp
          have h1l : ((1 : Int) ≤ (((q :: info).length : Nat) : Int)) = True := eq_true (by simp only [List.length_cons]; omega)
          have hwq : IntKind.i64.wrap (q.toNat : Int) = (q.toNat : Int) := K.u8_wrap q
          have hcut3 : List.take ((q :: info).length - 1) (List.drop 1 (q :: info)) = info := by simp
          have hl1 : info.length + 1 - 1 = info.length := rfl
          have htk : List.take info.length info = info := List.take_of_length_le (Nat.le_refl _)
          simp (contextual := true) (implicitDefEqProofs := false) (maxSteps := 2000000) (disch := first | rfl | exact Nat.le_of_ble_eq_true rfl | omega | (simp only [List.length_append, List.length_cons, List.length_nil, List.length_set]; omega)) only [hb0, bin_ladd, str_cut, str_app, str_eq, string_mk_size, string_mk, hx0, hne, h1l, hwq, hcut3, hl1, htk, Int.toNat_natCast, X1, X2, X3, X4, XA, XB, lc_block, lc_cond, XZ, undef_eq, Nat.reduceAdd, Nat.reduceSub, ↓reduceIte, basic, cellsL, resOf, setAt, below, belowB, belowA, atomB, Nat.reduceLeDiff, Nat.reduceMul, Int.reduceToNat, Int.reduceLT, Int.reduceLE, Int.reduceAdd, Int.reduceNeg, Int.reduceEq, splice, Nat.reduceEqDiff, Nat.reduceLT, isAtom, Int.reduceSub, Int.reduceMul, implies_true]
          simp only [List.length_cons] at hdl
          refine (info_spec (c := c) (fun m => K.info_spec _ m) (by omega)).use ?_
          rw [decE_s]
          by_cases hi : infoE (K.infoB c.k) info = 0
          · rw [if_pos hi, hi]
            simp (contextual := true) (implicitDefEqProofs := false) (maxSteps := 2000000) (disch := first | rfl | exact Nat.le_of_ble_eq_true rfl | omega | (simp only [List.length_append, List.length_cons, List.length_nil, List.length_set]; omega)) only [hb0, X1, X2, X3, X4, XA, XB, lc_block, lc_cond, XZ, undef_eq, Nat.reduceAdd, Nat.reduceSub, ↓reduceIte, basic, cellsL, resOf, setAt, below, belowB, belowA, atomB, Nat.reduceLeDiff, Nat.reduceMul, Int.reduceToNat, Int.reduceLT, Int.reduceLE, Int.reduceAdd, Int.reduceNeg, Int.reduceEq, splice, Nat.reduceEqDiff, Nat.reduceLT, isAtom, Int.reduceSub, Int.reduceMul, implies_true]
            exact ⟨hfA _ _, x, y, l, _, F, hL, rfl, hsA _ _, hFm⟩
          · rw [if_neg hi]
            have hi' : (infoE (K.infoB c.k) info = 0) = False := eq_false hi
            simp (contextual := true) (implicitDefEqProofs := false) (maxSteps := 2000000) (disch := first | rfl | exact Nat.le_of_ble_eq_true rfl | omega | (simp only [List.length_append, List.length_cons, List.length_nil, List.length_set]; omega)) only [hb0, hi', zFrame, X1, X2, X3, X4, XA, XB, lc_block, lc_cond, XZ, undef_eq, Nat.reduceAdd, Nat.reduceSub, ↓reduceIte, basic, cellsL, resOf, setAt, below, belowB, belowA, atomB, Nat.reduceLeDiff, Nat.reduceMul, Int.reduceToNat, Int.reduceLT, Int.reduceLE, Int.reduceAdd, Int.reduceNeg, Int.reduceEq, splice, Nat.reduceEqDiff, Nat.reduceLT, isAtom, Int.reduceSub, Int.reduceMul, implies_true]
            exact hfA _ _
    · rw [if_neg h2]
      have h2' : (ke = 0) = False := eq_false h2
      simp (contextual := true) (implicitDefEqProofs := false) (maxSteps := 2000000) (disch := first | rfl | exact Nat.le_of_ble_eq_true rfl | omega | (simp only [List.length_append, List.length_cons, List.length_nil, List.length_set]; omega)) only [hb0, bin_ladd, str_cut, str_app, str_eq, string_mk_size, string_mk, h2', zFrame, Ct.val, X1, X2, X3, X4, XA, XB, lc_block, lc_cond, XZ, undef_eq, Nat.reduceAdd, Nat.reduceSub, ↓reduceIte, basic, cellsL, resOf, setAt, below, belowB, belowA, atomB, Nat.reduceLeDiff, Nat.reduceMul, Int.reduceToNat, Int.reduceLT, Int.reduceLE, Int.reduceAdd, Int.reduceNeg, Int.reduceEq, splice, Nat.reduceEqDiff, Nat.reduceLT, isAtom, Int.reduceSub, Int.reduceMul, implies_true]
      exact hfA _ _
  · rw [if_neg h1] at hv
    have hdec : decF s w = ((getP s 11 []).1, Fr.zero) := by rw [decF, if_neg h1]
    have h1' : ((getP s 11 []).1 = 0) = False := eq_false h1
    subst hv
    rw [hdec]
    simp (contextual := true) (implicitDefEqProofs := false) (maxSteps := 2000000) (disch := first | rfl | exact Nat.le_of_ble_eq_true rfl | omega | (simp only [List.length_append, List.length_cons, List.length_nil, List.length_set]; omega)) only [hb0, h1', bin_ladd, str_cut, str_app, str_eq, string_mk_size, string_mk, zFrame, Fr.zero, X1, X2, X3, X4, XA, XB, lc_block, lc_cond, XZ, undef_eq, Nat.reduceAdd, Nat.reduceSub, ↓reduceIte, basic, cellsL, resOf, setAt, below, belowB, belowA, atomB, Nat.reduceLeDiff, Nat.reduceMul, Int.reduceToNat, Int.reduceLT, Int.reduceLE, Int.reduceAdd, Int.reduceNeg, Int.reduceEq, splice, Nat.reduceEqDiff, Nat.reduceLT, isAtom, Int.reduceSub, Int.reduceMul, implies_true]
    exact (hfm.set (i := m.length) (.inr (Nat.le_refl _))).app
end Go.Proofs.YtenbkoalanfdhaaDoor
/- What was encoded is read: frames; plain. -/
namespace Go.Proofs.YtenbkoalanfdhaaDoor
open Go.Lg
set_option maxRecDepth 8000
set_option linter.unusedSimpArgs false
set_option linter.unnecessarySimpa false
set_option linter.unusedVariables false

def Ct.bytes (c : Ct) (w : Bool) : List UInt8 := K.strL (K.putL8 c.k c.ns c.nr c.pf w)
def Ct.right (c : Ct) (w : Bool) : Bool := K.rightC c.k c.ns c.nr w
/-- What was encoded is read. -/
theorem decF_enc {L : List En} {c : Ct} {w : Bool} {pid : Int} {info : List UInt8} (hok : ∀ e ∈ L, e.ok = true) (h2 : 2 ≤ L.length) (h10 : L.length ≤ 10) (hB : ordB (L.drop 2) = true)
    (hc : c.right w = true) (hp : 0 ≤ pid ∧ pid ≤ 255) (hp0 : pid ≠ 0 → K.pidB c.k = true) (hi : infoE (K.infoB c.k) info = 0) :
    decF (encF L (c.bytes w) (K.pidB c.k) pid info) w = (0, ⟨L, c, pid, info⟩) := by
  have e0 : encF L (c.bytes w) (K.pidB c.k) pid info = putE L ++ (c.bytes w ++ ((if K.pidB c.k = true then [UInt8.ofNat pid.toNat] else []) ++ info)) := by
    unfold encF; simp only [List.append_assoc]
  have hg := getP_put (rest := c.bytes w ++ ((if K.pidB c.k = true then [UInt8.ofNat pid.toNat] else []) ++ info)) hok h2 h10 hB
  have hd : (putE L ++ (c.bytes w ++ ((if K.pidB c.k = true then [UInt8.ofNat pid.toNat] else []) ++ info))).drop (7 * L.length) = c.bytes w ++ ((if K.pidB c.k = true then [UInt8.ofNat pid.toNat] else []) ++ info) := List.drop_left' putE_len
  have hk := K.getC_put (p := c.pf) hc ((if K.pidB c.k = true then [UInt8.ofNat pid.toNat] else []) ++ info)
  have hl : (c.bytes w).length = (K.putL8 c.k c.ns c.nr c.pf w).length := K.strL_len
  have hd2 : (putE L ++ (c.bytes w ++ ((if K.pidB c.k = true then [UInt8.ofNat pid.toNat] else []) ++ info))).drop (7 * L.length + (K.putL8 c.k c.ns c.nr c.pf w).length) = (if K.pidB c.k = true then [UInt8.ofNat pid.toNat] else []) ++ info := by
    rw [← List.drop_drop, hd, ← hl, List.drop_left]
  rw [e0, decF, hg]
  simp only [if_true]
  rw [hd]
  change (if (K.getC (K.strL (K.putL8 c.k c.ns c.nr c.pf w) ++ ((if K.pidB c.k = true then [UInt8.ofNat pid.toNat] else []) ++ info)) w).1 = 0 then _ else _) = _
  have hk2 : K.getC (c.bytes w ++ ((if K.pidB c.k = true then [UInt8.ofNat pid.toNat] else []) ++ info)) w = (0, ⟨c.k, c.ns, c.nr, c.pf⟩, (K.putL8 c.k c.ns c.nr c.pf w).length) := hk
  rw [hk2, hk, if_pos rfl, hd2]
  cases hb : K.pidB c.k with
  | true =>
    have e1 : decP (⟨c.k, c.ns, c.nr, c.pf⟩ : Ct) ((if true = true then [UInt8.ofNat pid.toNat] else []) ++ info) = some (pid, info) := by
      unfold decP
      rw [if_pos hb, if_pos rfl]
      show some (((UInt8.ofNat pid.toNat).toNat : Int), info) = _
      rw [u8_of (by omega), show ((pid.toNat : Nat) : Int) = pid by omega]
    show decE L (⟨c.k, c.ns, c.nr, c.pf⟩ : Ct) (decP (⟨c.k, c.ns, c.nr, c.pf⟩ : Ct) ((if true = true then [UInt8.ofNat pid.toNat] else []) ++ info)) = _
    rw [e1]
    show (if infoE (K.infoB c.k) info = 0 then _ else _) = _
    rw [if_pos hi]
  | false =>
    have hpz : pid = 0 := by
      by_cases h : pid = 0
      · exact h
      · have := hp0 h; rw [hb] at this; cases this
    have e1 : decP (⟨c.k, c.ns, c.nr, c.pf⟩ : Ct) ((if false = true then [UInt8.ofNat pid.toNat] else []) ++ info) = some (0, info) := by
      unfold decP
      rw [if_neg (by rw [hb]; decide), if_neg (by decide)]; rfl
    show decE L (⟨c.k, c.ns, c.nr, c.pf⟩ : Ct) (decP (⟨c.k, c.ns, c.nr, c.pf⟩ : Ct) ((if false = true then [UInt8.ofNat pid.toNat] else []) ++ info)) = _
    rw [e1]
    show (if infoE (K.infoB c.k) info = 0 then _ else _) = _
    rw [if_pos hi, hpz]
theorem decE_some {L : List En} {c : Ct} {o : Option (Int × List UInt8)} (h : (decE L c o).1 = 0) : ∃ pid info, o = some (pid, info) ∧ (decE L c o).2 = ⟨L, c, pid, info⟩ ∧ infoE (K.infoB c.k) info = 0 := by
  match o, h with
  | none, h => cases h
  | some (pid, info), h =>
    simp only [decE] at h ⊢
    by_cases hi : infoE (K.infoB c.k) info = 0
    · rw [if_pos hi]; exact ⟨pid, info, rfl, rfl, hi⟩
    · rw [if_neg hi] at h; exact absurd h hi
/-- A frame that was read. -/
theorem decF_ok {s : List UInt8} {w : Bool} (h : (decF s w).1 = 0) : (getP s 11 []).1 = 0 ∧ (decF s w).2.L = (getP s 11 []).2 ∧ (K.getC (s.drop (7 * (getP s 11 []).2.length)) w).1 = 0 ∧ (decF s w).2.c = (K.getC (s.drop (7 * (getP s 11 []).2.length)) w).2.1 := by
  by_cases h1 : (getP s 11 []).1 = 0
  · by_cases h2 : (K.getC (s.drop (7 * (getP s 11 []).2.length)) w).1 = 0
    · rw [decF, if_pos h1, if_pos h2] at h ⊢
      obtain ⟨pid, info, _, e, _⟩ := decE_some h
      rw [e]
      exact ⟨h1, rfl, h2, rfl⟩
    · rw [decF, if_pos h1, if_neg h2] at h
      exact absurd h h2
  · rw [decF, if_neg h1] at h
    exact absurd h h1
end Go.Proofs.YtenbkoalanfdhaaDoor
/- Frames read, by the document: walked. -/
namespace Go.Proofs.YtenbkoalanfdhaaDoor
open Go.Lg
set_option maxRecDepth 8000
set_option maxHeartbeats 8000000
set_option linter.unusedSimpArgs false
set_option linter.unnecessarySimpa false
set_option linter.unusedVariables false

def zRframe : Value := .agg #[.slice none 0 0, .int .i64 0, .int .i64 0, .int .i64 0, .bool false, .int .i64 0, str []]
theorem rdecode_spec (s : List UInt8) (w : Bool) (hl : s.length ≤ 100000) (m : Mem) : LCall Tryd.prog 51 [str s, .bool w] m fun v M => Frm [] m M ∧
    if (decF s w).1 = 0 then ∃ sv F, v = .tuple #[rframeV sv (decF s w).2.c (decF s w).2.pid (decF s w).2.info, .int .i64 0] ∧ Sl M 65 3 sv F ((decF s w).2.L.map En.row) ∧ ∀ x ∈ F, m.length ≤ x
    else v = .tuple #[zRframe, .int .i64 (decF s w).1] := by
  refine LCall_enter Tryd.func51 c51 ?_
  simp (contextual := true) (implicitDefEqProofs := false) (maxSteps := 2000000) (disch := first | rfl | exact Nat.le_of_ble_eq_true rfl | omega | (simp only [List.length_append, List.length_cons, List.length_nil, List.length_set]; omega)) only [L51, X1, X2, X3, X4, XA, XB, lc_block, lc_cond, XZ, undef_eq, Nat.reduceAdd, Nat.reduceSub, ↓reduceIte, basic, cellsL, resOf, setAt, below, belowB, belowA, atomB, Nat.reduceLeDiff, Nat.reduceMul, Int.reduceToNat, Int.reduceLT, Int.reduceLE, Int.reduceAdd, Int.reduceNeg, Int.reduceEq, splice, Nat.reduceEqDiff, Nat.reduceLT, isAtom, Int.reduceSub, Int.reduceMul, implies_true]
  refine (rgetP_spec s hl _).mono ?_
  rintro v M ⟨hf, hv⟩
  have hb0 := hf.get0 (i := m.length) (b := ⟨[.slice none 0 0, .int .i64 0, .int .i64 0, .int .i64 0, .bool false, .int .i64 0, .string ⟨#[]⟩], 103, 1, 0, .own⟩) (by simp)
  have l0 := lt_of_some hb0
  have hfm : Frm [] m M := (Frm.refl (F := []) (m := m)).app.nil_trans hf
  by_cases h1 : (getP s 11 []).1 = 0
  · have hsh := getP_shape (s := s) (n := 11) (L := []) rfl (by simp) h1
    rw [if_pos h1] at hv
    obtain ⟨sv, F, rfl, hs, hF⟩ := hv
    obtain ⟨sa, rfl, _⟩ := hs.form
    have hdec : decF s w = if (K.getC (s.drop (7 * (getP s 11 []).2.length)) w).1 = 0 then
      decE (getP s 11 []).2 (K.getC (s.drop (7 * (getP s 11 []).2.length)) w).2.1 (decP (K.getC (s.drop (7 * (getP s 11 []).2.length)) w).2.1 (s.drop (7 * (getP s 11 []).2.length + (K.getC (s.drop (7 * (getP s 11 []).2.length)) w).2.2)))
      else ((K.getC (s.drop (7 * (getP s 11 []).2.length)) w).1, Fr.zero) := by rw [decF, if_pos h1]
    rw [hdec]
    clear hdec
    generalize (getP s 11 []).2 = L at hs hsh ⊢
    obtain ⟨hn2, hn10, hns, _, _⟩ := hsh
    obtain ⟨N, hN⟩ : ∃ N, 7 * L.length = N := ⟨_, rfl⟩
    rw [hN] at hns ⊢
    have hc0 : ((0 : Int) ≤ (N : Int)) = True := eq_true (by omega)
    have hc1 : ((N : Int) ≤ (s.length : Int)) = True := eq_true (by omega)
    have hcut : List.take (s.length - N) (List.drop N s) = s.drop N := List.take_of_length_le (by rw [List.length_drop]; exact Nat.le_refl _)
    simp (contextual := true) (implicitDefEqProofs := false) (maxSteps := 2000000) (disch := first | rfl | exact Nat.le_of_ble_eq_true rfl | omega | (simp only [List.length_append, List.length_cons, List.length_nil, List.length_set]; omega)) only [hb0, bin_ladd, str_cut, str_app, str_eq, string_mk_size, string_mk, hc0, hc1, hcut, Int.toNat_natCast, X1, X2, X3, X4, XA, XB, lc_block, lc_cond, XZ, undef_eq, Nat.reduceAdd, Nat.reduceSub, ↓reduceIte, basic, cellsL, resOf, setAt, below, belowB, belowA, atomB, Nat.reduceLeDiff, Nat.reduceMul, Int.reduceToNat, Int.reduceLT, Int.reduceLE, Int.reduceAdd, Int.reduceNeg, Int.reduceEq, splice, Nat.reduceEqDiff, Nat.reduceLT, isAtom, Int.reduceSub, Int.reduceMul, implies_true]
    refine (K.rgetK_spec (s.drop N) w (by rw [List.length_drop]; omega) _).use ?_
    have hlen := K.getC_len (s := s.drop N) (w := w)
    rw [List.length_drop] at hlen
    generalize K.getC (s.drop N) w = kk at hlen ⊢
    obtain ⟨ke, c, n⟩ := kk
    simp only at hlen ⊢
    have hfA : ∀ B g, Frm [] m (M.set m.length B ++ g) := fun B g => (hfm.set (i := m.length) (.inr (Nat.le_refl _))).app
    have hsA : ∀ B g, Sl (M.set m.length B ++ g) 65 3 (.slice sa (L.map En.row).length (L.map En.row).length) F (L.map En.row) := fun B g => (hs.setb (fun hx => by have := hF _ hx; simp only [List.length_append, List.length_cons, List.length_nil] at this; omega)).frm0 Frm.refl.app
    by_cases h2 : ke = 0
    · subst h2
      rw [if_pos rfl]
      have hwn : IntKind.i64.wrap ((N : Int) + (n : Int)) = ((N + n : Nat) : Int) := by rw [wrap_i64 (by omega) (by omega)]; omega
      simp (contextual := true) (implicitDefEqProofs := false) (maxSteps := 2000000) (disch := first | rfl | exact Nat.le_of_ble_eq_true rfl | omega | (simp only [List.length_append, List.length_cons, List.length_nil, List.length_set]; omega)) only [hb0, bin_ladd, str_cut, str_app, str_eq, string_mk_size, string_mk, hwn, Int.toNat_natCast, Ct.val, X1, X2, X3, X4, XA, XB, lc_block, lc_cond, XZ, undef_eq, Nat.reduceAdd, Nat.reduceSub, ↓reduceIte, basic, cellsL, resOf, setAt, below, belowB, belowA, atomB, Nat.reduceLeDiff, Nat.reduceMul, Int.reduceToNat, Int.reduceLT, Int.reduceLE, Int.reduceAdd, Int.reduceNeg, Int.reduceEq, splice, Nat.reduceEqDiff, Nat.reduceLT, isAtom, Int.reduceSub, Int.reduceMul, implies_true]
      refine (hasPid_spec _ _).use ?_
      have hFm : ∀ z ∈ F, m.length ≤ z := fun z hz => by have := hF z hz; simp only [List.length_append, List.length_cons, List.length_nil] at this; omega
      have hdl : (s.drop (N + n)).length ≤ 100000 := by rw [List.length_drop]; omega
      have hln : N + n ≤ s.length := by omega
      have hcut2 : List.take (s.length - (N + n)) (List.drop (N + n) s) = s.drop (N + n) := List.take_of_length_le (by rw [List.length_drop]; exact Nat.le_refl _)
      cases hb : K.pidB c.k with
      | false =>
        rw [decP_f hb]
        simp (contextual := true) (implicitDefEqProofs := false) (maxSteps := 2000000) (disch := first | rfl | exact Nat.le_of_ble_eq_true rfl | omega | (simp only [List.length_append, List.length_cons, List.length_nil, List.length_set]; omega)) only [hb0, bin_ladd, str_cut, str_app, str_eq, string_mk_size, string_mk, hcut2, Int.toNat_natCast, X1, X2, X3, X4, XA, XB, lc_block, lc_cond, XZ, undef_eq, Nat.reduceAdd, Nat.reduceSub, ↓reduceIte, basic, cellsL, resOf, setAt, below, belowB, belowA, atomB, Nat.reduceLeDiff, Nat.reduceMul, Int.reduceToNat, Int.reduceLT, Int.reduceLE, Int.reduceAdd, Int.reduceNeg, Int.reduceEq, splice, Nat.reduceEqDiff, Nat.reduceLT, isAtom, Int.reduceSub, Int.reduceMul, implies_true]
        refine (rinfo_spec (c := c) (fun m => hasInfo_spec _ m) (by omega)).use ?_
        rw [decE_s]
        generalize s.drop (N + n) = info at hdl ⊢
        by_cases hi : infoE (K.infoB c.k) info = 0
        · rw [if_pos hi, hi]
          simp (contextual := true) (implicitDefEqProofs := false) (maxSteps := 2000000) (disch := first | rfl | exact Nat.le_of_ble_eq_true rfl | omega | (simp only [List.length_append, List.length_cons, List.length_nil, List.length_set]; omega)) only [hb0, X1, X2, X3, X4, XA, XB, lc_block, lc_cond, XZ, undef_eq, Nat.reduceAdd, Nat.reduceSub, ↓reduceIte, basic, cellsL, resOf, setAt, below, belowB, belowA, atomB, Nat.reduceLeDiff, Nat.reduceMul, Int.reduceToNat, Int.reduceLT, Int.reduceLE, Int.reduceAdd, Int.reduceNeg, Int.reduceEq, splice, Nat.reduceEqDiff, Nat.reduceLT, isAtom, Int.reduceSub, Int.reduceMul, implies_true]
          exact ⟨hfA _ _, _, F, rfl, hsA _ _, hFm⟩
        · rw [if_neg hi]
          have hi' : (infoE (K.infoB c.k) info = 0) = False := eq_false hi
          simp (contextual := true) (implicitDefEqProofs := false) (maxSteps := 2000000) (disch := first | rfl | exact Nat.le_of_ble_eq_true rfl | omega | (simp only [List.length_append, List.length_cons, List.length_nil, List.length_set]; omega)) only [hb0, hi', zRframe, X1, X2, X3, X4, XA, XB, lc_block, lc_cond, XZ, undef_eq, Nat.reduceAdd, Nat.reduceSub, ↓reduceIte, basic, cellsL, resOf, setAt, below, belowB, belowA, atomB, Nat.reduceLeDiff, Nat.reduceMul, Int.reduceToNat, Int.reduceLT, Int.reduceLE, Int.reduceAdd, Int.reduceNeg, Int.reduceEq, splice, Nat.reduceEqDiff, Nat.reduceLT, isAtom, Int.reduceSub, Int.reduceMul, implies_true]
          exact hfA _ _
      | true =>
        match hd : s.drop (N + n), hdl with
        | [], _ =>
          have hge : ((s.length : Int) ≤ ((N + n : Nat) : Int)) = True := eq_true (by
            have := congrArg List.length hd
            rw [List.length_drop, List.length_nil] at this; omega)
          rw [decP_n hb]
          simp (contextual := true) (implicitDefEqProofs := false) (maxSteps := 2000000) (disch := first | rfl | exact Nat.le_of_ble_eq_true rfl | omega | (simp only [List.length_append, List.length_cons, List.length_nil, List.length_set]; omega)) only [hb0, bin_ladd, str_cut, str_app, str_eq, string_mk_size, string_mk, hge, decE, zRframe, X1, X2, X3, X4, XA, XB, lc_block, lc_cond, XZ, undef_eq, Nat.reduceAdd, Nat.reduceSub, ↓reduceIte, basic, cellsL, resOf, setAt, below, belowB, belowA, atomB, Nat.reduceLeDiff, Nat.reduceMul, Int.reduceToNat, Int.reduceLT, Int.reduceLE, Int.reduceAdd, Int.reduceNeg, Int.reduceEq, splice, Nat.reduceEqDiff, Nat.reduceLT, isAtom, Int.reduceSub, Int.reduceMul, implies_true]
          exact hfA _ _
        | q :: info, hdl =>
          have hlt : N + n < s.length := by
            have := congrArg List.length hd
            rw [List.length_drop, List.length_cons] at this; omega
          have hge : ((s.length : Int) ≤ ((N + n : Nat) : Int)) = False := eq_false (by omega)
          have hq : s[N + n]? = some q := by
            have := congrArg (fun l : List UInt8 => l[0]?) hd
            simpa [List.getElem?_drop] using this
          have hwn1 : IntKind.i64.wrap (((N + n : Nat) : Int) + 1) = ((N + n + 1 : Nat) : Int) := by rw [wrap_i64 (by omega) (by omega)]; omega
          have hwq : IntKind.i64.wrap (q.toNat : Int) = (q.toNat : Int) := K.u8_wrap q
          have hln1 : N + n + 1 ≤ s.length := hlt
          have hinfo : s.drop (N + n + 1) = info := by
            have := congrArg (List.drop 1) hd
            rw [List.drop_drop] at this
            exact this
          have hcut3 : List.take (s.length - (N + n + 1)) (List.drop (N + n + 1) s) = info := by rw [← hinfo]; exact List.take_of_length_le (by rw [List.length_drop]; exact Nat.le_refl _)
          rw [decP_c hb]
          simp (contextual := true) (implicitDefEqProofs := false) (maxSteps := 2000000) (disch := first | rfl | exact Nat.le_of_ble_eq_true rfl | omega | (simp only [List.length_append, List.length_cons, List.length_nil, List.length_set]; omega)) only [hb0, bin_ladd, str_cut, str_app, str_eq, string_mk_size, string_mk, hge, hq, hwn1, hwq, hcut3, Int.toNat_natCast, X1, X2, X3, X4, XA, XB, lc_block, lc_cond, XZ, undef_eq, Nat.reduceAdd, Nat.reduceSub, ↓reduceIte, basic, cellsL, resOf, setAt, below, belowB, belowA, atomB, Nat.reduceLeDiff, Nat.reduceMul, Int.reduceToNat, Int.reduceLT, Int.reduceLE, Int.reduceAdd, Int.reduceNeg, Int.reduceEq, splice, Nat.reduceEqDiff, Nat.reduceLT, isAtom, Int.reduceSub, Int.reduceMul, implies_true]
          simp only [List.length_cons] at hdl
          refine ⟨by omega, ?_⟩
          refine (rinfo_spec (c := c) (fun m => hasInfo_spec _ m) (by omega)).use ?_
          rw [decE_s]
          by_cases hi : infoE (K.infoB c.k) info = 0
          · rw [if_pos hi, hi]
            simp (contextual := true) (implicitDefEqProofs := false) (maxSteps := 2000000) (disch := first | rfl | exact Nat.le_of_ble_eq_true rfl | omega | (simp only [List.length_append, List.length_cons, List.length_nil, List.length_set]; omega)) only [hb0, X1, X2, X3, X4, XA, XB, lc_block, lc_cond, XZ, undef_eq, Nat.reduceAdd, Nat.reduceSub, ↓reduceIte, basic, cellsL, resOf, setAt, below, belowB, belowA, atomB, Nat.reduceLeDiff, Nat.reduceMul, Int.reduceToNat, Int.reduceLT, Int.reduceLE, Int.reduceAdd, Int.reduceNeg, Int.reduceEq, splice, Nat.reduceEqDiff, Nat.reduceLT, isAtom, Int.reduceSub, Int.reduceMul, implies_true]
            exact ⟨hfA _ _, _, F, rfl, hsA _ _, hFm⟩
          · rw [if_neg hi]
            have hi' : (infoE (K.infoB c.k) info = 0) = False := eq_false hi
            simp (contextual := true) (implicitDefEqProofs := false) (maxSteps := 2000000) (disch := first | rfl | exact Nat.le_of_ble_eq_true rfl | omega | (simp only [List.length_append, List.length_cons, List.length_nil, List.length_set]; omega)) only [hb0, hi', zRframe, X1, X2, X3, X4, XA, XB, lc_block, lc_cond, XZ, undef_eq, Nat.reduceAdd, Nat.reduceSub, ↓reduceIte, basic, cellsL, resOf, setAt, below, belowB, belowA, atomB, Nat.reduceLeDiff, Nat.reduceMul, Int.reduceToNat, Int.reduceLT, Int.reduceLE, Int.reduceAdd, Int.reduceNeg, Int.reduceEq, splice, Nat.reduceEqDiff, Nat.reduceLT, isAtom, Int.reduceSub, Int.reduceMul, implies_true]
            exact hfA _ _
    · rw [if_neg h2]
      have h2' : (ke = 0) = False := eq_false h2
      simp (contextual := true) (implicitDefEqProofs := false) (maxSteps := 2000000) (disch := first | rfl | exact Nat.le_of_ble_eq_true rfl | omega | (simp only [List.length_append, List.length_cons, List.length_nil, List.length_set]; omega)) only [hb0, bin_ladd, str_cut, str_app, str_eq, string_mk_size, string_mk, h2', zRframe, Ct.val, X1, X2, X3, X4, XA, XB, lc_block, lc_cond, XZ, undef_eq, Nat.reduceAdd, Nat.reduceSub, ↓reduceIte, basic, cellsL, resOf, setAt, below, belowB, belowA, atomB, Nat.reduceLeDiff, Nat.reduceMul, Int.reduceToNat, Int.reduceLT, Int.reduceLE, Int.reduceAdd, Int.reduceNeg, Int.reduceEq, splice, Nat.reduceEqDiff, Nat.reduceLT, isAtom, Int.reduceSub, Int.reduceMul, implies_true]
      exact hfA _ _
  · rw [if_neg h1] at hv
    have hdec : decF s w = ((getP s 11 []).1, Fr.zero) := by rw [decF, if_neg h1]
    have h1' : ((getP s 11 []).1 = 0) = False := eq_false h1
    subst hv
    rw [hdec]
    simp (contextual := true) (implicitDefEqProofs := false) (maxSteps := 2000000) (disch := first | rfl | exact Nat.le_of_ble_eq_true rfl | omega | (simp only [List.length_append, List.length_cons, List.length_nil, List.length_set]; omega)) only [hb0, h1', bin_ladd, str_cut, str_app, str_eq, string_mk_size, string_mk, zRframe, Fr.zero, X1, X2, X3, X4, XA, XB, lc_block, lc_cond, XZ, undef_eq, Nat.reduceAdd, Nat.reduceSub, ↓reduceIte, basic, cellsL, resOf, setAt, below, belowB, belowA, atomB, Nat.reduceLeDiff, Nat.reduceMul, Int.reduceToNat, Int.reduceLT, Int.reduceLE, Int.reduceAdd, Int.reduceNeg, Int.reduceEq, splice, Nat.reduceEqDiff, Nat.reduceLT, isAtom, Int.reduceSub, Int.reduceMul, implies_true]
    exact (hfm.set (i := m.length) (.inr (Nat.le_refl _))).app
end Go.Proofs.YtenbkoalanfdhaaDoor
/- The law of kinds of bytes, walked. -/
namespace Go.Proofs.YtenbkoalanfdhaaDoor
open Go.Lg
set_option maxRecDepth 8000
set_option maxHeartbeats 8000000
set_option linter.unusedSimpArgs false
set_option linter.unnecessarySimpa false
set_option linter.unusedVariables false

namespace K
theorem plainC_kind {b : Nat} (hb : b < 256) : 0 ≤ (plainC b).2.1.k ∧ (plainC b).2.1.k ≤ 14 := by
  rcases plainC_some hb with h | ⟨i, hi, p, h⟩
  · rw [h]; decide
  · have := plainC_at hi p
    rw [← h] at this
    simp only [Int.toNat_natCast] at this
    rw [this]
    simp only
    omega
theorem getC_kind {s : List UInt8} {w : Bool} : 0 ≤ (getC s w).2.1.k ∧ (getC s w).2.1.k ≤ 14 := by
  match s with
  | [] => simp [getC, czero]
  | b :: r =>
    have hb := b.toNat_lt
    rw [getC]
    by_cases h3 : b.toNat % 4 = 3
    · rw [if_pos h3]; exact plainC_kind hb
    · rw [if_neg h3]
      by_cases hw : w = false
      · rw [if_pos hw]
        simp only [narC]
        split <;> omega
      · rw [if_neg hw]
        match r with
        | [] => simp [wOf, czero]
        | c :: r =>
          rw [wOf]
          by_cases h2 : b.toNat % 2 = 0 ∨ b.toNat ≤ 15
          · rw [if_pos h2]
            simp only [wideC]
            split <;> omega
          · rw [if_neg h2]; decide
theorem getC_same {s : List UInt8} (h6 : 6 ≤ (getC s true).2.1.k) : getC s false = getC s true := by
  match s with
  | [] => simp [getC, czero] at h6
  | b :: r =>
    have hb := b.toNat_lt
    rw [getC] at h6 ⊢
    by_cases h3 : b.toNat % 4 = 3
    · rw [if_pos h3, getC, if_pos h3]
    · exfalso
      rw [if_neg h3, if_neg (by decide)] at h6
      match r with
      | [] => simp [wOf, czero] at h6
      | c :: r =>
        rw [wOf] at h6
        by_cases h2 : b.toNat % 2 = 0 ∨ b.toNat ≤ 15
        · rw [if_pos h2] at h6
          simp only [wideC] at h6
          split at h6 <;> omega
        · rw [if_neg h2] at h6
          exact absurd h6 (by decide)
end K
def kindF (s : List UInt8) : Int := if (getP s 11 []).1 = 0 then (K.getC (s.drop (7 * (getP s 11 []).2.length)) false).2.1.k else 0
theorem kind_spec (s : List UInt8) (hl : s.length ≤ 100000) (m : Mem) : Ret Tryd.prog 50 [str s] m (.int .i64 (kindF s)) m := by
  refine LCall_drop (LCall_enter Tryd.func50 c50 ?_)
  simp (contextual := true) (implicitDefEqProofs := false) (maxSteps := 2000000) (disch := first | rfl | exact Nat.le_of_ble_eq_true rfl | omega | (simp only [List.length_append, List.length_cons, List.length_nil, List.length_set]; omega)) only [L50, X1, X2, X3, X4, XA, XB, lc_block, lc_cond, XZ, undef_eq, Nat.reduceAdd, Nat.reduceSub, ↓reduceIte, basic, cellsL, resOf, setAt, below, belowB, belowA, atomB, Nat.reduceLeDiff, Nat.reduceMul, Int.reduceToNat, Int.reduceLT, Int.reduceLE, Int.reduceAdd, Int.reduceNeg, Int.reduceEq, splice, Nat.reduceEqDiff, Nat.reduceLT, isAtom, Int.reduceSub, Int.reduceMul, implies_true]
  refine (getP_spec s hl _).mono ?_
  rintro v M ⟨hf, hv⟩
  have hext : ∀ g, ext m (M ++ g) := fun g => (hf.nil_trans Frm.refl.app).ext (by simp)
  by_cases h1 : (getP s 11 []).1 = 0
  · have hsh := getP_shape (s := s) (n := 11) (L := []) rfl (by simp) h1
    rw [if_pos h1] at hv
    obtain ⟨x, y, l, sv, F, hL, rfl, hs, hF⟩ := hv
    obtain ⟨sa, rfl, _⟩ := hs.form
    rw [kindF, if_pos h1]
    generalize (getP s 11 []).2 = L at hL hsh ⊢
    obtain ⟨hn2, hn10, hns, _, _⟩ := hsh
    obtain ⟨N, hN⟩ : ∃ N, 7 * L.length = N := ⟨_, rfl⟩
    rw [hN] at hns ⊢
    have hcut : List.take (s.length - N) (List.drop N s) = s.drop N := List.take_of_length_le (by rw [List.length_drop]; exact Nat.le_refl _)
    simp (contextual := true) (implicitDefEqProofs := false) (maxSteps := 2000000) (disch := first | rfl | exact Nat.le_of_ble_eq_true rfl | omega | (simp only [List.length_append, List.length_cons, List.length_nil, List.length_set]; omega)) only [bin_ladd, str_cut, str_app, str_eq, string_mk_size, string_mk, hcut, Int.toNat_natCast, X1, X2, X3, X4, XA, XB, lc_block, lc_cond, XZ, undef_eq, Nat.reduceAdd, Nat.reduceSub, ↓reduceIte, basic, cellsL, resOf, setAt, below, belowB, belowA, atomB, Nat.reduceLeDiff, Nat.reduceMul, Int.reduceToNat, Int.reduceLT, Int.reduceLE, Int.reduceAdd, Int.reduceNeg, Int.reduceEq, splice, Nat.reduceEqDiff, Nat.reduceLT, isAtom, Int.reduceSub, Int.reduceMul, implies_true]
    refine (K.getK_spec (s.drop N) false _ (by rw [List.length_drop]; omega)).use ?_
    generalize K.getC (s.drop N) false = kk
    simp (contextual := true) (implicitDefEqProofs := false) (maxSteps := 2000000) (disch := first | rfl | exact Nat.le_of_ble_eq_true rfl | omega | (simp only [List.length_append, List.length_cons, List.length_nil, List.length_set]; omega)) only [Ct.val, X1, X2, X3, X4, XA, XB, lc_block, lc_cond, XZ, undef_eq, Nat.reduceAdd, Nat.reduceSub, ↓reduceIte, basic, cellsL, resOf, setAt, below, belowB, belowA, atomB, Nat.reduceLeDiff, Nat.reduceMul, Int.reduceToNat, Int.reduceLT, Int.reduceLE, Int.reduceAdd, Int.reduceNeg, Int.reduceEq, splice, Nat.reduceEqDiff, Nat.reduceLT, isAtom, Int.reduceSub, Int.reduceMul, implies_true]
    exact hext _
  · have h1' : ((getP s 11 []).1 = 0) = False := eq_false h1
    rw [if_neg h1] at hv
    subst hv
    rw [kindF, if_neg h1]
    simp (contextual := true) (implicitDefEqProofs := false) (maxSteps := 2000000) (disch := first | rfl | exact Nat.le_of_ble_eq_true rfl | omega | (simp only [List.length_append, List.length_cons, List.length_nil, List.length_set]; omega)) only [h1', X1, X2, X3, X4, XA, XB, lc_block, lc_cond, XZ, undef_eq, Nat.reduceAdd, Nat.reduceSub, ↓reduceIte, basic, cellsL, resOf, setAt, below, belowB, belowA, atomB, Nat.reduceLeDiff, Nat.reduceMul, Int.reduceToNat, Int.reduceLT, Int.reduceLE, Int.reduceAdd, Int.reduceNeg, Int.reduceEq, splice, Nat.reduceEqDiff, Nat.reduceLT, isAtom, Int.reduceSub, Int.reduceMul, implies_true]
    exact hext _
theorem kinds_pure (s : List UInt8) : ((decF s false).1 ≠ 0 ∨ kindF s = (decF s false).2.c.k) ∧ ((decF s true).1 ≠ 0 ∨ (decF s true).2.c.k < 6 ∨ kindF s = (decF s true).2.c.k) ∧ 0 ≤ kindF s ∧ kindF s ≤ 14 := by
  refine ⟨?_, ?_, ?_⟩
  · by_cases h : (decF s false).1 = 0
    · right
      obtain ⟨h1, _, _, h4⟩ := decF_ok h
      rw [kindF, if_pos h1, h4]
    · exact .inl h
  · by_cases h : (decF s true).1 = 0
    · right
      obtain ⟨h1, _, _, h4⟩ := decF_ok h
      by_cases h6 : 6 ≤ (decF s true).2.c.k
      · right
        rw [h4] at h6
        rw [kindF, if_pos h1, h4, K.getC_same h6]
      · left; omega
    · exact .inl h
  · unfold kindF
    split
    · exact K.getC_kind
    · decide
theorem awake07 (m : Mem) : Ret Tryd.prog 49 [] m (.bool true) m := run_alone tab_ok (n := 400) (d := 60) (by kernel_rfl) rfl rfl m
theorem rdec_any (s : List UInt8) (w : Bool) (hl : s.length ≤ 100000) (m : Mem) : LCall Tryd.prog 51 [str s, .bool w] m fun v M => Frm [] m M ∧ ∃ sa n c pid info, v = .tuple #[rframeV (.slice sa n n) c pid info, .int .i64 (decF s w).1] ∧ ((decF s w).1 = 0 → c.k = (decF s w).2.c.k) := by
  refine (rdecode_spec s w hl m).mono ?_
  rintro v M ⟨hf, hv⟩
  refine ⟨hf, ?_⟩
  by_cases h : (decF s w).1 = 0
  · rw [if_pos h] at hv
    obtain ⟨sv, F, rfl, hs, _⟩ := hv
    obtain ⟨sa, rfl, _⟩ := hs.form
    exact ⟨sa, _, _, _, _, by rw [h], fun _ => rfl⟩
  · rw [if_neg h] at hv
    subst hv
    exact ⟨none, 0, K.czero, 0, [], rfl, fun e => absurd e h⟩
theorem kinds_law (s : List UInt8) (m : Mem) : LCall Tryd.prog 11 [str s] m fun v _ => v = .bool true := by
  refine LCall_enter Tryd.func11 c11 ?_
  simp (contextual := true) (implicitDefEqProofs := false) (maxSteps := 2000000) (disch := first | rfl | exact Nat.le_of_ble_eq_true rfl | omega | (simp only [List.length_append, List.length_cons, List.length_nil, List.length_set]; omega)) only [L11, X1, X2, X3, X4, XA, XB, lc_block, lc_cond, XZ, undef_eq, Nat.reduceAdd, Nat.reduceSub, ↓reduceIte, basic, cellsL, resOf, setAt, below, belowB, belowA, atomB, Nat.reduceLeDiff, Nat.reduceMul, Int.reduceToNat, Int.reduceLT, Int.reduceLE, Int.reduceAdd, Int.reduceNeg, Int.reduceEq, splice, Nat.reduceEqDiff, Nat.reduceLT, isAtom, Int.reduceSub, Int.reduceMul, implies_true]
  refine (awake07 _).use ?_
  by_cases h0 : 2000 < s.length
  · have h0' : ((2000 : Int) < (s.length : Int)) = True := eq_true (by omega)
    simp (contextual := true) (implicitDefEqProofs := false) (maxSteps := 2000000) (disch := first | rfl | exact Nat.le_of_ble_eq_true rfl | omega | (simp only [List.length_append, List.length_cons, List.length_nil, List.length_set]; omega)) only [bin_ladd, str_cut, str_app, str_eq, string_mk_size, string_mk, h0', X1, X2, X3, X4, XA, XB, lc_block, lc_cond, XZ, undef_eq, Nat.reduceAdd, Nat.reduceSub, ↓reduceIte, basic, cellsL, resOf, setAt, below, belowB, belowA, atomB, Nat.reduceLeDiff, Nat.reduceMul, Int.reduceToNat, Int.reduceLT, Int.reduceLE, Int.reduceAdd, Int.reduceNeg, Int.reduceEq, splice, Nat.reduceEqDiff, Nat.reduceLT, isAtom, Int.reduceSub, Int.reduceMul, implies_true]
  · have h0' : ((2000 : Int) < (s.length : Int)) = False := eq_false (by omega)
    have hl : s.length ≤ 100000 := by omega
    simp (contextual := true) (implicitDefEqProofs := false) (maxSteps := 2000000) (disch := first | rfl | exact Nat.le_of_ble_eq_true rfl | omega | (simp only [List.length_append, List.length_cons, List.length_nil, List.length_set]; omega)) only [bin_ladd, str_cut, str_app, str_eq, string_mk_size, string_mk, h0', X1, X2, X3, X4, XA, XB, lc_block, lc_cond, XZ, undef_eq, Nat.reduceAdd, Nat.reduceSub, ↓reduceIte, basic, cellsL, resOf, setAt, below, belowB, belowA, atomB, Nat.reduceLeDiff, Nat.reduceMul, Int.reduceToNat, Int.reduceLT, Int.reduceLE, Int.reduceAdd, Int.reduceNeg, Int.reduceEq, splice, Nat.reduceEqDiff, Nat.reduceLT, isAtom, Int.reduceSub, Int.reduceMul, implies_true]
    refine (kind_spec s hl _).use ?_
    simp (contextual := true) (implicitDefEqProofs := false) (maxSteps := 2000000) (disch := first | rfl | exact Nat.le_of_ble_eq_true rfl | omega | (simp only [List.length_append, List.length_cons, List.length_nil, List.length_set]; omega)) only [X1, X2, X3, X4, XA, XB, lc_block, lc_cond, XZ, undef_eq, Nat.reduceAdd, Nat.reduceSub, ↓reduceIte, basic, cellsL, resOf, setAt, below, belowB, belowA, atomB, Nat.reduceLeDiff, Nat.reduceMul, Int.reduceToNat, Int.reduceLT, Int.reduceLE, Int.reduceAdd, Int.reduceNeg, Int.reduceEq, splice, Nat.reduceEqDiff, Nat.reduceLT, isAtom, Int.reduceSub, Int.reduceMul, implies_true]
    refine (rdec_any s false hl _).mono ?_
    rintro v M ⟨hf, sa, n, c, pid, info, rfl, hc⟩
    obtain ⟨p1, p2, p3, p4⟩ := kinds_pure s
    generalize kindF s = kf at p1 p2 p3 p4 ⊢
    generalize decF s false = A at hc p1 ⊢
    have q3 : ((0 : Int) ≤ kf) = True := eq_true p3
    have q4 : (kf ≤ 14) = True := eq_true p4
    simp (contextual := true) (implicitDefEqProofs := false) (maxSteps := 2000000) (disch := first | rfl | exact Nat.le_of_ble_eq_true rfl | omega | (simp only [List.length_append, List.length_cons, List.length_nil, List.length_set]; omega)) only [X1, X2, X3, X4, XA, XB, lc_block, lc_cond, XZ, undef_eq, Nat.reduceAdd, Nat.reduceSub, ↓reduceIte, basic, cellsL, resOf, setAt, below, belowB, belowA, atomB, Nat.reduceLeDiff, Nat.reduceMul, Int.reduceToNat, Int.reduceLT, Int.reduceLE, Int.reduceAdd, Int.reduceNeg, Int.reduceEq, splice, Nat.reduceEqDiff, Nat.reduceLT, isAtom, Int.reduceSub, Int.reduceMul, implies_true]
    refine (rdec_any s true hl _).mono ?_
    rintro v M2 ⟨hf2, sa2, n2, c2, pid2, info2, rfl, hc2⟩
    generalize decF s true = B at hc2 p2 ⊢
    have hb := (Frm.get0 hf2 (i := M.length) (b := ⟨[.slice sa n n, .int .i64 c.k, .int .i64 c.ns, .int .i64 c.nr, .bool c.pf, .int .i64 pid, str info], 103, 1, 0, .own⟩) (by simp))
    have lb := lt_of_some hb
    obtain ⟨a, fa⟩ := A
    obtain ⟨b, fb⟩ := B
    simp only at hc hc2 p1 p2 ⊢
    have e1 : a ≠ 0 ∨ kf = c.k := p1.elim .inl fun h => by
      by_cases ha : a = 0
      · exact .inr (by rw [hc ha]; exact h)
      · exact .inl ha
    have e2 : b ≠ 0 ∨ c2.k < 6 ∨ kf = c2.k := by
      by_cases hb : b = 0
      · right; rw [hc2 hb]; exact p2.resolve_left (fun h => h hb)
      · exact .inl hb
    clear hc hc2 p1 p2
    by_cases g1 : a = 0
    · have g1' := eq_true g1
      have g2' : (kf = c.k) = True := eq_true (e1.resolve_left fun h => h g1)
      by_cases g3 : b = 0
      · have g3' := eq_true g3
        by_cases g4 : c2.k < 6
        · have g4' := eq_true g4
          simp (contextual := true) (implicitDefEqProofs := false) (maxSteps := 2000000) (disch := first | rfl | exact Nat.le_of_ble_eq_true rfl | omega | (simp only [List.length_append, List.length_cons, List.length_nil, List.length_set]; omega)) only [hb, g1', g2', g3', g4', q3, q4, X1, X2, X3, X4, XA, XB, lc_block, lc_cond, XZ, undef_eq, Nat.reduceAdd, Nat.reduceSub, ↓reduceIte, basic, cellsL, resOf, setAt, below, belowB, belowA, atomB, Nat.reduceLeDiff, Nat.reduceMul, Int.reduceToNat, Int.reduceLT, Int.reduceLE, Int.reduceAdd, Int.reduceNeg, Int.reduceEq, splice, Nat.reduceEqDiff, Nat.reduceLT, isAtom, Int.reduceSub, Int.reduceMul, implies_true]
        · have g4' := eq_false g4
          have g5' : (kf = c2.k) = True := eq_true ((e2.resolve_left fun h => h g3).resolve_left g4)
          simp (contextual := true) (implicitDefEqProofs := false) (maxSteps := 2000000) (disch := first | rfl | exact Nat.le_of_ble_eq_true rfl | omega | (simp only [List.length_append, List.length_cons, List.length_nil, List.length_set]; omega)) only [hb, g1', g2', g3', g4', g5', q3, q4, X1, X2, X3, X4, XA, XB, lc_block, lc_cond, XZ, undef_eq, Nat.reduceAdd, Nat.reduceSub, ↓reduceIte, basic, cellsL, resOf, setAt, below, belowB, belowA, atomB, Nat.reduceLeDiff, Nat.reduceMul, Int.reduceToNat, Int.reduceLT, Int.reduceLE, Int.reduceAdd, Int.reduceNeg, Int.reduceEq, splice, Nat.reduceEqDiff, Nat.reduceLT, isAtom, Int.reduceSub, Int.reduceMul, implies_true]
      · have g3' := eq_false g3
        simp (contextual := true) (implicitDefEqProofs := false) (maxSteps := 2000000) (disch := first | rfl | exact Nat.le_of_ble_eq_true rfl | omega | (simp only [List.length_append, List.length_cons, List.length_nil, List.length_set]; omega)) only [hb, g1', g2', g3', q3, q4, X1, X2, X3, X4, XA, XB, lc_block, lc_cond, XZ, undef_eq, Nat.reduceAdd, Nat.reduceSub, ↓reduceIte, basic, cellsL, resOf, setAt, below, belowB, belowA, atomB, Nat.reduceLeDiff, Nat.reduceMul, Int.reduceToNat, Int.reduceLT, Int.reduceLE, Int.reduceAdd, Int.reduceNeg, Int.reduceEq, splice, Nat.reduceEqDiff, Nat.reduceLT, isAtom, Int.reduceSub, Int.reduceMul, implies_true]
    · have g1' := eq_false g1
      by_cases g3 : b = 0
      · have g3' := eq_true g3
        by_cases g4 : c2.k < 6
        · have g4' := eq_true g4
          simp (contextual := true) (implicitDefEqProofs := false) (maxSteps := 2000000) (disch := first | rfl | exact Nat.le_of_ble_eq_true rfl | omega | (simp only [List.length_append, List.length_cons, List.length_nil, List.length_set]; omega)) only [hb, g1', g3', g4', q3, q4, X1, X2, X3, X4, XA, XB, lc_block, lc_cond, XZ, undef_eq, Nat.reduceAdd, Nat.reduceSub, ↓reduceIte, basic, cellsL, resOf, setAt, below, belowB, belowA, atomB, Nat.reduceLeDiff, Nat.reduceMul, Int.reduceToNat, Int.reduceLT, Int.reduceLE, Int.reduceAdd, Int.reduceNeg, Int.reduceEq, splice, Nat.reduceEqDiff, Nat.reduceLT, isAtom, Int.reduceSub, Int.reduceMul, implies_true]
        · have g4' := eq_false g4
          have g5' : (kf = c2.k) = True := eq_true ((e2.resolve_left fun h => h g3).resolve_left g4)
          simp (contextual := true) (implicitDefEqProofs := false) (maxSteps := 2000000) (disch := first | rfl | exact Nat.le_of_ble_eq_true rfl | omega | (simp only [List.length_append, List.length_cons, List.length_nil, List.length_set]; omega)) only [hb, g1', g3', g4', g5', q3, q4, X1, X2, X3, X4, XA, XB, lc_block, lc_cond, XZ, undef_eq, Nat.reduceAdd, Nat.reduceSub, ↓reduceIte, basic, cellsL, resOf, setAt, below, belowB, belowA, atomB, Nat.reduceLeDiff, Nat.reduceMul, Int.reduceToNat, Int.reduceLT, Int.reduceLE, Int.reduceAdd, Int.reduceNeg, Int.reduceEq, splice, Nat.reduceEqDiff, Nat.reduceLT, isAtom, Int.reduceSub, Int.reduceMul, implies_true]
      · have g3' := eq_false g3
        simp (contextual := true) (implicitDefEqProofs := false) (maxSteps := 2000000) (disch := first | rfl | exact Nat.le_of_ble_eq_true rfl | omega | (simp only [List.length_append, List.length_cons, List.length_nil, List.length_set]; omega)) only [hb, g1', g3', q3, q4, X1, X2, X3, X4, XA, XB, lc_block, lc_cond, XZ, undef_eq, Nat.reduceAdd, Nat.reduceSub, ↓reduceIte, basic, cellsL, resOf, setAt, below, belowB, belowA, atomB, Nat.reduceLeDiff, Nat.reduceMul, Int.reduceToNat, Int.reduceLT, Int.reduceLE, Int.reduceAdd, Int.reduceNeg, Int.reduceEq, splice, Nat.reduceEqDiff, Nat.reduceLT, isAtom, Int.reduceSub, Int.reduceMul, implies_true]
theorem framekinds_all (m : Mem) (vs : List Value) (h : F2 (TyV Tryd.prog m 4) [9] vs) : LCall Tryd.prog 11 vs m fun v _ => v = .bool true := by
  obtain ⟨v, rfl, h1⟩ := h.one_inv
  obtain ⟨t, rfl, _⟩ := h1.string Tryd.underlying9
  obtain ⟨l, rfl⟩ := str_is t
  exact kinds_law l m
end Go.Proofs.YtenbkoalanfdhaaDoor
