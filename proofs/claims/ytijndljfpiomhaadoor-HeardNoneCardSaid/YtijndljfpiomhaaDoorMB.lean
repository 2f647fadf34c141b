/- Names and kinds of controls; their bytes: walked. -/
import Derived.Test.YtijndljfpiomhaaDoorMA
set_option linter.unusedSimpArgs false
set_option linter.unnecessarySimpa false
set_option linter.unusedVariables false
namespace Go.Proofs.YtijndljfpiomhaaDoor.K
open Go.Lg
set_option maxRecDepth 8000
set_option maxHeartbeats 8000000
def nameL : List ByteArray := [⟨#[]⟩, ⟨#[73]⟩, ⟨#[82, 82]⟩, ⟨#[82, 78, 82]⟩, ⟨#[82, 69, 74]⟩, ⟨#[83, 82, 69, 74]⟩, ⟨#[83, 65, 66, 77]⟩, ⟨#[83, 65, 66, 77, 69]⟩, ⟨#[68, 73, 83, 67]⟩, ⟨#[68, 77]⟩, ⟨#[85, 65]⟩, ⟨#[70, 82, 77, 82]⟩, ⟨#[85, 73]⟩, ⟨#[88, 73, 68]⟩, ⟨#[84, 69, 83, 84]⟩]
def nameS (k : Int) : ByteArray := if k < 1 ∨ 14 < k then ⟨#[]⟩ else nameL.getD k.toNat ⟨#[]⟩
theorem kind_cases {k : Int} (h : 1 ≤ k ∧ k ≤ 14) : k = 1 ∨ k = 2 ∨ k = 3 ∨ k = 4 ∨ k = 5 ∨ k = 6 ∨ k = 7 ∨ k = 8 ∨ k = 9 ∨ k = 10 ∨ k = 11 ∨ k = 12 ∨ k = 13 ∨ k = 14 := by omega
theorem name_spec (k : Int) (m : Mem) : Ret Tryd.prog 47 [.int .i64 k] m (.string (nameS k)) m := by
  by_cases h : 1 ≤ k ∧ k ≤ 14
  · rcases kind_cases h with rfl | rfl | rfl | rfl | rfl | rfl | rfl | rfl | rfl | rfl | rfl | rfl | rfl | rfl <;>
      exact run_alone tab_ok (n := 100) (d := 20) (by kernel_rfl) rfl rfl m
  · have e : nameS k = ⟨#[]⟩ := by unfold nameS; rw [if_pos (by omega)]
    rw [e]
    refine LCall_drop (LCall_enter Tryd.func47 c47 ?_)
    by_cases h1 : k < 1
    · simp (contextual := true) (implicitDefEqProofs := false) (maxSteps := 2000000) (disch := first | rfl | exact NB rfl | omega | (simp only [XL]; omega)) only [L47, h1, XW, undef_eq, Nat.reduceAdd, Nat.reduceSub, ↓reduceIte, basic, cellsL, resOf, setAt, below, belowB, belowA, atomB, Nat.reduceLeDiff, Nat.reduceMul, Int.reduceToNat, Int.reduceLT, Int.reduceLE, Int.reduceAdd, Int.reduceNeg, Int.reduceEq, splice, Nat.reduceEqDiff, Nat.reduceLT, isAtom, Int.reduceSub, Int.reduceMul, implies_true]
    · have h2 : (14 < k) = True := by simp; omega
      simp (contextual := true) (implicitDefEqProofs := false) (maxSteps := 2000000) (disch := first | rfl | exact NB rfl | omega | (simp only [XL]; omega)) only [L47, h1, h2, XW, undef_eq, Nat.reduceAdd, Nat.reduceSub, ↓reduceIte, basic, cellsL, resOf, setAt, below, belowB, belowA, atomB, Nat.reduceLeDiff, Nat.reduceMul, Int.reduceToNat, Int.reduceLT, Int.reduceLE, Int.reduceAdd, Int.reduceNeg, Int.reduceEq, splice, Nat.reduceEqDiff, Nat.reduceLT, isAtom, Int.reduceSub, Int.reduceMul, implies_true]
theorem name_empty {k : Int} : nameS k = ⟨#[]⟩ ↔ ¬ (1 ≤ k ∧ k ≤ 14) := by
  constructor
  · intro h h2
    rcases kind_cases h2 with rfl | rfl | rfl | rfl | rfl | rfl | rfl | rfl | rfl | rfl | rfl | rfl | rfl | rfl <;> exact absurd h (by decide)
  · intro h; unfold nameS; rw [if_pos (by omega)]
theorem sup_spec (k : Int) (m : Mem) : Ret Tryd.prog 49 [.int .i64 k] m (.bool (supB k)) m := by
  refine LCall_drop (LCall_enter Tryd.func49 c49 ?_)
  by_cases h1 : 2 ≤ k <;> by_cases h2 : k ≤ 5 <;> simp (contextual := true) (implicitDefEqProofs := false) (maxSteps := 2000000) (disch := first | rfl | exact NB rfl | omega | (simp only [XL]; omega)) only [L49, h1, h2, supB, XW, undef_eq, Nat.reduceAdd, Nat.reduceSub, ↓reduceIte, basic, cellsL, resOf, setAt, below, belowB, belowA, atomB, Nat.reduceLeDiff, Nat.reduceMul, Int.reduceToNat, Int.reduceLT, Int.reduceLE, Int.reduceAdd, Int.reduceNeg, Int.reduceEq, splice, Nat.reduceEqDiff, Nat.reduceLT, isAtom, Int.reduceSub, Int.reduceMul, implies_true]
theorem pid_spec (k : Int) (m : Mem) : Ret Tryd.prog 18 [.int .i64 k] m (.bool (pidB k)) m := by
  refine LCall_drop (LCall_enter Tryd.func18 c18 ?_)
  by_cases h1 : k = 1 <;> by_cases h2 : k = 12 <;> simp (contextual := true) (implicitDefEqProofs := false) (maxSteps := 2000000) (disch := first | rfl | exact NB rfl | omega | (simp only [XL]; omega)) only [L18, h1, h2, pidB, XW, undef_eq, Nat.reduceAdd, Nat.reduceSub, ↓reduceIte, basic, cellsL, resOf, setAt, below, belowB, belowA, atomB, Nat.reduceLeDiff, Nat.reduceMul, Int.reduceToNat, Int.reduceLT, Int.reduceLE, Int.reduceAdd, Int.reduceNeg, Int.reduceEq, splice, Nat.reduceEqDiff, Nat.reduceLT, isAtom, Int.reduceSub, Int.reduceMul, implies_true]
  all_goals simp_all [pidB]
theorem index_spec (i T : Nat) (l : List Int) (v : Int) (m : Mem) (hm : m[i]? = some ⟨l.map (Value.int .i64 ·), T, 1, 0, .own⟩) (hl : l.length ≤ 1000) (K : Value → Mem → Prop)
    (h1 : ∀ k : Nat, l[k]? = some v → (∀ j, j < k → l[j]? ≠ some v) → K (.int .i64 (k : Int)) m) (h2 : v ∉ l → K (.int .i64 (-1)) m) :
    LCall Tryd.prog 62 [.slice (some ⟨i, 0, none⟩) l.length l.length, .int .i64 v] m K := by
  have hi : i < m.length := (List.getElem?_eq_some_iff.mp hm).1
  refine LCall_drop (LCall_enter Tryd.func62 c62 ?_)
  simp (contextual := true) (implicitDefEqProofs := false) (maxSteps := 2000000) (disch := first | rfl | exact NB rfl | omega | (simp only [XL]; omega)) only [L62, XW, undef_eq, Nat.reduceAdd, Nat.reduceSub, ↓reduceIte, basic, cellsL, resOf, setAt, below, belowB, belowA, atomB, Nat.reduceLeDiff, Nat.reduceMul, Int.reduceToNat, Int.reduceLT, Int.reduceLE, Int.reduceAdd, Int.reduceNeg, Int.reduceEq, splice, Nat.reduceEqDiff, Nat.reduceLT, isAtom, Int.reduceSub, Int.reduceMul, implies_true]
  refine loop_inv (fun n t m' => ∃ (k : Nat), n = l.length - k ∧ k ≤ l.length ∧ (∀ j, j < k → l[j]? ≠ some v) ∧
    Tab 19 [(0, .slice (some ⟨i, 0, none⟩) l.length l.length), (1, .int .i64 v), (7, .int .i64 (l.length : Int)), (8, .int .i64 (k : Int))] t ∧ m' = m) (n := l.length) ?_ ?_
  · exact ⟨0, rfl, Nat.zero_le _, fun j hj => absurd hj (Nat.not_lt_zero _), ⟨rfl, by simp⟩, rfl⟩
  rintro n t m' ⟨k, rfl, hk, hno, ht, rfl⟩
  obtain ⟨f, rfl⟩ : ∃ f : Nat → Value, t = [.slice (some ⟨i, 0, none⟩) l.length l.length, .int .i64 v, f 2, f 3, f 4, f 5, f 6, .int .i64 (l.length : Int), .int .i64 (k : Int), f 9, f 10, f 11, f 12, f 13, f 14, f 15, f 16, f 17, f 18] := ht.open fun f => rfl
  by_cases hlt : k < l.length
  · have hlt' : ((k : Int) < (l.length : Int)) = True := by simp [hlt]
    have h0 : ((0 : Int) ≤ (k : Int)) = True := by simp
    obtain ⟨x, hx⟩ : ∃ x, l[k]? = some x := ⟨l[k], List.getElem?_eq_getElem hlt⟩
    have hc : (l.map (Value.int .i64 ·))[k]? = some (.int .i64 x) := by simp [hx]
    simp (contextual := true) (implicitDefEqProofs := false) (maxSteps := 2000000) (disch := first | rfl | exact NB rfl | omega | (simp only [XL]; omega)) only [hm, hlt', h0, Int.toNat_natCast, hc, XW, undef_eq, Nat.reduceAdd, Nat.reduceSub, ↓reduceIte, basic, cellsL, resOf, setAt, below, belowB, belowA, atomB, Nat.reduceLeDiff, Nat.reduceMul, Int.reduceToNat, Int.reduceLT, Int.reduceLE, Int.reduceAdd, Int.reduceNeg, Int.reduceEq, splice, Nat.reduceEqDiff, Nat.reduceLT, isAtom, Int.reduceSub, Int.reduceMul, implies_true]
    refine ifI (fun h => ?_) (fun h => ?_)
    · exact h1 k (by rw [hx, h]) hno
    · exact kInv_go ⟨k + 1, rfl, by omega, fun j hj => by
        rcases Nat.lt_succ_iff_lt_or_eq.1 hj with h' | rfl
        · exact hno j h'
        · rw [hx]; exact fun e => h (by simpa using e.symm), ⟨rfl, by simp⟩, rfl⟩ (by omega)
  · have hlt' : ((k : Int) < (l.length : Int)) = False := by simp; omega
    simp (contextual := true) (implicitDefEqProofs := false) (maxSteps := 2000000) (disch := first | rfl | exact NB rfl | omega | (simp only [XL]; omega)) only [hlt', XW, undef_eq, Nat.reduceAdd, Nat.reduceSub, ↓reduceIte, basic, cellsL, resOf, setAt, below, belowB, belowA, atomB, Nat.reduceLeDiff, Nat.reduceMul, Int.reduceToNat, Int.reduceLT, Int.reduceLE, Int.reduceAdd, Int.reduceNeg, Int.reduceEq, splice, Nat.reduceEqDiff, Nat.reduceLT, isAtom, Int.reduceSub, Int.reduceMul, implies_true]
    refine h2 fun hmem => ?_
    obtain ⟨j, hj, rfl⟩ := List.getElem_of_mem hmem
    exact hno j (by omega) (List.getElem?_eq_getElem hj)
theorem contains_spec (i T : Nat) (l : List Int) (v : Int) (m : Mem) (hm : m[i]? = some ⟨l.map (Value.int .i64 ·), T, 1, 0, .own⟩) (hl : l.length ≤ 1000) :
    Ret Tryd.prog 56 [.slice (some ⟨i, 0, none⟩) l.length l.length, .int .i64 v] m (.bool (decide (v ∈ l))) m := by
  refine LCall_drop (LCall_enter Tryd.func56 c56 ?_)
  simp (contextual := true) (implicitDefEqProofs := false) (maxSteps := 2000000) (disch := first | rfl | exact NB rfl | omega | (simp only [XL]; omega)) only [L56, XW, undef_eq, Nat.reduceAdd, Nat.reduceSub, ↓reduceIte, basic, cellsL, resOf, setAt, below, belowB, belowA, atomB, Nat.reduceLeDiff, Nat.reduceMul, Int.reduceToNat, Int.reduceLT, Int.reduceLE, Int.reduceAdd, Int.reduceNeg, Int.reduceEq, splice, Nat.reduceEqDiff, Nat.reduceLT, isAtom, Int.reduceSub, Int.reduceMul, implies_true]
  refine index_spec i T l v m hm hl _ (fun k hk _ => ?_) (fun h => ?_)
  · have h0 : ((0 : Int) ≤ (k : Int)) = True := by simp
    have hmem : v ∈ l := List.mem_of_getElem? hk
    simp (contextual := true) (implicitDefEqProofs := false) (maxSteps := 2000000) (disch := first | rfl | exact NB rfl | omega | (simp only [XL]; omega)) only [h0, hmem, XW, undef_eq, Nat.reduceAdd, Nat.reduceSub, ↓reduceIte, basic, cellsL, resOf, setAt, below, belowB, belowA, atomB, Nat.reduceLeDiff, Nat.reduceMul, Int.reduceToNat, Int.reduceLT, Int.reduceLE, Int.reduceAdd, Int.reduceNeg, Int.reduceEq, splice, Nat.reduceEqDiff, Nat.reduceLT, isAtom, Int.reduceSub, Int.reduceMul, implies_true]
  · simp (contextual := true) (implicitDefEqProofs := false) (maxSteps := 2000000) (disch := first | rfl | exact NB rfl | omega | (simp only [XL]; omega)) only [h, XW, undef_eq, Nat.reduceAdd, Nat.reduceSub, ↓reduceIte, basic, cellsL, resOf, setAt, below, belowB, belowA, atomB, Nat.reduceLeDiff, Nat.reduceMul, Int.reduceToNat, Int.reduceLT, Int.reduceLE, Int.reduceAdd, Int.reduceNeg, Int.reduceEq, splice, Nat.reduceEqDiff, Nat.reduceLT, isAtom, Int.reduceSub, Int.reduceMul, implies_true]
theorem info_spec (k : Int) (m : Mem) : Ret Tryd.prog 50 [.int .i64 k] m (.bool (infoB k)) m := by
  refine LCall_drop (LCall_enter Tryd.func50 c50 ?_)
  simp (contextual := true) (implicitDefEqProofs := false) (maxSteps := 2000000) (disch := first | rfl | exact NB rfl | omega | (simp only [XL]; omega)) only [L50, XW, undef_eq, Nat.reduceAdd, Nat.reduceSub, ↓reduceIte, basic, cellsL, resOf, setAt, below, belowB, belowA, atomB, Nat.reduceLeDiff, Nat.reduceMul, Int.reduceToNat, Int.reduceLT, Int.reduceLE, Int.reduceAdd, Int.reduceNeg, Int.reduceEq, splice, Nat.reduceEqDiff, Nat.reduceLT, isAtom, Int.reduceSub, Int.reduceMul, implies_true]
  refine (contains_spec _ 3 [1, 11, 12, 13, 14] k _ (by simp) (by decide)).use ?_
  have e : decide (k ∈ [1, 11, 12, 13, 14]) = infoB k := by
    unfold infoB
    simp only [List.mem_cons, List.not_mem_nil, or_false]
    by_cases h : k = 1 ∨ (11 ≤ k ∧ k ≤ 14)
    · rw [decide_eq_true h, decide_eq_true (by omega)]
    · rw [decide_eq_false h, decide_eq_false (by omega)]
  rw [e]
  simp (contextual := true) (implicitDefEqProofs := false) (maxSteps := 2000000) (disch := first | rfl | exact NB rfl | omega | (simp only [XL]; omega)) only [XW, undef_eq, Nat.reduceAdd, Nat.reduceSub, ↓reduceIte, basic, cellsL, resOf, setAt, below, belowB, belowA, atomB, Nat.reduceLeDiff, Nat.reduceMul, Int.reduceToNat, Int.reduceLT, Int.reduceLE, Int.reduceAdd, Int.reduceNeg, Int.reduceEq, splice, Nat.reduceEqDiff, Nat.reduceLT, isAtom, Int.reduceSub, Int.reduceMul, implies_true]
theorem mod_spec (w : Bool) (m : Mem) : Ret Tryd.prog 46 [.bool w] m (.int .i64 (m8 w)) m := by
  refine LCall_drop (LCall_enter Tryd.func46 c46 ?_)
  cases w <;> simp (contextual := true) (implicitDefEqProofs := false) (maxSteps := 2000000) (disch := first | rfl | exact NB rfl | omega | (simp only [XL]; omega)) only [L46, m8, XW, undef_eq, Nat.reduceAdd, Nat.reduceSub, ↓reduceIte, basic, cellsL, resOf, setAt, below, belowB, belowA, atomB, Nat.reduceLeDiff, Nat.reduceMul, Int.reduceToNat, Int.reduceLT, Int.reduceLE, Int.reduceAdd, Int.reduceNeg, Int.reduceEq, splice, Nat.reduceEqDiff, Nat.reduceLT, isAtom, Int.reduceSub, Int.reduceMul, implies_true]
theorem num_spec (n : Int) (th : Bool) (mod : Int) (m : Mem) : Ret Tryd.prog 48 [.int .i64 n, .bool th, .int .i64 mod] m (.bool (numB n th mod)) m := by
  refine LCall_drop (LCall_enter Tryd.func48 c48 ?_)
  cases th
  · simp (contextual := true) (implicitDefEqProofs := false) (maxSteps := 2000000) (disch := first | rfl | exact NB rfl | omega | (simp only [XL]; omega)) only [L48, numB, XW, undef_eq, Nat.reduceAdd, Nat.reduceSub, ↓reduceIte, basic, cellsL, resOf, setAt, below, belowB, belowA, atomB, Nat.reduceLeDiff, Nat.reduceMul, Int.reduceToNat, Int.reduceLT, Int.reduceLE, Int.reduceAdd, Int.reduceNeg, Int.reduceEq, splice, Nat.reduceEqDiff, Nat.reduceLT, isAtom, Int.reduceSub, Int.reduceMul, implies_true]
  · by_cases h : 0 ≤ n
    · simp (contextual := true) (implicitDefEqProofs := false) (maxSteps := 2000000) (disch := first | rfl | exact NB rfl | omega | (simp only [XL]; omega)) only [L48, numB, h, XW, undef_eq, Nat.reduceAdd, Nat.reduceSub, ↓reduceIte, basic, cellsL, resOf, setAt, below, belowB, belowA, atomB, Nat.reduceLeDiff, Nat.reduceMul, Int.reduceToNat, Int.reduceLT, Int.reduceLE, Int.reduceAdd, Int.reduceNeg, Int.reduceEq, splice, Nat.reduceEqDiff, Nat.reduceLT, isAtom, Int.reduceSub, Int.reduceMul, implies_true]
    · simp (contextual := true) (implicitDefEqProofs := false) (maxSteps := 2000000) (disch := first | rfl | exact NB rfl | omega | (simp only [XL]; omega)) only [L48, numB, h, false_and, XW, undef_eq, Nat.reduceAdd, Nat.reduceSub, ↓reduceIte, basic, cellsL, resOf, setAt, below, belowB, belowA, atomB, Nat.reduceLeDiff, Nat.reduceMul, Int.reduceToNat, Int.reduceLT, Int.reduceLE, Int.reduceAdd, Int.reduceNeg, Int.reduceEq, splice, Nat.reduceEqDiff, Nat.reduceLT, isAtom, Int.reduceSub, Int.reduceMul, implies_true]
theorem ctlright_spec (k r s : Int) (p w : Bool) (m : Mem) : Ret Tryd.prog 31 [ctlV k r s p, .bool w] m (.bool (rightC k r s w)) m := by
  refine LCall_drop (LCall_enter Tryd.func31 c31 ?_)
  simp (contextual := true) (implicitDefEqProofs := false) (maxSteps := 2000000) (disch := first | rfl | exact NB rfl | omega | (simp only [XL]; omega)) only [L31, XW, undef_eq, Nat.reduceAdd, Nat.reduceSub, ↓reduceIte, basic, cellsL, resOf, setAt, below, belowB, belowA, atomB, Nat.reduceLeDiff, Nat.reduceMul, Int.reduceToNat, Int.reduceLT, Int.reduceLE, Int.reduceAdd, Int.reduceNeg, Int.reduceEq, splice, Nat.reduceEqDiff, Nat.reduceLT, isAtom, Int.reduceSub, Int.reduceMul, implies_true]
  refine (mod_spec _ _).use ?_
  simp (contextual := true) (implicitDefEqProofs := false) (maxSteps := 2000000) (disch := first | rfl | exact NB rfl | omega | (simp only [XL]; omega)) only [XW, undef_eq, Nat.reduceAdd, Nat.reduceSub, ↓reduceIte, basic, cellsL, resOf, setAt, below, belowB, belowA, atomB, Nat.reduceLeDiff, Nat.reduceMul, Int.reduceToNat, Int.reduceLT, Int.reduceLE, Int.reduceAdd, Int.reduceNeg, Int.reduceEq, splice, Nat.reduceEqDiff, Nat.reduceLT, isAtom, Int.reduceSub, Int.reduceMul, implies_true]
  refine (name_spec _ _).use ?_
  have hne : (nameS k = ⟨#[]⟩) = ¬ (1 ≤ k ∧ k ≤ 14) := propext name_empty
  by_cases hk : 1 ≤ k ∧ k ≤ 14
  · simp (contextual := true) (implicitDefEqProofs := false) (maxSteps := 2000000) (disch := first | rfl | exact NB rfl | omega | (simp only [XL]; omega)) only [hne, hk, not_true_eq_false, XW, undef_eq, Nat.reduceAdd, Nat.reduceSub, ↓reduceIte, basic, cellsL, resOf, setAt, below, belowB, belowA, atomB, Nat.reduceLeDiff, Nat.reduceMul, Int.reduceToNat, Int.reduceLT, Int.reduceLE, Int.reduceAdd, Int.reduceNeg, Int.reduceEq, splice, Nat.reduceEqDiff, Nat.reduceLT, isAtom, Int.reduceSub, Int.reduceMul, implies_true]
    refine (num_spec _ _ _ _).use ?_
    cases hs : numB s (decide (k = 1)) (m8 w)
    · simp (contextual := true) (implicitDefEqProofs := false) (maxSteps := 2000000) (disch := first | rfl | exact NB rfl | omega | (simp only [XL]; omega)) only [XW, undef_eq, Nat.reduceAdd, Nat.reduceSub, ↓reduceIte, basic, cellsL, resOf, setAt, below, belowB, belowA, atomB, Nat.reduceLeDiff, Nat.reduceMul, Int.reduceToNat, Int.reduceLT, Int.reduceLE, Int.reduceAdd, Int.reduceNeg, Int.reduceEq, splice, Nat.reduceEqDiff, Nat.reduceLT, isAtom, Int.reduceSub, Int.reduceMul, implies_true]
      simp [rightC, hs]
    · by_cases h1 : k = 1
      · subst h1
        simp (contextual := true) (implicitDefEqProofs := false) (maxSteps := 2000000) (disch := first | rfl | exact NB rfl | omega | (simp only [XL]; omega)) only [XW, undef_eq, Nat.reduceAdd, Nat.reduceSub, ↓reduceIte, basic, cellsL, resOf, setAt, below, belowB, belowA, atomB, Nat.reduceLeDiff, Nat.reduceMul, Int.reduceToNat, Int.reduceLT, Int.reduceLE, Int.reduceAdd, Int.reduceNeg, Int.reduceEq, splice, Nat.reduceEqDiff, Nat.reduceLT, isAtom, Int.reduceSub, Int.reduceMul, implies_true]
        refine (num_spec _ _ _ _).use ?_
        simp (contextual := true) (implicitDefEqProofs := false) (maxSteps := 2000000) (disch := first | rfl | exact NB rfl | omega | (simp only [XL]; omega)) only [XW, undef_eq, Nat.reduceAdd, Nat.reduceSub, ↓reduceIte, basic, cellsL, resOf, setAt, below, belowB, belowA, atomB, Nat.reduceLeDiff, Nat.reduceMul, Int.reduceToNat, Int.reduceLT, Int.reduceLE, Int.reduceAdd, Int.reduceNeg, Int.reduceEq, splice, Nat.reduceEqDiff, Nat.reduceLT, isAtom, Int.reduceSub, Int.reduceMul, implies_true]
        have hs' : numB s true (m8 w) = true := hs
        simp [rightC, hs']
      · simp (contextual := true) (implicitDefEqProofs := false) (maxSteps := 2000000) (disch := first | rfl | exact NB rfl | omega | (simp only [XL]; omega)) only [h1, XW, undef_eq, Nat.reduceAdd, Nat.reduceSub, ↓reduceIte, basic, cellsL, resOf, setAt, below, belowB, belowA, atomB, Nat.reduceLeDiff, Nat.reduceMul, Int.reduceToNat, Int.reduceLT, Int.reduceLE, Int.reduceAdd, Int.reduceNeg, Int.reduceEq, splice, Nat.reduceEqDiff, Nat.reduceLT, isAtom, Int.reduceSub, Int.reduceMul, implies_true]
        refine (sup_spec _ _).use ?_
        simp (contextual := true) (implicitDefEqProofs := false) (maxSteps := 2000000) (disch := first | rfl | exact NB rfl | omega | (simp only [XL]; omega)) only [XW, undef_eq, Nat.reduceAdd, Nat.reduceSub, ↓reduceIte, basic, cellsL, resOf, setAt, below, belowB, belowA, atomB, Nat.reduceLeDiff, Nat.reduceMul, Int.reduceToNat, Int.reduceLT, Int.reduceLE, Int.reduceAdd, Int.reduceNeg, Int.reduceEq, splice, Nat.reduceEqDiff, Nat.reduceLT, isAtom, Int.reduceSub, Int.reduceMul, implies_true]
        refine (num_spec _ _ _ _).use ?_
        have e : supB k = decide (k ≤ 5) := by
          unfold supB
          by_cases h5 : k ≤ 5
          · rw [decide_eq_true h5, decide_eq_true (by omega)]
          · rw [decide_eq_false h5, decide_eq_false (by omega)]
        rw [e]
        simp (contextual := true) (implicitDefEqProofs := false) (maxSteps := 2000000) (disch := first | rfl | exact NB rfl | omega | (simp only [XL]; omega)) only [XW, undef_eq, Nat.reduceAdd, Nat.reduceSub, ↓reduceIte, basic, cellsL, resOf, setAt, below, belowB, belowA, atomB, Nat.reduceLeDiff, Nat.reduceMul, Int.reduceToNat, Int.reduceLT, Int.reduceLE, Int.reduceAdd, Int.reduceNeg, Int.reduceEq, splice, Nat.reduceEqDiff, Nat.reduceLT, isAtom, Int.reduceSub, Int.reduceMul, implies_true]
        simp [rightC, hs, hk]
  · simp (contextual := true) (implicitDefEqProofs := false) (maxSteps := 2000000) (disch := first | rfl | exact NB rfl | omega | (simp only [XL]; omega)) only [hne, hk, not_false_eq_true, XW, undef_eq, Nat.reduceAdd, Nat.reduceSub, ↓reduceIte, basic, cellsL, resOf, setAt, below, belowB, belowA, atomB, Nat.reduceLeDiff, Nat.reduceMul, Int.reduceToNat, Int.reduceLT, Int.reduceLE, Int.reduceAdd, Int.reduceNeg, Int.reduceEq, splice, Nat.reduceEqDiff, Nat.reduceLT, isAtom, Int.reduceSub, Int.reduceMul, implies_true]
    simp [rightC, hk]
theorem bases_spec (m : Mem) : Ret Tryd.prog 35 [] m (.agg #[.int .i64 47, .int .i64 111, .int .i64 67, .int .i64 15, .int .i64 99, .int .i64 135, .int .i64 3, .int .i64 175, .int .i64 227]) m :=
  run_alone tab_ok (n := 100) (d := 20) (by kernel_rfl) rfl rfl m
theorem mark_spec (p : Bool) (v : Int) (m : Mem) : Ret Tryd.prog 36 [.bool p, .int .i64 v] m (.int .i64 (if p = true then v else 0)) m := by
  refine LCall_drop (LCall_enter Tryd.func36 c36 ?_)
  cases p <;> simp (contextual := true) (implicitDefEqProofs := false) (maxSteps := 2000000) (disch := first | rfl | exact NB rfl | omega | (simp only [XL]; omega)) only [L36, XW, undef_eq, Nat.reduceAdd, Nat.reduceSub, ↓reduceIte, basic, cellsL, resOf, setAt, below, belowB, belowA, atomB, Nat.reduceLeDiff, Nat.reduceMul, Int.reduceToNat, Int.reduceLT, Int.reduceLE, Int.reduceAdd, Int.reduceNeg, Int.reduceEq, splice, Nat.reduceEqDiff, Nat.reduceLT, isAtom, Int.reduceSub, Int.reduceMul, implies_true]
theorem first_spec (k r s : Int) (p : Bool) (hk : 1 ≤ k ∧ k ≤ 5) (hs : 0 ≤ s ∧ s < 128) (m : Mem) : Ret Tryd.prog 37 [ctlV k r s p] m (.int .i64 (firstC k s)) m := by
  refine LCall_drop (LCall_enter Tryd.func37 c37 ?_)
  by_cases h : k = 1
  · subst h
    have hc : s * 2 = 2 * s := by omega
    simp (contextual := true) (implicitDefEqProofs := false) (maxSteps := 2000000) (disch := first | rfl | exact NB rfl | omega | (simp only [XL]; omega)) only [L37, firstC, hc, XW, undef_eq, Nat.reduceAdd, Nat.reduceSub, ↓reduceIte, basic, cellsL, resOf, setAt, below, belowB, belowA, atomB, Nat.reduceLeDiff, Nat.reduceMul, Int.reduceToNat, Int.reduceLT, Int.reduceLE, Int.reduceAdd, Int.reduceNeg, Int.reduceEq, splice, Nat.reduceEqDiff, Nat.reduceLT, isAtom, Int.reduceSub, Int.reduceMul, implies_true]
  · simp (contextual := true) (implicitDefEqProofs := false) (maxSteps := 2000000) (disch := first | rfl | exact NB rfl | omega | (simp only [XL]; omega)) only [L37, firstC, h, XW, undef_eq, Nat.reduceAdd, Nat.reduceSub, ↓reduceIte, basic, cellsL, resOf, setAt, below, belowB, belowA, atomB, Nat.reduceLeDiff, Nat.reduceMul, Int.reduceToNat, Int.reduceLT, Int.reduceLE, Int.reduceAdd, Int.reduceNeg, Int.reduceEq, splice, Nat.reduceEqDiff, Nat.reduceLT, isAtom, Int.reduceSub, Int.reduceMul, implies_true]
theorem wrap_u8i {e : Int} (h0 : 0 ≤ e) (h1 : e < 256) : IntKind.u8.wrap e = e := by
  simp [IntKind.wrap, IntKind.bits, IntKind.signed]; omega
theorem byL1 (e : Int) : bytesL [.int .u8 e] = some [UInt8.ofNat e.toNat] := rfl
theorem byL2 (e f : Int) : bytesL [.int .u8 e, .int .u8 f] = some [UInt8.ofNat e.toNat, UInt8.ofNat f.toNat] := rfl
theorem ctlput_spec (k r s : Int) (p w : Bool) (m : Mem) : Ret Tryd.prog 16 [ctlV k r s p, .bool w] m
    (.tuple #[.string (if rightC k r s w = true then strOf (putL8 k r s p w) else ⟨#[]⟩), .int .i64 (if rightC k r s w = true then 0 else 1)]) m := by
  refine LCall_drop (LCall_enter Tryd.func16 c16 ?_)
  simp (contextual := true) (implicitDefEqProofs := false) (maxSteps := 2000000) (disch := first | rfl | exact NB rfl | omega | (simp only [XL]; omega)) only [L16, XW, undef_eq, Nat.reduceAdd, Nat.reduceSub, ↓reduceIte, basic, cellsL, resOf, setAt, below, belowB, belowA, atomB, Nat.reduceLeDiff, Nat.reduceMul, Int.reduceToNat, Int.reduceLT, Int.reduceLE, Int.reduceAdd, Int.reduceNeg, Int.reduceEq, splice, Nat.reduceEqDiff, Nat.reduceLT, isAtom, Int.reduceSub, Int.reduceMul, implies_true]
  refine (ctlright_spec _ _ _ _ _ _).use ?_
  cases hr : rightC k r s w
  · simp (contextual := true) (implicitDefEqProofs := false) (maxSteps := 2000000) (disch := first | rfl | exact NB rfl | omega | (simp only [XL]; omega)) only [XW, undef_eq, Nat.reduceAdd, Nat.reduceSub, ↓reduceIte, basic, cellsL, resOf, setAt, below, belowB, belowA, atomB, Nat.reduceLeDiff, Nat.reduceMul, Int.reduceToNat, Int.reduceLT, Int.reduceLE, Int.reduceAdd, Int.reduceNeg, Int.reduceEq, splice, Nat.reduceEqDiff, Nat.reduceLT, isAtom, Int.reduceSub, Int.reduceMul, implies_true]
  obtain ⟨hk, hs, hrr, hk1, hk5⟩ := right_of hr
  have hm : m8 w ≤ 128 := by cases w <;> decide
  by_cases h6 : 6 ≤ k
  · have hputs : putL8 k r s p w = [baseL.getD (k - 6).toNat 0 + sixt p] := if_pos h6
    rw [hputs]
    simp (contextual := true) (implicitDefEqProofs := false) (maxSteps := 2000000) (disch := first | rfl | exact NB rfl | omega | (simp only [XL]; omega)) only [h6, XW, undef_eq, Nat.reduceAdd, Nat.reduceSub, ↓reduceIte, basic, cellsL, resOf, setAt, below, belowB, belowA, atomB, Nat.reduceLeDiff, Nat.reduceMul, Int.reduceToNat, Int.reduceLT, Int.reduceLE, Int.reduceAdd, Int.reduceNeg, Int.reduceEq, splice, Nat.reduceEqDiff, Nat.reduceLT, isAtom, Int.reduceSub, Int.reduceMul, implies_true]
    refine (bases_spec _).use ?_
    rcases nine_cases h6 hk.2 with rfl | rfl | rfl | rfl | rfl | rfl | rfl | rfl | rfl <;>
    · simp (contextual := true) (implicitDefEqProofs := false) (maxSteps := 2000000) (disch := first | rfl | exact NB rfl | omega | (simp only [XL]; omega)) only [XW, undef_eq, Nat.reduceAdd, Nat.reduceSub, ↓reduceIte, basic, cellsL, resOf, setAt, below, belowB, belowA, atomB, Nat.reduceLeDiff, Nat.reduceMul, Int.reduceToNat, Int.reduceLT, Int.reduceLE, Int.reduceAdd, Int.reduceNeg, Int.reduceEq, splice, Nat.reduceEqDiff, Nat.reduceLT, isAtom, Int.reduceSub, Int.reduceMul, implies_true]
      refine (mark_spec _ _ _).use ?_
      cases p <;> simp (contextual := true) (implicitDefEqProofs := false) (maxSteps := 2000000) (disch := first | rfl | exact NB rfl | omega | (simp only [XL]; omega)) only [byL1, wrap_u8i, XW, undef_eq, Nat.reduceAdd, Nat.reduceSub, ↓reduceIte, basic, cellsL, resOf, setAt, below, belowB, belowA, atomB, Nat.reduceLeDiff, Nat.reduceMul, Int.reduceToNat, Int.reduceLT, Int.reduceLE, Int.reduceAdd, Int.reduceNeg, Int.reduceEq, splice, Nat.reduceEqDiff, Nat.reduceLT, isAtom, Int.reduceSub, Int.reduceMul, implies_true] <;> rfl
  · have hf : 0 ≤ firstC k s ∧ firstC k s ≤ 255 := by
      unfold firstC; split <;> omega
    have hp16 : sixt p = if p = true then 16 else 0 := rfl
    have hp1 : onee p = if p = true then 1 else 0 := rfl
    cases w
    · have hputs : putL8 k r s p false = [32 * r + sixt p + firstC k s] := by
        unfold putL8; rw [if_neg h6, if_neg (by decide)]
      rw [hputs]
      have hf2 : firstC k s ≤ 15 := by
        rw [m8_f] at hs
        unfold firstC; split <;> omega
      rw [m8_f] at hrr
      simp (contextual := true) (implicitDefEqProofs := false) (maxSteps := 2000000) (disch := first | rfl | exact NB rfl | omega | (simp only [XL]; omega)) only [h6, XW, undef_eq, Nat.reduceAdd, Nat.reduceSub, ↓reduceIte, basic, cellsL, resOf, setAt, below, belowB, belowA, atomB, Nat.reduceLeDiff, Nat.reduceMul, Int.reduceToNat, Int.reduceLT, Int.reduceLE, Int.reduceAdd, Int.reduceNeg, Int.reduceEq, splice, Nat.reduceEqDiff, Nat.reduceLT, isAtom, Int.reduceSub, Int.reduceMul, implies_true]
      refine (mark_spec _ _ _).use ?_
      rw [← hp16]
      have h16 : 0 ≤ sixt p ∧ sixt p ≤ 16 := by cases p <;> decide
      simp (contextual := true) (implicitDefEqProofs := false) (maxSteps := 2000000) (disch := first | rfl | exact NB rfl | omega | (simp only [XL]; omega)) only [XW, undef_eq, Nat.reduceAdd, Nat.reduceSub, ↓reduceIte, basic, cellsL, resOf, setAt, below, belowB, belowA, atomB, Nat.reduceLeDiff, Nat.reduceMul, Int.reduceToNat, Int.reduceLT, Int.reduceLE, Int.reduceAdd, Int.reduceNeg, Int.reduceEq, splice, Nat.reduceEqDiff, Nat.reduceLT, isAtom, Int.reduceSub, Int.reduceMul, implies_true]
      refine (first_spec k r s p (by omega) (by omega) _).use ?_
      have hcomm : r * 32 = 32 * r := by omega
      simp (contextual := true) (implicitDefEqProofs := false) (maxSteps := 2000000) (disch := first | rfl | exact NB rfl | omega | (simp only [XL]; omega)) only [byL1, wrap_u8i, hcomm, XW, undef_eq, Nat.reduceAdd, Nat.reduceSub, ↓reduceIte, basic, cellsL, resOf, setAt, below, belowB, belowA, atomB, Nat.reduceLeDiff, Nat.reduceMul, Int.reduceToNat, Int.reduceLT, Int.reduceLE, Int.reduceAdd, Int.reduceNeg, Int.reduceEq, splice, Nat.reduceEqDiff, Nat.reduceLT, isAtom, Int.reduceSub, Int.reduceMul, implies_true]
      rfl
    · have hputs : putL8 k r s p true = [firstC k s, 2 * r + onee p] := by
        unfold putL8; rw [if_neg h6, if_pos rfl]
      rw [hputs]
      simp (contextual := true) (implicitDefEqProofs := false) (maxSteps := 2000000) (disch := first | rfl | exact NB rfl | omega | (simp only [XL]; omega)) only [h6, XW, undef_eq, Nat.reduceAdd, Nat.reduceSub, ↓reduceIte, basic, cellsL, resOf, setAt, below, belowB, belowA, atomB, Nat.reduceLeDiff, Nat.reduceMul, Int.reduceToNat, Int.reduceLT, Int.reduceLE, Int.reduceAdd, Int.reduceNeg, Int.reduceEq, splice, Nat.reduceEqDiff, Nat.reduceLT, isAtom, Int.reduceSub, Int.reduceMul, implies_true]
      refine (first_spec k r s p (by omega) (by omega) _).use ?_
      simp (contextual := true) (implicitDefEqProofs := false) (maxSteps := 2000000) (disch := first | rfl | exact NB rfl | omega | (simp only [XL]; omega)) only [XW, undef_eq, Nat.reduceAdd, Nat.reduceSub, ↓reduceIte, basic, cellsL, resOf, setAt, below, belowB, belowA, atomB, Nat.reduceLeDiff, Nat.reduceMul, Int.reduceToNat, Int.reduceLT, Int.reduceLE, Int.reduceAdd, Int.reduceNeg, Int.reduceEq, splice, Nat.reduceEqDiff, Nat.reduceLT, isAtom, Int.reduceSub, Int.reduceMul, implies_true]
      refine (mark_spec _ _ _).use ?_
      rw [← hp1]
      have h16 : 0 ≤ onee p ∧ onee p ≤ 1 := by cases p <;> decide
      rw [m8_t] at hrr
      have hcomm : r * 2 = 2 * r := by omega
      simp (contextual := true) (implicitDefEqProofs := false) (maxSteps := 2000000) (disch := first | rfl | exact NB rfl | omega | (simp only [XL]; omega)) only [byL2, wrap_u8i, hcomm, XW, undef_eq, Nat.reduceAdd, Nat.reduceSub, ↓reduceIte, basic, cellsL, resOf, setAt, below, belowB, belowA, atomB, Nat.reduceLeDiff, Nat.reduceMul, Int.reduceToNat, Int.reduceLT, Int.reduceLE, Int.reduceAdd, Int.reduceNeg, Int.reduceEq, splice, Nat.reduceEqDiff, Nat.reduceLT, isAtom, Int.reduceSub, Int.reduceMul, implies_true]
      rfl
end Go.Proofs.YtijndljfpiomhaaDoor.K
/- The document's example; the law of a list that is not there: walked. -/
namespace Go.Proofs.YtijndljfpiomhaaDoor
open Go.Lg
set_option maxRecDepth 8000
set_option maxHeartbeats 8000000
def Ct.bytes (c : Ct) (w : Bool) : List UInt8 := K.strL (K.putL8 c.k c.ns c.nr c.pf w)
def Ct.right (c : Ct) (w : Bool) : Bool := K.rightC c.k c.ns c.nr w
def cA : Cl := ⟨[65], 0⟩
def cB : Cl := ⟨[66], 0⟩
def ctU : Ct := ⟨10, 0, 0, false⟩
def hfB (f t : Cl) : List UInt8 := encF [⟨t.b, t.s, true⟩, ⟨f.b, f.s, false⟩] (ctU.bytes false) (K.pidB 10) 0 []
theorem bytes_len (c : Ct) (w : Bool) : (c.bytes w).length ≤ 2 := by
  unfold Ct.bytes; rw [K.strL_len]; unfold K.putL8; split
  · simp
  · split <;> simp
theorem ctl_put {c : Ct} {w : Bool} (hc : c.right w = true) (m : Mem) : Ret Tryd.prog 16 [c.val, .bool w] m (.tuple #[str (c.bytes w), .int .i64 0]) m := by
  have := K.ctlput_spec c.k c.ns c.nr c.pf w m
  have hc' : K.rightC c.k c.ns c.nr w = true := hc
  rw [hc'] at this
  exact this
theorem ctU_right : ctU.right false = true := by decide +kernel
theorem wrong_ctU {rp : Bool} (h : rp = true) : wrongE rp (K.rightC 10 0 0 false) (K.pidB 10) (K.infoB 10) 0 [] = 0 := by subst h; decide +kernel
theorem hfB_len {f t : Cl} : (hfB f t).length ≤ 100 := by
  unfold hfB encF
  have := bytes_len ctU false
  rw [List.length_append, List.length_append, List.length_append, putE_len]
  split <;> simp <;> omega
theorem rd_nil {sz : Nat} {m : Mem} : Rd m sz (.slice none 0 0) [] := ⟨none, rfl, fun h => by simp at h⟩
theorem new_spec (m : Mem) : LCall Tryd.prog 6 [] m fun v M => v = .pointer (some ⟨m.length, 0, none⟩) ∧ M = m ++ [⟨[.slice none 0 0], 51, 1, 0, .own⟩] := by
  refine LCall_enter Tryd.func6 c6 ?_
  simp (contextual := true) (implicitDefEqProofs := false) (maxSteps := 2000000) (disch := first | rfl | exact NB rfl | omega | (simp only [XL]; omega)) only [L6, XW, undef_eq, Nat.reduceAdd, Nat.reduceSub, ↓reduceIte, basic, cellsL, resOf, setAt, below, belowB, belowA, atomB, Nat.reduceLeDiff, Nat.reduceMul, Int.reduceToNat, Int.reduceLT, Int.reduceLE, Int.reduceAdd, Int.reduceNeg, Int.reduceEq, splice, Nat.reduceEqDiff, Nat.reduceLT, isAtom, Int.reduceSub, Int.reduceMul, implies_true]
theorem enc_spec {f t : Cl} {sv : Value} {m : Mem} (h : RdN m 3 sv (([] : List En).map En.row)) (hr : rightP t.b t.s f.b f.s [] = true) :
    Ret Tryd.prog 8 [frameV t.b t.s f.b f.s true false sv ctU 0 [], .bool false] m (.tuple #[str (hfB f t), .int .i64 0]) m :=
  encode_spec (tb := t.b) (ts := t.s) (fb := f.b) (fs := f.s) (tm := true) (fm := false) (l := []) (c := ctU) (pid := 0) (info := []) (wide := false) h
    (fun m => K.ctlright_spec 10 0 0 false false m) (fun m => K.pid_spec 10 m) (fun m => K.info_spec 10 m) (fun m => ctl_put (c := ctU) (w := false) ctU_right m) (Nat.le_trans (bytes_len _ _) (by decide)) (wrong_ctU hr)
theorem ex_get : getP (hfB cA cB) 11 [] = (0, [⟨[66], 0, true⟩, ⟨[65], 0, false⟩]) := by
  have h : (getP (hfB cA cB) 11 []).1 = 0 ∧ (getP (hfB cA cB) 11 []).2.map (fun e => (e.b, e.s, e.k)) = [([66], 0, true), ([65], 0, false)] := by decide +kernel
  refine Prod.ext h.1 ?_
  have h2 := congrArg (List.map fun x : List UInt8 × Int × Bool => (⟨x.1, x.2.1, x.2.2⟩ : En)) h.2
  rw [List.map_map] at h2
  exact (List.map_id _).symm.trans h2
theorem ex_right : rightP [66] 0 [65] 0 [] = true := by decide +kernel
def exL1 : List He := hearL cA (viaL []) 1 []
def exL2 : List He := hearL cA (viaL []) 2 exL1
theorem exL1_eq : exL1 = [⟨cA, ⟨[], 0⟩, 1, 1⟩] := by rfl
theorem exL2_eq : exL2 = [⟨cA, ⟨[], 0⟩, 2, 2⟩] := by rfl
theorem awake_spec (m : Mem) : Ret Tryd.prog 5 [] m (.bool true) m := by
  refine LCall_drop (LCall_enter Tryd.func5 c5 ?_)
  simp (contextual := true) (implicitDefEqProofs := false) (maxSteps := 2000000) (disch := first | rfl | exact NB rfl | omega | (simp only [XL]; omega)) only [L5, XW, undef_eq, Nat.reduceAdd, Nat.reduceSub, ↓reduceIte, basic, cellsL, resOf, setAt, below, belowB, belowA, atomB, Nat.reduceLeDiff, Nat.reduceMul, Int.reduceToNat, Int.reduceLT, Int.reduceLE, Int.reduceAdd, Int.reduceNeg, Int.reduceEq, splice, Nat.reduceEqDiff, Nat.reduceLT, isAtom, Int.reduceSub, Int.reduceMul, implies_true]
  refine (via_spec (fb := [65]) (fs := 0) (tb := [66]) (ts := 0) (cm := true) (cs := []) (by decide) (by decide) (by simp) rd_nil (by decide)).mono ?_
  rintro v M1 ⟨hf1, hv⟩
  have hri : rightP [66] 0 [65] 0 (([] : List Cl).map Cl.en) = true := ex_right
  rw [if_pos hri] at hv
  obtain ⟨sv, F, rfl, hs1, hF⟩ := hv
  obtain ⟨sa, rfl, _⟩ := hs1.form
  simp (contextual := true) (implicitDefEqProofs := false) (maxSteps := 2000000) (disch := first | rfl | exact NB rfl | omega | (simp only [XL]; omega)) only [XW, undef_eq, Nat.reduceAdd, Nat.reduceSub, ↓reduceIte, basic, cellsL, resOf, setAt, below, belowB, belowA, atomB, Nat.reduceLeDiff, Nat.reduceMul, Int.reduceToNat, Int.reduceLT, Int.reduceLE, Int.reduceAdd, Int.reduceNeg, Int.reduceEq, splice, Nat.reduceEqDiff, Nat.reduceLT, isAtom, Int.reduceSub, Int.reduceMul, implies_true]
  obtain ⟨M2, hM2, hM2l, hf2⟩ : ∃ N, M1 ++ [⟨[str [66], .int .i64 0, str [65], .int .i64 0, .bool true, .bool false, .slice sa 0 0], 30, 1, 0, .own⟩] = N ∧ N.length = M1.length + 1 ∧ Frm [] M1 N := ⟨_, rfl, by simp, Frm.refl.app⟩
  rw [hM2]
  have hs2 := hs1.frm0 hf2
  have henc := enc_spec (f := cA) (t := cB) (m := M2) (Sl.rdn hs2) ex_right
  have henc' : Ret Tryd.prog 8 [frameV [66] 0 [65] 0 true false (.slice sa 0 0) ctU 0 [], .bool false] M2 (.tuple #[str (hfB cA cB), .int .i64 0]) M2 := henc
  refine henc'.use ?_
  simp (contextual := true) (implicitDefEqProofs := false) (maxSteps := 2000000) (disch := first | rfl | exact NB rfl | omega | (simp only [XL]; omega)) only [XW, undef_eq, Nat.reduceAdd, Nat.reduceSub, ↓reduceIte, basic, cellsL, resOf, setAt, below, belowB, belowA, atomB, Nat.reduceLeDiff, Nat.reduceMul, Int.reduceToNat, Int.reduceLT, Int.reduceLE, Int.reduceAdd, Int.reduceNeg, Int.reduceEq, splice, Nat.reduceEqDiff, Nat.reduceLT, isAtom, Int.reduceSub, Int.reduceMul, implies_true]
  refine (new_spec M2).mono ?_
  rintro v M3 ⟨rfl, rfl⟩
  simp (contextual := true) (implicitDefEqProofs := false) (maxSteps := 2000000) (disch := first | rfl | exact NB rfl | omega | (simp only [XL]; omega)) only [XW, undef_eq, Nat.reduceAdd, Nat.reduceSub, ↓reduceIte, basic, cellsL, resOf, setAt, below, belowB, belowA, atomB, Nat.reduceLeDiff, Nat.reduceMul, Int.reduceToNat, Int.reduceLT, Int.reduceLE, Int.reduceAdd, Int.reduceNeg, Int.reduceEq, splice, Nat.reduceEqDiff, Nat.reduceLT, isAtom, Int.reduceSub, Int.reduceMul, implies_true]
  have hd3 : (M2 ++ [⟨[.slice none 0 0], 51, 1, 0, .own⟩] : Mem)[M2.length]? = some ⟨[.slice none 0 0], 51, 1, 0, .own⟩ := by simp
  have hf03 : Frm [] m (M2 ++ [⟨[.slice none 0 0], 51, 1, 0, .own⟩]) := (hf1.nil_trans hf2).app
  have hlen := (hf1.nil_trans hf2).len
  refine (hear_spec (l := []) (F := []) (now := 1) hd3 .nil (by simp) (by simp) (Nat.le_trans hfB_len (by decide)) (fun _ _ _ _ => ins_none)).mono ?_
  rintro v M4 hv
  rw [ex_get, if_pos rfl] at hv
  obtain ⟨x, y, r, hxy, rfl, hf4, sv4, G4, hd4, hs4, hdG4, hG4⟩ := hv
  simp at hxy
  obtain ⟨rfl, rfl, rfl⟩ := hxy
  have hs4' : Sl M4 42 6 sv4 G4 (exL1.map He.row) := hs4
  simp (contextual := true) (implicitDefEqProofs := false) (maxSteps := 2000000) (disch := first | rfl | exact NB rfl | omega | (simp only [XL]; omega)) only [XW, undef_eq, Nat.reduceAdd, Nat.reduceSub, ↓reduceIte, basic, cellsL, resOf, setAt, below, belowB, belowA, atomB, Nat.reduceLeDiff, Nat.reduceMul, Int.reduceToNat, Int.reduceLT, Int.reduceLE, Int.reduceAdd, Int.reduceNeg, Int.reduceEq, splice, Nat.reduceEqDiff, Nat.reduceLT, isAtom, Int.reduceSub, Int.reduceMul, implies_true]
  refine (hear_spec (l := exL1) (F := G4) (now := 2) hd4 hs4' hdG4 (by rw [exL1_eq]; decide) (Nat.le_trans hfB_len (by decide)) (fun x y r h => by
    rw [ex_get] at h
    simp at h
    obtain ⟨rfl, rfl, rfl⟩ := h
    have : restH cA exL1 = [] := rfl
    show InsOK ((restH cA exL1).map He.row)
    rw [this]
    exact ins_none)).mono ?_
  rintro v M5 hv
  rw [ex_get, if_pos rfl] at hv
  obtain ⟨x, y, r, hxy, rfl, hf5, sv5, G5, hd5, hs5, hdG5, hG5⟩ := hv
  simp at hxy
  obtain ⟨rfl, rfl, rfl⟩ := hxy
  have hs5' : Sl M5 42 6 sv5 G5 (exL2.map He.row) := hs5
  simp (contextual := true) (implicitDefEqProofs := false) (maxSteps := 2000000) (disch := first | rfl | exact NB rfl | omega | (simp only [XL]; omega)) only [XW, undef_eq, Nat.reduceAdd, Nat.reduceSub, ↓reduceIte, basic, cellsL, resOf, setAt, below, belowB, belowA, atomB, Nat.reduceLeDiff, Nat.reduceMul, Int.reduceToNat, Int.reduceLT, Int.reduceLE, Int.reduceAdd, Int.reduceNeg, Int.reduceEq, splice, Nat.reduceEqDiff, Nat.reduceLT, isAtom, Int.reduceSub, Int.reduceMul, implies_true]
  refine (all_spec hd5 hs5' (by rw [exL2_eq]; decide)).mono ?_
  rintro v M6 ⟨hf6, G6, hs6, hG6⟩
  rw [exL2_eq] at hs6
  obtain ⟨ua, rfl, hform⟩ := hs6.form
  obtain ⟨b, o, cs, rfl, rfl, hb, hlb, _, hrow⟩ := hform (by simp)
  have hr : (cs.drop (o + 0 * 6)).take 6 = [str [65], .int .i64 0, str [], .int .i64 0, .int .i64 2, .int .i64 2] := hrow 0 _ rfl
  have hc4 := row_cell hr (j := 4) (by decide)
  have hc5 := row_cell hr (j := 5) (by decide)
  simp only [Nat.zero_mul, Nat.add_zero] at hc4 hc5
  have lb := lt_of_some hb
  have h04 : Frm [] m M4 := hf03.trans hf4 fun z hz => .inr (by simp at hz; omega)
  have h05 : Frm [] m M5 := h04.trans hf5 fun z hz => .inr (by
    rcases List.mem_cons.mp hz with h | h
    · omega
    · rcases hG4 z h with h | h
      · simp at h
      · have := hf03.len; omega)
  simp (contextual := true) (implicitDefEqProofs := false) (maxSteps := 2000000) (disch := first | rfl | exact NB rfl | omega | (simp only [XL]; omega)) only [hb, hc4, hc5, cellB_l (k := .own) rfl, XW, undef_eq, Nat.reduceAdd, Nat.reduceSub, ↓reduceIte, basic, cellsL, resOf, setAt, below, belowB, belowA, atomB, Nat.reduceLeDiff, Nat.reduceMul, Int.reduceToNat, Int.reduceLT, Int.reduceLE, Int.reduceAdd, Int.reduceNeg, Int.reduceEq, splice, Nat.reduceEqDiff, Nat.reduceLT, isAtom, Int.reduceSub, Int.reduceMul, implies_true]
  exact (h05.nil_trans hf6).ext0
theorem eqN_none : eqN [(0, .string), (1, .int), (2, .string), (3, .int), (4, .int), (5, .int)] (.agg #[str [], .int .i64 0, str [], .int .i64 0, .int .i64 0, .int .i64 0]) (.agg #[.string ⟨#[]⟩, .int .i64 0, .string ⟨#[]⟩, .int .i64 0, .int .i64 0, .int .i64 0]) = some true := by
  simp [eqN, eqLeaves, eqLeaf, str]
theorem none_law (s : List UInt8) (c : Cl) (m : Mem) : LCall Tryd.prog 4 [str s, cl c.b c.s] m fun v _ => v = .bool true := by
  refine LCall_enter Tryd.func4 c4 ?_
  simp (contextual := true) (implicitDefEqProofs := false) (maxSteps := 2000000) (disch := first | rfl | exact NB rfl | omega | (simp only [XL]; omega)) only [L4, XW, undef_eq, Nat.reduceAdd, Nat.reduceSub, ↓reduceIte, basic, cellsL, resOf, setAt, below, belowB, belowA, atomB, Nat.reduceLeDiff, Nat.reduceMul, Int.reduceToNat, Int.reduceLT, Int.reduceLE, Int.reduceAdd, Int.reduceNeg, Int.reduceEq, splice, Nat.reduceEqDiff, Nat.reduceLT, isAtom, Int.reduceSub, Int.reduceMul, implies_true]
  refine (awake_spec _).use ?_
  simp (contextual := true) (implicitDefEqProofs := false) (maxSteps := 2000000) (disch := first | rfl | exact NB rfl | omega | (simp only [XL]; omega)) only [bin_ladd, str_cut, str_app, str_eq, string_mk_size, string_mk, XW, undef_eq, Nat.reduceAdd, Nat.reduceSub, ↓reduceIte, basic, cellsL, resOf, setAt, below, belowB, belowA, atomB, Nat.reduceLeDiff, Nat.reduceMul, Int.reduceToNat, Int.reduceLT, Int.reduceLE, Int.reduceAdd, Int.reduceNeg, Int.reduceEq, splice, Nat.reduceEqDiff, Nat.reduceLT, isAtom, Int.reduceSub, Int.reduceMul, implies_true]
  by_cases h1 : 1000 < s.length
  · have h1' : ((1000 : Int) < (s.length : Int)) = True := eq_true (by omega)
    simp (contextual := true) (implicitDefEqProofs := false) (maxSteps := 2000000) (disch := first | rfl | exact NB rfl | omega | (simp only [XL]; omega)) only [h1', XW, undef_eq, Nat.reduceAdd, Nat.reduceSub, ↓reduceIte, basic, cellsL, resOf, setAt, below, belowB, belowA, atomB, Nat.reduceLeDiff, Nat.reduceMul, Int.reduceToNat, Int.reduceLT, Int.reduceLE, Int.reduceAdd, Int.reduceNeg, Int.reduceEq, splice, Nat.reduceEqDiff, Nat.reduceLT, isAtom, Int.reduceSub, Int.reduceMul, implies_true]
  · have h1' : ((1000 : Int) < (s.length : Int)) = False := eq_false (by omega)
    simp (contextual := true) (implicitDefEqProofs := false) (maxSteps := 2000000) (disch := first | rfl | exact NB rfl | omega | (simp only [XL]; omega)) only [h1', XW, undef_eq, Nat.reduceAdd, Nat.reduceSub, ↓reduceIte, basic, cellsL, resOf, setAt, below, belowB, belowA, atomB, Nat.reduceLeDiff, Nat.reduceMul, Int.reduceToNat, Int.reduceLT, Int.reduceLE, Int.reduceAdd, Int.reduceNeg, Int.reduceEq, splice, Nat.reduceEqDiff, Nat.reduceLT, isAtom, Int.reduceSub, Int.reduceMul, implies_true]
    refine (clear_nil _).mono ?_
    rintro _ _ rfl
    simp (contextual := true) (implicitDefEqProofs := false) (maxSteps := 2000000) (disch := first | rfl | exact NB rfl | omega | (simp only [XL]; omega)) only [XW, undef_eq, Nat.reduceAdd, Nat.reduceSub, ↓reduceIte, basic, cellsL, resOf, setAt, below, belowB, belowA, atomB, Nat.reduceLeDiff, Nat.reduceMul, Int.reduceToNat, Int.reduceLT, Int.reduceLE, Int.reduceAdd, Int.reduceNeg, Int.reduceEq, splice, Nat.reduceEqDiff, Nat.reduceLT, isAtom, Int.reduceSub, Int.reduceMul, implies_true]
    refine (find_nil c _).use ?_
    simp (contextual := true) (implicitDefEqProofs := false) (maxSteps := 2000000) (disch := first | rfl | exact NB rfl | omega | (simp only [XL]; omega)) only [XW, undef_eq, Nat.reduceAdd, Nat.reduceSub, ↓reduceIte, basic, cellsL, resOf, setAt, below, belowB, belowA, atomB, Nat.reduceLeDiff, Nat.reduceMul, Int.reduceToNat, Int.reduceLT, Int.reduceLE, Int.reduceAdd, Int.reduceNeg, Int.reduceEq, splice, Nat.reduceEqDiff, Nat.reduceLT, isAtom, Int.reduceSub, Int.reduceMul, implies_true]
    refine (hear_nil (s := s) (now := 1) (by omega)).mono ?_
    rintro _ M ⟨rfl, hf⟩
    have hb := hf.get0 (i := m.length + 1) (b := ⟨[str [], .int .i64 0, str [], .int .i64 0, .int .i64 0, .int .i64 0], 42, 1, 0, .own⟩) (by rw [List.getElem?_append_right (by omega)]; simp)
    have lb := lt_of_some hb
    simp (contextual := true) (implicitDefEqProofs := false) (maxSteps := 2000000) (disch := first | rfl | exact NB rfl | omega | (simp only [XL]; omega)) only [hb, XW, undef_eq, Nat.reduceAdd, Nat.reduceSub, ↓reduceIte, basic, cellsL, resOf, setAt, below, belowB, belowA, atomB, Nat.reduceLeDiff, Nat.reduceMul, Int.reduceToNat, Int.reduceLT, Int.reduceLE, Int.reduceAdd, Int.reduceNeg, Int.reduceEq, splice, Nat.reduceEqDiff, Nat.reduceLT, isAtom, Int.reduceSub, Int.reduceMul, implies_true]
    refine (all_nil _).use ?_
    simp (contextual := true) (implicitDefEqProofs := false) (maxSteps := 2000000) (disch := first | rfl | exact NB rfl | omega | (simp only [XL]; omega)) only [hb, eqN_none, XW, undef_eq, Nat.reduceAdd, Nat.reduceSub, ↓reduceIte, basic, cellsL, resOf, setAt, below, belowB, belowA, atomB, Nat.reduceLeDiff, Nat.reduceMul, Int.reduceToNat, Int.reduceLT, Int.reduceLE, Int.reduceAdd, Int.reduceNeg, Int.reduceEq, splice, Nat.reduceEqDiff, Nat.reduceLT, isAtom, Int.reduceSub, Int.reduceMul, implies_true]
theorem cl_of {m : Mem} {n : Nat} {v : Value} (h : TyV Tryd.prog m (n + 2) 27 v) : ∃ c : Cl, v = cl c.b c.s ∧ c.b.length ≤ 140737488355328 := by
  obtain ⟨_, rfl, x1, _, rfl, h1, x2, _, rfl, h2, rfl⟩ := h.struct Tryd.underlying27 rfl
  obtain ⟨s, rfl, hs⟩ := h1.text Tryd.underlying9
  obtain ⟨a, rfl, ha⟩ := h2.int Tryd.underlying3
  obtain ⟨l, rfl⟩ := str_is s
  rw [string_mk_size] at hs
  exact ⟨⟨l, a⟩, rfl, Nat.le_trans hs (by decide)⟩
theorem heardnone_all (m : Mem) (vs : List Value) (h : F2 (TyV Tryd.prog m 6) [9, 27] vs) : LCall Tryd.prog 4 vs m fun v _ => v = .bool true := by
  obtain ⟨u, v, rfl, h1, h2⟩ := h.two_inv
  obtain ⟨t, rfl, _⟩ := h1.string Tryd.underlying9
  obtain ⟨s, rfl⟩ := str_is t
  obtain ⟨c, rfl, _⟩ := cl_of h2
  exact none_law s c m
end Go.Proofs.YtijndljfpiomhaaDoor
