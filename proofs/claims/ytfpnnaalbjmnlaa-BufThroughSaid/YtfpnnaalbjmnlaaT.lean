/- Pieces, cut: walked. -/
import Derived.Test.YtfpnnaalbjmnlaaS
namespace Go.Proofs.Ytfpnnaalbjmnlaa
open Go.Lg
set_option maxRecDepth 8000
set_option maxHeartbeats 4000000
set_option linter.unusedSimpArgs false
set_option linter.unnecessarySimpa false
set_option linter.unusedVariables false

abbrev PP := Int × List UInt8
def prow (x : PP) : List Value := [.int .i64 x.1, str x.2]
/-- The bytes of a cut. -/
def chunk (all : List UInt8) (r i : Nat) : List UInt8 := (all.drop (i * r)).take r
def howMany (len r : Nat) : Nat := (len + r - 1) / r
def mark (n i : Nat) : Nat := n - 1 - i + if i = 0 then 128 else 0
def piece (all : List UInt8) (r n i : Nat) : PP := (8, UInt8.ofNat (mark n i) :: chunk all r i)
def splitL (pid n1 : Int) (text : List UInt8) : List PP × Int :=
  if ¬ (0 ≤ pid ∧ pid ≤ 255) ∨ ¬ (16 ≤ n1 ∧ n1 ≤ 256) then ([], 1)
  else if 600 < text.length then ([], 5)
  else if (text.length : Int) ≤ n1 ∧ pid ≠ 8 then ([(pid, text)], 0)
  else ((List.range (howMany (text.length + 1) (n1.toNat - 1))).map (piece (UInt8.ofNat pid.toNat :: text) (n1.toNat - 1) (howMany (text.length + 1) (n1.toNat - 1))), 0)

theorem many_lt {len r i : Nat} (hr : 0 < r) : i < howMany len r ↔ i * r < len := by
  unfold howMany
  rw [Nat.lt_iff_add_one_le, Nat.le_div_iff_mul_le hr, Nat.succ_mul]
  omega
theorem many_le {len r : Nat} (hr : 15 ≤ r) (hl : len ≤ 601) : howMany len r ≤ 41 := by
  unfold howMany
  rw [Nat.div_le_iff_le_mul_add_pred (by omega)]
  have : 15 * 41 ≤ r * 41 := Nat.mul_le_mul_right _ hr
  omega
theorem range_snoc {β : Type} (f : Nat → β) (k : Nat) : (List.range (k + 1)).map f = (List.range k).map f ++ [f k] := by
  rw [List.range_succ, List.map_append]; rfl
theorem or_128 {n : Nat} (h : n < 128) : binV .or (.int .i64 (n : Int)) (.int .i64 128) = some (.int .i64 ((n + 128 : Nat) : Int)) := by
  have : ∀ n : Fin 128, IntKind.i64.wrap ((BitVec.ofInt IntKind.i64.bits ((n.1 : Nat) : Int) ||| BitVec.ofInt IntKind.i64.bits 128).toNat : Int) = ((n.1 + 128 : Nat) : Int) := by decide +kernel
  rw [bin_or]
  exact congrArg (fun x => some (Value.int .i64 x)) (this ⟨n, h⟩)
theorem wrap_u8n {n : Nat} (h : n < 256) : IntKind.u8.wrap (n : Int) = n := by
  simp [IntKind.wrap, IntKind.bits, IntKind.signed]; omega

theorem split_spec (pid n1 : Int) (text : List UInt8) (hl : text.length ≤ 140737488355328) (m : Mem) :
    LCall Try.prog 23 [.int .i64 pid, str text, .int .i64 n1] m fun v M => ∃ sv G, v = .tuple #[sv, .int .i64 (splitL pid n1 text).2] ∧ Frm [] m M ∧ Sl M 36 2 sv G ((splitL pid n1 text).1.map prow) ∧ ∀ x ∈ G, m.length ≤ x := by
  refine LCall_enter Try.func23 c23 ?_
  simp (contextual := true) (implicitDefEqProofs := false) (maxSteps := 2000000) (disch := first | rfl | exact Nat.le_of_ble_eq_true rfl | omega | (simp only [List.length_append, List.length_cons, List.length_nil, List.length_set]; omega)) only [L23, W1, W2, W3, W4, W5, W6, W7, W8, W9, W10, W11, W12, W13, W14, W15, eq_self, ite_true, ite_false, undef_eq, List.set_cons_zero, List.set_cons_succ, List.getD_cons_zero, List.getD_cons_succ, List.map_cons, List.map_nil, List.length_cons, List.length_nil, List.append_nil, List.cons_append, List.nil_append, List.replicate_succ, List.replicate_zero, Nat.reduceAdd, Nat.reduceSub, ↓reduceIte, List.getElem?_cons_zero, List.getElem?_cons_succ, basic, cellsL, resOf, setAt, List.append_assoc, List.length_append, List.getElem?_append_left, List.getElem?_append_right, List.set_append_left, List.set_append_right, below, belowB, belowA, atomB, List.mem_cons, List.not_mem_nil, forall_eq_or_imp, forall_eq, List.toList_toArray, implies_true, List.take_succ_cons, List.take_zero, List.drop_succ_cons, List.drop_zero, List.take_nil, List.drop_nil, Nat.reduceLeDiff, Nat.reduceMul, Int.reduceToNat, Int.reduceLT, Int.reduceLE, Int.reduceAdd, Int.reduceNeg, Int.reduceEq, splice, List.singleton_append, Nat.reduceEqDiff, Nat.reduceLT, isAtom, List.all_cons, List.all_nil, Option.map_some, Option.bind_some, List.length_set, Int.reduceSub, Int.reduceMul, List.getElem?_set_self, List.getElem?_set_ne, ofB_2, tmpR_if, ro_sliceData, ro_capNil, ro_noZero, ext_2, ext_3, ext_4, ext_5, List.set_set]
  refine (in_spec _ _ _ _).use ?_
  unfold splitL
  by_cases h1 : 0 ≤ pid ∧ pid ≤ 255
  · rw [decide_eq_true h1]
    simp (contextual := true) (implicitDefEqProofs := false) (maxSteps := 2000000) (disch := first | rfl | exact Nat.le_of_ble_eq_true rfl | omega | (simp only [List.length_append, List.length_cons, List.length_nil, List.length_set]; omega)) only [W1, W2, W3, W4, W5, W6, W7, W8, W9, W10, W11, W12, W13, W14, W15, eq_self, ite_true, ite_false, undef_eq, List.set_cons_zero, List.set_cons_succ, List.getD_cons_zero, List.getD_cons_succ, List.map_cons, List.map_nil, List.length_cons, List.length_nil, List.append_nil, List.cons_append, List.nil_append, List.replicate_succ, List.replicate_zero, Nat.reduceAdd, Nat.reduceSub, ↓reduceIte, List.getElem?_cons_zero, List.getElem?_cons_succ, basic, cellsL, resOf, setAt, List.append_assoc, List.length_append, List.getElem?_append_left, List.getElem?_append_right, List.set_append_left, List.set_append_right, below, belowB, belowA, atomB, List.mem_cons, List.not_mem_nil, forall_eq_or_imp, forall_eq, List.toList_toArray, implies_true, List.take_succ_cons, List.take_zero, List.drop_succ_cons, List.drop_zero, List.take_nil, List.drop_nil, Nat.reduceLeDiff, Nat.reduceMul, Int.reduceToNat, Int.reduceLT, Int.reduceLE, Int.reduceAdd, Int.reduceNeg, Int.reduceEq, splice, List.singleton_append, Nat.reduceEqDiff, Nat.reduceLT, isAtom, List.all_cons, List.all_nil, Option.map_some, Option.bind_some, List.length_set, Int.reduceSub, Int.reduceMul, List.getElem?_set_self, List.getElem?_set_ne, ofB_2, tmpR_if, ro_sliceData, ro_capNil, ro_noZero, ext_2, ext_3, ext_4, ext_5, List.set_set]
    refine (in_spec _ _ _ _).use ?_
    by_cases h2 : 16 ≤ n1 ∧ n1 ≤ 256
    · rw [decide_eq_true h2, if_neg (by simp [h1, h2])]
      by_cases h3 : 600 < text.length
      · have h3' : ((600 : Int) < (text.length : Int)) = True := eq_true (by omega)
        rw [if_pos h3]
        simp (contextual := true) (implicitDefEqProofs := false) (maxSteps := 2000000) (disch := first | rfl | exact Nat.le_of_ble_eq_true rfl | omega | (simp only [List.length_append, List.length_cons, List.length_nil, List.length_set]; omega)) only [bin_ladd, str_cut, str_app, str_eq, string_mk_size, string_mk, h3', W1, W2, W3, W4, W5, W6, W7, W8, W9, W10, W11, W12, W13, W14, W15, eq_self, ite_true, ite_false, undef_eq, List.set_cons_zero, List.set_cons_succ, List.getD_cons_zero, List.getD_cons_succ, List.map_cons, List.map_nil, List.length_cons, List.length_nil, List.append_nil, List.cons_append, List.nil_append, List.replicate_succ, List.replicate_zero, Nat.reduceAdd, Nat.reduceSub, ↓reduceIte, List.getElem?_cons_zero, List.getElem?_cons_succ, basic, cellsL, resOf, setAt, List.append_assoc, List.length_append, List.getElem?_append_left, List.getElem?_append_right, List.set_append_left, List.set_append_right, below, belowB, belowA, atomB, List.mem_cons, List.not_mem_nil, forall_eq_or_imp, forall_eq, List.toList_toArray, implies_true, List.take_succ_cons, List.take_zero, List.drop_succ_cons, List.drop_zero, List.take_nil, List.drop_nil, Nat.reduceLeDiff, Nat.reduceMul, Int.reduceToNat, Int.reduceLT, Int.reduceLE, Int.reduceAdd, Int.reduceNeg, Int.reduceEq, splice, List.singleton_append, Nat.reduceEqDiff, Nat.reduceLT, isAtom, List.all_cons, List.all_nil, Option.map_some, Option.bind_some, List.length_set, Int.reduceSub, Int.reduceMul, List.getElem?_set_self, List.getElem?_set_ne, ofB_2, tmpR_if, ro_sliceData, ro_capNil, ro_noZero, ext_2, ext_3, ext_4, ext_5, List.set_set]
        exact ⟨_, [], rfl, Frm.refl, .nil, by simp⟩
      · have h3' : ((600 : Int) < (text.length : Int)) = False := eq_false (by omega)
        rw [if_neg h3]
        by_cases h4 : (text.length : Int) ≤ n1 ∧ pid ≠ 8
        · rw [if_pos h4]
          simp (contextual := true) (implicitDefEqProofs := false) (maxSteps := 2000000) (disch := first | rfl | exact Nat.le_of_ble_eq_true rfl | omega | (simp only [List.length_append, List.length_cons, List.length_nil, List.length_set]; omega)) only [bin_ladd, str_cut, str_app, str_eq, string_mk_size, string_mk, h3', h4.1, h4.2, W1, W2, W3, W4, W5, W6, W7, W8, W9, W10, W11, W12, W13, W14, W15, eq_self, ite_true, ite_false, undef_eq, List.set_cons_zero, List.set_cons_succ, List.getD_cons_zero, List.getD_cons_succ, List.map_cons, List.map_nil, List.length_cons, List.length_nil, List.append_nil, List.cons_append, List.nil_append, List.replicate_succ, List.replicate_zero, Nat.reduceAdd, Nat.reduceSub, ↓reduceIte, List.getElem?_cons_zero, List.getElem?_cons_succ, basic, cellsL, resOf, setAt, List.append_assoc, List.length_append, List.getElem?_append_left, List.getElem?_append_right, List.set_append_left, List.set_append_right, below, belowB, belowA, atomB, List.mem_cons, List.not_mem_nil, forall_eq_or_imp, forall_eq, List.toList_toArray, implies_true, List.take_succ_cons, List.take_zero, List.drop_succ_cons, List.drop_zero, List.take_nil, List.drop_nil, Nat.reduceLeDiff, Nat.reduceMul, Int.reduceToNat, Int.reduceLT, Int.reduceLE, Int.reduceAdd, Int.reduceNeg, Int.reduceEq, splice, List.singleton_append, Nat.reduceEqDiff, Nat.reduceLT, isAtom, List.all_cons, List.all_nil, Option.map_some, Option.bind_some, List.length_set, Int.reduceSub, Int.reduceMul, List.getElem?_set_self, List.getElem?_set_ne, ofB_2, tmpR_if, ro_sliceData, ro_capNil, ro_noZero, ext_2, ext_3, ext_4, ext_5, List.set_set]
          refine ⟨_, [m.length], rfl, Frm.refl.app, Sl.make (rows := [prow (pid, text)]) (cs := prow (pid, text)) ?_ (by simp [prow]) (by simp) rfl, by simp⟩
          simp [prow]
        · rw [if_neg h4]
          obtain ⟨r, hr⟩ : ∃ r : Nat, n1 = ((r + 1 : Nat) : Int) := ⟨n1.toNat - 1, by omega⟩
          obtain ⟨p, hp⟩ : ∃ p : Nat, pid = (p : Int) := ⟨pid.toNat, by omega⟩
          subst hr hp
          have hr15 : 15 ≤ r ∧ r ≤ 255 := by omega
          have hp255 : p < 256 := by omega
          simp only [Int.toNat_natCast, Nat.add_sub_cancel]
          have hw1 : IntKind.i64.wrap (((r + 1 : Nat) : Int) - 1) = (r : Int) := by rw [wrap_i64 (by omega) (by omega)]; omega
          have hby : bytesL [.int .u8 (p : Int)] = some [UInt8.ofNat p] := by
            simp only [bytesL, Option.map_some, Int.toNat_natCast]
          have h4' : (text.length : Int) ≤ ((r + 1 : Nat) : Int) → ((p : Int) = 8) = True := fun h => eq_true (by
            by_cases hx : (p : Int) = 8
            · exact hx
            · exact absurd ⟨h, hx⟩ h4)
          have hcat : (([UInt8.ofNat p].length : Nat) : Int) + (text.length : Int) ≤ 9223372036854775807 := by simp only [List.length_cons, List.length_nil]; omega
          have hL : ((text.length + 1 : Nat) : Int) + (r : Int) - 1 = ((text.length + 1 + r - 1 : Nat) : Int) := by omega
          have hwL : IntKind.i64.wrap (((text.length + 1 : Nat) : Int) + (r : Int)) = ((text.length + 1 + r : Nat) : Int) := by rw [wrap_i64 (by omega) (by omega)]; omega
          have hwL2 : IntKind.i64.wrap (((text.length + 1 + r : Nat) : Int) - 1) = ((text.length + 1 + r - 1 : Nat) : Int) := by rw [wrap_i64 (by omega) (by omega)]; omega
          have hr0 : ((r : Int) ≠ 0) := by omega
          have hdiv : IntKind.i64.wrap (((text.length + 1 + r - 1 : Nat) : Int).tdiv (r : Int)) = ((howMany (text.length + 1) r : Nat) : Int) := by
            have : ((text.length + 1 + r - 1 : Nat) : Int).tdiv (r : Int) = ((howMany (text.length + 1) r : Nat) : Int) := by
              rw [Int.tdiv_eq_ediv_of_nonneg (by omega)]; unfold howMany; simp
            have h41 := many_le hr15.1 (show text.length + 1 ≤ 601 by omega)
            rw [this, wrap_i64 (by omega) (by omega)]
          have hwp := wrap_u8n hp255
          by_cases h5 : (text.length : Int) ≤ ((r + 1 : Nat) : Int)
          all_goals first
            | (have h8 := h4' h5; simp (contextual := true) (implicitDefEqProofs := false) (maxSteps := 2000000) (disch := first | rfl | exact Nat.le_of_ble_eq_true rfl | omega | (simp only [List.length_append, List.length_cons, List.length_nil, List.length_set]; omega)) only [bin_ladd, str_cut, str_app, str_eq, string_mk_size, string_mk, h3', h5, h8, hw1, hby, hcat, hwL, hwL2, hr0, hdiv, hwp, List.length_cons, List.length_append, List.cons_append, List.nil_append, W1, W2, W3, W4, W5, W6, W7, W8, W9, W10, W11, W12, W13, W14, W15, eq_self, ite_true, ite_false, undef_eq, List.set_cons_zero, List.set_cons_succ, List.getD_cons_zero, List.getD_cons_succ, List.map_cons, List.map_nil, List.length_cons, List.length_nil, List.append_nil, List.cons_append, List.nil_append, List.replicate_succ, List.replicate_zero, Nat.reduceAdd, Nat.reduceSub, ↓reduceIte, List.getElem?_cons_zero, List.getElem?_cons_succ, basic, cellsL, resOf, setAt, List.append_assoc, List.length_append, List.getElem?_append_left, List.getElem?_append_right, List.set_append_left, List.set_append_right, below, belowB, belowA, atomB, List.mem_cons, List.not_mem_nil, forall_eq_or_imp, forall_eq, List.toList_toArray, implies_true, List.take_succ_cons, List.take_zero, List.drop_succ_cons, List.drop_zero, List.take_nil, List.drop_nil, Nat.reduceLeDiff, Nat.reduceMul, Int.reduceToNat, Int.reduceLT, Int.reduceLE, Int.reduceAdd, Int.reduceNeg, Int.reduceEq, splice, List.singleton_append, Nat.reduceEqDiff, Nat.reduceLT, isAtom, List.all_cons, List.all_nil, Option.map_some, Option.bind_some, List.length_set, Int.reduceSub, Int.reduceMul, List.getElem?_set_self, List.getElem?_set_ne, ofB_2, tmpR_if, ro_sliceData, ro_capNil, ro_noZero, ext_2, ext_3, ext_4, ext_5, List.set_set])
            | (simp (contextual := true) (implicitDefEqProofs := false) (maxSteps := 2000000) (disch := first | rfl | exact Nat.le_of_ble_eq_true rfl | omega | (simp only [List.length_append, List.length_cons, List.length_nil, List.length_set]; omega)) only [bin_ladd, str_cut, str_app, str_eq, string_mk_size, string_mk, h3', h5, hw1, hby, hcat, hwL, hwL2, hr0, hdiv, hwp, List.length_cons, List.length_append, List.cons_append, List.nil_append, W1, W2, W3, W4, W5, W6, W7, W8, W9, W10, W11, W12, W13, W14, W15, eq_self, ite_true, ite_false, undef_eq, List.set_cons_zero, List.set_cons_succ, List.getD_cons_zero, List.getD_cons_succ, List.map_cons, List.map_nil, List.length_cons, List.length_nil, List.append_nil, List.cons_append, List.nil_append, List.replicate_succ, List.replicate_zero, Nat.reduceAdd, Nat.reduceSub, ↓reduceIte, List.getElem?_cons_zero, List.getElem?_cons_succ, basic, cellsL, resOf, setAt, List.append_assoc, List.length_append, List.getElem?_append_left, List.getElem?_append_right, List.set_append_left, List.set_append_right, below, belowB, belowA, atomB, List.mem_cons, List.not_mem_nil, forall_eq_or_imp, forall_eq, List.toList_toArray, implies_true, List.take_succ_cons, List.take_zero, List.drop_succ_cons, List.drop_zero, List.take_nil, List.drop_nil, Nat.reduceLeDiff, Nat.reduceMul, Int.reduceToNat, Int.reduceLT, Int.reduceLE, Int.reduceAdd, Int.reduceNeg, Int.reduceEq, splice, List.singleton_append, Nat.reduceEqDiff, Nat.reduceLT, isAtom, List.all_cons, List.all_nil, Option.map_some, Option.bind_some, List.length_set, Int.reduceSub, Int.reduceMul, List.getElem?_set_self, List.getElem?_set_ne, ofB_2, tmpR_if, ro_sliceData, ro_capNil, ro_noZero, ext_2, ext_3, ext_4, ext_5, List.set_set])
          all_goals
            generalize hA : UInt8.ofNat p :: text = A
            have hAl : A.length = text.length + 1 := by rw [← hA]; rfl
            have hN : howMany (text.length + 1) r ≤ 41 := many_le hr15.1 (by omega)
            have hNl : ∀ i, i < howMany (text.length + 1) r ↔ i * r < A.length := fun i => by rw [hAl]; exact many_lt (by omega)
            generalize howMany (text.length + 1) r = N at hN hNl ⊢
            refine loop_inv (fun n t M => ∃ (i : Nat) (out : Value) (G : List Nat), n = N - i ∧ i ≤ N ∧ Frm [] m M ∧ Sl M 36 2 out G (((List.range i).map (piece A r N)).map prow) ∧ (∀ x ∈ G, m.length ≤ x) ∧
              Tab 92 [(8, .int .i64 (r : Int)), (9, .string ⟨A.toArray⟩), (10, .int .i64 (N : Int)), (11, out), (56, .int .i64 (N : Int)), (57, .int .i64 (i : Int))] t) (n := N) ?_ ?_
            · exact ⟨0, _, [], rfl, Nat.zero_le _, Frm.refl.app, .nil, by simp, ⟨rfl, by simp [hA]⟩⟩
            rintro n t M ⟨i, out, G, rfl, hi, hf, hs, hG, ht⟩
            obtain ⟨g, rfl⟩ : ∃ f' : Nat → Value, t = [f' 0, f' 1, f' 2, f' 3, f' 4, f' 5, f' 6, f' 7, .int .i64 (r : Int), .string ⟨A.toArray⟩, .int .i64 (N : Int), out, f' 12, f' 13, f' 14, f' 15, f' 16, f' 17, f' 18, f' 19, f' 20, f' 21, f' 22, f' 23, f' 24, f' 25, f' 26, f' 27, f' 28, f' 29, f' 30, f' 31, f' 32, f' 33, f' 34, f' 35, f' 36, f' 37, f' 38, f' 39, f' 40, f' 41, f' 42, f' 43, f' 44, f' 45, f' 46, f' 47, f' 48, f' 49, f' 50, f' 51, f' 52, f' 53, f' 54, f' 55, .int .i64 (N : Int), .int .i64 (i : Int), f' 58, f' 59, f' 60, f' 61, f' 62, f' 63, f' 64, f' 65, f' 66, f' 67, f' 68, f' 69, f' 70, f' 71, f' 72, f' 73, f' 74, f' 75, f' 76, f' 77, f' 78, f' 79, f' 80, f' 81, f' 82, f' 83, f' 84, f' 85, f' 86, f' 87, f' 88, f' 89, f' 90, f' 91] := ht.open fun f' => rfl
            have hml := hf.len
            by_cases hlt : i < N
            · have hlt' : ((i : Int) < (N : Int)) = True := eq_true (by omega)
              have hir := (hNl i).1 hlt
              have hs1 : (i + 1) * r = i * r + r := Nat.succ_mul i r
              have hA601 : A.length ≤ 601 := by omega
              generalize hq : i * r = q at hir hs1
              have hqI : (i : Int) * (r : Int) = (q : Int) := by rw [← hq]; simp
              have hwq : IntKind.i64.wrap (q : Int) = (q : Int) := wrap_i64 (by omega) (by omega)
              have hwi : IntKind.i64.wrap ((i : Int) + 1) = ((i + 1 : Nat) : Int) := by rw [wrap_i64 (by omega) (by omega)]; omega
              have hqI2 : ((i + 1 : Nat) : Int) * (r : Int) = ((q + r : Nat) : Int) := by rw [← hs1]; simp
              have hwq2 : IntKind.i64.wrap ((q + r : Nat) : Int) = ((q + r : Nat) : Int) := wrap_i64 (by omega) (by omega)
              have hwN1 : IntKind.i64.wrap ((N : Int) - 1) = ((N - 1 : Nat) : Int) := by rw [wrap_i64 (by omega) (by omega)]; omega
              have hwN2 : IntKind.i64.wrap (((N - 1 : Nat) : Int) - (i : Int)) = ((N - 1 - i : Nat) : Int) := by rw [wrap_i64 (by omega) (by omega)]; omega
              obtain ⟨e, he⟩ : ∃ e, e = if q + r < A.length then q + r else A.length := ⟨_, rfl⟩
              have hmin : (if ((q + r : Nat) : Int) < (A.length : Int) then Value.int .i64 ((q + r : Nat) : Int) else Value.int .i64 (A.length : Int)) = Value.int .i64 (e : Int) := by
                rw [he]; by_cases hx : q + r < A.length
                · rw [if_pos hx, if_pos (by omega)]
                · rw [if_neg hx, if_neg (by omega)]
              have hmin2 : (if ((q + r : Nat) : Int) < (A.length : Int) then ((q + r : Nat) : Int) else (A.length : Int)) = (e : Int) := by
                rw [he]; by_cases hx : q + r < A.length
                · rw [if_pos hx, if_pos (by omega)]
                · rw [if_neg hx, if_neg (by omega)]
              have heb : q ≤ e ∧ e ≤ A.length := by rw [he]; split <;> omega
              have hb1 : (0 : Int) ≤ (e : Int) ∧ (e : Int) ≤ (A.length : Int) := by omega
              have hb2 : (0 : Int) ≤ (q : Int) ∧ (q : Int) ≤ (e : Int) := by omega
              have hch : (A.drop q).take (e - q) = chunk A r i := by
                unfold chunk
                rw [hq, he]
                by_cases hx : q + r < A.length
                · rw [if_pos hx, Nat.add_sub_cancel_left]
                · rw [if_neg hx, List.take_of_length_le (by simp), List.take_of_length_le (by simp; omega)]
              have hcl : (chunk A r i).length ≤ 601 := by unfold chunk; simp; omega
              have hmk : mark N i < 256 := by unfold mark; split <;> omega
              have hwm := wrap_u8n hmk
              have hby2 : bytesL [.int .u8 ((mark N i : Nat) : Int)] = some [UInt8.ofNat (mark N i)] := by simp only [bytesL, Option.map_some, Int.toNat_natCast]
              have hcat2 : (([UInt8.ofNat (mark N i)].length : Nat) : Int) + ((chunk A r i).length : Int) ≤ 9223372036854775807 := by simp only [List.length_cons, List.length_nil]; omega
              have fin : ∀ (M0 : Mem), Frm [] M M0 → ∀ (v : Value) (M' : Mem) (G' : List Nat), Frm G M0 M' → Sl M' 36 2 v G' (((List.range i).map (piece A r N)).map prow ++ [prow (piece A r N i)]) → (∀ x ∈ G', M0.length ≤ x) →
                  Frm [] m M' ∧ Sl M' 36 2 v G' (((List.range (i + 1)).map (piece A r N)).map prow) ∧ (∀ x ∈ G', m.length ≤ x) := by
                intro M0 h1 v M' G' h2 h3 h4
                have hl0 := h1.len
                refine ⟨(hf.nil_trans h1).trans h2 fun x hx => .inr (hG x hx), ?_, fun x hx => ?_⟩
                · rw [range_snoc, List.map_append]; exact h3
                · have := h4 x hx; omega
              by_cases hi0 : i = 0
              · have hmI : ((N - 1 - i + 128 : Nat) : Int) = ((mark N i : Nat) : Int) := by unfold mark; rw [if_pos hi0]
                have hor := or_128 (n := N - 1 - i) (by omega)
                rw [hmI] at hor
                have hi0' : ((i : Int) = 0) = True := eq_true (by omega)
                simp (contextual := true) (implicitDefEqProofs := false) (maxSteps := 2000000) (disch := first | rfl | exact Nat.le_of_ble_eq_true rfl | omega | (simp only [List.length_append, List.length_cons, List.length_nil, List.length_set]; omega)) only [hlt', hwN1, hwN2, hi0', hor, bin_ladd, str_cut, str_app, str_eq, string_mk_size, string_mk, hwi, hqI, hqI2, hwq, hwq2, hmin, hmin2, hwm, hby2, hb1, hb2, hch, Int.toNat_natCast, hcat2, List.cons_append, List.nil_append, W1, W2, W3, W4, W5, W6, W7, W8, W9, W10, W11, ops_nil, ops_n, ops_g, guardK_it, guardK_if, guardK_u, CondP_t, CondP_f, ex_call, pickK_it, loadK_p, loadNK_p, storeB_s, cellB_s, cellB_r, cellsB_s, cellsB_r, condK_it, lc_skip, lc_region, lc_draw, lc_seq, lc_cond, lc_block, lc_exit, lc_ret, then_n, then_e, then_r, block_n, block_r, block_e, bin_add, bin_sub, bin_mul, bin_quo, bin_rem, bin_and, bin_xor, bin_andNot, bin_eql, bin_neq, bin_lss, bin_leq, bin_gtr, bin_geq, bin_shl, bin_shr, bin_sadd, bin_seql, bin_sneq, un_not, un_neg, eqL_b, eqL_i, eqL_s, eqL_pnn, eqL_pns, eqL_psn, eqL_pp, eqL_slnn, eqL_slns, eqL_slsn, ex_callv, slB_e, slB_r, apB_e, lc_chain, lc_bad, putBK_s, lc_label, lc_goto, then_g, block_g, jump_g, jump_n, jump_r, jump_e, lf_seq, lf_label, eq_self, ite_true, ite_false, undef_eq, List.set_cons_zero, List.set_cons_succ, List.getD_cons_zero, List.getD_cons_succ, List.map_cons, List.map_nil, List.length_cons, List.length_nil, List.append_nil, List.cons_append, List.nil_append, List.replicate_succ, List.replicate_zero, Nat.reduceAdd, Nat.reduceSub, ↓reduceIte, List.getElem?_cons_zero, List.getElem?_cons_succ, basic, cellsL, resOf, setAt, List.append_assoc, List.length_append, List.getElem?_append_left, List.getElem?_append_right, List.set_append_left, List.set_append_right, below, belowB, belowA, atomB, List.mem_cons, List.not_mem_nil, forall_eq_or_imp, forall_eq, List.toList_toArray, implies_true, List.take_succ_cons, List.take_zero, List.drop_succ_cons, List.drop_zero, List.take_nil, List.drop_nil, Nat.reduceLeDiff, Nat.reduceMul, Int.reduceToNat, Int.reduceLT, Int.reduceLE, Int.reduceAdd, Int.reduceNeg, Int.reduceEq, splice, List.singleton_append, Nat.reduceEqDiff, Nat.reduceLT, isAtom, List.all_cons, List.all_nil, Option.map_some, Option.bind_some, List.length_set, Int.reduceSub, Int.reduceMul, List.getElem?_set_self, List.getElem?_set_ne, ofB_2, tmpR_if, ro_sliceData, ro_capNil, ro_noZero, ext_2, ext_3, ext_4, ext_5, List.set_set]
                refine app_row (hs.frm0 Frm.refl.app) rfl (by simp; omega) ?_
                intro v M' G' hM' hf' hs' hG'
                obtain ⟨f1, f2, f3⟩ := fin _ Frm.refl.app v M' G' hf' hs' hG'
                simp (contextual := true) (implicitDefEqProofs := false) (maxSteps := 2000000) (disch := first | rfl | exact Nat.le_of_ble_eq_true rfl | omega | (simp only [List.length_append, List.length_cons, List.length_nil, List.length_set]; omega)) only [W1, W2, W3, W4, W5, W6, W7, W8, W9, W10, W11, W12, W13, W14, W15, eq_self, ite_true, ite_false, undef_eq, List.set_cons_zero, List.set_cons_succ, List.getD_cons_zero, List.getD_cons_succ, List.map_cons, List.map_nil, List.length_cons, List.length_nil, List.append_nil, List.cons_append, List.nil_append, List.replicate_succ, List.replicate_zero, Nat.reduceAdd, Nat.reduceSub, ↓reduceIte, List.getElem?_cons_zero, List.getElem?_cons_succ, basic, cellsL, resOf, setAt, List.append_assoc, List.length_append, List.getElem?_append_left, List.getElem?_append_right, List.set_append_left, List.set_append_right, below, belowB, belowA, atomB, List.mem_cons, List.not_mem_nil, forall_eq_or_imp, forall_eq, List.toList_toArray, implies_true, List.take_succ_cons, List.take_zero, List.drop_succ_cons, List.drop_zero, List.take_nil, List.drop_nil, Nat.reduceLeDiff, Nat.reduceMul, Int.reduceToNat, Int.reduceLT, Int.reduceLE, Int.reduceAdd, Int.reduceNeg, Int.reduceEq, splice, List.singleton_append, Nat.reduceEqDiff, Nat.reduceLT, isAtom, List.all_cons, List.all_nil, Option.map_some, Option.bind_some, List.length_set, Int.reduceSub, Int.reduceMul, List.getElem?_set_self, List.getElem?_set_ne, ofB_2, tmpR_if, ro_sliceData, ro_capNil, ro_noZero, ext_2, ext_3, ext_4, ext_5, List.set_set]
                exact kInv_go ⟨i + 1, v, G', rfl, by omega, f1, f2, f3, ⟨rfl, by simp [hwi]⟩⟩ (by omega)
              · have hmI : ((N - 1 - i : Nat) : Int) = ((mark N i : Nat) : Int) := by unfold mark; rw [if_neg hi0, Nat.add_zero]
                rw [hmI] at hwN2
                have hi0' : ((i : Int) = 0) = False := eq_false (by omega)
                simp (contextual := true) (implicitDefEqProofs := false) (maxSteps := 2000000) (disch := first | rfl | exact Nat.le_of_ble_eq_true rfl | omega | (simp only [List.length_append, List.length_cons, List.length_nil, List.length_set]; omega)) only [hlt', hwN1, hwN2, hi0', bin_ladd, str_cut, str_app, str_eq, string_mk_size, string_mk, hwi, hqI, hqI2, hwq, hwq2, hmin, hmin2, hwm, hby2, hb1, hb2, hch, Int.toNat_natCast, hcat2, List.cons_append, List.nil_append, W1, W2, W3, W4, W5, W6, W7, W8, W9, W10, W11, ops_nil, ops_n, ops_g, guardK_it, guardK_if, guardK_u, CondP_t, CondP_f, ex_call, pickK_it, loadK_p, loadNK_p, storeB_s, cellB_s, cellB_r, cellsB_s, cellsB_r, condK_it, lc_skip, lc_region, lc_draw, lc_seq, lc_cond, lc_block, lc_exit, lc_ret, then_n, then_e, then_r, block_n, block_r, block_e, bin_add, bin_sub, bin_mul, bin_quo, bin_rem, bin_and, bin_or, bin_xor, bin_andNot, bin_eql, bin_neq, bin_lss, bin_leq, bin_gtr, bin_geq, bin_shl, bin_shr, bin_sadd, bin_seql, bin_sneq, un_not, un_neg, eqL_b, eqL_i, eqL_s, eqL_pnn, eqL_pns, eqL_psn, eqL_pp, eqL_slnn, eqL_slns, eqL_slsn, ex_callv, slB_e, slB_r, apB_e, lc_chain, lc_bad, putBK_s, lc_label, lc_goto, then_g, block_g, jump_g, jump_n, jump_r, jump_e, lf_seq, lf_label, eq_self, ite_true, ite_false, undef_eq, List.set_cons_zero, List.set_cons_succ, List.getD_cons_zero, List.getD_cons_succ, List.map_cons, List.map_nil, List.length_cons, List.length_nil, List.append_nil, List.cons_append, List.nil_append, List.replicate_succ, List.replicate_zero, Nat.reduceAdd, Nat.reduceSub, ↓reduceIte, List.getElem?_cons_zero, List.getElem?_cons_succ, basic, cellsL, resOf, setAt, List.append_assoc, List.length_append, List.getElem?_append_left, List.getElem?_append_right, List.set_append_left, List.set_append_right, below, belowB, belowA, atomB, List.mem_cons, List.not_mem_nil, forall_eq_or_imp, forall_eq, List.toList_toArray, implies_true, List.take_succ_cons, List.take_zero, List.drop_succ_cons, List.drop_zero, List.take_nil, List.drop_nil, Nat.reduceLeDiff, Nat.reduceMul, Int.reduceToNat, Int.reduceLT, Int.reduceLE, Int.reduceAdd, Int.reduceNeg, Int.reduceEq, splice, List.singleton_append, Nat.reduceEqDiff, Nat.reduceLT, isAtom, List.all_cons, List.all_nil, Option.map_some, Option.bind_some, List.length_set, Int.reduceSub, Int.reduceMul, List.getElem?_set_self, List.getElem?_set_ne, ofB_2, tmpR_if, ro_sliceData, ro_capNil, ro_noZero, ext_2, ext_3, ext_4, ext_5, List.set_set]
                refine app_row (hs.frm0 Frm.refl.app) rfl (by simp; omega) ?_
                intro v M' G' hM' hf' hs' hG'
                obtain ⟨f1, f2, f3⟩ := fin _ Frm.refl.app v M' G' hf' hs' hG'
                simp (contextual := true) (implicitDefEqProofs := false) (maxSteps := 2000000) (disch := first | rfl | exact Nat.le_of_ble_eq_true rfl | omega | (simp only [List.length_append, List.length_cons, List.length_nil, List.length_set]; omega)) only [W1, W2, W3, W4, W5, W6, W7, W8, W9, W10, W11, W12, W13, W14, W15, eq_self, ite_true, ite_false, undef_eq, List.set_cons_zero, List.set_cons_succ, List.getD_cons_zero, List.getD_cons_succ, List.map_cons, List.map_nil, List.length_cons, List.length_nil, List.append_nil, List.cons_append, List.nil_append, List.replicate_succ, List.replicate_zero, Nat.reduceAdd, Nat.reduceSub, ↓reduceIte, List.getElem?_cons_zero, List.getElem?_cons_succ, basic, cellsL, resOf, setAt, List.append_assoc, List.length_append, List.getElem?_append_left, List.getElem?_append_right, List.set_append_left, List.set_append_right, below, belowB, belowA, atomB, List.mem_cons, List.not_mem_nil, forall_eq_or_imp, forall_eq, List.toList_toArray, implies_true, List.take_succ_cons, List.take_zero, List.drop_succ_cons, List.drop_zero, List.take_nil, List.drop_nil, Nat.reduceLeDiff, Nat.reduceMul, Int.reduceToNat, Int.reduceLT, Int.reduceLE, Int.reduceAdd, Int.reduceNeg, Int.reduceEq, splice, List.singleton_append, Nat.reduceEqDiff, Nat.reduceLT, isAtom, List.all_cons, List.all_nil, Option.map_some, Option.bind_some, List.length_set, Int.reduceSub, Int.reduceMul, List.getElem?_set_self, List.getElem?_set_ne, ofB_2, tmpR_if, ro_sliceData, ro_capNil, ro_noZero, ext_2, ext_3, ext_4, ext_5, List.set_set]
                exact kInv_go ⟨i + 1, v, G', rfl, by omega, f1, f2, f3, ⟨rfl, by simp [hwi]⟩⟩ (by omega)
            · have hlt' : ((i : Int) < (N : Int)) = False := eq_false (by omega)
              obtain rfl : i = N := by omega
              obtain ⟨a, rfl, _⟩ := hs.form
              simp (contextual := true) (implicitDefEqProofs := false) (maxSteps := 2000000) (disch := first | rfl | exact Nat.le_of_ble_eq_true rfl | omega | (simp only [List.length_append, List.length_cons, List.length_nil, List.length_set]; omega)) only [hlt', W1, W2, W3, W4, W5, W6, W7, W8, W9, W10, W11, W12, W13, W14, W15, eq_self, ite_true, ite_false, undef_eq, List.set_cons_zero, List.set_cons_succ, List.getD_cons_zero, List.getD_cons_succ, List.map_cons, List.map_nil, List.length_cons, List.length_nil, List.append_nil, List.cons_append, List.nil_append, List.replicate_succ, List.replicate_zero, Nat.reduceAdd, Nat.reduceSub, ↓reduceIte, List.getElem?_cons_zero, List.getElem?_cons_succ, basic, cellsL, resOf, setAt, List.append_assoc, List.length_append, List.getElem?_append_left, List.getElem?_append_right, List.set_append_left, List.set_append_right, below, belowB, belowA, atomB, List.mem_cons, List.not_mem_nil, forall_eq_or_imp, forall_eq, List.toList_toArray, implies_true, List.take_succ_cons, List.take_zero, List.drop_succ_cons, List.drop_zero, List.take_nil, List.drop_nil, Nat.reduceLeDiff, Nat.reduceMul, Int.reduceToNat, Int.reduceLT, Int.reduceLE, Int.reduceAdd, Int.reduceNeg, Int.reduceEq, splice, List.singleton_append, Nat.reduceEqDiff, Nat.reduceLT, isAtom, List.all_cons, List.all_nil, Option.map_some, Option.bind_some, List.length_set, Int.reduceSub, Int.reduceMul, List.getElem?_set_self, List.getElem?_set_ne, ofB_2, tmpR_if, ro_sliceData, ro_capNil, ro_noZero, ext_2, ext_3, ext_4, ext_5, List.set_set]
              exact ⟨_, G, rfl, hf, hs, hG⟩
    · rw [decide_eq_false h2, if_pos (.inr h2)]
      simp (contextual := true) (implicitDefEqProofs := false) (maxSteps := 2000000) (disch := first | rfl | exact Nat.le_of_ble_eq_true rfl | omega | (simp only [List.length_append, List.length_cons, List.length_nil, List.length_set]; omega)) only [W1, W2, W3, W4, W5, W6, W7, W8, W9, W10, W11, W12, W13, W14, W15, eq_self, ite_true, ite_false, undef_eq, List.set_cons_zero, List.set_cons_succ, List.getD_cons_zero, List.getD_cons_succ, List.map_cons, List.map_nil, List.length_cons, List.length_nil, List.append_nil, List.cons_append, List.nil_append, List.replicate_succ, List.replicate_zero, Nat.reduceAdd, Nat.reduceSub, ↓reduceIte, List.getElem?_cons_zero, List.getElem?_cons_succ, basic, cellsL, resOf, setAt, List.append_assoc, List.length_append, List.getElem?_append_left, List.getElem?_append_right, List.set_append_left, List.set_append_right, below, belowB, belowA, atomB, List.mem_cons, List.not_mem_nil, forall_eq_or_imp, forall_eq, List.toList_toArray, implies_true, List.take_succ_cons, List.take_zero, List.drop_succ_cons, List.drop_zero, List.take_nil, List.drop_nil, Nat.reduceLeDiff, Nat.reduceMul, Int.reduceToNat, Int.reduceLT, Int.reduceLE, Int.reduceAdd, Int.reduceNeg, Int.reduceEq, splice, List.singleton_append, Nat.reduceEqDiff, Nat.reduceLT, isAtom, List.all_cons, List.all_nil, Option.map_some, Option.bind_some, List.length_set, Int.reduceSub, Int.reduceMul, List.getElem?_set_self, List.getElem?_set_ne, ofB_2, tmpR_if, ro_sliceData, ro_capNil, ro_noZero, ext_2, ext_3, ext_4, ext_5, List.set_set]
      exact ⟨_, [], rfl, Frm.refl, .nil, by simp⟩
  · rw [decide_eq_false h1, if_pos (.inl h1)]
    simp (contextual := true) (implicitDefEqProofs := false) (maxSteps := 2000000) (disch := first | rfl | exact Nat.le_of_ble_eq_true rfl | omega | (simp only [List.length_append, List.length_cons, List.length_nil, List.length_set]; omega)) only [W1, W2, W3, W4, W5, W6, W7, W8, W9, W10, W11, W12, W13, W14, W15, eq_self, ite_true, ite_false, undef_eq, List.set_cons_zero, List.set_cons_succ, List.getD_cons_zero, List.getD_cons_succ, List.map_cons, List.map_nil, List.length_cons, List.length_nil, List.append_nil, List.cons_append, List.nil_append, List.replicate_succ, List.replicate_zero, Nat.reduceAdd, Nat.reduceSub, ↓reduceIte, List.getElem?_cons_zero, List.getElem?_cons_succ, basic, cellsL, resOf, setAt, List.append_assoc, List.length_append, List.getElem?_append_left, List.getElem?_append_right, List.set_append_left, List.set_append_right, below, belowB, belowA, atomB, List.mem_cons, List.not_mem_nil, forall_eq_or_imp, forall_eq, List.toList_toArray, implies_true, List.take_succ_cons, List.take_zero, List.drop_succ_cons, List.drop_zero, List.take_nil, List.drop_nil, Nat.reduceLeDiff, Nat.reduceMul, Int.reduceToNat, Int.reduceLT, Int.reduceLE, Int.reduceAdd, Int.reduceNeg, Int.reduceEq, splice, List.singleton_append, Nat.reduceEqDiff, Nat.reduceLT, isAtom, List.all_cons, List.all_nil, Option.map_some, Option.bind_some, List.length_set, Int.reduceSub, Int.reduceMul, List.getElem?_set_self, List.getElem?_set_ne, ofB_2, tmpR_if, ro_sliceData, ro_capNil, ro_noZero, ext_2, ext_3, ext_4, ext_5, List.set_set]
    exact ⟨_, [], rfl, Frm.refl, .nil, by simp⟩
end Go.Proofs.Ytfpnnaalbjmnlaa
