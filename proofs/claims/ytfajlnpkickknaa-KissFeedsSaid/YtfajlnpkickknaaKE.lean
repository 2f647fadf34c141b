/- Texts fed to a deframer; lists of frames; walked. -/
import Derived.Test.YtfajlnpkickknaaKD
namespace Go.Proofs.Ytfajlnpkickknaa
open Go.Lg
set_option maxRecDepth 8000
set_option maxHeartbeats 4000000
set_option linter.unusedSimpArgs false
set_option linter.unnecessarySimpa false
set_option linter.unusedVariables false

theorem cellB_l {c : List Value} {T z f o : Nat} {kd : Kind} (h : kd.live = true) : cellB (some ⟨c, T, z, f, kd⟩) o = c[o]? := by simp [cellB, h]
def TxIn (m : Mem) (l : List (List UInt8)) (v : Value) (B : List Nat) : Prop := ∃ a, v = .slice a l.length l.length ∧ l.length ≤ 9223372036854775807 ∧
  (0 < l.length → ∃ i T kd f, a = some ⟨i, 0, none⟩ ∧ B = [i] ∧ m[i]? = some ⟨l.map txt, T, 1, f, kd⟩ ∧ kd.live = true)
theorem TxIn.frm {m m' : Mem} {l : List (List UInt8)} {v : Value} {B F : List Nat} (h : TxIn m l v B) (k : Frm F m m') (hd : ∀ x ∈ B, x ∉ F) : TxIn m' l v B := by
  obtain ⟨a, rfl, h1, h2⟩ := h
  refine ⟨a, rfl, h1, fun h0 => ?_⟩
  obtain ⟨i, T, kd, f, e, rfl, hm, hl⟩ := h2 h0
  exact ⟨i, T, kd, f, e, rfl, k.get hm (hd i (by simp)), hl⟩
theorem TxIn.one {m : Mem} {s : List UInt8} {i T : Nat} (h : m[i]? = some ⟨[txt s], T, 1, 0, .own⟩) : TxIn m [s] (.slice (some ⟨i, 0, none⟩) 1 1) [i] :=
  ⟨_, rfl, by simp, fun _ => ⟨i, T, .own, 0, rfl, rfl, h, rfl⟩⟩
theorem flat_snoc {l : List (List UInt8)} {j : Nat} {s : List UInt8} (h : l[j]? = some s) : (l.take (j + 1)).flatten = (l.take j).flatten ++ s := by
  rw [take_snoc h, List.flatten_append]; simp
theorem flat_take_le (l : List (List UInt8)) (j : Nat) : (l.take j).flatten.length ≤ l.flatten.length := by
  have : l.flatten = (l.take j).flatten ++ (l.drop j).flatten := by rw [← List.flatten_append, List.take_append_drop]
  rw [this, List.length_append]; omega

theorem long_spec (l : List (List UInt8)) (v : Value) (B : List Nat) (m : Mem) (hv : TxIn m l v B) (hb : ∀ s ∈ l, s.length ≤ 140737488355328) (K : Value → Mem → Prop) (hk1 : K (.bool true) m) (hk2 : l.length ≤ 60 → l.flatten.length ≤ 3000 → K (.bool false) m) : LCall Try.prog 15 [v] m K := by
  obtain ⟨a, rfl, hlen, hcell⟩ := hv
  refine LCall_drop (LCall_enter Try.func15 c15 ?_)
  simp (contextual := true) (implicitDefEqProofs := false) (maxSteps := 2000000) (disch := first | rfl | exact Nat.le_of_ble_eq_true rfl | omega | (simp only [List.length_append, List.length_cons, List.length_nil, List.length_set]; omega)) only [L15, W1, W2, W3, W4, W5, W6, W7, W8, W9, W10, W11, W12, W13, W14, W15, eq_self, ite_true, ite_false, undef_eq, List.set_cons_zero, List.set_cons_succ, List.getD_cons_zero, List.getD_cons_succ, List.map_cons, List.map_nil, List.length_cons, List.length_nil, List.append_nil, List.cons_append, List.nil_append, List.replicate_succ, List.replicate_zero, Nat.reduceAdd, Nat.reduceSub, ↓reduceIte, List.getElem?_cons_zero, List.getElem?_cons_succ, basic, cellsL, resOf, setAt, List.append_assoc, List.length_append, List.getElem?_append_left, List.getElem?_append_right, List.set_append_left, List.set_append_right, below, belowB, belowA, atomB, List.mem_cons, List.not_mem_nil, forall_eq_or_imp, forall_eq, List.toList_toArray, implies_true, List.take_succ_cons, List.take_zero, List.drop_succ_cons, List.drop_zero, List.take_nil, List.drop_nil, Nat.reduceLeDiff, Nat.reduceMul, Int.reduceToNat, Int.reduceLT, Int.reduceLE, Int.reduceAdd, Int.reduceNeg, Int.reduceEq, splice, List.singleton_append, Nat.reduceEqDiff, Nat.reduceLT, isAtom, List.all_cons, List.all_nil, Option.map_some, Option.bind_some, List.length_set, Int.reduceSub, Int.reduceMul, List.getElem?_set_self, List.getElem?_set_ne, ofB_2, tmpR_if, ro_sliceData, ro_capNil, ro_noZero, ext_2, ext_3, ext_4, ext_5, List.set_set]
  refine ifI (fun h => ?_) (fun h => ?_)
  · exact hk1
  refine loop_inv (fun n t m' => ∃ (j : Nat), n = l.length - j ∧ j ≤ l.length ∧ (l.take j).flatten.length ≤ 3000 ∧
    Tab 22 [(3, .int .i64 ((l.take j).flatten.length : Int)), (9, .slice a l.length l.length), (10, .int .i64 (l.length : Int)), (11, .int .i64 (j : Int))] t ∧ m' = m) (n := l.length) ?_ ?_
  · exact ⟨0, rfl, Nat.zero_le _, by simp, ⟨rfl, by simp⟩, rfl⟩
  rintro n t m' ⟨j, rfl, hj, hx, ht', rfl⟩
  obtain ⟨f, rfl⟩ : ∃ f' : Nat → Value, t = [f' 0, f' 1, f' 2, .int .i64 ((l.take j).flatten.length : Int), f' 4, f' 5, f' 6, f' 7, f' 8, .slice a l.length l.length, .int .i64 (l.length : Int), .int .i64 (j : Int), f' 12, f' 13, f' 14, f' 15, f' 16, f' 17, f' 18, f' 19, f' 20, f' 21] := ht'.open fun f' => rfl
  by_cases hlt : j < l.length
  · have hlt' : ((j : Int) < (l.length : Int)) = True := by simp [hlt]
    have h0 : ((0 : Int) ≤ (j : Int)) = True := by simp
    obtain ⟨i, T, kd, fz, rfl, _, hm, hl⟩ := hcell (by omega)
    have hi := lt_of_some hm
    obtain ⟨s, hs⟩ : ∃ s, l[j]? = some s := ⟨l[j], List.getElem?_eq_getElem hlt⟩
    have hcs : (l.map txt)[j]? = some (txt s) := by simp [hs]
    have hss := hb s (List.mem_of_getElem? hs)
    have hsn := flat_snoc hs
    have hl2 : (l.take (j + 1)).flatten.length = (l.take j).flatten.length + s.length := by rw [hsn, List.length_append]
    have hw : IntKind.i64.wrap (((l.take j).flatten.length : Int) + (s.length : Int)) = ((l.take (j + 1)).flatten.length : Int) := by rw [wrap_i64 (by omega) (by omega)]; omega
    have hwj : IntKind.i64.wrap ((j : Int) + 1) = ((j + 1 : Nat) : Int) := by rw [wrap_i64 (by omega) (by omega)]; omega
    simp (contextual := true) (implicitDefEqProofs := false) (maxSteps := 2000000) (disch := first | rfl | exact Nat.le_of_ble_eq_true rfl | omega | (simp only [List.length_append, List.length_cons, List.length_nil, List.length_set]; omega)) only [hm, hlt', h0, Int.toNat_natCast, cellB_l hl, hcs, bin_ladd, str_cut, str_app, str_eq, string_mk_size, string_mk, hw, W1, W2, W3, W4, W5, W6, W7, W8, W9, W10, W11, W12, W13, W14, W15, eq_self, ite_true, ite_false, undef_eq, List.set_cons_zero, List.set_cons_succ, List.getD_cons_zero, List.getD_cons_succ, List.map_cons, List.map_nil, List.length_cons, List.length_nil, List.append_nil, List.cons_append, List.nil_append, List.replicate_succ, List.replicate_zero, Nat.reduceAdd, Nat.reduceSub, ↓reduceIte, List.getElem?_cons_zero, List.getElem?_cons_succ, basic, cellsL, resOf, setAt, List.append_assoc, List.length_append, List.getElem?_append_left, List.getElem?_append_right, List.set_append_left, List.set_append_right, below, belowB, belowA, atomB, List.mem_cons, List.not_mem_nil, forall_eq_or_imp, forall_eq, List.toList_toArray, implies_true, List.take_succ_cons, List.take_zero, List.drop_succ_cons, List.drop_zero, List.take_nil, List.drop_nil, Nat.reduceLeDiff, Nat.reduceMul, Int.reduceToNat, Int.reduceLT, Int.reduceLE, Int.reduceAdd, Int.reduceNeg, Int.reduceEq, splice, List.singleton_append, Nat.reduceEqDiff, Nat.reduceLT, isAtom, List.all_cons, List.all_nil, Option.map_some, Option.bind_some, List.length_set, Int.reduceSub, Int.reduceMul, List.getElem?_set_self, List.getElem?_set_ne, ofB_2, tmpR_if, ro_sliceData, ro_capNil, ro_noZero, ext_2, ext_3, ext_4, ext_5, List.set_set]
    refine ifI (fun h => ?_) (fun h => ?_)
    · exact hk1
    · exact kInv_go ⟨j + 1, rfl, by omega, by omega, ⟨rfl, by simp [hwj]⟩, rfl⟩ (by omega)
  · have hlt' : ((j : Int) < (l.length : Int)) = False := by simp; omega
    simp (contextual := true) (implicitDefEqProofs := false) (maxSteps := 2000000) (disch := first | rfl | exact Nat.le_of_ble_eq_true rfl | omega | (simp only [List.length_append, List.length_cons, List.length_nil, List.length_set]; omega)) only [hlt', W1, W2, W3, W4, W5, W6, W7, W8, W9, W10, W11, W12, W13, W14, W15, eq_self, ite_true, ite_false, undef_eq, List.set_cons_zero, List.set_cons_succ, List.getD_cons_zero, List.getD_cons_succ, List.map_cons, List.map_nil, List.length_cons, List.length_nil, List.append_nil, List.cons_append, List.nil_append, List.replicate_succ, List.replicate_zero, Nat.reduceAdd, Nat.reduceSub, ↓reduceIte, List.getElem?_cons_zero, List.getElem?_cons_succ, basic, cellsL, resOf, setAt, List.append_assoc, List.length_append, List.getElem?_append_left, List.getElem?_append_right, List.set_append_left, List.set_append_right, below, belowB, belowA, atomB, List.mem_cons, List.not_mem_nil, forall_eq_or_imp, forall_eq, List.toList_toArray, implies_true, List.take_succ_cons, List.take_zero, List.drop_succ_cons, List.drop_zero, List.take_nil, List.drop_nil, Nat.reduceLeDiff, Nat.reduceMul, Int.reduceToNat, Int.reduceLT, Int.reduceLE, Int.reduceAdd, Int.reduceNeg, Int.reduceEq, splice, List.singleton_append, Nat.reduceEqDiff, Nat.reduceLT, isAtom, List.all_cons, List.all_nil, Option.map_some, Option.bind_some, List.length_set, Int.reduceSub, Int.reduceMul, List.getElem?_set_self, List.getElem?_set_ne, ofB_2, tmpR_if, ro_sliceData, ro_capNil, ro_noZero, ext_2, ext_3, ext_4, ext_5, List.set_set]
    rw [List.take_of_length_le (by omega)] at hx
    exact hk2 (by omega) hx

theorem joined_spec (l : List (List UInt8)) (v : Value) (B : List Nat) (m : Mem) (hv : TxIn m l v B) (hb : l.flatten.length ≤ 3000) (hl60 : l.length ≤ 60) : Ret Try.prog 25 [v] m (txt l.flatten) m := by
  obtain ⟨a, rfl, hlen, hcell⟩ := hv
  refine LCall_drop (LCall_enter Try.func25 c25 ?_)
  simp (contextual := true) (implicitDefEqProofs := false) (maxSteps := 2000000) (disch := first | rfl | exact Nat.le_of_ble_eq_true rfl | omega | (simp only [List.length_append, List.length_cons, List.length_nil, List.length_set]; omega)) only [L25, W1, W2, W3, W4, W5, W6, W7, W8, W9, W10, W11, W12, W13, W14, W15, eq_self, ite_true, ite_false, undef_eq, List.set_cons_zero, List.set_cons_succ, List.getD_cons_zero, List.getD_cons_succ, List.map_cons, List.map_nil, List.length_cons, List.length_nil, List.append_nil, List.cons_append, List.nil_append, List.replicate_succ, List.replicate_zero, Nat.reduceAdd, Nat.reduceSub, ↓reduceIte, List.getElem?_cons_zero, List.getElem?_cons_succ, basic, cellsL, resOf, setAt, List.append_assoc, List.length_append, List.getElem?_append_left, List.getElem?_append_right, List.set_append_left, List.set_append_right, below, belowB, belowA, atomB, List.mem_cons, List.not_mem_nil, forall_eq_or_imp, forall_eq, List.toList_toArray, implies_true, List.take_succ_cons, List.take_zero, List.drop_succ_cons, List.drop_zero, List.take_nil, List.drop_nil, Nat.reduceLeDiff, Nat.reduceMul, Int.reduceToNat, Int.reduceLT, Int.reduceLE, Int.reduceAdd, Int.reduceNeg, Int.reduceEq, splice, List.singleton_append, Nat.reduceEqDiff, Nat.reduceLT, isAtom, List.all_cons, List.all_nil, Option.map_some, Option.bind_some, List.length_set, Int.reduceSub, Int.reduceMul, List.getElem?_set_self, List.getElem?_set_ne, ofB_2, tmpR_if, ro_sliceData, ro_capNil, ro_noZero, ext_2, ext_3, ext_4, ext_5, List.set_set]
  refine loop_inv (fun n t m' => ∃ (j : Nat), n = l.length - j ∧ j ≤ l.length ∧
    Tab 18 [(0, .slice a l.length l.length), (3, txt (l.take j).flatten), (4, .int .i64 (j : Int))] t ∧ m' = m) (n := l.length) ?_ ?_
  · exact ⟨0, rfl, Nat.zero_le _, ⟨rfl, by simp⟩, rfl⟩
  rintro n t m' ⟨j, rfl, hj, ht', rfl⟩
  obtain ⟨f, rfl⟩ : ∃ f' : Nat → Value, t = [.slice a l.length l.length, f' 1, f' 2, txt (l.take j).flatten, .int .i64 (j : Int), f' 5, f' 6, f' 7, f' 8, f' 9, f' 10, f' 11, f' 12, f' 13, f' 14, f' 15, f' 16, f' 17] := ht'.open fun f' => rfl
  by_cases hlt : j < l.length
  · have hlt' : ((j : Int) < (l.length : Int)) = True := by simp [hlt]
    have h0 : ((0 : Int) ≤ (j : Int)) = True := by simp
    obtain ⟨i, T, kd, fz, rfl, _, hm, hl⟩ := hcell (by omega)
    have hi := lt_of_some hm
    obtain ⟨s, hs⟩ : ∃ s, l[j]? = some s := ⟨l[j], List.getElem?_eq_getElem hlt⟩
    have hcs : (l.map txt)[j]? = some (txt s) := by simp [hs]
    have hsn := flat_snoc hs
    have hl2 : (l.take (j + 1)).flatten.length = (l.take j).flatten.length + s.length := by rw [hsn, List.length_append]
    have hle := flat_take_le l (j + 1)
    have hsum : ((l.take j).flatten.length : Int) + (s.length : Int) ≤ 9223372036854775807 := by omega
    have hwj : IntKind.i64.wrap ((j : Int) + 1) = ((j + 1 : Nat) : Int) := by rw [wrap_i64 (by omega) (by omega)]; omega
    simp (contextual := true) (implicitDefEqProofs := false) (maxSteps := 2000000) (disch := first | rfl | exact Nat.le_of_ble_eq_true rfl | omega | (simp only [List.length_append, List.length_cons, List.length_nil, List.length_set]; omega)) only [hm, hlt', h0, Int.toNat_natCast, cellB_l hl, hcs, bin_ladd, str_cut, str_app, str_eq, string_mk_size, string_mk, hsum, ← hsn, W1, W2, W3, W4, W5, W6, W7, W8, W9, W10, W11, W12, W13, W14, W15, eq_self, ite_true, ite_false, undef_eq, List.set_cons_zero, List.set_cons_succ, List.getD_cons_zero, List.getD_cons_succ, List.map_cons, List.map_nil, List.length_cons, List.length_nil, List.append_nil, List.cons_append, List.nil_append, List.replicate_succ, List.replicate_zero, Nat.reduceAdd, Nat.reduceSub, ↓reduceIte, List.getElem?_cons_zero, List.getElem?_cons_succ, basic, cellsL, resOf, setAt, List.append_assoc, List.length_append, List.getElem?_append_left, List.getElem?_append_right, List.set_append_left, List.set_append_right, below, belowB, belowA, atomB, List.mem_cons, List.not_mem_nil, forall_eq_or_imp, forall_eq, List.toList_toArray, implies_true, List.take_succ_cons, List.take_zero, List.drop_succ_cons, List.drop_zero, List.take_nil, List.drop_nil, Nat.reduceLeDiff, Nat.reduceMul, Int.reduceToNat, Int.reduceLT, Int.reduceLE, Int.reduceAdd, Int.reduceNeg, Int.reduceEq, splice, List.singleton_append, Nat.reduceEqDiff, Nat.reduceLT, isAtom, List.all_cons, List.all_nil, Option.map_some, Option.bind_some, List.length_set, Int.reduceSub, Int.reduceMul, List.getElem?_set_self, List.getElem?_set_ne, ofB_2, tmpR_if, ro_sliceData, ro_capNil, ro_noZero, ext_2, ext_3, ext_4, ext_5, List.set_set]
    exact kInv_go ⟨j + 1, rfl, by omega, ⟨rfl, by simp [hwj]⟩, rfl⟩ (by omega)
  · have hlt' : ((j : Int) < (l.length : Int)) = False := by simp; omega
    rw [List.take_of_length_le (by omega)]
    simp (contextual := true) (implicitDefEqProofs := false) (maxSteps := 2000000) (disch := first | rfl | exact Nat.le_of_ble_eq_true rfl | omega | (simp only [List.length_append, List.length_cons, List.length_nil, List.length_set]; omega)) only [hlt', W1, W2, W3, W4, W5, W6, W7, W8, W9, W10, W11, W12, W13, W14, W15, eq_self, ite_true, ite_false, undef_eq, List.set_cons_zero, List.set_cons_succ, List.getD_cons_zero, List.getD_cons_succ, List.map_cons, List.map_nil, List.length_cons, List.length_nil, List.append_nil, List.cons_append, List.nil_append, List.replicate_succ, List.replicate_zero, Nat.reduceAdd, Nat.reduceSub, ↓reduceIte, List.getElem?_cons_zero, List.getElem?_cons_succ, basic, cellsL, resOf, setAt, List.append_assoc, List.length_append, List.getElem?_append_left, List.getElem?_append_right, List.set_append_left, List.set_append_right, below, belowB, belowA, atomB, List.mem_cons, List.not_mem_nil, forall_eq_or_imp, forall_eq, List.toList_toArray, implies_true, List.take_succ_cons, List.take_zero, List.drop_succ_cons, List.drop_zero, List.take_nil, List.drop_nil, Nat.reduceLeDiff, Nat.reduceMul, Int.reduceToNat, Int.reduceLT, Int.reduceLE, Int.reduceAdd, Int.reduceNeg, Int.reduceEq, splice, List.singleton_append, Nat.reduceEqDiff, Nat.reduceLT, isAtom, List.all_cons, List.all_nil, Option.map_some, Option.bind_some, List.length_set, Int.reduceSub, Int.reduceMul, List.getElem?_set_self, List.getElem?_set_ne, ofB_2, tmpR_if, ro_sliceData, ro_capNil, ro_noZero, ext_2, ext_3, ext_4, ext_5, List.set_set]

def DS.new (k : Int) : DS := ⟨(if 4096 < (if k < 1 then 1 else k) then 4096 else (if k < 1 then 1 else k)).toNat, 0, [], 0⟩
theorem DS.new_most (k : Int) : ((DS.new k).most : Int) = if 4096 < (if k < 1 then 1 else k) then 4096 else (if k < 1 then 1 else k) := by
  unfold DS.new
  simp only
  split <;> split <;> omega
theorem DS.new_ok (k : Int) : (DS.new k).Ok := by
  have h := DS.new_most k
  have h1 : 1 ≤ (DS.new k).most ∧ (DS.new k).most ≤ 4096 := by
    split at h <;> split at h <;> omega
  exact ⟨h1, by simp [DS.new], by simp [DS.new], fun _ => rfl⟩
theorem newd_spec (k : Int) (m : Mem) : LCall Try.prog 16 [.int .i64 k] m fun v m' => v = .pointer (some ⟨m.length, 0, none⟩) ∧ m' = m ++ [⟨dcells (DS.new k) (.slice none 0 0), 89, 1, 0, .own⟩] := by
  have h := DS.new_most k
  refine LCall_enter Try.func16 c16 ?_
  have key : dcells (DS.new k) (.slice none 0 0) = [.int .i64 (if 4096 < (if k < 1 then 1 else k) then 4096 else (if k < 1 then 1 else k)), .bool false, .bool false, .slice none 0 0, .int .i64 0] := by rw [← h]; rfl
  rw [key]
  simp (contextual := true) (implicitDefEqProofs := false) (maxSteps := 2000000) (disch := first | rfl | exact Nat.le_of_ble_eq_true rfl | omega | (simp only [List.length_append, List.length_cons, List.length_nil, List.length_set]; omega)) only [L16, W1, W2, W3, W4, W5, W6, W7, W8, W9, W10, W11, W12, W13, W14, W15, eq_self, ite_true, ite_false, undef_eq, List.set_cons_zero, List.set_cons_succ, List.getD_cons_zero, List.getD_cons_succ, List.map_cons, List.map_nil, List.length_cons, List.length_nil, List.append_nil, List.cons_append, List.nil_append, List.replicate_succ, List.replicate_zero, Nat.reduceAdd, Nat.reduceSub, ↓reduceIte, List.getElem?_cons_zero, List.getElem?_cons_succ, basic, cellsL, resOf, setAt, List.append_assoc, List.length_append, List.getElem?_append_left, List.getElem?_append_right, List.set_append_left, List.set_append_right, below, belowB, belowA, atomB, List.mem_cons, List.not_mem_nil, forall_eq_or_imp, forall_eq, List.toList_toArray, implies_true, List.take_succ_cons, List.take_zero, List.drop_succ_cons, List.drop_zero, List.take_nil, List.drop_nil, Nat.reduceLeDiff, Nat.reduceMul, Int.reduceToNat, Int.reduceLT, Int.reduceLE, Int.reduceAdd, Int.reduceNeg, Int.reduceEq, splice, List.singleton_append, Nat.reduceEqDiff, Nat.reduceLT, isAtom, List.all_cons, List.all_nil, Option.map_some, Option.bind_some, List.length_set, Int.reduceSub, Int.reduceMul, List.getElem?_set_self, List.getElem?_set_ne, ofB_2, tmpR_if, ro_sliceData, ro_capNil, ro_noZero, ext_2, ext_3, ext_4, ext_5, List.set_set]
theorem Df.fresh {m g : Mem} (k : Int) : Df (m ++ ⟨dcells (DS.new k) (.slice none 0 0), 89, 1, 0, .own⟩ :: g) m.length [m.length] (DS.new k) :=
  ⟨_, [], rfl, by simp, by simp, .nil⟩

theorem FS.trans {M0 M M' : Mem} {F0 G0 F G F' G' H : List Nat} {di : Nat} {d d' : DS} {out out' : Value} {rows rows' : List PF} (h : FS M0 F0 G0 di M F G d out rows) (k : FS M F H di M' F' G' d' out' rows') (hH : ∀ x ∈ H, x ∈ G) : FS M0 F0 G0 di M' F' G' d' out' rows' := by
  have hl := h.f.len
  refine ⟨h.f.trans k.f fun x hx => ?_, k.df, k.o, k.dj, fun x hx => ?_, fun x hx => ?_⟩
  · rcases List.mem_append.mp hx with h1 | h1
    · rcases h.nf x h1 with h2 | h2
      · exact .inl (by simp [h2])
      · exact .inr h2
    · rcases h.ng x (hH x h1) with h2 | h2
      · exact .inl (by simp [h2])
      · exact .inr h2
  · rcases k.nf x hx with h1 | h1
    · exact h.nf x h1
    · exact .inr (by omega)
  · rcases k.ng x hx with h1 | h1
    · exact h.ng x (hH x h1)
    · exact .inr (by omega)

theorem feeds_spec {M0 : Mem} {di : Nat} {F0 B : List Nat} {d0 : DS} {l : List (List UInt8)} {v : Value} (hD : Df M0 di F0 d0) (hv : TxIn M0 l v B) (hB : ∀ x ∈ B, x ∉ F0) (hok : d0.Ok) (hn : l.flatten.length ≤ 100000) (hb : d0.bad + l.flatten.length ≤ 1000000) :
    LCall Try.prog 21 [.pointer (some ⟨di, 0, none⟩), v] M0 fun v' M => ∃ F G, FS M0 F0 [] di M F G (d0.run l.flatten) v' (d0.out l.flatten) := by
  have hv0 := hv
  obtain ⟨a, rfl, hlen, _⟩ := hv
  refine LCall_enter Try.func21 c21 ?_
  simp (contextual := true) (implicitDefEqProofs := false) (maxSteps := 2000000) (disch := first | rfl | exact Nat.le_of_ble_eq_true rfl | omega | (simp only [List.length_append, List.length_cons, List.length_nil, List.length_set]; omega)) only [L21, W1, W2, W3, W4, W5, W6, W7, W8, W9, W10, W11, W12, W13, W14, W15, eq_self, ite_true, ite_false, undef_eq, List.set_cons_zero, List.set_cons_succ, List.getD_cons_zero, List.getD_cons_succ, List.map_cons, List.map_nil, List.length_cons, List.length_nil, List.append_nil, List.cons_append, List.nil_append, List.replicate_succ, List.replicate_zero, Nat.reduceAdd, Nat.reduceSub, ↓reduceIte, List.getElem?_cons_zero, List.getElem?_cons_succ, basic, cellsL, resOf, setAt, List.append_assoc, List.length_append, List.getElem?_append_left, List.getElem?_append_right, List.set_append_left, List.set_append_right, below, belowB, belowA, atomB, List.mem_cons, List.not_mem_nil, forall_eq_or_imp, forall_eq, List.toList_toArray, implies_true, List.take_succ_cons, List.take_zero, List.drop_succ_cons, List.drop_zero, List.take_nil, List.drop_nil, Nat.reduceLeDiff, Nat.reduceMul, Int.reduceToNat, Int.reduceLT, Int.reduceLE, Int.reduceAdd, Int.reduceNeg, Int.reduceEq, splice, List.singleton_append, Nat.reduceEqDiff, Nat.reduceLT, isAtom, List.all_cons, List.all_nil, Option.map_some, Option.bind_some, List.length_set, Int.reduceSub, Int.reduceMul, List.getElem?_set_self, List.getElem?_set_ne, ofB_2, tmpR_if, ro_sliceData, ro_capNil, ro_noZero, ext_2, ext_3, ext_4, ext_5, List.set_set]
  refine loop_inv (fun n t M => ∃ (j : Nat) (out : Value) (F G : List Nat), n = l.length - j ∧ j ≤ l.length ∧ FS M0 F0 [] di M F G (d0.run (l.take j).flatten) out (d0.out (l.take j).flatten) ∧
    Tab 22 [(0, .pointer (some ⟨di, 0, none⟩)), (5, out), (10, .slice a l.length l.length), (11, .int .i64 (l.length : Int)), (12, .int .i64 (j : Int))] t) (n := l.length) ?_ ?_
  · exact ⟨0, _, F0, [], rfl, Nat.zero_le _, ⟨Frm.refl, hD, .nil, by simp, fun x hx => .inl hx, by simp [NwF]⟩, ⟨rfl, by simp⟩⟩
  rintro n t M ⟨j, out, F, G, rfl, hj, hfs, ht⟩
  obtain ⟨f, rfl⟩ : ∃ f' : Nat → Value, t = [.pointer (some ⟨di, 0, none⟩), f' 1, f' 2, f' 3, f' 4, out, f' 6, f' 7, f' 8, f' 9, .slice a l.length l.length, .int .i64 (l.length : Int), .int .i64 (j : Int), f' 13, f' 14, f' 15, f' 16, f' 17, f' 18, f' 19, f' 20, f' 21] := ht.open fun f' => rfl
  obtain ⟨oa, rfl, _⟩ := hfs.o.form
  by_cases hlt : j < l.length
  · have hlt' : ((j : Int) < (l.length : Int)) = True := by simp [hlt]
    have h0 : ((0 : Int) ≤ (j : Int)) = True := by simp
    have hvM := hv0.frm hfs.f (by simpa using hB)
    obtain ⟨a', e, _, hcell⟩ := hvM
    simp only [Value.slice.injEq, and_true] at e
    subst e
    obtain ⟨i, T, kd, fz, rfl, _, hm, hl⟩ := hcell (by omega)
    have hi := lt_of_some hm
    obtain ⟨s, hs⟩ : ∃ s, l[j]? = some s := ⟨l[j], List.getElem?_eq_getElem hlt⟩
    have hcs : (l.map txt)[j]? = some (txt s) := by simp [hs]
    have hsn := flat_snoc hs
    have hl2 : (l.take (j + 1)).flatten.length = (l.take j).flatten.length + s.length := by rw [hsn, List.length_append]
    have hle := flat_take_le l (j + 1)
    have hrb := DS.run_bad (l := (l.take j).flatten) (d := d0)
    have hol := DS.out_len (l := (l.take j).flatten) (d := d0)
    have hwj : IntKind.i64.wrap ((j : Int) + 1) = ((j + 1 : Nat) : Int) := by rw [wrap_i64 (by omega) (by omega)]; omega
    simp (contextual := true) (implicitDefEqProofs := false) (maxSteps := 2000000) (disch := first | rfl | exact Nat.le_of_ble_eq_true rfl | omega | (simp only [List.length_append, List.length_cons, List.length_nil, List.length_set]; omega)) only [hm, hlt', h0, Int.toNat_natCast, cellB_l hl, hcs, W1, W2, W3, W4, W5, W6, W7, W8, W9, W10, W11, W12, W13, W14, W15, eq_self, ite_true, ite_false, undef_eq, List.set_cons_zero, List.set_cons_succ, List.getD_cons_zero, List.getD_cons_succ, List.map_cons, List.map_nil, List.length_cons, List.length_nil, List.append_nil, List.cons_append, List.nil_append, List.replicate_succ, List.replicate_zero, Nat.reduceAdd, Nat.reduceSub, ↓reduceIte, List.getElem?_cons_zero, List.getElem?_cons_succ, basic, cellsL, resOf, setAt, List.append_assoc, List.length_append, List.getElem?_append_left, List.getElem?_append_right, List.set_append_left, List.set_append_right, below, belowB, belowA, atomB, List.mem_cons, List.not_mem_nil, forall_eq_or_imp, forall_eq, List.toList_toArray, implies_true, List.take_succ_cons, List.take_zero, List.drop_succ_cons, List.drop_zero, List.take_nil, List.drop_nil, Nat.reduceLeDiff, Nat.reduceMul, Int.reduceToNat, Int.reduceLT, Int.reduceLE, Int.reduceAdd, Int.reduceNeg, Int.reduceEq, splice, List.singleton_append, Nat.reduceEqDiff, Nat.reduceLT, isAtom, List.all_cons, List.all_nil, Option.map_some, Option.bind_some, List.length_set, Int.reduceSub, Int.reduceMul, List.getElem?_set_self, List.getElem?_set_ne, ofB_2, tmpR_if, ro_sliceData, ro_capNil, ro_noZero, ext_2, ext_3, ext_4, ext_5, List.set_set]
    refine (feed_spec s hfs.df hfs.o hfs.dj (DS.run_ok hok) (by omega) (by omega)).mono ?_
    rintro v2 M2 ⟨F2, G2, h2⟩
    have h3 := hfs.trans h2 fun x hx => hx
    rw [← DS.run_append, ← DS.out_append, ← hsn] at h3
    simp (contextual := true) (implicitDefEqProofs := false) (maxSteps := 2000000) (disch := first | rfl | exact Nat.le_of_ble_eq_true rfl | omega | (simp only [List.length_append, List.length_cons, List.length_nil, List.length_set]; omega)) only [W1, W2, W3, W4, W5, W6, W7, W8, W9, W10, W11, W12, W13, W14, W15, eq_self, ite_true, ite_false, undef_eq, List.set_cons_zero, List.set_cons_succ, List.getD_cons_zero, List.getD_cons_succ, List.map_cons, List.map_nil, List.length_cons, List.length_nil, List.append_nil, List.cons_append, List.nil_append, List.replicate_succ, List.replicate_zero, Nat.reduceAdd, Nat.reduceSub, ↓reduceIte, List.getElem?_cons_zero, List.getElem?_cons_succ, basic, cellsL, resOf, setAt, List.append_assoc, List.length_append, List.getElem?_append_left, List.getElem?_append_right, List.set_append_left, List.set_append_right, below, belowB, belowA, atomB, List.mem_cons, List.not_mem_nil, forall_eq_or_imp, forall_eq, List.toList_toArray, implies_true, List.take_succ_cons, List.take_zero, List.drop_succ_cons, List.drop_zero, List.take_nil, List.drop_nil, Nat.reduceLeDiff, Nat.reduceMul, Int.reduceToNat, Int.reduceLT, Int.reduceLE, Int.reduceAdd, Int.reduceNeg, Int.reduceEq, splice, List.singleton_append, Nat.reduceEqDiff, Nat.reduceLT, isAtom, List.all_cons, List.all_nil, Option.map_some, Option.bind_some, List.length_set, Int.reduceSub, Int.reduceMul, List.getElem?_set_self, List.getElem?_set_ne, ofB_2, tmpR_if, ro_sliceData, ro_capNil, ro_noZero, ext_2, ext_3, ext_4, ext_5, List.set_set]
    exact kInv_go ⟨j + 1, v2, F2, G2, rfl, by omega, h3, ⟨rfl, by simp [hwj]⟩⟩ (by omega)
  · have hlt' : ((j : Int) < (l.length : Int)) = False := by simp; omega
    rw [List.take_of_length_le (by omega)] at hfs
    simp (contextual := true) (implicitDefEqProofs := false) (maxSteps := 2000000) (disch := first | rfl | exact Nat.le_of_ble_eq_true rfl | omega | (simp only [List.length_append, List.length_cons, List.length_nil, List.length_set]; omega)) only [hlt', W1, W2, W3, W4, W5, W6, W7, W8, W9, W10, W11, W12, W13, W14, W15, eq_self, ite_true, ite_false, undef_eq, List.set_cons_zero, List.set_cons_succ, List.getD_cons_zero, List.getD_cons_succ, List.map_cons, List.map_nil, List.length_cons, List.length_nil, List.append_nil, List.cons_append, List.nil_append, List.replicate_succ, List.replicate_zero, Nat.reduceAdd, Nat.reduceSub, ↓reduceIte, List.getElem?_cons_zero, List.getElem?_cons_succ, basic, cellsL, resOf, setAt, List.append_assoc, List.length_append, List.getElem?_append_left, List.getElem?_append_right, List.set_append_left, List.set_append_right, below, belowB, belowA, atomB, List.mem_cons, List.not_mem_nil, forall_eq_or_imp, forall_eq, List.toList_toArray, implies_true, List.take_succ_cons, List.take_zero, List.drop_succ_cons, List.drop_zero, List.take_nil, List.drop_nil, Nat.reduceLeDiff, Nat.reduceMul, Int.reduceToNat, Int.reduceLT, Int.reduceLE, Int.reduceAdd, Int.reduceNeg, Int.reduceEq, splice, List.singleton_append, Nat.reduceEqDiff, Nat.reduceLT, isAtom, List.all_cons, List.all_nil, Option.map_some, Option.bind_some, List.length_set, Int.reduceSub, Int.reduceMul, List.getElem?_set_self, List.getElem?_set_ne, ofB_2, tmpR_if, ro_sliceData, ro_capNil, ro_noZero, ext_2, ext_3, ext_4, ext_5, List.set_set]
    rw [List.take_of_length_le (by omega)]
    exact ⟨F, G, hfs⟩

theorem bad_spec {M : Mem} {di : Nat} {F : List Nat} {d : DS} (h : Df M di F d) : Ret Try.prog 23 [.pointer (some ⟨di, 0, none⟩)] M (.int .i64 d.bad) M := by
  obtain ⟨a, hd⟩ := h.cell rfl rfl
  have hi := lt_of_some hd
  refine LCall_drop (LCall_enter Try.func23 c23 ?_)
  simp (contextual := true) (implicitDefEqProofs := false) (maxSteps := 2000000) (disch := first | rfl | exact Nat.le_of_ble_eq_true rfl | omega | (simp only [List.length_append, List.length_cons, List.length_nil, List.length_set]; omega)) only [L23, hd, W1, W2, W3, W4, W5, W6, W7, W8, W9, W10, W11, W12, W13, W14, W15, eq_self, ite_true, ite_false, undef_eq, List.set_cons_zero, List.set_cons_succ, List.getD_cons_zero, List.getD_cons_succ, List.map_cons, List.map_nil, List.length_cons, List.length_nil, List.append_nil, List.cons_append, List.nil_append, List.replicate_succ, List.replicate_zero, Nat.reduceAdd, Nat.reduceSub, ↓reduceIte, List.getElem?_cons_zero, List.getElem?_cons_succ, basic, cellsL, resOf, setAt, List.append_assoc, List.length_append, List.getElem?_append_left, List.getElem?_append_right, List.set_append_left, List.set_append_right, below, belowB, belowA, atomB, List.mem_cons, List.not_mem_nil, forall_eq_or_imp, forall_eq, List.toList_toArray, implies_true, List.take_succ_cons, List.take_zero, List.drop_succ_cons, List.drop_zero, List.take_nil, List.drop_nil, Nat.reduceLeDiff, Nat.reduceMul, Int.reduceToNat, Int.reduceLT, Int.reduceLE, Int.reduceAdd, Int.reduceNeg, Int.reduceEq, splice, List.singleton_append, Nat.reduceEqDiff, Nat.reduceLT, isAtom, List.all_cons, List.all_nil, Option.map_some, Option.bind_some, List.length_set, Int.reduceSub, Int.reduceMul, List.getElem?_set_self, List.getElem?_set_ne, ofB_2, tmpR_if, ro_sliceData, ro_capNil, ro_noZero, ext_2, ext_3, ext_4, ext_5, List.set_set]
theorem held_spec {M : Mem} {di : Nat} {F : List Nat} {d : DS} (h : Df M di F d) : Ret Try.prog 24 [.pointer (some ⟨di, 0, none⟩)] M (.int .i64 d.held.length) M := by
  obtain ⟨a, hd⟩ := h.cell rfl rfl
  have hi := lt_of_some hd
  refine LCall_drop (LCall_enter Try.func24 c24 ?_)
  simp (contextual := true) (implicitDefEqProofs := false) (maxSteps := 2000000) (disch := first | rfl | exact Nat.le_of_ble_eq_true rfl | omega | (simp only [List.length_append, List.length_cons, List.length_nil, List.length_set]; omega)) only [L24, hd, W1, W2, W3, W4, W5, W6, W7, W8, W9, W10, W11, W12, W13, W14, W15, eq_self, ite_true, ite_false, undef_eq, List.set_cons_zero, List.set_cons_succ, List.getD_cons_zero, List.getD_cons_succ, List.map_cons, List.map_nil, List.length_cons, List.length_nil, List.append_nil, List.cons_append, List.nil_append, List.replicate_succ, List.replicate_zero, Nat.reduceAdd, Nat.reduceSub, ↓reduceIte, List.getElem?_cons_zero, List.getElem?_cons_succ, basic, cellsL, resOf, setAt, List.append_assoc, List.length_append, List.getElem?_append_left, List.getElem?_append_right, List.set_append_left, List.set_append_right, below, belowB, belowA, atomB, List.mem_cons, List.not_mem_nil, forall_eq_or_imp, forall_eq, List.toList_toArray, implies_true, List.take_succ_cons, List.take_zero, List.drop_succ_cons, List.drop_zero, List.take_nil, List.drop_nil, Nat.reduceLeDiff, Nat.reduceMul, Int.reduceToNat, Int.reduceLT, Int.reduceLE, Int.reduceAdd, Int.reduceNeg, Int.reduceEq, splice, List.singleton_append, Nat.reduceEqDiff, Nat.reduceLT, isAtom, List.all_cons, List.all_nil, Option.map_some, Option.bind_some, List.length_set, Int.reduceSub, Int.reduceMul, List.getElem?_set_self, List.getElem?_set_ne, ofB_2, tmpR_if, ro_sliceData, ro_capNil, ro_noZero, ext_2, ext_3, ext_4, ext_5, List.set_set]

theorem plain3_spec {m : Mem} {sv : Value} {G : List Nat} {l : List PF} (hs : Sl m 23 3 sv G (l.map frow)) (hl : l.length ≤ 1000000) :
    LCall Try.prog 20 [sv] m fun v M => ∃ G', Frm [] m M ∧ Sl M 30 3 v G' (l.map frow) ∧ ∀ x ∈ G', m.length ≤ x := by
  obtain ⟨a, rfl, hd⟩ := hs.form
  simp only [List.length_map] at hd ⊢
  refine LCall_enter Try.func20 c20 ?_
  simp (contextual := true) (implicitDefEqProofs := false) (maxSteps := 2000000) (disch := first | rfl | exact Nat.le_of_ble_eq_true rfl | omega | (simp only [List.length_append, List.length_cons, List.length_nil, List.length_set]; omega)) only [L20, W1, W2, W3, W4, W5, W6, W7, W8, W9, W10, W11, W12, W13, W14, W15, eq_self, ite_true, ite_false, undef_eq, List.set_cons_zero, List.set_cons_succ, List.getD_cons_zero, List.getD_cons_succ, List.map_cons, List.map_nil, List.length_cons, List.length_nil, List.append_nil, List.cons_append, List.nil_append, List.replicate_succ, List.replicate_zero, Nat.reduceAdd, Nat.reduceSub, ↓reduceIte, List.getElem?_cons_zero, List.getElem?_cons_succ, basic, cellsL, resOf, setAt, List.append_assoc, List.length_append, List.getElem?_append_left, List.getElem?_append_right, List.set_append_left, List.set_append_right, below, belowB, belowA, atomB, List.mem_cons, List.not_mem_nil, forall_eq_or_imp, forall_eq, List.toList_toArray, implies_true, List.take_succ_cons, List.take_zero, List.drop_succ_cons, List.drop_zero, List.take_nil, List.drop_nil, Nat.reduceLeDiff, Nat.reduceMul, Int.reduceToNat, Int.reduceLT, Int.reduceLE, Int.reduceAdd, Int.reduceNeg, Int.reduceEq, splice, List.singleton_append, Nat.reduceEqDiff, Nat.reduceLT, isAtom, List.all_cons, List.all_nil, Option.map_some, Option.bind_some, List.length_set, Int.reduceSub, Int.reduceMul, List.getElem?_set_self, List.getElem?_set_ne, ofB_2, tmpR_if, ro_sliceData, ro_capNil, ro_noZero, ext_2, ext_3, ext_4, ext_5, List.set_set]
  refine loop_inv (fun n t M => ∃ (i : Nat) (out : Value) (G2 : List Nat), n = l.length - i ∧ i ≤ l.length ∧ Frm [] m M ∧ Sl M 30 3 out G2 ((l.take i).map frow) ∧ (∀ x ∈ G2, m.length ≤ x) ∧
    Tab 18 [(3, out), (6, .slice a l.length l.length), (7, .int .i64 (l.length : Int)), (8, .int .i64 (i : Int))] t) (n := l.length) ?_ ?_
  · exact ⟨0, _, [], rfl, Nat.zero_le _, Frm.refl, .nil, by simp, ⟨rfl, by simp⟩⟩
  rintro n t M ⟨i, out, G2, rfl, hi, hf, hs2, hG2, ht⟩
  obtain ⟨f, rfl⟩ : ∃ f' : Nat → Value, t = [f' 0, f' 1, f' 2, out, f' 4, f' 5, .slice a l.length l.length, .int .i64 (l.length : Int), .int .i64 (i : Int), f' 9, f' 10, f' 11, f' 12, f' 13, f' 14, f' 15, f' 16, f' 17] := ht.open fun f' => rfl
  have hml := hf.len
  by_cases hlt : i < l.length
  · have hlt' : ((i : Int) < (l.length : Int)) = True := eq_true (by omega)
    have h0' : ((0 : Int) ≤ (i : Int)) = True := by simp
    have hwi : IntKind.i64.wrap ((i : Int) + 1) = ((i + 1 : Nat) : Int) := by rw [wrap_i64 (by omega) (by omega)]; omega
    obtain ⟨b, o, cs, rfl, rfl, hb, hlen, hcc, hrow⟩ := hd (by omega)
    have hbM := hf.get0 hb
    have hbMl := lt_of_some hbM
    obtain ⟨x, hx⟩ : ∃ x, l[i]? = some x := ⟨l[i], List.getElem?_eq_getElem hlt⟩
    have hpart : List.take 3 (List.drop (o + i * 3) cs) = [.int .i64 x.1, .int .i64 x.2.1, txt x.2.2] := hrow i (frow x) (by simp [hx])
    simp (contextual := true) (implicitDefEqProofs := false) (maxSteps := 2000000) (disch := first | rfl | exact Nat.le_of_ble_eq_true rfl | omega | (simp only [List.length_append, List.length_cons, List.length_nil, List.length_set]; omega)) only [hbM, hlt', h0', hpart, hwi, Int.toNat_natCast, W1, W2, W3, W4, W5, W6, W7, W8, W9, W10, W11, ops_nil, ops_n, ops_g, guardK_it, guardK_if, guardK_u, CondP_t, CondP_f, ex_call, pickK_it, loadK_p, loadNK_p, storeB_s, cellB_s, cellB_r, cellsB_s, cellsB_r, condK_it, lc_skip, lc_region, lc_draw, lc_seq, lc_cond, lc_block, lc_exit, lc_ret, then_n, then_e, then_r, block_n, block_r, block_e, bin_add, bin_sub, bin_mul, bin_quo, bin_rem, bin_and, bin_or, bin_xor, bin_andNot, bin_eql, bin_neq, bin_lss, bin_leq, bin_gtr, bin_geq, bin_shl, bin_shr, bin_sadd, bin_seql, bin_sneq, un_not, un_neg, eqL_b, eqL_i, eqL_s, eqL_pnn, eqL_pns, eqL_psn, eqL_pp, eqL_slnn, eqL_slns, eqL_slsn, ex_callv, slB_e, slB_r, apB_e, lc_chain, lc_bad, putBK_s, lc_label, lc_goto, then_g, block_g, jump_g, jump_n, jump_r, jump_e, lf_seq, lf_label, eq_self, ite_true, ite_false, undef_eq, List.set_cons_zero, List.set_cons_succ, List.getD_cons_zero, List.getD_cons_succ, List.map_cons, List.map_nil, List.length_cons, List.length_nil, List.append_nil, List.cons_append, List.nil_append, List.replicate_succ, List.replicate_zero, Nat.reduceAdd, Nat.reduceSub, ↓reduceIte, List.getElem?_cons_zero, List.getElem?_cons_succ, basic, cellsL, resOf, setAt, List.append_assoc, List.length_append, List.getElem?_append_left, List.getElem?_append_right, List.set_append_left, List.set_append_right, below, belowB, belowA, atomB, List.mem_cons, List.not_mem_nil, forall_eq_or_imp, forall_eq, List.toList_toArray, implies_true, List.take_succ_cons, List.take_zero, List.drop_succ_cons, List.drop_zero, List.take_nil, List.drop_nil, Nat.reduceLeDiff, Nat.reduceMul, Int.reduceToNat, Int.reduceLT, Int.reduceLE, Int.reduceAdd, Int.reduceNeg, Int.reduceEq, splice, List.singleton_append, Nat.reduceEqDiff, Nat.reduceLT, isAtom, List.all_cons, List.all_nil, Option.map_some, Option.bind_some, List.length_set, Int.reduceSub, Int.reduceMul, List.getElem?_set_self, List.getElem?_set_ne, ofB_2, tmpR_if, ro_sliceData, ro_capNil, ro_noZero, ext_2, ext_3, ext_4, ext_5, List.set_set]
    refine app_row (bytes := 32) (hs2.frm0 Frm.refl.app) rfl (by simp; omega) ?_
    intro v M'' G' hM' hf' hs' hG'
    simp (contextual := true) (implicitDefEqProofs := false) (maxSteps := 2000000) (disch := first | rfl | exact Nat.le_of_ble_eq_true rfl | omega | (simp only [List.length_append, List.length_cons, List.length_nil, List.length_set]; omega)) only [W1, W2, W3, W4, W5, W6, W7, W8, W9, W10, W11, W12, W13, W14, W15, eq_self, ite_true, ite_false, undef_eq, List.set_cons_zero, List.set_cons_succ, List.getD_cons_zero, List.getD_cons_succ, List.map_cons, List.map_nil, List.length_cons, List.length_nil, List.append_nil, List.cons_append, List.nil_append, List.replicate_succ, List.replicate_zero, Nat.reduceAdd, Nat.reduceSub, ↓reduceIte, List.getElem?_cons_zero, List.getElem?_cons_succ, basic, cellsL, resOf, setAt, List.append_assoc, List.length_append, List.getElem?_append_left, List.getElem?_append_right, List.set_append_left, List.set_append_right, below, belowB, belowA, atomB, List.mem_cons, List.not_mem_nil, forall_eq_or_imp, forall_eq, List.toList_toArray, implies_true, List.take_succ_cons, List.take_zero, List.drop_succ_cons, List.drop_zero, List.take_nil, List.drop_nil, Nat.reduceLeDiff, Nat.reduceMul, Int.reduceToNat, Int.reduceLT, Int.reduceLE, Int.reduceAdd, Int.reduceNeg, Int.reduceEq, splice, List.singleton_append, Nat.reduceEqDiff, Nat.reduceLT, isAtom, List.all_cons, List.all_nil, Option.map_some, Option.bind_some, List.length_set, Int.reduceSub, Int.reduceMul, List.getElem?_set_self, List.getElem?_set_ne, ofB_2, tmpR_if, ro_sliceData, ro_capNil, ro_noZero, ext_2, ext_3, ext_4, ext_5, List.set_set]
    refine kInv_go ⟨i + 1, v, G', rfl, by omega, ?_, ?_, fun x hx => ?_, ⟨rfl, by simp [hwi]⟩⟩ (by omega)
    · exact (hf.nil_trans Frm.refl.app).trans hf' fun x hx => .inr (hG2 x hx)
    · rw [take_snoc hx, List.map_append]; exact hs'
    · have := hG' x hx; simp at this; omega
  · have hlt' : ((i : Int) < (l.length : Int)) = False := eq_false (by omega)
    obtain ⟨a2, rfl, _⟩ := hs2.form
    rw [List.take_of_length_le (by omega)] at hs2
    simp (contextual := true) (implicitDefEqProofs := false) (maxSteps := 2000000) (disch := first | rfl | exact Nat.le_of_ble_eq_true rfl | omega | (simp only [List.length_append, List.length_cons, List.length_nil, List.length_set]; omega)) only [hlt', W1, W2, W3, W4, W5, W6, W7, W8, W9, W10, W11, W12, W13, W14, W15, eq_self, ite_true, ite_false, undef_eq, List.set_cons_zero, List.set_cons_succ, List.getD_cons_zero, List.getD_cons_succ, List.map_cons, List.map_nil, List.length_cons, List.length_nil, List.append_nil, List.cons_append, List.nil_append, List.replicate_succ, List.replicate_zero, Nat.reduceAdd, Nat.reduceSub, ↓reduceIte, List.getElem?_cons_zero, List.getElem?_cons_succ, basic, cellsL, resOf, setAt, List.append_assoc, List.length_append, List.getElem?_append_left, List.getElem?_append_right, List.set_append_left, List.set_append_right, below, belowB, belowA, atomB, List.mem_cons, List.not_mem_nil, forall_eq_or_imp, forall_eq, List.toList_toArray, implies_true, List.take_succ_cons, List.take_zero, List.drop_succ_cons, List.drop_zero, List.take_nil, List.drop_nil, Nat.reduceLeDiff, Nat.reduceMul, Int.reduceToNat, Int.reduceLT, Int.reduceLE, Int.reduceAdd, Int.reduceNeg, Int.reduceEq, splice, List.singleton_append, Nat.reduceEqDiff, Nat.reduceLT, isAtom, List.all_cons, List.all_nil, Option.map_some, Option.bind_some, List.length_set, Int.reduceSub, Int.reduceMul, List.getElem?_set_self, List.getElem?_set_ne, ofB_2, tmpR_if, ro_sliceData, ro_capNil, ro_noZero, ext_2, ext_3, ext_4, ext_5, List.set_set]
    rw [List.take_of_length_le (by omega)]
    exact ⟨G2, hf, hs2, hG2⟩

theorem eqN3_is {a b a' b' : Int} {s t : ByteArray} : eqN [(0, EqC.int), (1, EqC.int), (2, EqC.string)] (.agg #[.int .i64 a, .int .i64 a', .string s]) (.agg #[.int .i64 b, .int .i64 b', .string t]) = some (decide (a = b) && (decide (a' = b') && decide (s = t))) := by
  simp [eqN, eqLeaves, eqLeaf, Bool.and_assoc]

theorem same3_spec {m : Mem} {sv sv' : Value} {G G' : List Nat} {l : List PF} (hs : Sl m 30 3 sv G (l.map frow)) (hs' : Sl m 30 3 sv' G' (l.map frow)) (hl : l.length ≤ 1000000) :
    Ret Try.prog 19 [sv, sv'] m (.bool true) m := by
  obtain ⟨a, rfl, hd⟩ := hs.form
  obtain ⟨a', rfl, hd'⟩ := hs'.form
  simp only [List.length_map] at hd hd' ⊢
  refine LCall_drop (LCall_enter Try.func19 c19 ?_)
  simp (contextual := true) (implicitDefEqProofs := false) (maxSteps := 2000000) (disch := first | rfl | exact Nat.le_of_ble_eq_true rfl | omega | (simp only [List.length_append, List.length_cons, List.length_nil, List.length_set]; omega)) only [L19, W1, W2, W3, W4, W5, W6, W7, W8, W9, W10, W11, W12, W13, W14, W15, eq_self, ite_true, ite_false, undef_eq, List.set_cons_zero, List.set_cons_succ, List.getD_cons_zero, List.getD_cons_succ, List.map_cons, List.map_nil, List.length_cons, List.length_nil, List.append_nil, List.cons_append, List.nil_append, List.replicate_succ, List.replicate_zero, Nat.reduceAdd, Nat.reduceSub, ↓reduceIte, List.getElem?_cons_zero, List.getElem?_cons_succ, basic, cellsL, resOf, setAt, List.append_assoc, List.length_append, List.getElem?_append_left, List.getElem?_append_right, List.set_append_left, List.set_append_right, below, belowB, belowA, atomB, List.mem_cons, List.not_mem_nil, forall_eq_or_imp, forall_eq, List.toList_toArray, implies_true, List.take_succ_cons, List.take_zero, List.drop_succ_cons, List.drop_zero, List.take_nil, List.drop_nil, Nat.reduceLeDiff, Nat.reduceMul, Int.reduceToNat, Int.reduceLT, Int.reduceLE, Int.reduceAdd, Int.reduceNeg, Int.reduceEq, splice, List.singleton_append, Nat.reduceEqDiff, Nat.reduceLT, isAtom, List.all_cons, List.all_nil, Option.map_some, Option.bind_some, List.length_set, Int.reduceSub, Int.reduceMul, List.getElem?_set_self, List.getElem?_set_ne, ofB_2, tmpR_if, ro_sliceData, ro_capNil, ro_noZero, ext_2, ext_3, ext_4, ext_5, List.set_set]
  refine loop_inv (fun n t M => ∃ (i : Nat), n = l.length - i ∧ i ≤ l.length ∧ M = m ∧
    Tab 26 [(0, .slice a l.length l.length), (1, .slice a' l.length l.length), (5, .int .i64 (i : Int))] t) (n := l.length) ?_ ?_
  · exact ⟨0, rfl, Nat.zero_le _, rfl, ⟨rfl, by simp⟩⟩
  rintro n t M ⟨i, rfl, hi, rfl, ht⟩
  obtain ⟨f, rfl⟩ : ∃ f' : Nat → Value, t = [.slice a l.length l.length, .slice a' l.length l.length, f' 2, f' 3, f' 4, .int .i64 (i : Int), f' 6, f' 7, f' 8, f' 9, f' 10, f' 11, f' 12, f' 13, f' 14, f' 15, f' 16, f' 17, f' 18, f' 19, f' 20, f' 21, f' 22, f' 23, f' 24, f' 25] := ht.open fun f' => rfl
  by_cases hlt : i < l.length
  · have hlt' : ((i : Int) < (l.length : Int)) = True := eq_true (by omega)
    have h0' : ((0 : Int) ≤ (i : Int)) = True := by simp
    have hwi : IntKind.i64.wrap ((i : Int) + 1) = ((i + 1 : Nat) : Int) := by rw [wrap_i64 (by omega) (by omega)]; omega
    obtain ⟨b, o, cs, rfl, rfl, hb, hlen, hcc, hrow⟩ := hd (by omega)
    obtain ⟨b', o', cs', rfl, rfl, hb', hlen', hcc', hrow'⟩ := hd' (by omega)
    obtain ⟨x, hx⟩ : ∃ x, l[i]? = some x := ⟨l[i], List.getElem?_eq_getElem hlt⟩
    have hpart : List.take 3 (List.drop (o + i * 3) cs) = [.int .i64 x.1, .int .i64 x.2.1, txt x.2.2] := hrow i (frow x) (by simp [hx])
    have hpart' : List.take 3 (List.drop (o' + i * 3) cs') = [.int .i64 x.1, .int .i64 x.2.1, txt x.2.2] := hrow' i (frow x) (by simp [hx])
    simp (contextual := true) (implicitDefEqProofs := false) (maxSteps := 2000000) (disch := first | rfl | exact Nat.le_of_ble_eq_true rfl | omega | (simp only [List.length_append, List.length_cons, List.length_nil, List.length_set]; omega)) only [hb, hb', hlt', h0', hpart, hpart', hwi, Int.toNat_natCast, eqN3_is, Bool.and_self, W1, W2, W3, W4, W5, W6, W7, W8, W9, W10, W11, W12, W13, W14, W15, eq_self, ite_true, ite_false, undef_eq, List.set_cons_zero, List.set_cons_succ, List.getD_cons_zero, List.getD_cons_succ, List.map_cons, List.map_nil, List.length_cons, List.length_nil, List.append_nil, List.cons_append, List.nil_append, List.replicate_succ, List.replicate_zero, Nat.reduceAdd, Nat.reduceSub, ↓reduceIte, List.getElem?_cons_zero, List.getElem?_cons_succ, basic, cellsL, resOf, setAt, List.append_assoc, List.length_append, List.getElem?_append_left, List.getElem?_append_right, List.set_append_left, List.set_append_right, below, belowB, belowA, atomB, List.mem_cons, List.not_mem_nil, forall_eq_or_imp, forall_eq, List.toList_toArray, implies_true, List.take_succ_cons, List.take_zero, List.drop_succ_cons, List.drop_zero, List.take_nil, List.drop_nil, Nat.reduceLeDiff, Nat.reduceMul, Int.reduceToNat, Int.reduceLT, Int.reduceLE, Int.reduceAdd, Int.reduceNeg, Int.reduceEq, splice, List.singleton_append, Nat.reduceEqDiff, Nat.reduceLT, isAtom, List.all_cons, List.all_nil, Option.map_some, Option.bind_some, List.length_set, Int.reduceSub, Int.reduceMul, List.getElem?_set_self, List.getElem?_set_ne, ofB_2, tmpR_if, ro_sliceData, ro_capNil, ro_noZero, ext_2, ext_3, ext_4, ext_5, List.set_set]
    exact kInv_go ⟨i + 1, rfl, by omega, rfl, ⟨rfl, by simp [hwi]⟩⟩ (by omega)
  · have hlt' : ((i : Int) < (l.length : Int)) = False := eq_false (by omega)
    simp (contextual := true) (implicitDefEqProofs := false) (maxSteps := 2000000) (disch := first | rfl | exact Nat.le_of_ble_eq_true rfl | omega | (simp only [List.length_append, List.length_cons, List.length_nil, List.length_set]; omega)) only [hlt', W1, W2, W3, W4, W5, W6, W7, W8, W9, W10, W11, W12, W13, W14, W15, eq_self, ite_true, ite_false, undef_eq, List.set_cons_zero, List.set_cons_succ, List.getD_cons_zero, List.getD_cons_succ, List.map_cons, List.map_nil, List.length_cons, List.length_nil, List.append_nil, List.cons_append, List.nil_append, List.replicate_succ, List.replicate_zero, Nat.reduceAdd, Nat.reduceSub, ↓reduceIte, List.getElem?_cons_zero, List.getElem?_cons_succ, basic, cellsL, resOf, setAt, List.append_assoc, List.length_append, List.getElem?_append_left, List.getElem?_append_right, List.set_append_left, List.set_append_right, below, belowB, belowA, atomB, List.mem_cons, List.not_mem_nil, forall_eq_or_imp, forall_eq, List.toList_toArray, implies_true, List.take_succ_cons, List.take_zero, List.drop_succ_cons, List.drop_zero, List.take_nil, List.drop_nil, Nat.reduceLeDiff, Nat.reduceMul, Int.reduceToNat, Int.reduceLT, Int.reduceLE, Int.reduceAdd, Int.reduceNeg, Int.reduceEq, splice, List.singleton_append, Nat.reduceEqDiff, Nat.reduceLT, isAtom, List.all_cons, List.all_nil, Option.map_some, Option.bind_some, List.length_set, Int.reduceSub, Int.reduceMul, List.getElem?_set_self, List.getElem?_set_ne, ofB_2, tmpR_if, ro_sliceData, ro_capNil, ro_noZero, ext_2, ext_3, ext_4, ext_5, List.set_set]

/-- The cells of a slice that is appended. -/
theorem new_rows {m : Mem} {T sz : Nat} {sv : Value} {F : List Nat} {rows : List (List Value)} (h : Sl m T sz sv F rows) : newCells m sz sv = some rows.flatten := by
  cases h with
  | nil => rfl
  | @own b o cs _ hb hr hc hl =>
    rw [new_sl, hb, cellsB_s hl, hc]
end Go.Proofs.Ytfajlnpkickknaa
