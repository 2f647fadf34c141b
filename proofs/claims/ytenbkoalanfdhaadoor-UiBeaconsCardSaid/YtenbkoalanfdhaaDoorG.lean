/- A path's bytes, walked. -/
import Derived.Test.YtenbkoalanfdhaaDoorE
namespace Go.Proofs.YtenbkoalanfdhaaDoor
open Go.Lg
set_option maxRecDepth 8000
set_option maxHeartbeats 8000000
set_option linter.unusedSimpArgs false
set_option linter.unnecessarySimpa false
set_option linter.unusedVariables false

theorem new_rows {m : Mem} {T sz : Nat} {sv : Value} {F : List Nat} {rows : List (List Value)} (h : Sl m T sz sv F rows) : newCells m sz sv = some rows.flatten := by
  cases h with
  | nil => rfl
  | @own b o cs _ hb hr hc hl =>
    rw [new_sl, hb, cellsB_s hl, hc]
theorem entries_spec {tb : List UInt8} {ts : Int} {fb : List UInt8} {fs : Int} {tm fm : Bool} {dv : Value} {F : List Nat} {l : List En} {m : Mem} (h : Sl m 118 3 dv F (l.map En.row)) (hn : l.length ≤ 1000000) :
    LCall Tryd.prog 98 [pathV tb ts fb fs tm fm dv] m fun v M => Frm [] m M ∧ ∃ G, Sl M 118 3 v G ((⟨tb, ts, tm⟩ :: ⟨fb, fs, fm⟩ :: l).map En.row) ∧ ∀ x ∈ G, m.length ≤ x := by
  have h0 := h
  obtain ⟨a, rfl, _⟩ := h.form
  refine LCall_enter Tryd.func98 c98 ?_
  simp (contextual := true) (implicitDefEqProofs := false) (maxSteps := 2000000) (disch := first | rfl | exact Nat.le_of_ble_eq_true rfl | omega | (simp only [List.length_append, List.length_cons, List.length_nil, List.length_set]; omega)) only [L98, W1, W2, W3, W4, W5, W6, W7, W8, W9, W10, W11, ops_nil, ops_n, ops_g, guardK_it, guardK_if, guardK_u, CondP_t, CondP_f, ex_call, pickK_it, loadK_p, loadNK_p, storeB_s, cellB_s, cellB_r, cellsB_s, cellsB_r, condK_it, lc_skip, lc_region, lc_draw, lc_seq, lc_cond, lc_block, lc_exit, lc_ret, then_n, then_e, then_r, block_n, block_r, block_e, bin_add, bin_sub, bin_mul, bin_quo, bin_rem, bin_and, bin_or, bin_xor, bin_andNot, bin_eql, bin_neq, bin_lss, bin_leq, bin_gtr, bin_geq, bin_shl, bin_shr, bin_sadd, bin_seql, bin_sneq, un_not, un_neg, eqL_b, eqL_i, eqL_s, eqL_pnn, eqL_pns, eqL_psn, eqL_pp, eqL_slnn, eqL_slns, eqL_slsn, ex_callv, slB_e, slB_r, apB_e, lc_chain, lc_bad, putBK_s, lc_label, lc_goto, then_g, block_g, jump_g, jump_n, jump_r, jump_e, lf_seq, lf_label, eq_self, ite_true, ite_false, undef_eq, List.set_cons_zero, List.set_cons_succ, List.getD_cons_zero, List.getD_cons_succ, List.map_cons, List.map_nil, List.length_cons, List.length_nil, List.append_nil, List.cons_append, List.nil_append, List.replicate_succ, List.replicate_zero, Nat.reduceAdd, Nat.reduceSub, ↓reduceIte, List.getElem?_cons_zero, List.getElem?_cons_succ, basic, cellsL, resOf, setAt, List.append_assoc, List.length_append, List.getElem?_append_left, List.getElem?_append_right, List.set_append_left, List.set_append_right, below, belowB, belowA, atomB, List.mem_cons, List.not_mem_nil, forall_eq_or_imp, forall_eq, List.toList_toArray, implies_true, List.take_succ_cons, List.take_zero, List.drop_succ_cons, List.drop_zero, List.take_nil, List.drop_nil, Nat.reduceLeDiff, Nat.reduceMul, Int.reduceToNat, Int.reduceLT, Int.reduceLE, Int.reduceAdd, Int.reduceNeg, Int.reduceEq, splice, List.singleton_append, Nat.reduceEqDiff, Nat.reduceLT, isAtom, List.all_cons, List.all_nil, Option.map_some, Option.bind_some, List.length_set, Int.reduceSub, Int.reduceMul, List.getElem?_set_self, List.getElem?_set_ne, ofB_2, tmpR_if, ro_sliceData, ro_capNil, ro_noZero, ext_2, ext_3, ext_4, ext_5, List.set_set]
  obtain ⟨N, hN, hNl, hfN, hb⟩ : ∃ N, m ++ [⟨[str tb, .int .i64 ts, str fb, .int .i64 fs, .bool tm, .bool fm, .slice a (l.map En.row).length (l.map En.row).length], 83, 1, 0, .own⟩, ⟨[str tb, .int .i64 ts, .bool tm, str fb, .int .i64 fs, .bool fm], 118, 3, 0, .own⟩] = N ∧ N.length = m.length + 2 ∧ Frm [] m N ∧ N[m.length + 1]? = some ⟨[str tb, .int .i64 ts, .bool tm, str fb, .int .i64 fs, .bool fm], 118, 3, 0, .own⟩ := ⟨_, rfl, by simp, Frm.refl.app, by rw [List.getElem?_append_right (by omega)]; simp⟩
  rw [hN]
  have hn0 := new_rows (h0.frm0 hfN)
  rw [hn0]
  have hs0 : Sl N 118 3 (.slice (some ⟨m.length + 1, 0, none⟩) 2 2) [m.length + 1] [[str tb, .int .i64 ts, .bool tm], [str fb, .int .i64 fs, .bool fm]] := Sl.own (T := 118) (sz := 3) (rows := [[str tb, .int .i64 ts, .bool tm], [str fb, .int .i64 fs, .bool fm]]) hb (by simp) (by simp) (by simp)
  refine app_any hs0 (new := l.map En.row) (by simp) (fun r hr => ?_) rfl (by simp; omega) ?_
  · obtain ⟨e, _, rfl⟩ := List.mem_map.mp hr; rfl
  intro v M G hM hf hs hG
  obtain ⟨va, rfl, _⟩ := hs.form
  simp (contextual := true) (implicitDefEqProofs := false) (maxSteps := 2000000) (disch := first | rfl | exact Nat.le_of_ble_eq_true rfl | omega | (simp only [List.length_append, List.length_cons, List.length_nil, List.length_set]; omega)) only [W1, W2, W3, W4, W5, W6, W7, W8, W9, W10, W11, W12, W13, W14, W15, eq_self, ite_true, ite_false, undef_eq, List.set_cons_zero, List.set_cons_succ, List.getD_cons_zero, List.getD_cons_succ, List.map_cons, List.map_nil, List.length_cons, List.length_nil, List.append_nil, List.cons_append, List.nil_append, List.replicate_succ, List.replicate_zero, Nat.reduceAdd, Nat.reduceSub, ↓reduceIte, List.getElem?_cons_zero, List.getElem?_cons_succ, basic, cellsL, resOf, setAt, List.append_assoc, List.length_append, List.getElem?_append_left, List.getElem?_append_right, List.set_append_left, List.set_append_right, below, belowB, belowA, atomB, List.mem_cons, List.not_mem_nil, forall_eq_or_imp, forall_eq, List.toList_toArray, implies_true, List.take_succ_cons, List.take_zero, List.drop_succ_cons, List.drop_zero, List.take_nil, List.drop_nil, Nat.reduceLeDiff, Nat.reduceMul, Int.reduceToNat, Int.reduceLT, Int.reduceLE, Int.reduceAdd, Int.reduceNeg, Int.reduceEq, splice, List.singleton_append, Nat.reduceEqDiff, Nat.reduceLT, isAtom, List.all_cons, List.all_nil, Option.map_some, Option.bind_some, List.length_set, Int.reduceSub, Int.reduceMul, List.getElem?_set_self, List.getElem?_set_ne, ofB_2, tmpR_if, ro_sliceData, ro_capNil, ro_noZero, ext_2, ext_3, ext_4, ext_5, List.set_set]
  refine ⟨?_, G, by simpa [En.row] using hs, fun x hx => ?_⟩
  · exact hfN.trans hf fun x hx => .inr (by simp at hx; omega)
  · rcases hG x hx with h1 | h1
    · simp at h1; omega
    · omega

/-- The bytes of entries. -/
def putTo (L : List En) (j : Nat) : List UInt8 := (List.range j).flatMap fun i => match L[i]? with
  | some e => putC e.b e.s e.k (decide (i + 1 = L.length))
  | none => []
def putE (L : List En) : List UInt8 := putTo L L.length
theorem putTo_succ {L : List En} {j : Nat} {e : En} (h : L[j]? = some e) : putTo L (j + 1) = putTo L j ++ putC e.b e.s e.k (decide (j + 1 = L.length)) := by
  unfold putTo; rw [List.range_succ, List.flatMap_append]; simp [h]
theorem putC_len {b : List UInt8} {s : Int} {k l : Bool} : (putC b s k l).length = 7 := by simp [putC]
theorem putTo_len {L : List En} {j : Nat} (h : j ≤ L.length) : (putTo L j).length = 7 * j := by
  induction j with
  | zero => rfl
  | succ j ih =>
    obtain ⟨e, he⟩ : ∃ r, L[j]? = some r := ⟨L[j], List.getElem?_eq_getElem (by omega)⟩
    rw [putTo_succ he, List.length_append, ih (by omega), putC_len]; omega
theorem rightP_le {tb : List UInt8} {ts : Int} {fb : List UInt8} {fs : Int} {l : List En} {tm fm : Bool} (h : rightP tb ts fb fs l = true) : l.length ≤ 8 ∧ ordB l = true ∧ ∀ e ∈ (⟨tb, ts, tm⟩ :: ⟨fb, fs, fm⟩ :: l : List En), e.ok = true := by
  unfold rightP at h
  simp only [Bool.and_eq_true, Bool.not_eq_true'] at h
  obtain ⟨h1, h2, h3, h4, h5⟩ := h
  refine ⟨of_decide_eq_true h5, h4, fun e he => ?_⟩
  simp only [List.mem_cons] at he
  rcases he with rfl | rfl | he
  · exact h1
  · exact h2
  · rw [List.any_eq_false] at h3
    have := h3 e he
    simpa using this
theorem putP_wrong {tb : List UInt8} {ts : Int} {fb : List UInt8} {fs : Int} {tm fm : Bool} {dv : Value} {F : List Nat} {l : List En} {m : Mem} (htb : tb.length ≤ 140737488355328) (hfb : fb.length ≤ 140737488355328) (hb : ∀ e ∈ l, e.b.length ≤ 140737488355328) (h : Rd m 3 dv (l.map En.row)) (hn : l.length ≤ 1000000) (hr : rightP tb ts fb fs l = false) :
    Ret Tryd.prog 66 [pathV tb ts fb fs tm fm dv] m (.tuple #[.string ⟨#[]⟩, .int .i64 11]) m := by
  refine LCall_drop (LCall_enter Tryd.func66 c66 ?_)
  have h0 := h
  obtain ⟨a, rfl, _⟩ := h
  simp (contextual := true) (implicitDefEqProofs := false) (maxSteps := 2000000) (disch := first | rfl | exact Nat.le_of_ble_eq_true rfl | omega | (simp only [List.length_append, List.length_cons, List.length_nil, List.length_set]; omega)) only [L66, W1, W2, W3, W4, W5, W6, W7, W8, W9, W10, W11, W12, W13, W14, W15, eq_self, ite_true, ite_false, undef_eq, List.set_cons_zero, List.set_cons_succ, List.getD_cons_zero, List.getD_cons_succ, List.map_cons, List.map_nil, List.length_cons, List.length_nil, List.append_nil, List.cons_append, List.nil_append, List.replicate_succ, List.replicate_zero, Nat.reduceAdd, Nat.reduceSub, ↓reduceIte, List.getElem?_cons_zero, List.getElem?_cons_succ, basic, cellsL, resOf, setAt, List.append_assoc, List.length_append, List.getElem?_append_left, List.getElem?_append_right, List.set_append_left, List.set_append_right, below, belowB, belowA, atomB, List.mem_cons, List.not_mem_nil, forall_eq_or_imp, forall_eq, List.toList_toArray, implies_true, List.take_succ_cons, List.take_zero, List.drop_succ_cons, List.drop_zero, List.take_nil, List.drop_nil, Nat.reduceLeDiff, Nat.reduceMul, Int.reduceToNat, Int.reduceLT, Int.reduceLE, Int.reduceAdd, Int.reduceNeg, Int.reduceEq, splice, List.singleton_append, Nat.reduceEqDiff, Nat.reduceLT, isAtom, List.all_cons, List.all_nil, Option.map_some, Option.bind_some, List.length_set, Int.reduceSub, Int.reduceMul, List.getElem?_set_self, List.getElem?_set_ne, ofB_2, tmpR_if, ro_sliceData, ro_capNil, ro_noZero, ext_2, ext_3, ext_4, ext_5, List.set_set]
  refine (rightP_spec htb hfb hb h0.app hn).use ?_
  rw [hr]
  simp (contextual := true) (implicitDefEqProofs := false) (maxSteps := 2000000) (disch := first | rfl | exact Nat.le_of_ble_eq_true rfl | omega | (simp only [List.length_append, List.length_cons, List.length_nil, List.length_set]; omega)) only [W1, W2, W3, W4, W5, W6, W7, W8, W9, W10, W11, W12, W13, W14, W15, eq_self, ite_true, ite_false, undef_eq, List.set_cons_zero, List.set_cons_succ, List.getD_cons_zero, List.getD_cons_succ, List.map_cons, List.map_nil, List.length_cons, List.length_nil, List.append_nil, List.cons_append, List.nil_append, List.replicate_succ, List.replicate_zero, Nat.reduceAdd, Nat.reduceSub, ↓reduceIte, List.getElem?_cons_zero, List.getElem?_cons_succ, basic, cellsL, resOf, setAt, List.append_assoc, List.length_append, List.getElem?_append_left, List.getElem?_append_right, List.set_append_left, List.set_append_right, below, belowB, belowA, atomB, List.mem_cons, List.not_mem_nil, forall_eq_or_imp, forall_eq, List.toList_toArray, implies_true, List.take_succ_cons, List.take_zero, List.drop_succ_cons, List.drop_zero, List.take_nil, List.drop_nil, Nat.reduceLeDiff, Nat.reduceMul, Int.reduceToNat, Int.reduceLT, Int.reduceLE, Int.reduceAdd, Int.reduceNeg, Int.reduceEq, splice, List.singleton_append, Nat.reduceEqDiff, Nat.reduceLT, isAtom, List.all_cons, List.all_nil, Option.map_some, Option.bind_some, List.length_set, Int.reduceSub, Int.reduceMul, List.getElem?_set_self, List.getElem?_set_ne, ofB_2, tmpR_if, ro_sliceData, ro_capNil, ro_noZero, ext_2, ext_3, ext_4, ext_5, List.set_set]
theorem putP_spec {tb : List UInt8} {ts : Int} {fb : List UInt8} {fs : Int} {tm fm : Bool} {dv : Value} {F : List Nat} {l : List En} {m : Mem} (h : Sl m 118 3 dv F (l.map En.row)) (hr : rightP tb ts fb fs l = true) :
    Ret Tryd.prog 66 [pathV tb ts fb fs tm fm dv] m (.tuple #[str (putE (⟨tb, ts, tm⟩ :: ⟨fb, fs, fm⟩ :: l)), .int .i64 0]) m := by
  obtain ⟨hl8, _, hok⟩ := rightP_le (tm := tm) (fm := fm) hr
  have hlet : ∀ e ∈ (⟨tb, ts, tm⟩ :: ⟨fb, fs, fm⟩ :: l : List En), e.b.length ≤ 6 := fun e he => (right_le (hok e he)).2.1.2
  have htb := hlet ⟨tb, ts, tm⟩ (by simp)
  have hfb := hlet ⟨fb, fs, fm⟩ (by simp)
  refine LCall_drop (LCall_enter Tryd.func66 c66 ?_)
  have h0 := h
  obtain ⟨a, rfl, _⟩ := h.form
  simp (contextual := true) (implicitDefEqProofs := false) (maxSteps := 2000000) (disch := first | rfl | exact Nat.le_of_ble_eq_true rfl | omega | (simp only [List.length_append, List.length_cons, List.length_nil, List.length_set]; omega)) only [L66, W1, W2, W3, W4, W5, W6, W7, W8, W9, W10, W11, W12, W13, W14, W15, eq_self, ite_true, ite_false, undef_eq, List.set_cons_zero, List.set_cons_succ, List.getD_cons_zero, List.getD_cons_succ, List.map_cons, List.map_nil, List.length_cons, List.length_nil, List.append_nil, List.cons_append, List.nil_append, List.replicate_succ, List.replicate_zero, Nat.reduceAdd, Nat.reduceSub, ↓reduceIte, List.getElem?_cons_zero, List.getElem?_cons_succ, basic, cellsL, resOf, setAt, List.append_assoc, List.length_append, List.getElem?_append_left, List.getElem?_append_right, List.set_append_left, List.set_append_right, below, belowB, belowA, atomB, List.mem_cons, List.not_mem_nil, forall_eq_or_imp, forall_eq, List.toList_toArray, implies_true, List.take_succ_cons, List.take_zero, List.drop_succ_cons, List.drop_zero, List.take_nil, List.drop_nil, Nat.reduceLeDiff, Nat.reduceMul, Int.reduceToNat, Int.reduceLT, Int.reduceLE, Int.reduceAdd, Int.reduceNeg, Int.reduceEq, splice, List.singleton_append, Nat.reduceEqDiff, Nat.reduceLT, isAtom, List.all_cons, List.all_nil, Option.map_some, Option.bind_some, List.length_set, Int.reduceSub, Int.reduceMul, List.getElem?_set_self, List.getElem?_set_ne, ofB_2, tmpR_if, ro_sliceData, ro_capNil, ro_noZero, ext_2, ext_3, ext_4, ext_5, List.set_set]
  refine (rightP_spec (by simp only at htb; omega) (by simp only at hfb; omega) (fun e he => by have := hlet e (by simp [he]); omega) (Sl.rd h0).app (by omega)).use ?_
  rw [hr]
  simp (contextual := true) (implicitDefEqProofs := false) (maxSteps := 2000000) (disch := first | rfl | exact Nat.le_of_ble_eq_true rfl | omega | (simp only [List.length_append, List.length_cons, List.length_nil, List.length_set]; omega)) only [W1, W2, W3, W4, W5, W6, W7, W8, W9, W10, W11, W12, W13, W14, W15, eq_self, ite_true, ite_false, undef_eq, List.set_cons_zero, List.set_cons_succ, List.getD_cons_zero, List.getD_cons_succ, List.map_cons, List.map_nil, List.length_cons, List.length_nil, List.append_nil, List.cons_append, List.nil_append, List.replicate_succ, List.replicate_zero, Nat.reduceAdd, Nat.reduceSub, ↓reduceIte, List.getElem?_cons_zero, List.getElem?_cons_succ, basic, cellsL, resOf, setAt, List.append_assoc, List.length_append, List.getElem?_append_left, List.getElem?_append_right, List.set_append_left, List.set_append_right, below, belowB, belowA, atomB, List.mem_cons, List.not_mem_nil, forall_eq_or_imp, forall_eq, List.toList_toArray, implies_true, List.take_succ_cons, List.take_zero, List.drop_succ_cons, List.drop_zero, List.take_nil, List.drop_nil, Nat.reduceLeDiff, Nat.reduceMul, Int.reduceToNat, Int.reduceLT, Int.reduceLE, Int.reduceAdd, Int.reduceNeg, Int.reduceEq, splice, List.singleton_append, Nat.reduceEqDiff, Nat.reduceLT, isAtom, List.all_cons, List.all_nil, Option.map_some, Option.bind_some, List.length_set, Int.reduceSub, Int.reduceMul, List.getElem?_set_self, List.getElem?_set_ne, ofB_2, tmpR_if, ro_sliceData, ro_capNil, ro_noZero, ext_2, ext_3, ext_4, ext_5, List.set_set]
  obtain ⟨M0, hM, hm0, hm1, hml⟩ : ∃ M0, m ++ [⟨[str tb, .int .i64 ts, str fb, .int .i64 fs, .bool tm, .bool fm, .slice a (l.map En.row).length (l.map En.row).length], 83, 1, 0, .own⟩, ⟨[.pointer none, .slice none 0 0], 142, 0, 0, .own⟩] = M0 ∧ Frm [] m M0 ∧ Bd 142 5 M0 (m.length + 1) [m.length + 1] [] ∧ M0.length = m.length + 2 := by
    refine ⟨_, rfl, Frm.refl.app, ?_, by simp⟩
    have := Bd.new (TB := 142) (T := 5) (m := m ++ [⟨[str tb, .int .i64 ts, str fb, .int .i64 fs, .bool tm, .bool fm, .slice a (l.map En.row).length (l.map En.row).length], 83, 1, 0, .own⟩])
    simpa using this
  rw [hM]
  have hbl := hm1.lt
  refine (entries_spec (tb := tb) (ts := ts) (fb := fb) (fs := fs) (tm := tm) (fm := fm) (h0.frm0 hm0) (by omega)).mono ?_
  rintro v M1 ⟨hf1, G, hs1, hG⟩
  have hb1 := hm1.frm0 hf1
  have hml1 := hf1.len
  have hmM1 := hm0.nil_trans hf1
  have hLl : (⟨tb, ts, tm⟩ :: ⟨fb, fs, fm⟩ :: l : List En).length = l.length + 2 := rfl
  generalize (⟨tb, ts, tm⟩ :: ⟨fb, fs, fm⟩ :: l : List En) = L at hs1 hok hlet hLl ⊢
  obtain ⟨va, rfl, vform⟩ := hs1.form
  simp only [List.length_map] at hs1 vform ⊢
  clear hM
  simp (contextual := true) (implicitDefEqProofs := false) (maxSteps := 2000000) (disch := first | rfl | exact Nat.le_of_ble_eq_true rfl | omega | (simp only [List.length_append, List.length_cons, List.length_nil, List.length_set]; omega)) only [W1, W2, W3, W4, W5, W6, W7, W8, W9, W10, W11, W12, W13, W14, W15, eq_self, ite_true, ite_false, undef_eq, List.set_cons_zero, List.set_cons_succ, List.getD_cons_zero, List.getD_cons_succ, List.map_cons, List.map_nil, List.length_cons, List.length_nil, List.append_nil, List.cons_append, List.nil_append, List.replicate_succ, List.replicate_zero, Nat.reduceAdd, Nat.reduceSub, ↓reduceIte, List.getElem?_cons_zero, List.getElem?_cons_succ, basic, cellsL, resOf, setAt, List.append_assoc, List.length_append, List.getElem?_append_left, List.getElem?_append_right, List.set_append_left, List.set_append_right, below, belowB, belowA, atomB, List.mem_cons, List.not_mem_nil, forall_eq_or_imp, forall_eq, List.toList_toArray, implies_true, List.take_succ_cons, List.take_zero, List.drop_succ_cons, List.drop_zero, List.take_nil, List.drop_nil, Nat.reduceLeDiff, Nat.reduceMul, Int.reduceToNat, Int.reduceLT, Int.reduceLE, Int.reduceAdd, Int.reduceNeg, Int.reduceEq, splice, List.singleton_append, Nat.reduceEqDiff, Nat.reduceLT, isAtom, List.all_cons, List.all_nil, Option.map_some, Option.bind_some, List.length_set, Int.reduceSub, Int.reduceMul, List.getElem?_set_self, List.getElem?_set_ne, ofB_2, tmpR_if, ro_sliceData, ro_capNil, ro_noZero, ext_2, ext_3, ext_4, ext_5, List.set_set]
  refine loop_inv (fun n t M => ∃ (j : Nat) (B : List Nat), n = L.length - j ∧ j ≤ L.length ∧ Frm [] m M ∧ Bd 142 5 M (m.length + 1) B (putTo L j) ∧ (∀ x ∈ B, m.length ≤ x ∧ x ∉ G) ∧ Sl M 118 3 (.slice va L.length L.length) G (L.map En.row) ∧
    Tab 39 [(4, .pointer (some ⟨m.length + 1, 0, none⟩)), (5, .slice va L.length L.length), (15, .slice va L.length L.length), (16, .int .i64 (L.length : Int)), (17, .int .i64 (j : Int))] t) (n := L.length) ?_ ?_
  · exact ⟨0, [m.length + 1], rfl, Nat.zero_le _, hmM1, hb1, fun x hx => ⟨by simp at hx; omega, fun hx' => by have := hG x hx'; simp at hx; omega⟩, hs1, ⟨rfl, by simp⟩⟩
  rintro N t M ⟨j, B, rfl, hj, hfM, hbM, hBG, hsM, ht⟩
  obtain ⟨f, rfl⟩ : ∃ f' : Nat → Value, t = [f' 0, f' 1, f' 2, f' 3, .pointer (some ⟨m.length + 1, 0, none⟩), .slice va L.length L.length, f' 6, f' 7, f' 8, f' 9, f' 10, f' 11, f' 12, f' 13, f' 14, .slice va L.length L.length, .int .i64 (L.length : Int), .int .i64 (j : Int), f' 18, f' 19, f' 20, f' 21, f' 22, f' 23, f' 24, f' 25, f' 26, f' 27, f' 28, f' 29, f' 30, f' 31, f' 32, f' 33, f' 34, f' 35, f' 36, f' 37, f' 38] := ht.open fun f' => rfl
  by_cases hlt : j < L.length
  · have hlt' : ((j : Int) < (L.length : Int)) = True := by simp [hlt]
    have h0' : ((0 : Int) ≤ (j : Int)) = True := by simp
    have hwj : IntKind.i64.wrap ((j : Int) + 1) = ((j + 1 : Nat) : Int) := by rw [wrap_i64 (by omega) (by omega)]; omega
    obtain ⟨_, hva, hform⟩ := hsM.form
    simp only [List.length_map, Value.slice.injEq, and_true] at hva hform
    subst hva
    obtain ⟨b, o, cs, rfl, rfl, hb, hl, _, hrow⟩ := hform (by omega)
    obtain ⟨e, he⟩ : ∃ r, L[j]? = some r := ⟨L[j], List.getElem?_eq_getElem hlt⟩
    have heok := hok e (List.mem_of_getElem? he)
    have hr : (cs.drop (o + j * 3)).take 3 = [str e.b, .int .i64 e.s, .bool e.k] := hrow j e.row (by simp [he])
    have hlen : o + j * 3 + 3 ≤ cs.length := by omega
    have hb0 := lt_of_some hb
    have heq : ((j : Int) = (L.length : Int) - 1) = (j + 1 = L.length) := by apply propext; omega
    simp (contextual := true) (implicitDefEqProofs := false) (maxSteps := 2000000) (disch := first | rfl | exact Nat.le_of_ble_eq_true rfl | omega | (simp only [List.length_append, List.length_cons, List.length_nil, List.length_set]; omega)) only [hb, hlt', h0', hr, heq, Int.toNat_natCast, W1, W2, W3, W4, W5, W6, W7, W8, W9, W10, W11, W12, W13, W14, W15, eq_self, ite_true, ite_false, undef_eq, List.set_cons_zero, List.set_cons_succ, List.getD_cons_zero, List.getD_cons_succ, List.map_cons, List.map_nil, List.length_cons, List.length_nil, List.append_nil, List.cons_append, List.nil_append, List.replicate_succ, List.replicate_zero, Nat.reduceAdd, Nat.reduceSub, ↓reduceIte, List.getElem?_cons_zero, List.getElem?_cons_succ, basic, cellsL, resOf, setAt, List.append_assoc, List.length_append, List.getElem?_append_left, List.getElem?_append_right, List.set_append_left, List.set_append_right, below, belowB, belowA, atomB, List.mem_cons, List.not_mem_nil, forall_eq_or_imp, forall_eq, List.toList_toArray, implies_true, List.take_succ_cons, List.take_zero, List.drop_succ_cons, List.drop_zero, List.take_nil, List.drop_nil, Nat.reduceLeDiff, Nat.reduceMul, Int.reduceToNat, Int.reduceLT, Int.reduceLE, Int.reduceAdd, Int.reduceNeg, Int.reduceEq, splice, List.singleton_append, Nat.reduceEqDiff, Nat.reduceLT, isAtom, List.all_cons, List.all_nil, Option.map_some, Option.bind_some, List.length_set, Int.reduceSub, Int.reduceMul, List.getElem?_set_self, List.getElem?_set_ne, ofB_2, tmpR_if, ro_sliceData, ro_capNil, ro_noZero, ext_2, ext_3, ext_4, ext_5, List.set_set]
    refine (put_spec e.b e.s e.k (decide (j + 1 = L.length)) heok _).use ?_
    simp (contextual := true) (implicitDefEqProofs := false) (maxSteps := 2000000) (disch := first | rfl | exact Nat.le_of_ble_eq_true rfl | omega | (simp only [List.length_append, List.length_cons, List.length_nil, List.length_set]; omega)) only [W1, W2, W3, W4, W5, W6, W7, W8, W9, W10, W11, W12, W13, W14, W15, eq_self, ite_true, ite_false, undef_eq, List.set_cons_zero, List.set_cons_succ, List.getD_cons_zero, List.getD_cons_succ, List.map_cons, List.map_nil, List.length_cons, List.length_nil, List.append_nil, List.cons_append, List.nil_append, List.replicate_succ, List.replicate_zero, Nat.reduceAdd, Nat.reduceSub, ↓reduceIte, List.getElem?_cons_zero, List.getElem?_cons_succ, basic, cellsL, resOf, setAt, List.append_assoc, List.length_append, List.getElem?_append_left, List.getElem?_append_right, List.set_append_left, List.set_append_right, below, belowB, belowA, atomB, List.mem_cons, List.not_mem_nil, forall_eq_or_imp, forall_eq, List.toList_toArray, implies_true, List.take_succ_cons, List.take_zero, List.drop_succ_cons, List.drop_zero, List.take_nil, List.drop_nil, Nat.reduceLeDiff, Nat.reduceMul, Int.reduceToNat, Int.reduceLT, Int.reduceLE, Int.reduceAdd, Int.reduceNeg, Int.reduceEq, splice, List.singleton_append, Nat.reduceEqDiff, Nat.reduceLT, isAtom, List.all_cons, List.all_nil, Option.map_some, Option.bind_some, List.length_set, Int.reduceSub, Int.reduceMul, List.getElem?_set_self, List.getElem?_set_ne, ofB_2, tmpR_if, ro_sliceData, ro_capNil, ro_noZero, ext_2, ext_3, ext_4, ext_5, List.set_set]
    have hb2 := hbM.frm0 (m' := M ++ [⟨[str e.b, .int .i64 e.s, .bool e.k], 118, 1, 0, .own⟩]) Frm.refl.app
    have hpl := putTo_len (L := L) (j := j) (by omega)
    refine (wString_spec ⟨(putC e.b e.s e.k (decide (j + 1 = L.length))).toArray⟩ hb2 (by rw [string_mk_size, putC_len]; omega)).mono ?_
    rintro v M2 ⟨hf2, B2, hb3, hn2⟩
    rw [string_mk] at hb3
    rw [← putTo_succ he] at hb3
    simp (contextual := true) (implicitDefEqProofs := false) (maxSteps := 2000000) (disch := first | rfl | exact Nat.le_of_ble_eq_true rfl | omega | (simp only [List.length_append, List.length_cons, List.length_nil, List.length_set]; omega)) only [W1, W2, W3, W4, W5, W6, W7, W8, W9, W10, W11, W12, W13, W14, W15, eq_self, ite_true, ite_false, undef_eq, List.set_cons_zero, List.set_cons_succ, List.getD_cons_zero, List.getD_cons_succ, List.map_cons, List.map_nil, List.length_cons, List.length_nil, List.append_nil, List.cons_append, List.nil_append, List.replicate_succ, List.replicate_zero, Nat.reduceAdd, Nat.reduceSub, ↓reduceIte, List.getElem?_cons_zero, List.getElem?_cons_succ, basic, cellsL, resOf, setAt, List.append_assoc, List.length_append, List.getElem?_append_left, List.getElem?_append_right, List.set_append_left, List.set_append_right, below, belowB, belowA, atomB, List.mem_cons, List.not_mem_nil, forall_eq_or_imp, forall_eq, List.toList_toArray, implies_true, List.take_succ_cons, List.take_zero, List.drop_succ_cons, List.drop_zero, List.take_nil, List.drop_nil, Nat.reduceLeDiff, Nat.reduceMul, Int.reduceToNat, Int.reduceLT, Int.reduceLE, Int.reduceAdd, Int.reduceNeg, Int.reduceEq, splice, List.singleton_append, Nat.reduceEqDiff, Nat.reduceLT, isAtom, List.all_cons, List.all_nil, Option.map_some, Option.bind_some, List.length_set, Int.reduceSub, Int.reduceMul, List.getElem?_set_self, List.getElem?_set_ne, ofB_2, tmpR_if, ro_sliceData, ro_capNil, ro_noZero, ext_2, ext_3, ext_4, ext_5, List.set_set]
    have hfM2 : Frm B M M2 := hf2.app_of
    exact kInv_go ⟨j + 1, B2, rfl, by omega, hfM.trans hfM2 fun x hx => .inr (hBG x hx).1, hb3, fun x hx => (by
      rcases hn2 x hx with h1 | h1
      · simpa using hBG x h1
      · simp only [List.length_append] at h1
        exact ⟨by have := hfM.len; omega, fun hx' => by
          have e : x = b := by simpa using hx'
          omega⟩), hsM.frm hfM2 fun x hx hx' => (hBG x hx').2 hx, ⟨rfl, by simp [hwj]⟩⟩ (by omega)
  · have hlt' : ((j : Int) < (L.length : Int)) = False := by simp; omega
    have hjl : j = L.length := by omega
    subst hjl
    simp (contextual := true) (implicitDefEqProofs := false) (maxSteps := 2000000) (disch := first | rfl | exact Nat.le_of_ble_eq_true rfl | omega | (simp only [List.length_append, List.length_cons, List.length_nil, List.length_set]; omega)) only [hlt', W1, W2, W3, W4, W5, W6, W7, W8, W9, W10, W11, W12, W13, W14, W15, eq_self, ite_true, ite_false, undef_eq, List.set_cons_zero, List.set_cons_succ, List.getD_cons_zero, List.getD_cons_succ, List.map_cons, List.map_nil, List.length_cons, List.length_nil, List.append_nil, List.cons_append, List.nil_append, List.replicate_succ, List.replicate_zero, Nat.reduceAdd, Nat.reduceSub, ↓reduceIte, List.getElem?_cons_zero, List.getElem?_cons_succ, basic, cellsL, resOf, setAt, List.append_assoc, List.length_append, List.getElem?_append_left, List.getElem?_append_right, List.set_append_left, List.set_append_right, below, belowB, belowA, atomB, List.mem_cons, List.not_mem_nil, forall_eq_or_imp, forall_eq, List.toList_toArray, implies_true, List.take_succ_cons, List.take_zero, List.drop_succ_cons, List.drop_zero, List.take_nil, List.drop_nil, Nat.reduceLeDiff, Nat.reduceMul, Int.reduceToNat, Int.reduceLT, Int.reduceLE, Int.reduceAdd, Int.reduceNeg, Int.reduceEq, splice, List.singleton_append, Nat.reduceEqDiff, Nat.reduceLT, isAtom, List.all_cons, List.all_nil, Option.map_some, Option.bind_some, List.length_set, Int.reduceSub, Int.reduceMul, List.getElem?_set_self, List.getElem?_set_ne, ofB_2, tmpR_if, ro_sliceData, ro_capNil, ro_noZero, ext_2, ext_3, ext_4, ext_5, List.set_set]
    have hpl := putTo_len (L := L) (j := L.length) (by omega)
    refine (bString_spec hbM (by omega) (by omega)).mono ?_
    rintro v M2 ⟨rfl, hf2⟩
    simp (contextual := true) (implicitDefEqProofs := false) (maxSteps := 2000000) (disch := first | rfl | exact Nat.le_of_ble_eq_true rfl | omega | (simp only [List.length_append, List.length_cons, List.length_nil, List.length_set]; omega)) only [putE, W1, W2, W3, W4, W5, W6, W7, W8, W9, W10, W11, W12, W13, W14, W15, eq_self, ite_true, ite_false, undef_eq, List.set_cons_zero, List.set_cons_succ, List.getD_cons_zero, List.getD_cons_succ, List.map_cons, List.map_nil, List.length_cons, List.length_nil, List.append_nil, List.cons_append, List.nil_append, List.replicate_succ, List.replicate_zero, Nat.reduceAdd, Nat.reduceSub, ↓reduceIte, List.getElem?_cons_zero, List.getElem?_cons_succ, basic, cellsL, resOf, setAt, List.append_assoc, List.length_append, List.getElem?_append_left, List.getElem?_append_right, List.set_append_left, List.set_append_right, below, belowB, belowA, atomB, List.mem_cons, List.not_mem_nil, forall_eq_or_imp, forall_eq, List.toList_toArray, implies_true, List.take_succ_cons, List.take_zero, List.drop_succ_cons, List.drop_zero, List.take_nil, List.drop_nil, Nat.reduceLeDiff, Nat.reduceMul, Int.reduceToNat, Int.reduceLT, Int.reduceLE, Int.reduceAdd, Int.reduceNeg, Int.reduceEq, splice, List.singleton_append, Nat.reduceEqDiff, Nat.reduceLT, isAtom, List.all_cons, List.all_nil, Option.map_some, Option.bind_some, List.length_set, Int.reduceSub, Int.reduceMul, List.getElem?_set_self, List.getElem?_set_ne, ofB_2, tmpR_if, ro_sliceData, ro_capNil, ro_noZero, ext_2, ext_3, ext_4, ext_5, List.set_set]
    exact (hfM.trans hf2 fun x hx => .inr (hBG x hx).1).ext (by simp)
end Go.Proofs.YtenbkoalanfdhaaDoor
