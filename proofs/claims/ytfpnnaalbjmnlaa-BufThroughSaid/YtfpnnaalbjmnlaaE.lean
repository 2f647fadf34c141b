/- The document's box: Put and Next, walked. -/
import Derived.Test.YtfpnnaalbjmnlaaD
namespace Go.Proofs.Ytfpnnaalbjmnlaa
open Go.Lg
set_option maxRecDepth 8000
set_option maxHeartbeats 8000000
set_option linter.unusedSimpArgs false
set_option linter.unnecessarySimpa false
set_option linter.unusedVariables false

theorem new_rows {m : Mem} {T sz : Nat} {sv : Value} {F : List Nat} {rows : List (List Value)} (h : Sl m T sz sv F rows) : newCells m sz sv = some rows.flatten := by
  cases h with
  | nil => rfl
  | @own b o cs _ hb hr hc hl =>
    rw [new_sl, hb, cellsB_s hl, hc]
def rputE (n1 : Int) (W : List RP) (pid : Int) (text : List UInt8) : Int :=
  if (splitL pid n1 text).2 ≠ 0 then (splitL pid n1 text).2 else if bnd none W = 8 then 6 else 0
def rputW (n1 cnt : Int) (W : List RP) (pid : Int) (text : List UInt8) : List RP :=
  if rputE n1 W pid text = 0 then W ++ (splitL pid n1 text).1.map (fun p => ⟨cnt + 1, p⟩) else W
def rputN (n1 cnt : Int) (W : List RP) (pid : Int) (text : List UInt8) : Int :=
  if rputE n1 W pid text = 0 then cnt + 1 else cnt

theorem rput_spec {m : Mem} {w : Nat} {F : List Nat} {n1 cnt : Int} {W : List RP} (pid : Int) (text : List UInt8) (h : Rb m w F n1 cnt W) (hl : text.length ≤ 2000) (hn : W.length ≤ 800) (hct : 0 ≤ cnt ∧ cnt ≤ 1000000) :
    LCall Try.prog 11 [.pointer (some ⟨w, 0, none⟩), .int .i64 pid, str text] m fun v M => v = .int .i64 (rputE n1 W pid text) ∧ Frm F m M ∧ ∃ F', Rb M w F' n1 (rputN n1 cnt W pid text) (rputW n1 cnt W pid text) ∧ NwF m F F' := by
  have h0 := h
  obtain ⟨sv, G, rfl, hwG, hc, hsl⟩ := h
  have hcl := lt_of_some hc
  refine LCall_enter Try.func11 c11 ?_
  simp (contextual := true) (implicitDefEqProofs := false) (maxSteps := 2000000) (disch := first | rfl | exact Nat.le_of_ble_eq_true rfl | omega | (simp only [List.length_append, List.length_cons, List.length_nil, List.length_set]; omega)) only [L11, hc, W1, W2, W3, W4, W5, W6, W7, W8, W9, W10, W11, W12, W13, W14, W15, eq_self, ite_true, ite_false, undef_eq, List.set_cons_zero, List.set_cons_succ, List.getD_cons_zero, List.getD_cons_succ, List.map_cons, List.map_nil, List.length_cons, List.length_nil, List.append_nil, List.cons_append, List.nil_append, List.replicate_succ, List.replicate_zero, Nat.reduceAdd, Nat.reduceSub, ↓reduceIte, List.getElem?_cons_zero, List.getElem?_cons_succ, basic, cellsL, resOf, setAt, List.append_assoc, List.length_append, List.getElem?_append_left, List.getElem?_append_right, List.set_append_left, List.set_append_right, below, belowB, belowA, atomB, List.mem_cons, List.not_mem_nil, forall_eq_or_imp, forall_eq, List.toList_toArray, implies_true, List.take_succ_cons, List.take_zero, List.drop_succ_cons, List.drop_zero, List.take_nil, List.drop_nil, Nat.reduceLeDiff, Nat.reduceMul, Int.reduceToNat, Int.reduceLT, Int.reduceLE, Int.reduceAdd, Int.reduceNeg, Int.reduceEq, splice, List.singleton_append, Nat.reduceEqDiff, Nat.reduceLT, isAtom, List.all_cons, List.all_nil, Option.map_some, Option.bind_some, List.length_set, Int.reduceSub, Int.reduceMul, List.getElem?_set_self, List.getElem?_set_ne, ofB_2, tmpR_if, ro_sliceData, ro_capNil, ro_noZero, ext_2, ext_3, ext_4, ext_5, List.set_set]
  refine (refsplit_spec pid n1 text hl m).mono ?_
  rintro v M ⟨wv, Wb, rfl, hf, hs, hWb⟩
  have hml := hf.len
  have hM := h0.frm hf (by simp)
  have keep : rputE n1 W pid text ≠ 0 → ∃ F', Rb M w F' n1 (rputN n1 cnt W pid text) (rputW n1 cnt W pid text) ∧ NwF m (w :: G) F' := fun e => by
    rw [rputN, rputW, if_neg e, if_neg e]
    exact ⟨_, hM, fun x hx => .inl hx⟩
  have hle := (split_le pid n1 text).1
  obtain ⟨wa, rfl, hwform⟩ := hs.form
  simp only [List.length_map] at hwform hs ⊢
  have hWl : ∀ x ∈ Wb, x < M.length := hs.lt
  by_cases he : ¬ (splitL pid n1 text).2 = 0
  · have he' : ((splitL pid n1 text).2 = 0) = False := eq_false he
    have e1 : rputE n1 W pid text = (splitL pid n1 text).2 := if_pos he
    simp (contextual := true) (implicitDefEqProofs := false) (maxSteps := 2000000) (disch := first | rfl | exact Nat.le_of_ble_eq_true rfl | omega | (simp only [List.length_append, List.length_cons, List.length_nil, List.length_set]; omega)) only [he', W1, W2, W3, W4, W5, W6, W7, W8, W9, W10, W11, W12, W13, W14, W15, eq_self, ite_true, ite_false, undef_eq, List.set_cons_zero, List.set_cons_succ, List.getD_cons_zero, List.getD_cons_succ, List.map_cons, List.map_nil, List.length_cons, List.length_nil, List.append_nil, List.cons_append, List.nil_append, List.replicate_succ, List.replicate_zero, Nat.reduceAdd, Nat.reduceSub, ↓reduceIte, List.getElem?_cons_zero, List.getElem?_cons_succ, basic, cellsL, resOf, setAt, List.append_assoc, List.length_append, List.getElem?_append_left, List.getElem?_append_right, List.set_append_left, List.set_append_right, below, belowB, belowA, atomB, List.mem_cons, List.not_mem_nil, forall_eq_or_imp, forall_eq, List.toList_toArray, implies_true, List.take_succ_cons, List.take_zero, List.drop_succ_cons, List.drop_zero, List.take_nil, List.drop_nil, Nat.reduceLeDiff, Nat.reduceMul, Int.reduceToNat, Int.reduceLT, Int.reduceLE, Int.reduceAdd, Int.reduceNeg, Int.reduceEq, splice, List.singleton_append, Nat.reduceEqDiff, Nat.reduceLT, isAtom, List.all_cons, List.all_nil, Option.map_some, Option.bind_some, List.length_set, Int.reduceSub, Int.reduceMul, List.getElem?_set_self, List.getElem?_set_ne, ofB_2, tmpR_if, ro_sliceData, ro_capNil, ro_noZero, ext_2, ext_3, ext_4, ext_5, List.set_set]
    exact ⟨by rw [e1], hf.of_nil, keep (by rw [e1]; exact he)⟩
  have he : (splitL pid n1 text).2 = 0 := Decidable.not_not.mp he
  have he' : ((splitL pid n1 text).2 = 0) = True := eq_true he
  simp (contextual := true) (implicitDefEqProofs := false) (maxSteps := 2000000) (disch := first | rfl | exact Nat.le_of_ble_eq_true rfl | omega | (simp only [List.length_append, List.length_cons, List.length_nil, List.length_set]; omega)) only [he', W1, W2, W3, W4, W5, W6, W7, W8, W9, W10, W11, W12, W13, W14, W15, eq_self, ite_true, ite_false, undef_eq, List.set_cons_zero, List.set_cons_succ, List.getD_cons_zero, List.getD_cons_succ, List.map_cons, List.map_nil, List.length_cons, List.length_nil, List.append_nil, List.cons_append, List.nil_append, List.replicate_succ, List.replicate_zero, Nat.reduceAdd, Nat.reduceSub, ↓reduceIte, List.getElem?_cons_zero, List.getElem?_cons_succ, basic, cellsL, resOf, setAt, List.append_assoc, List.length_append, List.getElem?_append_left, List.getElem?_append_right, List.set_append_left, List.set_append_right, below, belowB, belowA, atomB, List.mem_cons, List.not_mem_nil, forall_eq_or_imp, forall_eq, List.toList_toArray, implies_true, List.take_succ_cons, List.take_zero, List.drop_succ_cons, List.drop_zero, List.take_nil, List.drop_nil, Nat.reduceLeDiff, Nat.reduceMul, Int.reduceToNat, Int.reduceLT, Int.reduceLE, Int.reduceAdd, Int.reduceNeg, Int.reduceEq, splice, List.singleton_append, Nat.reduceEqDiff, Nat.reduceLT, isAtom, List.all_cons, List.all_nil, Option.map_some, Option.bind_some, List.length_set, Int.reduceSub, Int.reduceMul, List.getElem?_set_self, List.getElem?_set_ne, ofB_2, tmpR_if, ro_sliceData, ro_capNil, ro_noZero, ext_2, ext_3, ext_4, ext_5, List.set_set]
  refine (rlen_spec hM (by omega)).use ?_
  by_cases h8 : bnd none W = 8
  · have h8' : ((bnd none W : Int) = 8) = True := eq_true (by omega)
    have e1 : rputE n1 W pid text = 6 := by rw [rputE, if_neg (by simp [he]), if_pos h8]
    simp (contextual := true) (implicitDefEqProofs := false) (maxSteps := 2000000) (disch := first | rfl | exact Nat.le_of_ble_eq_true rfl | omega | (simp only [List.length_append, List.length_cons, List.length_nil, List.length_set]; omega)) only [h8', W1, W2, W3, W4, W5, W6, W7, W8, W9, W10, W11, W12, W13, W14, W15, eq_self, ite_true, ite_false, undef_eq, List.set_cons_zero, List.set_cons_succ, List.getD_cons_zero, List.getD_cons_succ, List.map_cons, List.map_nil, List.length_cons, List.length_nil, List.append_nil, List.cons_append, List.nil_append, List.replicate_succ, List.replicate_zero, Nat.reduceAdd, Nat.reduceSub, ↓reduceIte, List.getElem?_cons_zero, List.getElem?_cons_succ, basic, cellsL, resOf, setAt, List.append_assoc, List.length_append, List.getElem?_append_left, List.getElem?_append_right, List.set_append_left, List.set_append_right, below, belowB, belowA, atomB, List.mem_cons, List.not_mem_nil, forall_eq_or_imp, forall_eq, List.toList_toArray, implies_true, List.take_succ_cons, List.take_zero, List.drop_succ_cons, List.drop_zero, List.take_nil, List.drop_nil, Nat.reduceLeDiff, Nat.reduceMul, Int.reduceToNat, Int.reduceLT, Int.reduceLE, Int.reduceAdd, Int.reduceNeg, Int.reduceEq, splice, List.singleton_append, Nat.reduceEqDiff, Nat.reduceLT, isAtom, List.all_cons, List.all_nil, Option.map_some, Option.bind_some, List.length_set, Int.reduceSub, Int.reduceMul, List.getElem?_set_self, List.getElem?_set_ne, ofB_2, tmpR_if, ro_sliceData, ro_capNil, ro_noZero, ext_2, ext_3, ext_4, ext_5, List.set_set]
    exact ⟨by rw [e1], hf.of_nil, keep (by rw [e1]; decide)⟩
  have h8' : ((bnd none W : Int) = 8) = False := eq_false (by omega)
  have e1 : rputE n1 W pid text = 0 := by rw [rputE, if_neg (by simp [he]), if_neg h8]
  have hw : IntKind.i64.wrap (cnt + 1) = cnt + 1 := wrap_i64 (by omega) (by omega)
  have hcM := hf.get0 hc
  have hcMl := lt_of_some hcM
  simp (contextual := true) (implicitDefEqProofs := false) (maxSteps := 2000000) (disch := first | rfl | exact Nat.le_of_ble_eq_true rfl | omega | (simp only [List.length_append, List.length_cons, List.length_nil, List.length_set]; omega)) only [h8', hcM, hw, W1, W2, W3, W4, W5, W6, W7, W8, W9, W10, W11, W12, W13, W14, W15, eq_self, ite_true, ite_false, undef_eq, List.set_cons_zero, List.set_cons_succ, List.getD_cons_zero, List.getD_cons_succ, List.map_cons, List.map_nil, List.length_cons, List.length_nil, List.append_nil, List.cons_append, List.nil_append, List.replicate_succ, List.replicate_zero, Nat.reduceAdd, Nat.reduceSub, ↓reduceIte, List.getElem?_cons_zero, List.getElem?_cons_succ, basic, cellsL, resOf, setAt, List.append_assoc, List.length_append, List.getElem?_append_left, List.getElem?_append_right, List.set_append_left, List.set_append_right, below, belowB, belowA, atomB, List.mem_cons, List.not_mem_nil, forall_eq_or_imp, forall_eq, List.toList_toArray, implies_true, List.take_succ_cons, List.take_zero, List.drop_succ_cons, List.drop_zero, List.take_nil, List.drop_nil, Nat.reduceLeDiff, Nat.reduceMul, Int.reduceToNat, Int.reduceLT, Int.reduceLE, Int.reduceAdd, Int.reduceNeg, Int.reduceEq, splice, List.singleton_append, Nat.reduceEqDiff, Nat.reduceLT, isAtom, List.all_cons, List.all_nil, Option.map_some, Option.bind_some, List.length_set, Int.reduceSub, Int.reduceMul, List.getElem?_set_self, List.getElem?_set_ne, ofB_2, tmpR_if, ro_sliceData, ro_capNil, ro_noZero, ext_2, ext_3, ext_4, ext_5, List.set_set]
  rw [rputN, rputW, if_pos e1, if_pos e1, e1]
  generalize (splitL pid n1 text).1 = ls at hle hs hwform ⊢
  have hset : Frm [w] M (M.set w ⟨[.int .i64 n1, .int .i64 (cnt + 1), sv], 45, 1, 0, .own⟩) := Frm.refl.set (by simp)
  have hR0 : Rb (M.set w ⟨[.int .i64 n1, .int .i64 (cnt + 1), sv], 45, 1, 0, .own⟩) w (w :: G) n1 (cnt + 1) W := ⟨sv, G, rfl, hwG, by rw [List.getElem?_set_self hcMl], (hsl.frm0 hf).setb hwG⟩
  have hf0 : Frm (w :: G) m (M.set w ⟨[.int .i64 n1, .int .i64 (cnt + 1), sv], 45, 1, 0, .own⟩) := (hf.of_nil).set (by simp)
  have hwWb : w ∉ Wb := fun hx => by have := hWb w hx; omega
  have hs0 : Sl (M.set w ⟨[.int .i64 n1, .int .i64 (cnt + 1), sv], 45, 1, 0, .own⟩) 39 2 (.slice wa ls.length ls.length) Wb (ls.map prow) := hs.setb hwWb
  have hWl0 : ∀ x ∈ Wb, x < (M.set w ⟨[.int .i64 n1, .int .i64 (cnt + 1), sv], 45, 1, 0, .own⟩).length := by simpa using hWl
  have hGl : ∀ x ∈ G, x < m.length := hsl.lt
  generalize M.set w ⟨[.int .i64 n1, .int .i64 (cnt + 1), sv], 45, 1, 0, .own⟩ = M0 at hR0 hf0 hs0 hWl0 ⊢
  refine loop_inv (fun n t M' => ∃ (i : Nat) (F' : List Nat), n = ls.length - i ∧ i ≤ ls.length ∧ Frm (w :: G) m M' ∧ Rb M' w F' n1 (cnt + 1) (W ++ (ls.take i).map fun p => ⟨cnt + 1, p⟩) ∧ NwF m (w :: G) F' ∧ (∀ x ∈ F', x ∉ Wb) ∧ Sl M' 39 2 (.slice wa ls.length ls.length) Wb (ls.map prow) ∧
    Tab 57 [(0, .pointer (some ⟨w, 0, none⟩)), (7, .slice wa ls.length ls.length), (9, .int .i64 (i : Int))] t) (n := ls.length) ?_ ?_
  · refine ⟨0, w :: G, rfl, Nat.zero_le _, hf0, by simpa using hR0, fun x hx => .inl hx, fun x hx hx' => ?_, hs0, ⟨rfl, by simp⟩⟩
    have h1 := hWb x hx'
    rcases List.mem_cons.mp hx with rfl | hx
    · omega
    · have := hGl x hx; omega
  clear hs0 hR0 hf0 hwform
  rintro n t M' ⟨i, F', rfl, hi, hf', hR, hnw, hdj, hs', ht⟩
  obtain ⟨g, rfl⟩ : ∃ f' : Nat → Value, t = [.pointer (some ⟨w, 0, none⟩), f' 1, f' 2, f' 3, f' 4, f' 5, f' 6, .slice wa ls.length ls.length, f' 8, .int .i64 (i : Int), f' 10, f' 11, f' 12, f' 13, f' 14, f' 15, f' 16, f' 17, f' 18, f' 19, f' 20, f' 21, f' 22, f' 23, f' 24, f' 25, f' 26, f' 27, f' 28, f' 29, f' 30, f' 31, f' 32, f' 33, f' 34, f' 35, f' 36, f' 37, f' 38, f' 39, f' 40, f' 41, f' 42, f' 43, f' 44, f' 45, f' 46, f' 47, f' 48, f' 49, f' 50, f' 51, f' 52, f' 53, f' 54, f' 55, f' 56] := ht.open fun f' => rfl
  by_cases hlt : i < ls.length
  · have hlt' : ((i : Int) < (ls.length : Int)) = True := by simp [hlt]
    have h0' : ((0 : Int) ≤ (i : Int)) = True := by simp
    have hwi : IntKind.i64.wrap ((i : Int) + 1) = ((i + 1 : Nat) : Int) := by rw [wrap_i64 (by omega) (by omega)]; omega
    obtain ⟨wa', ew, hwform⟩ := hs'.form
    simp only [Value.slice.injEq, List.length_map, and_true] at ew
    subst ew
    simp only [List.length_map] at hwform
    obtain ⟨b, o, cs, rfl, hbe, hb, hbl, hbc, hbrow⟩ := hwform (by omega)
    obtain ⟨x, hx⟩ : ∃ x, ls[i]? = some x := ⟨_, List.getElem?_eq_getElem hlt⟩
    have hpart : List.take 2 (List.drop (o + i * 2) cs) = [.int .i64 x.1, str x.2] := hbrow i (prow x) (by simp [hx])
    obtain ⟨sv', G', rfl, hwG', hc', hsl'⟩ := hR
    have hcl' := lt_of_some hc'
    have hbl2 := lt_of_some hb
    obtain ⟨sa', rfl, _⟩ := hsl'.form
    simp (contextual := true) (implicitDefEqProofs := false) (maxSteps := 2000000) (disch := first | rfl | exact Nat.le_of_ble_eq_true rfl | omega | (simp only [List.length_append, List.length_cons, List.length_nil, List.length_set]; omega)) only [hlt', h0', hc', hb, hpart, Int.toNat_natCast, W1, W2, W3, W4, W5, W6, W7, W8, W9, W10, W11, ops_nil, ops_n, ops_g, guardK_it, guardK_if, guardK_u, CondP_t, CondP_f, ex_call, pickK_it, loadK_p, loadNK_p, storeB_s, cellB_s, cellB_r, cellsB_s, cellsB_r, condK_it, lc_skip, lc_region, lc_draw, lc_seq, lc_cond, lc_block, lc_exit, lc_ret, then_n, then_e, then_r, block_n, block_r, block_e, bin_add, bin_sub, bin_mul, bin_quo, bin_rem, bin_and, bin_or, bin_xor, bin_andNot, bin_eql, bin_neq, bin_lss, bin_leq, bin_gtr, bin_geq, bin_shl, bin_shr, bin_sadd, bin_seql, bin_sneq, un_not, un_neg, eqL_b, eqL_i, eqL_s, eqL_pnn, eqL_pns, eqL_psn, eqL_pp, eqL_slnn, eqL_slns, eqL_slsn, ex_callv, slB_e, slB_r, apB_e, lc_chain, lc_bad, putBK_s, lc_label, lc_goto, then_g, block_g, jump_g, jump_n, jump_r, jump_e, lf_seq, lf_label, eq_self, ite_true, ite_false, undef_eq, List.set_cons_zero, List.set_cons_succ, List.getD_cons_zero, List.getD_cons_succ, List.map_cons, List.map_nil, List.length_cons, List.length_nil, List.append_nil, List.cons_append, List.nil_append, List.replicate_succ, List.replicate_zero, Nat.reduceAdd, Nat.reduceSub, ↓reduceIte, List.getElem?_cons_zero, List.getElem?_cons_succ, basic, cellsL, resOf, setAt, List.append_assoc, List.length_append, List.getElem?_append_left, List.getElem?_append_right, List.set_append_left, List.set_append_right, below, belowB, belowA, atomB, List.mem_cons, List.not_mem_nil, forall_eq_or_imp, forall_eq, List.toList_toArray, implies_true, List.take_succ_cons, List.take_zero, List.drop_succ_cons, List.drop_zero, List.take_nil, List.drop_nil, Nat.reduceLeDiff, Nat.reduceMul, Int.reduceToNat, Int.reduceLT, Int.reduceLE, Int.reduceAdd, Int.reduceNeg, Int.reduceEq, splice, List.singleton_append, Nat.reduceEqDiff, Nat.reduceLT, isAtom, List.all_cons, List.all_nil, Option.map_some, Option.bind_some, List.length_set, Int.reduceSub, Int.reduceMul, List.getElem?_set_self, List.getElem?_set_ne, ofB_2, tmpR_if, ro_sliceData, ro_capNil, ro_noZero, ext_2, ext_3, ext_4, ext_5, List.set_set]
    refine app_row (bytes := 32) (hsl'.frm0 Frm.refl.app) rfl (by simp; omega) ?_
    intro v2 M2 G2 hM2 hf2 hs2 hG2
    simp only [List.length_append, List.length_cons, List.length_nil] at hM2 hG2
    have hf3 : Frm G' M' M2 := hf2.app_of
    have hc2 := hf3.get hc' hwG'
    have hc2l := lt_of_some hc2
    have hwG2 : w ∉ G2 := fun hx => by have := hG2 w hx; omega
    have hR2 : Rb (M2.set w ⟨[.int .i64 n1, .int .i64 (cnt + 1), v2], 45, 1, 0, .own⟩) w (w :: G2) n1 (cnt + 1) (W ++ (ls.take (i + 1)).map fun p => ⟨cnt + 1, p⟩) := by
      refine ⟨v2, G2, rfl, hwG2, by rw [List.getElem?_set_self hc2l], ?_⟩
      have e : (W ++ (ls.take (i + 1)).map fun p => (⟨cnt + 1, p⟩ : RP)) = (W ++ (ls.take i).map fun p => (⟨cnt + 1, p⟩ : RP)) ++ [⟨cnt + 1, x⟩] := by
        rw [take_snoc hx, List.map_append, ← List.append_assoc]; rfl
      rw [e, List.map_append]
      exact hs2.setb hwG2
    have hs2' := hs'.frm hf3 fun y hy hy' => hdj y (by simp [hy']) hy
    have hmM' := hf'.len
    obtain ⟨v2a, rfl, _⟩ := hs2.form
    simp only [List.length_append, List.length_cons, List.length_nil, Nat.zero_add, List.length_map] at hR2 ⊢
    simp (contextual := true) (implicitDefEqProofs := false) (maxSteps := 2000000) (disch := first | rfl | exact Nat.le_of_ble_eq_true rfl | omega | (simp only [List.length_append, List.length_cons, List.length_nil, List.length_set]; omega)) only [hlt', h0', hc2, hb, hpart, Int.toNat_natCast, W1, W2, W3, W4, W5, W6, W7, W8, W9, W10, W11, W12, W13, W14, W15, eq_self, ite_true, ite_false, undef_eq, List.set_cons_zero, List.set_cons_succ, List.getD_cons_zero, List.getD_cons_succ, List.map_cons, List.map_nil, List.length_cons, List.length_nil, List.append_nil, List.cons_append, List.nil_append, List.replicate_succ, List.replicate_zero, Nat.reduceAdd, Nat.reduceSub, ↓reduceIte, List.getElem?_cons_zero, List.getElem?_cons_succ, basic, cellsL, resOf, setAt, List.append_assoc, List.length_append, List.getElem?_append_left, List.getElem?_append_right, List.set_append_left, List.set_append_right, below, belowB, belowA, atomB, List.mem_cons, List.not_mem_nil, forall_eq_or_imp, forall_eq, List.toList_toArray, implies_true, List.take_succ_cons, List.take_zero, List.drop_succ_cons, List.drop_zero, List.take_nil, List.drop_nil, Nat.reduceLeDiff, Nat.reduceMul, Int.reduceToNat, Int.reduceLT, Int.reduceLE, Int.reduceAdd, Int.reduceNeg, Int.reduceEq, splice, List.singleton_append, Nat.reduceEqDiff, Nat.reduceLT, isAtom, List.all_cons, List.all_nil, Option.map_some, Option.bind_some, List.length_set, Int.reduceSub, Int.reduceMul, List.getElem?_set_self, List.getElem?_set_ne, ofB_2, tmpR_if, ro_sliceData, ro_capNil, ro_noZero, ext_2, ext_3, ext_4, ext_5, List.set_set]
    refine kInv_go ⟨i + 1, w :: G2, rfl, by omega, ?_, hR2, fun y hy => ?_, fun y hy hy' => ?_, hs2'.setb hwWb, ⟨rfl, by simp [hwi]⟩⟩ (by omega)
    · exact (hf'.trans hf3 fun y hy => hnw y (by simp [hy])).set (by simp)
    · rcases List.mem_cons.mp hy with rfl | hy
      · exact .inl (by simp)
      · exact .inr (by have := hG2 y hy; omega)
    · rcases List.mem_cons.mp hy with rfl | hy
      · exact hwWb hy'
      · have h1 := hG2 y hy; have h2 := hs'.lt y hy'; omega
  · have hlt' : ((i : Int) < (ls.length : Int)) = False := by simp; omega
    rw [List.take_of_length_le (by omega)] at hR
    simp (contextual := true) (implicitDefEqProofs := false) (maxSteps := 2000000) (disch := first | rfl | exact Nat.le_of_ble_eq_true rfl | omega | (simp only [List.length_append, List.length_cons, List.length_nil, List.length_set]; omega)) only [hlt', W1, W2, W3, W4, W5, W6, W7, W8, W9, W10, W11, W12, W13, W14, W15, eq_self, ite_true, ite_false, undef_eq, List.set_cons_zero, List.set_cons_succ, List.getD_cons_zero, List.getD_cons_succ, List.map_cons, List.map_nil, List.length_cons, List.length_nil, List.append_nil, List.cons_append, List.nil_append, List.replicate_succ, List.replicate_zero, Nat.reduceAdd, Nat.reduceSub, ↓reduceIte, List.getElem?_cons_zero, List.getElem?_cons_succ, basic, cellsL, resOf, setAt, List.append_assoc, List.length_append, List.getElem?_append_left, List.getElem?_append_right, List.set_append_left, List.set_append_right, below, belowB, belowA, atomB, List.mem_cons, List.not_mem_nil, forall_eq_or_imp, forall_eq, List.toList_toArray, implies_true, List.take_succ_cons, List.take_zero, List.drop_succ_cons, List.drop_zero, List.take_nil, List.drop_nil, Nat.reduceLeDiff, Nat.reduceMul, Int.reduceToNat, Int.reduceLT, Int.reduceLE, Int.reduceAdd, Int.reduceNeg, Int.reduceEq, splice, List.singleton_append, Nat.reduceEqDiff, Nat.reduceLT, isAtom, List.all_cons, List.all_nil, Option.map_some, Option.bind_some, List.length_set, Int.reduceSub, Int.reduceMul, List.getElem?_set_self, List.getElem?_set_ne, ofB_2, tmpR_if, ro_sliceData, ro_capNil, ro_noZero, ext_2, ext_3, ext_4, ext_5, List.set_set]
    exact ⟨hf', F', hR, hnw⟩

def rnextV : List RP → Value
  | x :: _ => .tuple #[.agg #[.int .i64 x.p.1, str x.p.2], .bool true]
  | [] => .tuple #[.agg #[.int .i64 0, .string ⟨#[]⟩], .bool false]
theorem rnext_spec {m : Mem} {w : Nat} {F : List Nat} {n1 cnt : Int} {W : List RP} (h : Rb m w F n1 cnt W) (hn : W.length ≤ 800) :
    LCall Try.prog 13 [.pointer (some ⟨w, 0, none⟩)] m fun v M => v = rnextV W ∧ Frm F m M ∧ ∃ F', Rb M w F' n1 cnt (W.drop 1) ∧ NwF m F F' := by
  have h0 := h
  obtain ⟨sv, G, rfl, hwG, hc, hsl⟩ := h
  have hcl := lt_of_some hc
  refine LCall_enter Try.func13 c13 ?_
  cases W with
  | nil =>
    obtain ⟨sa, rfl, _⟩ := hsl.form
    simp only [List.map_nil, List.length_nil] at hc
    simp (contextual := true) (implicitDefEqProofs := false) (maxSteps := 2000000) (disch := first | rfl | exact Nat.le_of_ble_eq_true rfl | omega | (simp only [List.length_append, List.length_cons, List.length_nil, List.length_set]; omega)) only [L13, hc, W1, W2, W3, W4, W5, W6, W7, W8, W9, W10, W11, W12, W13, W14, W15, eq_self, ite_true, ite_false, undef_eq, List.set_cons_zero, List.set_cons_succ, List.getD_cons_zero, List.getD_cons_succ, List.map_cons, List.map_nil, List.length_cons, List.length_nil, List.append_nil, List.cons_append, List.nil_append, List.replicate_succ, List.replicate_zero, Nat.reduceAdd, Nat.reduceSub, ↓reduceIte, List.getElem?_cons_zero, List.getElem?_cons_succ, basic, cellsL, resOf, setAt, List.append_assoc, List.length_append, List.getElem?_append_left, List.getElem?_append_right, List.set_append_left, List.set_append_right, below, belowB, belowA, atomB, List.mem_cons, List.not_mem_nil, forall_eq_or_imp, forall_eq, List.toList_toArray, implies_true, List.take_succ_cons, List.take_zero, List.drop_succ_cons, List.drop_zero, List.take_nil, List.drop_nil, Nat.reduceLeDiff, Nat.reduceMul, Int.reduceToNat, Int.reduceLT, Int.reduceLE, Int.reduceAdd, Int.reduceNeg, Int.reduceEq, splice, List.singleton_append, Nat.reduceEqDiff, Nat.reduceLT, isAtom, List.all_cons, List.all_nil, Option.map_some, Option.bind_some, List.length_set, Int.reduceSub, Int.reduceMul, List.getElem?_set_self, List.getElem?_set_ne, ofB_2, tmpR_if, ro_sliceData, ro_capNil, ro_noZero, ext_2, ext_3, ext_4, ext_5, List.set_set]
    exact ⟨rfl, Frm.refl.app, _, h0.frm (G := []) Frm.refl.app (by simp), fun x hx => .inl hx⟩
  | cons x rest =>
    rcases Sl.form2 hsl with ⟨_, hnil⟩ | ⟨b, o, cs, rfl, hGe, hb, hbl, hdrop⟩
    · simp at hnil
    have hrest := hdrop 1 (by simp)
    simp only [List.length_map, List.length_cons, List.map_cons, List.drop_succ_cons, List.drop_zero, Nat.one_mul] at hrest hc hbl hsl
    obtain ⟨a', ea, hform⟩ := hsl.form
    simp only [Value.slice.injEq, List.length_cons, List.length_map, and_true] at ea
    subst ea
    obtain ⟨b', o', cs', ebe, _, hb', _, _, hrow⟩ := hform (by simp)
    obtain ⟨rfl, rfl⟩ : b = b' ∧ o = o' := by simpa using ebe
    obtain rfl : cs = cs' := by rw [hb] at hb'; simpa using hb'
    have hpart : List.take 2 (List.drop (o + 1) cs) = [.int .i64 x.p.1, str x.p.2] := by
      have h1 := hrow 0 x.row rfl
      simp only [Nat.zero_mul, Nat.add_zero, RP.row] at h1
      have h2 := congrArg (List.drop 1) h1
      rw [List.drop_take, List.drop_drop] at h2
      exact h2
    have hbli := lt_of_some hb
    have hpos : ((0 : Int) < ((rest.length + 1 : Nat) : Int)) = True := eq_true (by omega)
    have hn0 : (((rest.length + 1 : Nat) : Int) = 0) = False := eq_false (by omega)
    have h1n : ((1 : Int) ≤ ((rest.length + 1 : Nat) : Int)) = True := eq_true (by omega)
    simp (contextual := true) (implicitDefEqProofs := false) (maxSteps := 2000000) (disch := first | rfl | exact Nat.le_of_ble_eq_true rfl | omega | (simp only [List.length_append, List.length_cons, List.length_nil, List.length_set]; omega)) only [L13, hc, hb, hpart, hpos, hn0, h1n, W1, W2, W3, W4, W5, W6, W7, W8, W9, W10, W11, ops_nil, ops_n, ops_g, guardK_it, guardK_if, guardK_u, CondP_t, CondP_f, ex_call, pickK_it, loadK_p, loadNK_p, storeB_s, cellB_s, cellB_r, cellsB_s, cellsB_r, condK_it, lc_skip, lc_region, lc_draw, lc_seq, lc_cond, lc_block, lc_exit, lc_ret, then_n, then_e, then_r, block_n, block_r, block_e, bin_add, bin_sub, bin_mul, bin_quo, bin_rem, bin_and, bin_or, bin_xor, bin_andNot, bin_eql, bin_neq, bin_lss, bin_leq, bin_gtr, bin_geq, bin_shl, bin_shr, bin_sadd, bin_seql, bin_sneq, un_not, un_neg, eqL_b, eqL_i, eqL_s, eqL_pnn, eqL_pns, eqL_psn, eqL_pp, eqL_slnn, eqL_slns, eqL_slsn, ex_callv, slB_e, slB_r, apB_e, lc_chain, lc_bad, putBK_s, lc_label, lc_goto, then_g, block_g, jump_g, jump_n, jump_r, jump_e, lf_seq, lf_label, eq_self, ite_true, ite_false, undef_eq, List.set_cons_zero, List.set_cons_succ, List.getD_cons_zero, List.getD_cons_succ, List.map_cons, List.map_nil, List.length_cons, List.length_nil, List.append_nil, List.cons_append, List.nil_append, List.replicate_succ, List.replicate_zero, Nat.reduceAdd, Nat.reduceSub, ↓reduceIte, List.getElem?_cons_zero, List.getElem?_cons_succ, basic, cellsL, resOf, setAt, List.append_assoc, List.length_append, List.getElem?_append_left, List.getElem?_append_right, List.set_append_left, List.set_append_right, below, belowB, belowA, atomB, List.mem_cons, List.not_mem_nil, forall_eq_or_imp, forall_eq, List.toList_toArray, implies_true, List.take_succ_cons, List.take_zero, List.drop_succ_cons, List.drop_zero, List.take_nil, List.drop_nil, Nat.reduceLeDiff, Nat.reduceMul, Int.reduceToNat, Int.reduceLT, Int.reduceLE, Int.reduceAdd, Int.reduceNeg, Int.reduceEq, splice, List.singleton_append, Nat.reduceEqDiff, Nat.reduceLT, isAtom, List.all_cons, List.all_nil, Option.map_some, Option.bind_some, List.length_set, Int.reduceSub, Int.reduceMul, List.getElem?_set_self, List.getElem?_set_ne, ofB_2, tmpR_if, ro_sliceData, ro_capNil, ro_noZero, ext_2, ext_3, ext_4, ext_5, List.set_set]
    have hct : List.take ((rest.length + 1 - 1) * 3) (List.drop (o + 3) cs) = (rest.map RP.row).flatten := by
      have h1 := new_rows hrest
      rw [new_sl, hb, cellsB_s (by omega)] at h1
      exact Option.some.inj h1
    have hs0 : Sl (m ++ [⟨[.int .i64 0, .string ⟨#[]⟩], 39, 1, 0, .own⟩, ⟨[.int .i64 x.p.1, str x.p.2], 39, 1, 0, .own⟩, ⟨[], 63, 3, 0, .own⟩]) 63 3 (.slice (some ⟨m.length + 2, 0, none⟩) 0 0) [m.length + 2] [] :=
      Sl.make (n := 0) (cs := []) (by rw [List.getElem?_append_right (by omega)]; simp) (by simp) (by simp) (by simp)
    rw [hct]
    refine app_any (bytes := 32) (new := rest.map RP.row) hs0 (by simp) (fun r hr => hrest.rows_len r hr) rfl (by simp; simp at hn; omega) ?_
    intro v2 M2 G2 hM2 hf2 hs2 hG2
    simp only [List.length_append, List.length_cons, List.length_nil, List.nil_append] at hM2 hG2 hs2
    have hf3 : Frm [] m M2 := by
      have k1 : Frm [m.length + 2] m M2 := hf2.app_of
      exact (Frm.refl (F := ([] : List Nat))).trans k1 fun y hy => .inr (by simp at hy; omega)
    have hst : Rb (M2.set w ⟨[.int .i64 n1, .int .i64 cnt, v2], 45, 1, 0, .own⟩) w (w :: G2) n1 cnt rest := by
      have hcM := hf3.get0 hc
      have hwG2 : w ∉ G2 := fun hx => by
        rcases hG2 w hx with h1 | h1
        · simp at h1; omega
        · omega
      exact ⟨v2, G2, rfl, hwG2, by rw [List.getElem?_set_self (lt_of_some hcM)], hs2.setb hwG2⟩
    have hcM := hf3.get0 hc
    have hcMl := lt_of_some hcM
    have hx2 : M2[m.length]? = some ⟨[.int .i64 0, .string ⟨#[]⟩], 39, 1, 0, .own⟩ := hf2.get (by simp) (by simp)
    have hx4 : M2[m.length + 1]? = some ⟨[.int .i64 x.p.1, str x.p.2], 39, 1, 0, .own⟩ := hf2.get (by rw [List.getElem?_append_right (by omega)]; simp) (by simp)
    have hx2l := lt_of_some hx2
    have hx4l := lt_of_some hx4
    have hw2 : ¬ w = m.length := by omega
    have hw4 : ¬ w = m.length + 1 := by omega
    obtain ⟨v2a, rfl, _⟩ := hs2.form
    have hy4 : (M2.set w ⟨[.int .i64 n1, .int .i64 cnt, .slice v2a (rest.map RP.row).length (rest.map RP.row).length], 45, 1, 0, .own⟩)[m.length + 1]? = some ⟨[.int .i64 x.p.1, str x.p.2], 39, 1, 0, .own⟩ := by rw [List.getElem?_set_ne hw4]; exact hx4
    have hy2 : (M2.set w ⟨[.int .i64 n1, .int .i64 cnt, .slice v2a (rest.map RP.row).length (rest.map RP.row).length], 45, 1, 0, .own⟩)[m.length]? = some ⟨[.int .i64 0, .string ⟨#[]⟩], 39, 1, 0, .own⟩ := by rw [List.getElem?_set_ne hw2]; exact hx2
    simp (contextual := true) (implicitDefEqProofs := false) (maxSteps := 2000000) (disch := first | rfl | exact Nat.le_of_ble_eq_true rfl | omega | (simp only [List.length_append, List.length_cons, List.length_nil, List.length_set]; omega)) only [hcM, hy4, hy2, W1, W2, W3, W4, W5, W6, W7, W8, W9, W10, W11, W12, W13, W14, W15, eq_self, ite_true, ite_false, undef_eq, List.set_cons_zero, List.set_cons_succ, List.getD_cons_zero, List.getD_cons_succ, List.map_cons, List.map_nil, List.length_cons, List.length_nil, List.append_nil, List.cons_append, List.nil_append, List.replicate_succ, List.replicate_zero, Nat.reduceAdd, Nat.reduceSub, ↓reduceIte, List.getElem?_cons_zero, List.getElem?_cons_succ, basic, cellsL, resOf, setAt, List.append_assoc, List.length_append, List.getElem?_append_left, List.getElem?_append_right, List.set_append_left, List.set_append_right, below, belowB, belowA, atomB, List.mem_cons, List.not_mem_nil, forall_eq_or_imp, forall_eq, List.toList_toArray, implies_true, List.take_succ_cons, List.take_zero, List.drop_succ_cons, List.drop_zero, List.take_nil, List.drop_nil, Nat.reduceLeDiff, Nat.reduceMul, Int.reduceToNat, Int.reduceLT, Int.reduceLE, Int.reduceAdd, Int.reduceNeg, Int.reduceEq, splice, List.singleton_append, Nat.reduceEqDiff, Nat.reduceLT, isAtom, List.all_cons, List.all_nil, Option.map_some, Option.bind_some, List.length_set, Int.reduceSub, Int.reduceMul, List.getElem?_set_self, List.getElem?_set_ne, ofB_2, tmpR_if, ro_sliceData, ro_capNil, ro_noZero, ext_2, ext_3, ext_4, ext_5, List.set_set]
    have hset : ∀ M : Mem, Frm [m.length] M (M.set m.length ⟨[.int .i64 x.p.1, str x.p.2], 39, 1, 0, .own⟩) := fun M => Frm.refl.set (by simp)
    refine ⟨rfl, ?_, w :: G2, hst.frm (hset _) fun y hy hy' => ?_, fun y hy => ?_⟩
    · exact ((hf3.of_nil).set (by simp)).set (.inr (Nat.le_refl _))
    · have e : y = m.length := by simpa using hy'
      rcases List.mem_cons.mp hy with h1 | h1
      · omega
      · rcases hG2 y h1 with h2 | h2
        · simp at h2; omega
        · omega
    · rcases List.mem_cons.mp hy with h1 | h1
      · exact .inl (by simp [h1])
      · rcases hG2 y h1 with h2 | h2
        · simp at h2; exact .inr (by omega)
        · exact .inr (by omega)
end Go.Proofs.Ytfpnnaalbjmnlaa
