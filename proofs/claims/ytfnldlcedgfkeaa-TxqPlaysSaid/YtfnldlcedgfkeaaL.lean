/- The document's queue: Drop and Take, walked. -/
import Derived.Test.YtfnldlcedgfkeaaK
namespace Go.Proofs.Ytfnldlcedgfkeaa
open Go.Lg
set_option maxRecDepth 8000
set_option maxHeartbeats 8000000
set_option linter.unusedSimpArgs false
set_option linter.unnecessarySimpa false
set_option linter.unusedVariables false

theorem Sl.form2 {m : Mem} {T sz : Nat} {v : Value} {F : List Nat} {rows : List (List Value)} (h : Sl m T sz v F rows) : (v = .slice none 0 0 ∧ rows = []) ∨ ∃ b o cs, v = .slice (some ⟨b, o, none⟩) rows.length rows.length ∧ F = [b] ∧ m[b]? = some ⟨cs, T, sz, 0, .own⟩ ∧ o + rows.length * sz ≤ cs.length ∧
    ∀ i, i ≤ rows.length → Sl m T sz (.slice (some ⟨b, o + i * sz, none⟩) (rows.length - i) (rows.length - i)) F (rows.drop i) := by
  cases h with
  | nil => exact .inl ⟨rfl, rfl⟩
  | @own b o cs _ hb hr hc hl =>
    refine .inr ⟨b, o, cs, rfl, rfl, hb, hl, fun i hi => ?_⟩
    have h1 := drop_rows hr hc hi
    have h2 : o + i * sz + (rows.drop i).length * sz ≤ cs.length := by
      rw [List.length_drop, Nat.sub_mul]
      have := Nat.mul_le_mul_right sz hi
      omega
    have := Sl.own (m := m) (T := T) (sz := sz) (b := b) (o := o + i * sz) (cs := cs) (rows := rows.drop i) hb (fun r hr' => hr r (List.mem_of_mem_drop hr')) h1 h2
    rwa [List.length_drop] at this

def notK (k : Int) (e : RE) : Bool := decide (e.k ≠ k)
theorem rdrop_spec {m : Mem} {w : Nat} {F : List Nat} {W : List RE} (k : Int) (h : Rq m w F W) (hn : W.length ≤ 1000) :
    LCall Try.prog 42 [.pointer (some ⟨w, 0, none⟩), .int .i64 k] m fun v M => v = .int .i64 ((W.length : Int) - ((W.filter (notK k)).length : Int)) ∧ Frm F m M ∧ ∃ F', Rq M w F' (W.filter (notK k)) ∧ NwF m F F' := by
  have h0 := h
  obtain ⟨sv, G0, rfl, hwG, hc0, hsl⟩ := h
  have hcl := lt_of_some hc0
  obtain ⟨a, rfl, hform⟩ := hsl.form
  simp only [List.length_map] at hsl hc0 hform
  refine LCall_enter Try.func42 c42 ?_
  simp (contextual := true) (implicitDefEqProofs := false) (maxSteps := 2000000) (disch := first | rfl | exact Nat.le_of_ble_eq_true rfl | omega | (simp only [List.length_append, List.length_cons, List.length_nil, List.length_set]; omega)) only [L42, W1, W2, W3, W4, W5, W6, W7, W8, W9, W10, W11, W12, W13, W14, W15, eq_self, ite_true, ite_false, undef_eq, List.set_cons_zero, List.set_cons_succ, List.getD_cons_zero, List.getD_cons_succ, List.map_cons, List.map_nil, List.length_cons, List.length_nil, List.append_nil, List.cons_append, List.nil_append, List.replicate_succ, List.replicate_zero, Nat.reduceAdd, Nat.reduceSub, ↓reduceIte, List.getElem?_cons_zero, List.getElem?_cons_succ, basic, cellsL, resOf, setAt, List.append_assoc, List.length_append, List.getElem?_append_left, List.getElem?_append_right, List.set_append_left, List.set_append_right, below, belowB, belowA, atomB, List.mem_cons, List.not_mem_nil, forall_eq_or_imp, forall_eq, List.toList_toArray, implies_true, List.take_succ_cons, List.take_zero, List.drop_succ_cons, List.drop_zero, List.take_nil, List.drop_nil, Nat.reduceLeDiff, Nat.reduceMul, Int.reduceToNat, Int.reduceLT, Int.reduceLE, Int.reduceAdd, Int.reduceNeg, Int.reduceEq, splice, List.singleton_append, Nat.reduceEqDiff, Nat.reduceLT, isAtom, List.all_cons, List.all_nil, Option.map_some, Option.bind_some, List.length_set, Int.reduceSub, Int.reduceMul, List.getElem?_set_self, List.getElem?_set_ne, ofB_2, tmpR_if, ro_sliceData, ro_capNil, ro_noZero, ext_2, ext_3, ext_4, ext_5, List.set_set]
  refine loop_inv (fun n t M => ∃ (i : Nat) (v : Value) (H : List Nat), n = W.length - i ∧ i ≤ W.length ∧ Frm [] m M ∧ Sl M 89 3 v H (((W.take i).filter (notK k)).map RE.row) ∧ (∀ x ∈ H, m.length ≤ x) ∧
    Tab 51 [(0, .pointer (some ⟨w, 0, none⟩)), (1, .int .i64 k), (5, v), (6, .int .i64 (i : Int))] t) (n := W.length) ?_ ?_
  · exact ⟨0, .slice (some ⟨m.length, 0, none⟩) 0 0, [m.length], rfl, Nat.zero_le _, Frm.refl.app, Sl.make (n := 0) (b := m.length) (cs := []) (by simp) (by simp) (by simp) (by simp), by simp, ⟨rfl, by simp⟩⟩
  rintro n t M ⟨i, v, H, rfl, hi, hf, hv, hH, ht⟩
  obtain ⟨g, rfl⟩ : ∃ f' : Nat → Value, t = [.pointer (some ⟨w, 0, none⟩), .int .i64 k, f' 2, f' 3, f' 4, v, .int .i64 (i : Int), f' 7, f' 8, f' 9, f' 10, f' 11, f' 12, f' 13, f' 14, f' 15, f' 16, f' 17, f' 18, f' 19, f' 20, f' 21, f' 22, f' 23, f' 24, f' 25, f' 26, f' 27, f' 28, f' 29, f' 30, f' 31, f' 32, f' 33, f' 34, f' 35, f' 36, f' 37, f' 38, f' 39, f' 40, f' 41, f' 42, f' 43, f' 44, f' 45, f' 46, f' 47, f' 48, f' 49, f' 50] := ht.open fun f' => rfl
  have hcM := hf.get0 hc0
  have hml := hf.len
  by_cases hlj : i < W.length
  · have hlj' : ((i : Int) < (W.length : Int)) = True := by simp [hlj]
    have h0j : ((0 : Int) ≤ (i : Int)) = True := by simp
    have hwi : IntKind.i64.wrap ((i : Int) + 1) = ((i + 1 : Nat) : Int) := by rw [wrap_i64 (by omega) (by omega)]; omega
    obtain ⟨b, o, cs, rfl, rfl, hb, hl, hcc, hrow⟩ := hform (by omega)
    obtain ⟨e, he⟩ : ∃ r, W[i]? = some r := ⟨_, List.getElem?_eq_getElem hlj⟩
    have hx : cs[o + i * 3 + 1]? = some (.int .i64 e.k) := by
      have := row_cell (hrow i e.row (by simp [he])) (j := 1) (by omega)
      simpa [RE.row] using this
    have hpart : List.take 3 (List.drop (o + i * 3) cs) = [.int .i64 e.c, .int .i64 e.k, .string e.t] := hrow i e.row (by simp [he])
    have hbM := hf.get0 hb
    have hsn := filter_snoc (p := notK k) he
    have hp2 := List.length_filter_le (notK k) (W.take i)
    have hp3 : (W.take i).length ≤ W.length := by simp; omega
    by_cases hk : e.k = k
    · rw [if_neg (by simpa [notK] using hk), List.append_nil] at hsn
      simp (contextual := true) (implicitDefEqProofs := false) (maxSteps := 2000000) (disch := first | rfl | exact Nat.le_of_ble_eq_true rfl | omega | (simp only [List.length_append, List.length_cons, List.length_nil, List.length_set]; omega)) only [hcM, hlj', h0j, hbM, hx, hk, Int.toNat_natCast, W1, W2, W3, W4, W5, W6, W7, W8, W9, W10, W11, W12, W13, W14, W15, eq_self, ite_true, ite_false, undef_eq, List.set_cons_zero, List.set_cons_succ, List.getD_cons_zero, List.getD_cons_succ, List.map_cons, List.map_nil, List.length_cons, List.length_nil, List.append_nil, List.cons_append, List.nil_append, List.replicate_succ, List.replicate_zero, Nat.reduceAdd, Nat.reduceSub, ↓reduceIte, List.getElem?_cons_zero, List.getElem?_cons_succ, basic, cellsL, resOf, setAt, List.append_assoc, List.length_append, List.getElem?_append_left, List.getElem?_append_right, List.set_append_left, List.set_append_right, below, belowB, belowA, atomB, List.mem_cons, List.not_mem_nil, forall_eq_or_imp, forall_eq, List.toList_toArray, implies_true, List.take_succ_cons, List.take_zero, List.drop_succ_cons, List.drop_zero, List.take_nil, List.drop_nil, Nat.reduceLeDiff, Nat.reduceMul, Int.reduceToNat, Int.reduceLT, Int.reduceLE, Int.reduceAdd, Int.reduceNeg, Int.reduceEq, splice, List.singleton_append, Nat.reduceEqDiff, Nat.reduceLT, isAtom, List.all_cons, List.all_nil, Option.map_some, Option.bind_some, List.length_set, Int.reduceSub, Int.reduceMul, List.getElem?_set_self, List.getElem?_set_ne, ofB_2, tmpR_if, ro_sliceData, ro_capNil, ro_noZero, ext_2, ext_3, ext_4, ext_5, List.set_set]
      exact kInv_go ⟨i + 1, v, H, rfl, by omega, hf, by rw [hsn]; exact hv, hH, ⟨rfl, by simp [hwi]⟩⟩ (by omega)
    · rw [if_pos (by simpa [notK] using hk)] at hsn
      simp (contextual := true) (implicitDefEqProofs := false) (maxSteps := 2000000) (disch := first | rfl | exact Nat.le_of_ble_eq_true rfl | omega | (simp only [List.length_append, List.length_cons, List.length_nil, List.length_set]; omega)) only [hcM, hlj', h0j, hbM, hx, hk, hpart, Int.toNat_natCast, W1, W2, W3, W4, W5, W6, W7, W8, W9, W10, W11, ops_nil, ops_n, ops_g, guardK_it, guardK_if, guardK_u, CondP_t, CondP_f, ex_call, pickK_it, loadK_p, loadNK_p, storeB_s, cellB_s, cellB_r, cellsB_s, cellsB_r, condK_it, lc_skip, lc_region, lc_draw, lc_seq, lc_cond, lc_block, lc_exit, lc_ret, then_n, then_e, then_r, block_n, block_r, block_e, bin_add, bin_sub, bin_mul, bin_quo, bin_rem, bin_and, bin_or, bin_xor, bin_andNot, bin_eql, bin_neq, bin_lss, bin_leq, bin_gtr, bin_geq, bin_shl, bin_shr, bin_sadd, bin_seql, bin_sneq, un_not, un_neg, eqL_b, eqL_i, eqL_s, eqL_pnn, eqL_pns, eqL_psn, eqL_pp, eqL_slnn, eqL_slns, eqL_slsn, ex_callv, slB_e, slB_r, apB_e, lc_chain, lc_bad, putBK_s, lc_label, lc_goto, then_g, block_g, jump_g, jump_n, jump_r, jump_e, lf_seq, lf_label, eq_self, ite_true, ite_false, undef_eq, List.set_cons_zero, List.set_cons_succ, List.getD_cons_zero, List.getD_cons_succ, List.map_cons, List.map_nil, List.length_cons, List.length_nil, List.append_nil, List.cons_append, List.nil_append, List.replicate_succ, List.replicate_zero, Nat.reduceAdd, Nat.reduceSub, ↓reduceIte, List.getElem?_cons_zero, List.getElem?_cons_succ, basic, cellsL, resOf, setAt, List.append_assoc, List.length_append, List.getElem?_append_left, List.getElem?_append_right, List.set_append_left, List.set_append_right, below, belowB, belowA, atomB, List.mem_cons, List.not_mem_nil, forall_eq_or_imp, forall_eq, List.toList_toArray, implies_true, List.take_succ_cons, List.take_zero, List.drop_succ_cons, List.drop_zero, List.take_nil, List.drop_nil, Nat.reduceLeDiff, Nat.reduceMul, Int.reduceToNat, Int.reduceLT, Int.reduceLE, Int.reduceAdd, Int.reduceNeg, Int.reduceEq, splice, List.singleton_append, Nat.reduceEqDiff, Nat.reduceLT, isAtom, List.all_cons, List.all_nil, Option.map_some, Option.bind_some, List.length_set, Int.reduceSub, Int.reduceMul, List.getElem?_set_self, List.getElem?_set_ne, ofB_2, tmpR_if, ro_sliceData, ro_capNil, ro_noZero, ext_2, ext_3, ext_4, ext_5, List.set_set]
      refine app_row (bytes := 32) (hv.frm0 Frm.refl.app) rfl (by simp; omega) ?_
      intro v2 M2 G2 hM hf2 hs2 hG2
      simp only [List.length_append, List.length_cons, List.length_nil] at hM hG2
      simp (contextual := true) (implicitDefEqProofs := false) (maxSteps := 2000000) (disch := first | rfl | exact Nat.le_of_ble_eq_true rfl | omega | (simp only [List.length_append, List.length_cons, List.length_nil, List.length_set]; omega)) only [W1, W2, W3, W4, W5, W6, W7, W8, W9, W10, W11, W12, W13, W14, W15, eq_self, ite_true, ite_false, undef_eq, List.set_cons_zero, List.set_cons_succ, List.getD_cons_zero, List.getD_cons_succ, List.map_cons, List.map_nil, List.length_cons, List.length_nil, List.append_nil, List.cons_append, List.nil_append, List.replicate_succ, List.replicate_zero, Nat.reduceAdd, Nat.reduceSub, ↓reduceIte, List.getElem?_cons_zero, List.getElem?_cons_succ, basic, cellsL, resOf, setAt, List.append_assoc, List.length_append, List.getElem?_append_left, List.getElem?_append_right, List.set_append_left, List.set_append_right, below, belowB, belowA, atomB, List.mem_cons, List.not_mem_nil, forall_eq_or_imp, forall_eq, List.toList_toArray, implies_true, List.take_succ_cons, List.take_zero, List.drop_succ_cons, List.drop_zero, List.take_nil, List.drop_nil, Nat.reduceLeDiff, Nat.reduceMul, Int.reduceToNat, Int.reduceLT, Int.reduceLE, Int.reduceAdd, Int.reduceNeg, Int.reduceEq, splice, List.singleton_append, Nat.reduceEqDiff, Nat.reduceLT, isAtom, List.all_cons, List.all_nil, Option.map_some, Option.bind_some, List.length_set, Int.reduceSub, Int.reduceMul, List.getElem?_set_self, List.getElem?_set_ne, ofB_2, tmpR_if, ro_sliceData, ro_capNil, ro_noZero, ext_2, ext_3, ext_4, ext_5, List.set_set]
      refine kInv_go ⟨i + 1, v2, G2, rfl, by omega, hf.trans hf2.app_of fun x hx => .inr (hH x hx), ?_, fun x hx => by have := hG2 x hx; omega, ⟨rfl, by simp [hwi]⟩⟩ (by omega)
      rw [hsn, List.map_append]
      exact hs2
  · have hlj' : ((i : Int) < (W.length : Int)) = False := by simp; omega
    have htk : W.take i = W := List.take_of_length_le (by omega)
    rw [htk] at hv
    have hp2 := List.length_filter_le (notK k) W
    obtain ⟨va, rfl, _⟩ := hv.form
    simp only [List.length_map] at hv ⊢
    have hw : IntKind.i64.wrap ((W.length : Int) - ((W.filter (notK k)).length : Int)) = (W.length : Int) - ((W.filter (notK k)).length : Int) := wrap_i64 (by omega) (by omega)
    simp (contextual := true) (implicitDefEqProofs := false) (maxSteps := 2000000) (disch := first | rfl | exact Nat.le_of_ble_eq_true rfl | omega | (simp only [List.length_append, List.length_cons, List.length_nil, List.length_set]; omega)) only [hcM, hlj', hw, W1, W2, W3, W4, W5, W6, W7, W8, W9, W10, W11, W12, W13, W14, W15, eq_self, ite_true, ite_false, undef_eq, List.set_cons_zero, List.set_cons_succ, List.getD_cons_zero, List.getD_cons_succ, List.map_cons, List.map_nil, List.length_cons, List.length_nil, List.append_nil, List.cons_append, List.nil_append, List.replicate_succ, List.replicate_zero, Nat.reduceAdd, Nat.reduceSub, ↓reduceIte, List.getElem?_cons_zero, List.getElem?_cons_succ, basic, cellsL, resOf, setAt, List.append_assoc, List.length_append, List.getElem?_append_left, List.getElem?_append_right, List.set_append_left, List.set_append_right, below, belowB, belowA, atomB, List.mem_cons, List.not_mem_nil, forall_eq_or_imp, forall_eq, List.toList_toArray, implies_true, List.take_succ_cons, List.take_zero, List.drop_succ_cons, List.drop_zero, List.take_nil, List.drop_nil, Nat.reduceLeDiff, Nat.reduceMul, Int.reduceToNat, Int.reduceLT, Int.reduceLE, Int.reduceAdd, Int.reduceNeg, Int.reduceEq, splice, List.singleton_append, Nat.reduceEqDiff, Nat.reduceLT, isAtom, List.all_cons, List.all_nil, Option.map_some, Option.bind_some, List.length_set, Int.reduceSub, Int.reduceMul, List.getElem?_set_self, List.getElem?_set_ne, ofB_2, tmpR_if, ro_sliceData, ro_capNil, ro_noZero, ext_2, ext_3, ext_4, ext_5, List.set_set]
    have hst := h0.store hf hv fun x hx => .inl (hH x hx)
    exact ⟨hst.1, _, hst.2.1, hst.2.2⟩

def txtsR (l : List RE) : List ByteArray := l.map RE.t
theorem rtake_spec {m : Mem} {w : Nat} {F : List Nat} {W : List RE} (most bytes : Int) (h : Rq m w F W) (hn : W.length ≤ 16) (hsz : ∀ e ∈ W, e.t.size ≤ 1000) :
    LCall Try.prog 41 [.pointer (some ⟨w, 0, none⟩), .int .i64 most, .int .i64 bytes] m fun v M => Frm F m M ∧ (∃ F', Rq M w F' ((sortW W).drop (goK most bytes ((sortW W).map RE.en) 0 0)) ∧ NwF m F F') ∧
      ∃ H, Sl M 9 1 v H (((sortW W).take (goK most bytes ((sortW W).map RE.en) 0 0)).map fun e => tRow e.t) ∧ (∀ x ∈ H, m.length ≤ x) := by
  have h0 := h
  have hsort := sorted_spec h (by omega)
  obtain ⟨sv, G0, rfl, hwG, hc0, hsl⟩ := h
  have hcl := lt_of_some hc0
  have hSz : ∀ e ∈ sortW W, e.t.size ≤ 1000 := fun e he => by
    simp only [sortW, preS, List.mem_flatten, List.mem_map] at he
    obtain ⟨l, ⟨d, _, rfl⟩, he⟩ := he
    exact hsz e (List.mem_filter.mp he).1
  have hSl : (sortW W).length ≤ 48 := by
    have := preS_le (W := W) (c := 3)
    unfold sortW; omega
  generalize sortW W = S at hsort hSz hSl ⊢
  generalize hK : goK most bytes (S.map RE.en) 0 0 = K
  refine LCall_enter Try.func41 c41 ?_
  simp (contextual := true) (implicitDefEqProofs := false) (maxSteps := 2000000) (disch := first | rfl | exact Nat.le_of_ble_eq_true rfl | omega | (simp only [List.length_append, List.length_cons, List.length_nil, List.length_set]; omega)) only [L41, W1, W2, W3, W4, W5, W6, W7, W8, W9, W10, W11, W12, W13, W14, W15, eq_self, ite_true, ite_false, undef_eq, List.set_cons_zero, List.set_cons_succ, List.getD_cons_zero, List.getD_cons_succ, List.map_cons, List.map_nil, List.length_cons, List.length_nil, List.append_nil, List.cons_append, List.nil_append, List.replicate_succ, List.replicate_zero, Nat.reduceAdd, Nat.reduceSub, ↓reduceIte, List.getElem?_cons_zero, List.getElem?_cons_succ, basic, cellsL, resOf, setAt, List.append_assoc, List.length_append, List.getElem?_append_left, List.getElem?_append_right, List.set_append_left, List.set_append_right, below, belowB, belowA, atomB, List.mem_cons, List.not_mem_nil, forall_eq_or_imp, forall_eq, List.toList_toArray, implies_true, List.take_succ_cons, List.take_zero, List.drop_succ_cons, List.drop_zero, List.take_nil, List.drop_nil, Nat.reduceLeDiff, Nat.reduceMul, Int.reduceToNat, Int.reduceLT, Int.reduceLE, Int.reduceAdd, Int.reduceNeg, Int.reduceEq, splice, List.singleton_append, Nat.reduceEqDiff, Nat.reduceLT, isAtom, List.all_cons, List.all_nil, Option.map_some, Option.bind_some, List.length_set, Int.reduceSub, Int.reduceMul, List.getElem?_set_self, List.getElem?_set_ne, ofB_2, tmpR_if, ro_sliceData, ro_capNil, ro_noZero, ext_2, ext_3, ext_4, ext_5, List.set_set]
  refine hsort.mono ?_
  rintro v M ⟨hf, G, hs, hG⟩
  have hml := hf.len
  obtain ⟨a, rfl, hform⟩ := hs.form
  simp only [List.length_map] at hs hform ⊢
  simp (contextual := true) (implicitDefEqProofs := false) (maxSteps := 2000000) (disch := first | rfl | exact Nat.le_of_ble_eq_true rfl | omega | (simp only [List.length_append, List.length_cons, List.length_nil, List.length_set]; omega)) only [W1, W2, W3, W4, W5, W6, W7, W8, W9, W10, W11, W12, W13, W14, W15, eq_self, ite_true, ite_false, undef_eq, List.set_cons_zero, List.set_cons_succ, List.getD_cons_zero, List.getD_cons_succ, List.map_cons, List.map_nil, List.length_cons, List.length_nil, List.append_nil, List.cons_append, List.nil_append, List.replicate_succ, List.replicate_zero, Nat.reduceAdd, Nat.reduceSub, ↓reduceIte, List.getElem?_cons_zero, List.getElem?_cons_succ, basic, cellsL, resOf, setAt, List.append_assoc, List.length_append, List.getElem?_append_left, List.getElem?_append_right, List.set_append_left, List.set_append_right, below, belowB, belowA, atomB, List.mem_cons, List.not_mem_nil, forall_eq_or_imp, forall_eq, List.toList_toArray, implies_true, List.take_succ_cons, List.take_zero, List.drop_succ_cons, List.drop_zero, List.take_nil, List.drop_nil, Nat.reduceLeDiff, Nat.reduceMul, Int.reduceToNat, Int.reduceLT, Int.reduceLE, Int.reduceAdd, Int.reduceNeg, Int.reduceEq, splice, List.singleton_append, Nat.reduceEqDiff, Nat.reduceLT, isAtom, List.all_cons, List.all_nil, Option.map_some, Option.bind_some, List.length_set, Int.reduceSub, Int.reduceMul, List.getElem?_set_self, List.getElem?_set_ne, ofB_2, tmpR_if, ro_sliceData, ro_capNil, ro_noZero, ext_2, ext_3, ext_4, ext_5, List.set_set]
  refine loop_inv (fun n t M' => ∃ (k : Nat) (u : Value) (H : List Nat), n = S.length - k ∧ k ≤ S.length ∧ goK most bytes ((S.map RE.en).drop k) k (sumT ((S.map RE.en).take k)) = K ∧ Frm [] M M' ∧ Sl M' 9 1 u H ((S.take k).map fun e => tRow e.t) ∧ (∀ x ∈ H, M.length ≤ x) ∧
    Tab 64 [(0, .pointer (some ⟨w, 0, none⟩)), (1, .int .i64 most), (2, .int .i64 bytes), (7, .slice a S.length S.length), (8, u), (9, .int .i64 (sumT ((S.map RE.en).take k) : Int)), (10, .int .i64 (k : Int))] t) (n := S.length) ?_ ?_
  · exact ⟨0, .slice (some ⟨M.length, 0, none⟩) 0 0, [M.length], rfl, Nat.zero_le _, by simpa [sumT] using hK, Frm.refl.app, Sl.make (n := 0) (b := M.length) (cs := []) (by simp) (by simp) (by simp) (by simp), by simp, ⟨rfl, by simp [sumT]⟩⟩
  rintro n t M' ⟨k, u, H, rfl, hk, hgo, hf', hu, hH, ht⟩
  obtain ⟨g, rfl⟩ : ∃ f' : Nat → Value, t = [.pointer (some ⟨w, 0, none⟩), .int .i64 most, .int .i64 bytes, f' 3, f' 4, f' 5, f' 6, .slice a S.length S.length, u, .int .i64 (sumT ((S.map RE.en).take k) : Int), .int .i64 (k : Int), f' 11, f' 12, f' 13, f' 14, f' 15, f' 16, f' 17, f' 18, f' 19, f' 20, f' 21, f' 22, f' 23, f' 24, f' 25, f' 26, f' 27, f' 28, f' 29, f' 30, f' 31, f' 32, f' 33, f' 34, f' 35, f' 36, f' 37, f' 38, f' 39, f' 40, f' 41, f' 42, f' 43, f' 44, f' 45, f' 46, f' 47, f' 48, f' 49, f' 50, f' 51, f' 52, f' 53, f' 54, f' 55, f' 56, f' 57, f' 58, f' 59, f' 60, f' 61, f' 62, f' 63] := ht.open fun f' => rfl
  have hml' := hf'.len
  have htl : (S.take k).length = k := by rw [List.length_take]; omega
  obtain ⟨ua, rfl, _⟩ := hu.form
  simp only [List.length_map, htl] at hu ⊢
  have hfm : Frm [] m M' := hf.nil_trans hf'
  have hcM := hfm.get0 hc0
  have hcMl := lt_of_some hcM
  have hsM := hs.frm0 hf'
  have hk0 : ((0 : Int) ≤ (k : Int)) = True := by simp
  have hkS : ((k : Int) ≤ (S.length : Int)) = True := eq_true (by omega)
  -- the end
  have fin : goK most bytes ((S.map RE.en).drop k) k (sumT ((S.map RE.en).take k)) = k → ∀ v', Sl M' 89 3 v' G ((S.drop k).map RE.row) →
      Frm (w :: G0) m (M'.set w ⟨[v'], 83, 1, 0, .own⟩) ∧ (∃ F', Rq (M'.set w ⟨[v'], 83, 1, 0, .own⟩) w F' (S.drop K) ∧ NwF m (w :: G0) F') ∧ ∃ H, Sl (M'.set w ⟨[v'], 83, 1, 0, .own⟩) 9 1 (.slice ua k k) H ((S.take K).map fun e => tRow e.t) ∧ (∀ x ∈ H, m.length ≤ x) := by
    intro e v' hv'
    rw [hgo] at e
    subst e
    have hst := h0.store hfm hv' fun x hx => .inl (hG x hx)
    exact ⟨hst.1, ⟨_, hst.2.1, hst.2.2⟩, H, hu.setb (fun hx => by have := hH w hx; omega), fun x hx => by have := hH x hx; omega⟩
  rcases Sl.form2 hsM with ⟨hv, hnil⟩ | ⟨b, o, cs, hv, hGe, hbM, hlen, hdrop⟩
  · simp only [Value.slice.injEq] at hv
    obtain ⟨rfl, _, _⟩ := hv
    obtain rfl : S = [] := by simpa using hnil
    obtain rfl : k = 0 := by simpa using hk
    simp (contextual := true) (implicitDefEqProofs := false) (maxSteps := 2000000) (disch := first | rfl | exact Nat.le_of_ble_eq_true rfl | omega | (simp only [List.length_append, List.length_cons, List.length_nil, List.length_set]; omega)) only [hcM, List.length_nil, W1, W2, W3, W4, W5, W6, W7, W8, W9, W10, W11, W12, W13, W14, W15, eq_self, ite_true, ite_false, undef_eq, List.set_cons_zero, List.set_cons_succ, List.getD_cons_zero, List.getD_cons_succ, List.map_cons, List.map_nil, List.length_cons, List.length_nil, List.append_nil, List.cons_append, List.nil_append, List.replicate_succ, List.replicate_zero, Nat.reduceAdd, Nat.reduceSub, ↓reduceIte, List.getElem?_cons_zero, List.getElem?_cons_succ, basic, cellsL, resOf, setAt, List.append_assoc, List.length_append, List.getElem?_append_left, List.getElem?_append_right, List.set_append_left, List.set_append_right, below, belowB, belowA, atomB, List.mem_cons, List.not_mem_nil, forall_eq_or_imp, forall_eq, List.toList_toArray, implies_true, List.take_succ_cons, List.take_zero, List.drop_succ_cons, List.drop_zero, List.take_nil, List.drop_nil, Nat.reduceLeDiff, Nat.reduceMul, Int.reduceToNat, Int.reduceLT, Int.reduceLE, Int.reduceAdd, Int.reduceNeg, Int.reduceEq, splice, List.singleton_append, Nat.reduceEqDiff, Nat.reduceLT, isAtom, List.all_cons, List.all_nil, Option.map_some, Option.bind_some, List.length_set, Int.reduceSub, Int.reduceMul, List.getElem?_set_self, List.getElem?_set_ne, ofB_2, tmpR_if, ro_sliceData, ro_capNil, ro_noZero, ext_2, ext_3, ext_4, ext_5, List.set_set]
    simpa using fin rfl (.slice none 0 0) (by simpa using hsM)
  simp only [Value.slice.injEq] at hv
  obtain ⟨rfl, _, _⟩ := hv
  have hbMl := lt_of_some hbM
  have hsl' := hdrop k (by simpa using hk)
  rw [← List.map_drop, List.length_map] at hsl'
  by_cases hge : S.length ≤ k
  · have hlt' : ((k : Int) < (S.length : Int)) = False := eq_false (by omega)
    simp (contextual := true) (implicitDefEqProofs := false) (maxSteps := 2000000) (disch := first | rfl | exact Nat.le_of_ble_eq_true rfl | omega | (simp only [List.length_append, List.length_cons, List.length_nil, List.length_set]; omega)) only [hlt', hcM, hbM, hk0, hkS, Int.toNat_natCast, W1, W2, W3, W4, W5, W6, W7, W8, W9, W10, W11, W12, W13, W14, W15, eq_self, ite_true, ite_false, undef_eq, List.set_cons_zero, List.set_cons_succ, List.getD_cons_zero, List.getD_cons_succ, List.map_cons, List.map_nil, List.length_cons, List.length_nil, List.append_nil, List.cons_append, List.nil_append, List.replicate_succ, List.replicate_zero, Nat.reduceAdd, Nat.reduceSub, ↓reduceIte, List.getElem?_cons_zero, List.getElem?_cons_succ, basic, cellsL, resOf, setAt, List.append_assoc, List.length_append, List.getElem?_append_left, List.getElem?_append_right, List.set_append_left, List.set_append_right, below, belowB, belowA, atomB, List.mem_cons, List.not_mem_nil, forall_eq_or_imp, forall_eq, List.toList_toArray, implies_true, List.take_succ_cons, List.take_zero, List.drop_succ_cons, List.drop_zero, List.take_nil, List.drop_nil, Nat.reduceLeDiff, Nat.reduceMul, Int.reduceToNat, Int.reduceLT, Int.reduceLE, Int.reduceAdd, Int.reduceNeg, Int.reduceEq, splice, List.singleton_append, Nat.reduceEqDiff, Nat.reduceLT, isAtom, List.all_cons, List.all_nil, Option.map_some, Option.bind_some, List.length_set, Int.reduceSub, Int.reduceMul, List.getElem?_set_self, List.getElem?_set_ne, ofB_2, tmpR_if, ro_sliceData, ro_capNil, ro_noZero, ext_2, ext_3, ext_4, ext_5, List.set_set]
    exact fin (goK_stop fun e he => by rw [List.drop_of_length_le (by simpa using hge)] at he; cases he) _ hsl'
  have hlt' : ((k : Int) < (S.length : Int)) = True := eq_true (by omega)
  by_cases hkm : ¬ (k : Int) < most
  · have hkm' : ((k : Int) < most) = False := eq_false hkm
    simp (contextual := true) (implicitDefEqProofs := false) (maxSteps := 2000000) (disch := first | rfl | exact Nat.le_of_ble_eq_true rfl | omega | (simp only [List.length_append, List.length_cons, List.length_nil, List.length_set]; omega)) only [hlt', hkm', hcM, hbM, hk0, hkS, Int.toNat_natCast, W1, W2, W3, W4, W5, W6, W7, W8, W9, W10, W11, W12, W13, W14, W15, eq_self, ite_true, ite_false, undef_eq, List.set_cons_zero, List.set_cons_succ, List.getD_cons_zero, List.getD_cons_succ, List.map_cons, List.map_nil, List.length_cons, List.length_nil, List.append_nil, List.cons_append, List.nil_append, List.replicate_succ, List.replicate_zero, Nat.reduceAdd, Nat.reduceSub, ↓reduceIte, List.getElem?_cons_zero, List.getElem?_cons_succ, basic, cellsL, resOf, setAt, List.append_assoc, List.length_append, List.getElem?_append_left, List.getElem?_append_right, List.set_append_left, List.set_append_right, below, belowB, belowA, atomB, List.mem_cons, List.not_mem_nil, forall_eq_or_imp, forall_eq, List.toList_toArray, implies_true, List.take_succ_cons, List.take_zero, List.drop_succ_cons, List.drop_zero, List.take_nil, List.drop_nil, Nat.reduceLeDiff, Nat.reduceMul, Int.reduceToNat, Int.reduceLT, Int.reduceLE, Int.reduceAdd, Int.reduceNeg, Int.reduceEq, splice, List.singleton_append, Nat.reduceEqDiff, Nat.reduceLT, isAtom, List.all_cons, List.all_nil, Option.map_some, Option.bind_some, List.length_set, Int.reduceSub, Int.reduceMul, List.getElem?_set_self, List.getElem?_set_ne, ofB_2, tmpR_if, ro_sliceData, ro_capNil, ro_noZero, ext_2, ext_3, ext_4, ext_5, List.set_set]
    exact fin (goK_stop fun e _ hh => hkm hh.1) _ hsl'
  have hkm : (k : Int) < most := Decidable.not_not.mp hkm
  have hkm' : ((k : Int) < most) = True := eq_true hkm
  obtain ⟨e, he⟩ : ∃ r, S[k]? = some r := ⟨_, List.getElem?_eq_getElem (by omega)⟩
  have heE : (S.map RE.en)[k]? = some e.en := by simp [he]
  obtain ⟨b', o', cs', hbe, _, hb', _, _, hrow⟩ := hform (by omega)
  obtain ⟨rfl, rfl⟩ : b = b' ∧ o = o' := by simpa using hbe
  obtain rfl : cs = cs' := by
    have := hf'.get0 hb'
    rw [hbM] at this
    simpa using this
  have hx : cs[o + k * 3 + 2]? = some (.string e.t) := by
    have := row_cell (hrow k e.row (by simp [he])) (j := 2) (by omega)
    simpa [RE.row] using this
  have hesz := hSz e (List.mem_of_getElem? he)
  have hsn := sumT_snoc heE
  have hs48 : sumT ((S.map RE.en).take k) ≤ 48000 := by
    have h1 := sumT_le (b := 1000) (l := (S.map RE.en).take k) fun e he => by
      obtain ⟨r, hr, rfl⟩ := List.mem_map.mp (List.mem_of_mem_take he)
      exact hSz r hr
    have h2 : ((S.map RE.en).take k).length ≤ 48 := by simp; omega
    omega
  have hent : e.en.t = e.t := rfl
  rw [hent] at hsn
  have hgo' : goK most bytes ((S.map RE.en).drop k) k (sumT ((S.map RE.en).take k)) = if (k : Int) < most ∧ (k = 0 ∨ ((sumT ((S.map RE.en).take k) : Nat) : Int) + e.t.size ≤ bytes) then goK most bytes ((S.map RE.en).drop (k + 1)) (k + 1) (((sumT ((S.map RE.en).take k) : Nat) : Int) + e.t.size) else k := by
    rw [drop_cons heE]; rfl
  have hnn : ((sumT ((S.map RE.en).take k) : Nat) : Int) + e.t.size = (sumT ((S.map RE.en).take (k + 1)) : Int) := by omega
  have hwk : IntKind.i64.wrap ((k : Int) + 1) = ((k + 1 : Nat) : Int) := by rw [wrap_i64 (by omega) (by omega)]; omega
  have h3 : (((k : Int) = 0) = True ∧ True = True ∧ k = 0) ∨ (((k : Int) = 0) = False ∧ (((sumT ((S.map RE.en).take k) : Nat) : Int) + (e.t.size : Int) ≤ bytes) = True ∧ 0 < k) ∨ (((k : Int) = 0) = False ∧ (((sumT ((S.map RE.en).take k) : Nat) : Int) + (e.t.size : Int) ≤ bytes) = False ∧ 0 < k) := by
    by_cases hz : k = 0
    · exact .inl ⟨eq_true (by omega), rfl, hz⟩
    by_cases hb1 : ((sumT ((S.map RE.en).take k) : Nat) : Int) + (e.t.size : Int) ≤ bytes
    · exact .inr (.inl ⟨eq_false (by omega), eq_true hb1, by omega⟩)
    · exact .inr (.inr ⟨eq_false (by omega), eq_false hb1, by omega⟩)
  rcases h3 with ⟨c1, c2, c3⟩ | ⟨c1, c2, c3⟩ | ⟨c1, c2, c3⟩
  rotate_left 2
  · simp (contextual := true) (implicitDefEqProofs := false) (maxSteps := 2000000) (disch := first | rfl | exact Nat.le_of_ble_eq_true rfl | omega | (simp only [List.length_append, List.length_cons, List.length_nil, List.length_set]; omega)) only [hlt', hkm', hcM, hbM, hk0, hkS, hx, c1, c2, Int.toNat_natCast, W1, W2, W3, W4, W5, W6, W7, W8, W9, W10, W11, W12, W13, W14, W15, eq_self, ite_true, ite_false, undef_eq, List.set_cons_zero, List.set_cons_succ, List.getD_cons_zero, List.getD_cons_succ, List.map_cons, List.map_nil, List.length_cons, List.length_nil, List.append_nil, List.cons_append, List.nil_append, List.replicate_succ, List.replicate_zero, Nat.reduceAdd, Nat.reduceSub, ↓reduceIte, List.getElem?_cons_zero, List.getElem?_cons_succ, basic, cellsL, resOf, setAt, List.append_assoc, List.length_append, List.getElem?_append_left, List.getElem?_append_right, List.set_append_left, List.set_append_right, below, belowB, belowA, atomB, List.mem_cons, List.not_mem_nil, forall_eq_or_imp, forall_eq, List.toList_toArray, implies_true, List.take_succ_cons, List.take_zero, List.drop_succ_cons, List.drop_zero, List.take_nil, List.drop_nil, Nat.reduceLeDiff, Nat.reduceMul, Int.reduceToNat, Int.reduceLT, Int.reduceLE, Int.reduceAdd, Int.reduceNeg, Int.reduceEq, splice, List.singleton_append, Nat.reduceEqDiff, Nat.reduceLT, isAtom, List.all_cons, List.all_nil, Option.map_some, Option.bind_some, List.length_set, Int.reduceSub, Int.reduceMul, List.getElem?_set_self, List.getElem?_set_ne, ofB_2, tmpR_if, ro_sliceData, ro_capNil, ro_noZero, ext_2, ext_3, ext_4, ext_5, List.set_set]
    have c2' := of_eq_false c2
    exact fin (by rw [hgo', if_neg (by omega)]) _ hsl'
  all_goals
    have c4 : k = 0 ∨ ((sumT ((S.map RE.en).take k) : Nat) : Int) + e.t.size ≤ bytes := by
      first
        | exact .inl c3
        | exact .inr (of_eq_true c2)
    rw [if_pos ⟨hkm, c4⟩, hnn] at hgo'
    simp (contextual := true) (implicitDefEqProofs := false) (maxSteps := 2000000) (disch := first | rfl | exact Nat.le_of_ble_eq_true rfl | omega | (simp only [List.length_append, List.length_cons, List.length_nil, List.length_set]; omega)) only [hlt', hkm', hbM, hk0, hx, c1, c2, Int.toNat_natCast, W1, W2, W3, W4, W5, W6, W7, W8, W9, W10, W11, ops_nil, ops_n, ops_g, guardK_it, guardK_if, guardK_u, CondP_t, CondP_f, ex_call, pickK_it, loadK_p, loadNK_p, storeB_s, cellB_s, cellB_r, cellsB_s, cellsB_r, condK_it, lc_skip, lc_region, lc_draw, lc_seq, lc_cond, lc_block, lc_exit, lc_ret, then_n, then_e, then_r, block_n, block_r, block_e, bin_add, bin_sub, bin_mul, bin_quo, bin_rem, bin_and, bin_or, bin_xor, bin_andNot, bin_eql, bin_neq, bin_lss, bin_leq, bin_gtr, bin_geq, bin_shl, bin_shr, bin_sadd, bin_seql, bin_sneq, un_not, un_neg, eqL_b, eqL_i, eqL_s, eqL_pnn, eqL_pns, eqL_psn, eqL_pp, eqL_slnn, eqL_slns, eqL_slsn, ex_callv, slB_e, slB_r, apB_e, lc_chain, lc_bad, putBK_s, lc_label, lc_goto, then_g, block_g, jump_g, jump_n, jump_r, jump_e, lf_seq, lf_label, eq_self, ite_true, ite_false, undef_eq, List.set_cons_zero, List.set_cons_succ, List.getD_cons_zero, List.getD_cons_succ, List.map_cons, List.map_nil, List.length_cons, List.length_nil, List.append_nil, List.cons_append, List.nil_append, List.replicate_succ, List.replicate_zero, Nat.reduceAdd, Nat.reduceSub, ↓reduceIte, List.getElem?_cons_zero, List.getElem?_cons_succ, basic, cellsL, resOf, setAt, List.append_assoc, List.length_append, List.getElem?_append_left, List.getElem?_append_right, List.set_append_left, List.set_append_right, below, belowB, belowA, atomB, List.mem_cons, List.not_mem_nil, forall_eq_or_imp, forall_eq, List.toList_toArray, implies_true, List.take_succ_cons, List.take_zero, List.drop_succ_cons, List.drop_zero, List.take_nil, List.drop_nil, Nat.reduceLeDiff, Nat.reduceMul, Int.reduceToNat, Int.reduceLT, Int.reduceLE, Int.reduceAdd, Int.reduceNeg, Int.reduceEq, splice, List.singleton_append, Nat.reduceEqDiff, Nat.reduceLT, isAtom, List.all_cons, List.all_nil, Option.map_some, Option.bind_some, List.length_set, Int.reduceSub, Int.reduceMul, List.getElem?_set_self, List.getElem?_set_ne, ofB_2, tmpR_if, ro_sliceData, ro_capNil, ro_noZero, ext_2, ext_3, ext_4, ext_5, List.set_set]
    refine app_row (bytes := 16) (hu.frm0 Frm.refl.app) rfl (by simp; omega) ?_
    intro v2 M2 G2 hM hf2 hs2 hG2
    simp only [List.length_append, List.length_cons, List.length_nil] at hM hG2
    simp (contextual := true) (implicitDefEqProofs := false) (maxSteps := 2000000) (disch := first | rfl | exact Nat.le_of_ble_eq_true rfl | omega | (simp only [List.length_append, List.length_cons, List.length_nil, List.length_set]; omega)) only [W1, W2, W3, W4, W5, W6, W7, W8, W9, W10, W11, W12, W13, W14, W15, eq_self, ite_true, ite_false, undef_eq, List.set_cons_zero, List.set_cons_succ, List.getD_cons_zero, List.getD_cons_succ, List.map_cons, List.map_nil, List.length_cons, List.length_nil, List.append_nil, List.cons_append, List.nil_append, List.replicate_succ, List.replicate_zero, Nat.reduceAdd, Nat.reduceSub, ↓reduceIte, List.getElem?_cons_zero, List.getElem?_cons_succ, basic, cellsL, resOf, setAt, List.append_assoc, List.length_append, List.getElem?_append_left, List.getElem?_append_right, List.set_append_left, List.set_append_right, below, belowB, belowA, atomB, List.mem_cons, List.not_mem_nil, forall_eq_or_imp, forall_eq, List.toList_toArray, implies_true, List.take_succ_cons, List.take_zero, List.drop_succ_cons, List.drop_zero, List.take_nil, List.drop_nil, Nat.reduceLeDiff, Nat.reduceMul, Int.reduceToNat, Int.reduceLT, Int.reduceLE, Int.reduceAdd, Int.reduceNeg, Int.reduceEq, splice, List.singleton_append, Nat.reduceEqDiff, Nat.reduceLT, isAtom, List.all_cons, List.all_nil, Option.map_some, Option.bind_some, List.length_set, Int.reduceSub, Int.reduceMul, List.getElem?_set_self, List.getElem?_set_ne, ofB_2, tmpR_if, ro_sliceData, ro_capNil, ro_noZero, ext_2, ext_3, ext_4, ext_5, List.set_set]
    refine kInv_go ⟨k + 1, v2, G2, rfl, by omega, hgo'.symm.trans hgo, hf'.trans hf2.app_of fun x hx => .inr (hH x hx), ?_, fun x hx => by have := hG2 x hx; omega, ⟨rfl, by simp [hwk, hnn]⟩⟩ (by omega)
    rw [take_snoc he, List.map_append]
    exact hs2
end Go.Proofs.Ytfnldlcedgfkeaa
