/- A path of calls, walked. -/
import Derived.Test.YtenbkoalanfdhaaDoorG
namespace Go.Proofs.YtenbkoalanfdhaaDoor
open Go.Lg
set_option maxRecDepth 8000
set_option maxHeartbeats 8000000
set_option linter.unusedSimpArgs false
set_option linter.unnecessarySimpa false
set_option linter.unusedVariables false

structure Cl where
  b : List UInt8
  s : Int
def Cl.row (c : Cl) : List Value := [str c.b, .int .i64 c.s]
def Cl.en (c : Cl) : En := ⟨c.b, c.s, false⟩
theorem via_spec {fb : List UInt8} {fs : Int} {tb : List UInt8} {ts : Int} {cm : Bool} {dv : Value} {cs : List Cl} {m : Mem} (htb : tb.length ≤ 140737488355328) (hfb : fb.length ≤ 140737488355328) (hb : ∀ c ∈ cs, c.b.length ≤ 140737488355328) (h : Rd m 2 dv (cs.map Cl.row)) (hn : cs.length ≤ 1000000) :
    LCall Tryd.prog 43 [cl fb fs, cl tb ts, .bool cm, dv] m fun v M => Frm [] m M ∧
      if rightP tb ts fb fs (cs.map Cl.en) = true then ∃ sv F, v = .tuple #[pathV tb ts fb fs cm (!cm) sv, .int .i64 0] ∧ Sl M 118 3 sv F ((cs.map Cl.en).map En.row) ∧ ∀ x ∈ F, m.length ≤ x
      else v = .tuple #[pathV [] 0 [] 0 false false (.slice none 0 0), .int .i64 11] := by
  obtain ⟨a, rfl, hform⟩ := h
  simp only [List.length_map] at hform ⊢
  refine LCall_enter Tryd.func43 c43 ?_
  simp (contextual := true) (implicitDefEqProofs := false) (maxSteps := 2000000) (disch := first | rfl | exact Nat.le_of_ble_eq_true rfl | omega | (simp only [List.length_append, List.length_cons, List.length_nil, List.length_set]; omega)) only [L43, W1, W2, W3, W4, W5, W6, W7, W8, W9, W10, W11, W12, W13, W14, W15, eq_self, ite_true, ite_false, undef_eq, List.set_cons_zero, List.set_cons_succ, List.getD_cons_zero, List.getD_cons_succ, List.map_cons, List.map_nil, List.length_cons, List.length_nil, List.append_nil, List.cons_append, List.nil_append, List.replicate_succ, List.replicate_zero, Nat.reduceAdd, Nat.reduceSub, ↓reduceIte, List.getElem?_cons_zero, List.getElem?_cons_succ, basic, cellsL, resOf, setAt, List.append_assoc, List.length_append, List.getElem?_append_left, List.getElem?_append_right, List.set_append_left, List.set_append_right, below, belowB, belowA, atomB, List.mem_cons, List.not_mem_nil, forall_eq_or_imp, forall_eq, List.toList_toArray, implies_true, List.take_succ_cons, List.take_zero, List.drop_succ_cons, List.drop_zero, List.take_nil, List.drop_nil, Nat.reduceLeDiff, Nat.reduceMul, Int.reduceToNat, Int.reduceLT, Int.reduceLE, Int.reduceAdd, Int.reduceNeg, Int.reduceEq, splice, List.singleton_append, Nat.reduceEqDiff, Nat.reduceLT, isAtom, List.all_cons, List.all_nil, Option.map_some, Option.bind_some, List.length_set, Int.reduceSub, Int.reduceMul, List.getElem?_set_self, List.getElem?_set_ne, ofB_2, tmpR_if, ro_sliceData, ro_capNil, ro_noZero, ext_2, ext_3, ext_4, ext_5, List.set_set]
  obtain ⟨M0, hM, hMl, hf0, hr0, hp0⟩ : ∃ M0, m ++ [⟨[str fb, .int .i64 fs], 23, 1, 0, .own⟩, ⟨[str tb, .int .i64 ts], 23, 1, 0, .own⟩, ⟨[.string ⟨#[]⟩, .int .i64 0, .string ⟨#[]⟩, .int .i64 0, .bool false, .bool false, .slice none 0 0], 83, 1, 0, .own⟩, ⟨[str tb, .int .i64 ts, str fb, .int .i64 fs, .bool cm, .bool (!cm), .slice none 0 0], 83, 1, 0, .own⟩] = M0 ∧ M0.length = m.length + 4 ∧ Frm [] m M0 ∧ M0[m.length + 2]? = some ⟨[.string ⟨#[]⟩, .int .i64 0, .string ⟨#[]⟩, .int .i64 0, .bool false, .bool false, .slice none 0 0], 83, 1, 0, .own⟩ ∧ M0[m.length + 3]? = some ⟨[str tb, .int .i64 ts, str fb, .int .i64 fs, .bool cm, .bool (!cm), .slice none 0 0], 83, 1, 0, .own⟩ := by
    refine ⟨_, rfl, by simp, Frm.refl.app, ?_, ?_⟩
    all_goals (rw [List.getElem?_append_right (by omega)]; simp)
  rw [hM]
  clear hM
  refine loop_inv (fun n t M => ∃ (j : Nat) (sv : Value) (G : List Nat), n = cs.length - j ∧ j ≤ cs.length ∧ Frm [m.length + 3] M0 M ∧ M[m.length + 3]? = some ⟨[str tb, .int .i64 ts, str fb, .int .i64 fs, .bool cm, .bool (!cm), sv], 83, 1, 0, .own⟩ ∧ Sl M 118 3 sv G (((cs.take j).map Cl.en).map En.row) ∧ (∀ x ∈ G, m.length + 4 ≤ x) ∧
    Tab 38 [(8, .pointer (some ⟨m.length + 2, 0, none⟩)), (10, .pointer (some ⟨m.length + 3, 0, none⟩)), (19, .slice a cs.length cs.length), (20, .int .i64 (cs.length : Int)), (21, .int .i64 (j : Int))] t) (n := cs.length) ?_ ?_
  · exact ⟨0, _, [], rfl, Nat.zero_le _, Frm.refl, hp0, .nil, by simp, ⟨rfl, by simp⟩⟩
  rintro N t M ⟨j, sv, G, rfl, hj, hf, hp, hs, hG, ht⟩
  obtain ⟨f, rfl⟩ : ∃ f' : Nat → Value, t = [f' 0, f' 1, f' 2, f' 3, f' 4, f' 5, f' 6, f' 7, .pointer (some ⟨m.length + 2, 0, none⟩), f' 9, .pointer (some ⟨m.length + 3, 0, none⟩), f' 11, f' 12, f' 13, f' 14, f' 15, f' 16, f' 17, f' 18, .slice a cs.length cs.length, .int .i64 (cs.length : Int), .int .i64 (j : Int), f' 22, f' 23, f' 24, f' 25, f' 26, f' 27, f' 28, f' 29, f' 30, f' 31, f' 32, f' 33, f' 34, f' 35, f' 36, f' 37] := ht.open fun f' => rfl
  have hpl := lt_of_some hp
  have hfl := hf.len
  have hfm : Frm [] m M := hf0.trans hf fun x hx => .inr (by simp at hx; omega)
  obtain ⟨sa, rfl, _⟩ := hs.form
  simp only [List.length_map] at hp
  by_cases hlt : j < cs.length
  · have hlt' : ((j : Int) < (cs.length : Int)) = True := by simp [hlt]
    have h0' : ((0 : Int) ≤ (j : Int)) = True := by simp
    have hwj : IntKind.i64.wrap ((j : Int) + 1) = ((j + 1 : Nat) : Int) := by rw [wrap_i64 (by omega) (by omega)]; omega
    obtain ⟨b, o, cc, T, fz, kd, rfl, hb', hk, hl, hrow⟩ := hform (by omega)
    obtain ⟨c, hc⟩ : ∃ r, cs[j]? = some r := ⟨cs[j], List.getElem?_eq_getElem hlt⟩
    have hr : (cc.drop (o + j * 2)).take 2 = [str c.b, .int .i64 c.s] := hrow j c.row (by simp [hc])
    have hlen : o + j * 2 + 2 ≤ cc.length := by omega
    have hbM := hfm.get0 hb'
    have hb0 := lt_of_some hbM
    have htl : (cs.take j).length = j := by rw [List.length_take]; omega
    simp (contextual := true) (implicitDefEqProofs := false) (maxSteps := 2000000) (disch := first | rfl | exact Nat.le_of_ble_eq_true rfl | omega | (simp only [List.length_append, List.length_cons, List.length_nil, List.length_set]; omega)) only [hbM, hp, hlt', h0', hr, cellsB_l hk hlen, Int.toNat_natCast, W1, W2, W3, W4, W5, W6, W7, W8, W9, W10, W11, ops_nil, ops_n, ops_g, guardK_it, guardK_if, guardK_u, CondP_t, CondP_f, ex_call, pickK_it, loadK_p, loadNK_p, storeB_s, cellB_s, cellB_r, cellsB_s, cellsB_r, condK_it, lc_skip, lc_region, lc_draw, lc_seq, lc_cond, lc_block, lc_exit, lc_ret, then_n, then_e, then_r, block_n, block_r, block_e, bin_add, bin_sub, bin_mul, bin_quo, bin_rem, bin_and, bin_or, bin_xor, bin_andNot, bin_eql, bin_neq, bin_lss, bin_leq, bin_gtr, bin_geq, bin_shl, bin_shr, bin_sadd, bin_seql, bin_sneq, un_not, un_neg, eqL_b, eqL_i, eqL_s, eqL_pnn, eqL_pns, eqL_psn, eqL_pp, eqL_slnn, eqL_slns, eqL_slsn, ex_callv, slB_e, slB_r, apB_e, lc_chain, lc_bad, putBK_s, lc_label, lc_goto, then_g, block_g, jump_g, jump_n, jump_r, jump_e, lf_seq, lf_label, eq_self, ite_true, ite_false, undef_eq, List.set_cons_zero, List.set_cons_succ, List.getD_cons_zero, List.getD_cons_succ, List.map_cons, List.map_nil, List.length_cons, List.length_nil, List.append_nil, List.cons_append, List.nil_append, List.replicate_succ, List.replicate_zero, Nat.reduceAdd, Nat.reduceSub, ↓reduceIte, List.getElem?_cons_zero, List.getElem?_cons_succ, basic, cellsL, resOf, setAt, List.append_assoc, List.length_append, List.getElem?_append_left, List.getElem?_append_right, List.set_append_left, List.set_append_right, below, belowB, belowA, atomB, List.mem_cons, List.not_mem_nil, forall_eq_or_imp, forall_eq, List.toList_toArray, implies_true, List.take_succ_cons, List.take_zero, List.drop_succ_cons, List.drop_zero, List.take_nil, List.drop_nil, Nat.reduceLeDiff, Nat.reduceMul, Int.reduceToNat, Int.reduceLT, Int.reduceLE, Int.reduceAdd, Int.reduceNeg, Int.reduceEq, splice, List.singleton_append, Nat.reduceEqDiff, Nat.reduceLT, isAtom, List.all_cons, List.all_nil, Option.map_some, Option.bind_some, List.length_set, Int.reduceSub, Int.reduceMul, List.getElem?_set_self, List.getElem?_set_ne, ofB_2, tmpR_if, ro_sliceData, ro_capNil, ro_noZero, ext_2, ext_3, ext_4, ext_5, List.set_set]
    have hs' := hs
    simp only [List.length_map] at hs'
    refine app_row (bytes := 32) (hs'.frm0 Frm.refl.app) rfl (by simp only [List.length_map, htl]; omega) ?_
    intro v2 M2 G2 hM2 hf2 hs2 hG2
    simp only [List.length_append, List.length_cons, List.length_nil] at hM2 hG2
    have hf3 : Frm G M M2 := hf2.app_of
    have hp2 := hf3.get hp fun hx => by have := hG _ hx; omega
    have hp2l := lt_of_some hp2
    have hG3 : ∀ x ∈ G2, m.length + 4 ≤ x := fun x hx => by have := hG2 x hx; omega
    have hs3 : Sl M2 118 3 v2 G2 (((cs.take (j + 1)).map Cl.en).map En.row) := by
      rw [take_snoc hc, List.map_append, List.map_append]; exact hs2
    obtain ⟨v2a, hv2, _⟩ := hs3.form
    subst hv2
    simp (contextual := true) (implicitDefEqProofs := false) (maxSteps := 2000000) (disch := first | rfl | exact Nat.le_of_ble_eq_true rfl | omega | (simp only [List.length_append, List.length_cons, List.length_nil, List.length_set]; omega)) only [hp2, W1, W2, W3, W4, W5, W6, W7, W8, W9, W10, W11, W12, W13, W14, W15, eq_self, ite_true, ite_false, undef_eq, List.set_cons_zero, List.set_cons_succ, List.getD_cons_zero, List.getD_cons_succ, List.map_cons, List.map_nil, List.length_cons, List.length_nil, List.append_nil, List.cons_append, List.nil_append, List.replicate_succ, List.replicate_zero, Nat.reduceAdd, Nat.reduceSub, ↓reduceIte, List.getElem?_cons_zero, List.getElem?_cons_succ, basic, cellsL, resOf, setAt, List.append_assoc, List.length_append, List.getElem?_append_left, List.getElem?_append_right, List.set_append_left, List.set_append_right, below, belowB, belowA, atomB, List.mem_cons, List.not_mem_nil, forall_eq_or_imp, forall_eq, List.toList_toArray, implies_true, List.take_succ_cons, List.take_zero, List.drop_succ_cons, List.drop_zero, List.take_nil, List.drop_nil, Nat.reduceLeDiff, Nat.reduceMul, Int.reduceToNat, Int.reduceLT, Int.reduceLE, Int.reduceAdd, Int.reduceNeg, Int.reduceEq, splice, List.singleton_append, Nat.reduceEqDiff, Nat.reduceLT, isAtom, List.all_cons, List.all_nil, Option.map_some, Option.bind_some, List.length_set, Int.reduceSub, Int.reduceMul, List.getElem?_set_self, List.getElem?_set_ne, ofB_2, tmpR_if, ro_sliceData, ro_capNil, ro_noZero, ext_2, ext_3, ext_4, ext_5, List.set_set]
    refine kInv_go ⟨j + 1, _, G2, rfl, by omega, ?_, by rw [List.getElem?_set_self hp2l], hs3.setb fun hx => by have := hG3 _ hx; omega, hG3, ⟨rfl, by simp [hwj]⟩⟩ (by omega)
    exact (hf.trans hf3 fun x hx => .inr (by have := hG x hx; omega)).set (by simp)
  · have hlt' : ((j : Int) < (cs.length : Int)) = False := by simp; omega
    have hjl : j = cs.length := by omega
    subst hjl
    rw [List.take_of_length_le (Nat.le_refl _)] at hs hp
    have hr1 := hf.get hr0 (by simp)
    have hr1l := lt_of_some hr1
    simp (contextual := true) (implicitDefEqProofs := false) (maxSteps := 2000000) (disch := first | rfl | exact Nat.le_of_ble_eq_true rfl | omega | (simp only [List.length_append, List.length_cons, List.length_nil, List.length_set]; omega)) only [hlt', hp, W1, W2, W3, W4, W5, W6, W7, W8, W9, W10, W11, W12, W13, W14, W15, eq_self, ite_true, ite_false, undef_eq, List.set_cons_zero, List.set_cons_succ, List.getD_cons_zero, List.getD_cons_succ, List.map_cons, List.map_nil, List.length_cons, List.length_nil, List.append_nil, List.cons_append, List.nil_append, List.replicate_succ, List.replicate_zero, Nat.reduceAdd, Nat.reduceSub, ↓reduceIte, List.getElem?_cons_zero, List.getElem?_cons_succ, basic, cellsL, resOf, setAt, List.append_assoc, List.length_append, List.getElem?_append_left, List.getElem?_append_right, List.set_append_left, List.set_append_right, below, belowB, belowA, atomB, List.mem_cons, List.not_mem_nil, forall_eq_or_imp, forall_eq, List.toList_toArray, implies_true, List.take_succ_cons, List.take_zero, List.drop_succ_cons, List.drop_zero, List.take_nil, List.drop_nil, Nat.reduceLeDiff, Nat.reduceMul, Int.reduceToNat, Int.reduceLT, Int.reduceLE, Int.reduceAdd, Int.reduceNeg, Int.reduceEq, splice, List.singleton_append, Nat.reduceEqDiff, Nat.reduceLT, isAtom, List.all_cons, List.all_nil, Option.map_some, Option.bind_some, List.length_set, Int.reduceSub, Int.reduceMul, List.getElem?_set_self, List.getElem?_set_ne, ofB_2, tmpR_if, ro_sliceData, ro_capNil, ro_noZero, ext_2, ext_3, ext_4, ext_5, List.set_set]
    refine (rightP_spec (l := cs.map Cl.en) htb hfb (fun e he => by obtain ⟨c, hc, rfl⟩ := List.mem_map.mp he; exact hb c hc) (by simpa only [List.length_map] using Sl.rd hs) (by simpa using hn)).use ?_
    cases hrp : rightP tb ts fb fs (cs.map Cl.en) with
    | false =>
      simp (contextual := true) (implicitDefEqProofs := false) (maxSteps := 2000000) (disch := first | rfl | exact Nat.le_of_ble_eq_true rfl | omega | (simp only [List.length_append, List.length_cons, List.length_nil, List.length_set]; omega)) only [hp, hr1, W1, W2, W3, W4, W5, W6, W7, W8, W9, W10, W11, W12, W13, W14, W15, eq_self, ite_true, ite_false, undef_eq, List.set_cons_zero, List.set_cons_succ, List.getD_cons_zero, List.getD_cons_succ, List.map_cons, List.map_nil, List.length_cons, List.length_nil, List.append_nil, List.cons_append, List.nil_append, List.replicate_succ, List.replicate_zero, Nat.reduceAdd, Nat.reduceSub, ↓reduceIte, List.getElem?_cons_zero, List.getElem?_cons_succ, basic, cellsL, resOf, setAt, List.append_assoc, List.length_append, List.getElem?_append_left, List.getElem?_append_right, List.set_append_left, List.set_append_right, below, belowB, belowA, atomB, List.mem_cons, List.not_mem_nil, forall_eq_or_imp, forall_eq, List.toList_toArray, implies_true, List.take_succ_cons, List.take_zero, List.drop_succ_cons, List.drop_zero, List.take_nil, List.drop_nil, Nat.reduceLeDiff, Nat.reduceMul, Int.reduceToNat, Int.reduceLT, Int.reduceLE, Int.reduceAdd, Int.reduceNeg, Int.reduceEq, splice, List.singleton_append, Nat.reduceEqDiff, Nat.reduceLT, isAtom, List.all_cons, List.all_nil, Option.map_some, Option.bind_some, List.length_set, Int.reduceSub, Int.reduceMul, List.getElem?_set_self, List.getElem?_set_ne, ofB_2, tmpR_if, ro_sliceData, ro_capNil, ro_noZero, ext_2, ext_3, ext_4, ext_5, List.set_set]
      exact hfm.set (i := m.length + 2) (.inr (by omega))
    | true =>
      simp (contextual := true) (implicitDefEqProofs := false) (maxSteps := 2000000) (disch := first | rfl | exact Nat.le_of_ble_eq_true rfl | omega | (simp only [List.length_append, List.length_cons, List.length_nil, List.length_set]; omega)) only [hp, hr1, W1, W2, W3, W4, W5, W6, W7, W8, W9, W10, W11, W12, W13, W14, W15, eq_self, ite_true, ite_false, undef_eq, List.set_cons_zero, List.set_cons_succ, List.getD_cons_zero, List.getD_cons_succ, List.map_cons, List.map_nil, List.length_cons, List.length_nil, List.append_nil, List.cons_append, List.nil_append, List.replicate_succ, List.replicate_zero, Nat.reduceAdd, Nat.reduceSub, ↓reduceIte, List.getElem?_cons_zero, List.getElem?_cons_succ, basic, cellsL, resOf, setAt, List.append_assoc, List.length_append, List.getElem?_append_left, List.getElem?_append_right, List.set_append_left, List.set_append_right, below, belowB, belowA, atomB, List.mem_cons, List.not_mem_nil, forall_eq_or_imp, forall_eq, List.toList_toArray, implies_true, List.take_succ_cons, List.take_zero, List.drop_succ_cons, List.drop_zero, List.take_nil, List.drop_nil, Nat.reduceLeDiff, Nat.reduceMul, Int.reduceToNat, Int.reduceLT, Int.reduceLE, Int.reduceAdd, Int.reduceNeg, Int.reduceEq, splice, List.singleton_append, Nat.reduceEqDiff, Nat.reduceLT, isAtom, List.all_cons, List.all_nil, Option.map_some, Option.bind_some, List.length_set, Int.reduceSub, Int.reduceMul, List.getElem?_set_self, List.getElem?_set_ne, ofB_2, tmpR_if, ro_sliceData, ro_capNil, ro_noZero, ext_2, ext_3, ext_4, ext_5, List.set_set]
      refine ⟨hfm.set (i := m.length + 2) (.inr (by omega)), _, G, rfl, ?_, fun x hx => by have := hG x hx; omega⟩
      simpa only [List.length_map] using hs.setb fun hx => by have := hG _ hx; omega
end Go.Proofs.YtenbkoalanfdhaaDoor
