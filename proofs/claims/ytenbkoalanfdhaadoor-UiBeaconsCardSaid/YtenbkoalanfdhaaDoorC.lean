/- The bytes of a right call, by the document: walked. -/
import Derived.Test.YtenbkoalanfdhaaDoorB
namespace Go.Proofs.YtenbkoalanfdhaaDoor
open Go.Lg
set_option maxRecDepth 8000
set_option maxHeartbeats 8000000
set_option linter.unusedSimpArgs false
set_option linter.unnecessarySimpa false
set_option linter.unusedVariables false

def rp (b : List UInt8) (j : Nat) (c : UInt8) : List UInt8 := (List.range 6).map (fun i => if i < j then enc6 b i else 64) ++ [c]
theorem rp_len {b : List UInt8} {j : Nat} {c : UInt8} : (rp b j c).length = 7 := by simp [rp]
theorem rp_set {b : List UInt8} {j : Nat} {c : UInt8} (h : j < 6) : (rp b j c).set j (enc6 b j) = rp b (j + 1) c := by
  match j, h with
  | 0, _ => rfl
  | 1, _ => rfl
  | 2, _ => rfl
  | 3, _ => rfl
  | 4, _ => rfl
  | 5, _ => rfl
theorem rp_end {b : List UInt8} {j : Nat} {c d : UInt8} : (rp b j c).set 6 d = rp b j d := rfl
theorem rp_all {b : List UInt8} {c : UInt8} : rp b b.length c = (List.range 6).map (enc6 b) ++ [c] := by
  unfold rp
  congr 1
  apply List.map_congr_left
  intro i _
  split
  · rfl
  · rename_i h
    simp [enc6, List.getElem?_eq_none (by omega : b.length ≤ i)]
theorem rp_get {b : List UInt8} {j : Nat} {c : UInt8} : (rp b j c)[6]? = some c := rfl
theorem add_k {n : Nat} (h : n < 16) : binV .add (.int .u8 ((endN n false false : Nat) : Int)) (.int .u8 128) = some (.int .u8 ((endN n true false : Nat) : Int)) := by
  have : ∀ n : Fin 16, IntKind.u8.wrap (((endN n.1 false false : Nat) : Int) + 128) = ((endN n.1 true false : Nat) : Int) := by decide +kernel
  rw [bin_add]
  exact congrArg (fun x => some (Value.int .u8 x)) (this ⟨n, h⟩)
theorem add_l (k : Bool) {n : Nat} (h : n < 16) : binV .add (.int .u8 ((endN n k false : Nat) : Int)) (.int .u8 1) = some (.int .u8 ((endN n k true : Nat) : Int)) := by
  have : ∀ k : Bool, ∀ n : Fin 16, IntKind.u8.wrap (((endN n.1 k false : Nat) : Int) + 1) = ((endN n.1 k true : Nat) : Int) := by decide +kernel
  rw [bin_add]
  exact congrArg (fun x => some (Value.int .u8 x)) (this k ⟨n, h⟩)

theorem refput_spec (b : List UInt8) (s : Int) (k l : Bool) (h : rightC b s = true) (m : Mem) : Ret Tryd.prog 95 [cl b s, .bool k, .bool l] m (str (putC b s k l)) m := by
  obtain ⟨hall, hb, hs⟩ := right_le h
  obtain ⟨n, rfl⟩ : ∃ n : Nat, s = (n : Int) := ⟨s.toNat, by omega⟩
  have hn : n < 16 := by omega
  have hwn : IntKind.u8.wrap (96 + 2 * (n : Int)) = ((endN n false false : Nat) : Int) := by
    rw [show 96 + 2 * (n : Int) = ((96 + 2 * n : Nat) : Int) by omega, wrap_u8n (by omega)]; rfl
  have hend : ∀ k l, ((UInt8.ofNat (endN n k l)).toNat : Int) = ((endN n k l : Nat) : Int) := fun k l => by rw [u8_of (endN_lt hn)]
  refine LCall_drop (LCall_enter Tryd.func95 c95 ?_)
  simp (contextual := true) (implicitDefEqProofs := false) (maxSteps := 2000000) (disch := first | rfl | exact Nat.le_of_ble_eq_true rfl | omega | (simp only [List.length_append, List.length_cons, List.length_nil, List.length_set]; omega)) only [L95, bin_ladd, str_cut, str_app, str_eq, string_mk_size, string_mk, hwn, W1, W2, W3, W4, W5, W6, W7, W8, W9, W10, W11, W12, W13, W14, W15, eq_self, ite_true, ite_false, undef_eq, List.set_cons_zero, List.set_cons_succ, List.getD_cons_zero, List.getD_cons_succ, List.map_cons, List.map_nil, List.length_cons, List.length_nil, List.append_nil, List.cons_append, List.nil_append, List.replicate_succ, List.replicate_zero, Nat.reduceAdd, Nat.reduceSub, ↓reduceIte, List.getElem?_cons_zero, List.getElem?_cons_succ, basic, cellsL, resOf, setAt, List.append_assoc, List.length_append, List.getElem?_append_left, List.getElem?_append_right, List.set_append_left, List.set_append_right, below, belowB, belowA, atomB, List.mem_cons, List.not_mem_nil, forall_eq_or_imp, forall_eq, List.toList_toArray, implies_true, List.take_succ_cons, List.take_zero, List.drop_succ_cons, List.drop_zero, List.take_nil, List.drop_nil, Nat.reduceLeDiff, Nat.reduceMul, Int.reduceToNat, Int.reduceLT, Int.reduceLE, Int.reduceAdd, Int.reduceNeg, Int.reduceEq, splice, List.singleton_append, Nat.reduceEqDiff, Nat.reduceLT, isAtom, List.all_cons, List.all_nil, Option.map_some, Option.bind_some, List.length_set, Int.reduceSub, Int.reduceMul, List.getElem?_set_self, List.getElem?_set_ne, ofB_2, tmpR_if, ro_sliceData, ro_capNil, ro_noZero, ext_2, ext_3, ext_4, ext_5, List.set_set]
  obtain ⟨M0, hM, hm0, hm1⟩ : ∃ M0, m ++ [⟨[str b, .int .i64 (n : Int)], 23, 1, 0, .own⟩, ⟨[.int .u8 64, .int .u8 64, .int .u8 64, .int .u8 64, .int .u8 64, .int .u8 64, .int .u8 ((endN n false false : Nat) : Int)], 5, 1, 0, .own⟩] = M0 ∧ M0[m.length]? = some ⟨[str b, .int .i64 (n : Int)], 23, 1, 0, .own⟩ ∧ M0[m.length + 1]? = some ⟨byteCells (rp b 0 (UInt8.ofNat (endN n false false))), 5, 1, 0, .own⟩ := ⟨_, rfl, by simp, by rw [List.getElem?_append_right (by omega)]; rw [← hend]; simp; rfl⟩
  rw [hM]
  have hf0 : Frm [] m M0 := by rw [← hM]; exact Frm.refl.app
  clear hM
  refine loop_inv (fun n' t M => ∃ (i : Nat), n' = b.length - i ∧ i ≤ b.length ∧ Frm [m.length + 1] M0 M ∧ M[m.length + 1]? = some ⟨byteCells (rp b i (UInt8.ofNat (endN n false false))), 5, 1, 0, .own⟩ ∧
    Tab 45 [(1, .bool k), (2, .bool l), (3, .pointer (some ⟨m.length, 0, none⟩)), (7, .slice (some ⟨m.length + 1, 0, none⟩) 7 7), (8, .int .i64 (i : Int))] t) (n := b.length) ?_ ?_
  · exact ⟨0, rfl, Nat.zero_le _, Frm.refl, hm1, ⟨rfl, by simp⟩⟩
  rintro N t M ⟨i, rfl, hi, hf, hb1, ht⟩
  obtain ⟨f, rfl⟩ : ∃ f' : Nat → Value, t = [f' 0, .bool k, .bool l, .pointer (some ⟨m.length, 0, none⟩), f' 4, f' 5, f' 6, .slice (some ⟨m.length + 1, 0, none⟩) 7 7, .int .i64 (i : Int), f' 9, f' 10, f' 11, f' 12, f' 13, f' 14, f' 15, f' 16, f' 17, f' 18, f' 19, f' 20, f' 21, f' 22, f' 23, f' 24, f' 25, f' 26, f' 27, f' 28, f' 29, f' 30, f' 31, f' 32, f' 33, f' 34, f' 35, f' 36, f' 37, f' 38, f' 39, f' 40, f' 41, f' 42, f' 43, f' 44] := ht.open fun f' => rfl
  have hb0 := hf.get hm0 (by simp)
  have l0 := lt_of_some hb0
  have l1 := lt_of_some hb1
  have hpl : ∀ i c, (byteCells (rp b i c)).length = 7 := fun i c => by rw [byteCells_len, rp_len]
  by_cases hlt : i < b.length
  · have hlt' : ((i : Int) < (b.length : Int)) = True := by simp [hlt]
    have h0' : ((0 : Int) ≤ (i : Int)) = True := by simp
    have h7' : ((i : Int) < 7) = True := eq_true (by omega)
    have hile : (i ≤ 6) = True := eq_true (by omega)
    have hwi : IntKind.i64.wrap ((i : Int) + 1) = ((i + 1 : Nat) : Int) := by rw [wrap_i64 (by omega) (by omega)]; omega
    obtain ⟨c, hc⟩ : ∃ r, b[i]? = some r := ⟨b[i], List.getElem?_eq_getElem hlt⟩
    have hlc : letB c = true := List.all_eq_true.mp hall c (List.mem_of_getElem? hc)
    have he : enc6 b i = dbl c := by simp [enc6, hc]
    simp (contextual := true) (implicitDefEqProofs := false) (maxSteps := 2000000) (disch := first | rfl | exact Nat.le_of_ble_eq_true rfl | omega | (simp only [List.length_append, List.length_cons, List.length_nil, List.length_set]; omega)) only [hile, hlt', h0', h7', hb0, hb1, hpl, hc, mul2 hlc, bin_ladd, str_cut, str_app, str_eq, string_mk_size, string_mk, cells_set, Int.toNat_natCast, W1, W2, W3, W4, W5, W6, W7, W8, W9, W10, W11, ops_nil, ops_n, ops_g, guardK_it, guardK_if, guardK_u, CondP_t, CondP_f, ex_call, pickK_it, loadK_p, loadNK_p, storeB_s, cellB_s, cellB_r, cellsB_s, cellsB_r, condK_it, lc_skip, lc_region, lc_draw, lc_seq, lc_cond, lc_block, lc_exit, lc_ret, then_n, then_e, then_r, block_n, block_r, block_e, bin_add, bin_sub, bin_quo, bin_rem, bin_and, bin_or, bin_xor, bin_andNot, bin_eql, bin_neq, bin_lss, bin_leq, bin_gtr, bin_geq, bin_shl, bin_shr, bin_sadd, bin_seql, bin_sneq, un_not, un_neg, eqL_b, eqL_i, eqL_s, eqL_pnn, eqL_pns, eqL_psn, eqL_pp, eqL_slnn, eqL_slns, eqL_slsn, ex_callv, slB_e, slB_r, appN_n, appN_n0, appN_s, apB_e, lc_chain, lc_bad, putBK_s, lc_label, lc_goto, then_g, block_g, jump_g, jump_n, jump_r, jump_e, lf_seq, lf_label, eq_self, ite_true, ite_false, undef_eq, List.set_cons_zero, List.set_cons_succ, List.getD_cons_zero, List.getD_cons_succ, List.map_cons, List.map_nil, List.length_cons, List.length_nil, List.append_nil, List.cons_append, List.nil_append, List.replicate_succ, List.replicate_zero, Nat.reduceAdd, Nat.reduceSub, ↓reduceIte, List.getElem?_cons_zero, List.getElem?_cons_succ, basic, cellsL, resOf, setAt, List.append_assoc, List.length_append, List.getElem?_append_left, List.getElem?_append_right, List.set_append_left, List.set_append_right, below, belowB, belowA, atomB, List.mem_cons, List.not_mem_nil, forall_eq_or_imp, forall_eq, List.toList_toArray, implies_true, List.take_succ_cons, List.take_zero, List.drop_succ_cons, List.drop_zero, List.take_nil, List.drop_nil, Nat.reduceLeDiff, Nat.reduceMul, Int.reduceToNat, Int.reduceLT, Int.reduceLE, Int.reduceAdd, Int.reduceNeg, Int.reduceEq, splice, List.singleton_append, Nat.reduceEqDiff, Nat.reduceLT, isAtom, List.all_cons, List.all_nil, Option.map_some, Option.bind_some, List.length_set, Int.reduceSub, Int.reduceMul, List.getElem?_set_self, List.getElem?_set_ne, ofB_2, tmpR_if, ro_sliceData, ro_capNil, ro_noZero, ext_2, ext_3, ext_4, ext_5, List.set_set]
    rw [← he, rp_set (by omega)]
    exact kInv_go ⟨i + 1, rfl, by omega, hf.set (by simp), by rw [List.getElem?_set_self l1], ⟨rfl, by simp [hwi]⟩⟩ (by omega)
  · have hib : i = b.length := by omega
    subst hib
    have hlt' : ((b.length : Int) < (b.length : Int)) = False := by simp
    have hb3 : ∀ B : Blk, (M.set (m.length + 1) B)[m.length + 1]? = some B := fun B => by rw [List.getElem?_set_self l1]
    have hg : ∀ c : UInt8, (byteCells (rp b b.length c))[6]? = some (.int .u8 (c.toNat : Int)) := fun c => byteCells_get rp_get
    have hbl := fun c => bytesL_cells (rp b b.length c)
    have hst : ∀ c k l, (byteCells (rp b b.length c)).set 6 (.int .u8 ((endN n k l : Nat) : Int)) = byteCells (rp b b.length (UInt8.ofNat (endN n k l))) := fun c k l => by
      rw [← hend, cells_set, rp_end]
    have hput : putC b n k l = rp b b.length (UInt8.ofNat (endN n k l)) := by rw [rp_all]; rfl
    have hfin : ∀ B, ext m (M.set (m.length + 1) B) := fun B => (hf0.trans (hf.set (by simp)) fun x hx => .inr (by simp at hx; omega)).ext (by simp)
    have hfin0 : ext m M := (hf0.trans hf fun x hx => .inr (by simp at hx; omega)).ext (by simp)
    have htk : ∀ c, (byteCells (rp b b.length c)).take 7 = byteCells (rp b b.length c) := fun c => List.take_of_length_le (by rw [hpl]; exact Nat.le_refl _)
    rw [hput]
    cases k <;> cases l
    all_goals
      simp (contextual := true) (implicitDefEqProofs := false) (maxSteps := 2000000) (disch := first | rfl | exact Nat.le_of_ble_eq_true rfl | omega | (simp only [List.length_append, List.length_cons, List.length_nil, List.length_set]; omega)) only [hlt', hb0, hb1, hpl, hb3, hg, hend, hst, add_k hn, add_l false hn, add_l true hn, hbl, htk, hfin, hfin0, bin_ladd, str_cut, str_app, str_eq, string_mk_size, string_mk, List.set_set, W1, W2, W3, W4, W5, W6, W7, W8, W9, W10, W11, ops_nil, ops_n, ops_g, guardK_it, guardK_if, guardK_u, CondP_t, CondP_f, ex_call, pickK_it, loadK_p, loadNK_p, storeB_s, cellB_s, cellB_r, cellsB_s, cellsB_r, condK_it, lc_skip, lc_region, lc_draw, lc_seq, lc_cond, lc_block, lc_exit, lc_ret, then_n, then_e, then_r, block_n, block_r, block_e, bin_sub, bin_mul, bin_quo, bin_rem, bin_and, bin_or, bin_xor, bin_andNot, bin_eql, bin_neq, bin_lss, bin_leq, bin_gtr, bin_geq, bin_shl, bin_shr, bin_sadd, bin_seql, bin_sneq, un_not, un_neg, eqL_b, eqL_i, eqL_s, eqL_pnn, eqL_pns, eqL_psn, eqL_pp, eqL_slnn, eqL_slns, eqL_slsn, ex_callv, slB_e, slB_r, appN_n, appN_n0, appN_s, apB_e, lc_chain, lc_bad, putBK_s, lc_label, lc_goto, then_g, block_g, jump_g, jump_n, jump_r, jump_e, lf_seq, lf_label, eq_self, ite_true, ite_false, undef_eq, List.set_cons_zero, List.set_cons_succ, List.getD_cons_zero, List.getD_cons_succ, List.map_cons, List.map_nil, List.length_cons, List.length_nil, List.append_nil, List.cons_append, List.nil_append, List.replicate_succ, List.replicate_zero, Nat.reduceAdd, Nat.reduceSub, ↓reduceIte, List.getElem?_cons_zero, List.getElem?_cons_succ, basic, cellsL, resOf, setAt, List.append_assoc, List.length_append, List.getElem?_append_left, List.getElem?_append_right, List.set_append_left, List.set_append_right, below, belowB, belowA, atomB, List.mem_cons, List.not_mem_nil, forall_eq_or_imp, forall_eq, List.toList_toArray, implies_true, List.take_succ_cons, List.take_zero, List.drop_succ_cons, List.drop_zero, List.take_nil, List.drop_nil, Nat.reduceLeDiff, Nat.reduceMul, Int.reduceToNat, Int.reduceLT, Int.reduceLE, Int.reduceAdd, Int.reduceNeg, Int.reduceEq, splice, List.singleton_append, Nat.reduceEqDiff, Nat.reduceLT, isAtom, List.all_cons, List.all_nil, Option.map_some, Option.bind_some, List.length_set, Int.reduceSub, Int.reduceMul, List.getElem?_set_self, List.getElem?_set_ne, ofB_2, tmpR_if, ro_sliceData, ro_capNil, ro_noZero, ext_2, ext_3, ext_4, ext_5, List.set_set]
end Go.Proofs.YtenbkoalanfdhaaDoor
