/- The equations of a walk, bound together once more. -/
import Derived.Test.YtijndljfpiomhaaDoorLgAJ
namespace Go.Lg
theorem X1 : type_of% @W1 ∧
  type_of% @W2 ∧
  type_of% @W3 ∧
  type_of% @W4 ∧
  type_of% @W5 ∧
  type_of% @W6 ∧
  type_of% @W7 ∧
  type_of% @W8 ∧
  type_of% @W9 ∧
  type_of% @W10 ∧
  type_of% @W11 :=
  ⟨@W1, @W2, @W3, @W4, @W5, @W6, @W7, @W8, @W9, @W10, @W11⟩
theorem X2 : type_of% @ops_nil ∧
  type_of% @ops_n ∧
  type_of% @ops_g ∧
  type_of% @guardK_it ∧
  type_of% @guardK_if ∧
  type_of% @guardK_u ∧
  type_of% @CondP_t ∧
  type_of% @CondP_f ∧
  type_of% @ex_call ∧
  type_of% @pickK_it ∧
  type_of% @loadK_p ∧
  type_of% @loadNK_p ∧
  type_of% @storeB_s ∧
  type_of% @cellB_s ∧
  type_of% @cellB_r ∧
  type_of% @cellsB_s ∧
  type_of% @cellsB_r ∧
  type_of% @condK_it ∧
  type_of% @lc_skip ∧
  type_of% @lc_region ∧
  type_of% @lc_draw ∧
  type_of% @lc_seq ∧
  type_of% @lc_exit ∧
  type_of% @lc_ret :=
  ⟨@ops_nil, @ops_n, @ops_g, @guardK_it, @guardK_if, @guardK_u, @CondP_t, @CondP_f, @ex_call, @pickK_it, @loadK_p, @loadNK_p, @storeB_s, @cellB_s, @cellB_r, @cellsB_s, @cellsB_r, @condK_it, @lc_skip, @lc_region, @lc_draw, @lc_seq, @lc_exit, @lc_ret⟩
theorem X3 : type_of% @then_n ∧
  type_of% @then_e ∧
  type_of% @then_r ∧
  type_of% @block_n ∧
  type_of% @block_r ∧
  type_of% @block_e ∧
  type_of% @un_not ∧
  type_of% @un_neg ∧
  type_of% @eqL_b ∧
  type_of% @eqL_i ∧
  type_of% @eqL_s ∧
  type_of% @eqL_pnn ∧
  type_of% @eqL_pns ∧
  type_of% @eqL_psn ∧
  type_of% @eqL_pp ∧
  type_of% @eqL_slnn ∧
  type_of% @eqL_slns ∧
  type_of% @eqL_slsn ∧
  type_of% @ex_callv ∧
  type_of% @slB_e ∧
  type_of% @slB_r ∧
  type_of% @apB_e ∧
  type_of% @lc_chain ∧
  type_of% @lc_bad :=
  ⟨@then_n, @then_e, @then_r, @block_n, @block_r, @block_e, @un_not, @un_neg, @eqL_b, @eqL_i, @eqL_s, @eqL_pnn, @eqL_pns, @eqL_psn, @eqL_pp, @eqL_slnn, @eqL_slns, @eqL_slsn, @ex_callv, @slB_e, @slB_r, @apB_e, @lc_chain, @lc_bad⟩
theorem X4 : type_of% @putBK_s ∧
  type_of% @lc_label ∧
  type_of% @lc_goto ∧
  type_of% @then_g ∧
  type_of% @block_g ∧
  type_of% @jump_g ∧
  type_of% @jump_n ∧
  type_of% @jump_r ∧
  type_of% @jump_e ∧
  type_of% @lf_seq ∧
  type_of% @lf_label ∧
  type_of% @ofB_2 ∧
  type_of% @tmpR_if ∧
  type_of% @ro_sliceData ∧
  type_of% @ro_capNil ∧
  type_of% @ro_noZero ∧
  type_of% @ext_2 ∧
  type_of% @ext_3 ∧
  type_of% @ext_4 ∧
  type_of% @ext_5 ∧
  type_of% @orNil_some ∧
  type_of% @ex_zeroF ∧
  type_of% @zfK_p :=
  ⟨@putBK_s, @lc_label, @lc_goto, @then_g, @block_g, @jump_g, @jump_n, @jump_r, @jump_e, @lf_seq, @lf_label, @ofB_2, @tmpR_if, @ro_sliceData, @ro_capNil, @ro_noZero, @ext_2, @ext_3, @ext_4, @ext_5, @orNil_some, @ex_zeroF, @zfK_p⟩
theorem XA : type_of% @appN_s ∧
  type_of% @appN_n ∧
  type_of% @appN_n0 :=
  ⟨@appN_s, @appN_n, @appN_n0⟩
theorem XB : type_of% @bin_add ∧
  type_of% @bin_sub ∧
  type_of% @bin_mul ∧
  type_of% @bin_quo ∧
  type_of% @bin_rem ∧
  type_of% @bin_and ∧
  type_of% @bin_or ∧
  type_of% @bin_xor ∧
  type_of% @bin_andNot ∧
  type_of% @bin_eql ∧
  type_of% @bin_neq ∧
  type_of% @bin_lss ∧
  type_of% @bin_leq ∧
  type_of% @bin_gtr ∧
  type_of% @bin_geq ∧
  type_of% @bin_shl ∧
  type_of% @bin_shr ∧
  type_of% @bin_sadd ∧
  type_of% @bin_seql ∧
  type_of% @bin_sneq :=
  ⟨@bin_add, @bin_sub, @bin_mul, @bin_quo, @bin_rem, @bin_and, @bin_or, @bin_xor, @bin_andNot, @bin_eql, @bin_neq, @bin_lss, @bin_leq, @bin_gtr, @bin_geq, @bin_shl, @bin_shr, @bin_sadd, @bin_seql, @bin_sneq⟩
theorem XZ : type_of% @eq_self.{1} ∧
  type_of% @ite_true.{1} ∧
  type_of% @ite_false.{1} ∧
  type_of% @List.set_cons_zero.{0} ∧
  type_of% @List.set_cons_succ.{0} ∧
  type_of% @List.getD_cons_zero.{0} ∧
  type_of% @List.getD_cons_succ.{0} ∧
  type_of% @List.map_cons.{0, 0} ∧
  type_of% @List.map_nil.{0, 0} ∧
  type_of% @List.length_cons.{0} ∧
  type_of% @List.length_nil.{0} ∧
  type_of% @List.append_nil.{0} ∧
  type_of% @List.cons_append.{0} ∧
  type_of% @List.nil_append.{0} ∧
  type_of% @List.replicate_succ.{0} ∧
  type_of% @List.replicate_zero.{0} ∧
  type_of% @List.getElem?_cons_zero.{0} ∧
  type_of% @List.getElem?_cons_succ.{0} ∧
  type_of% @List.append_assoc.{0} ∧
  type_of% @List.length_append.{0} ∧
  type_of% @List.getElem?_append_left.{0} ∧
  type_of% @List.getElem?_append_right.{0} ∧
  type_of% @List.set_append_left.{0} ∧
  type_of% @List.set_append_right.{0} ∧
  type_of% @List.mem_cons.{0} ∧
  type_of% @List.not_mem_nil.{0} ∧
  type_of% @forall_eq_or_imp.{1} ∧
  type_of% @forall_eq.{1} ∧
  type_of% @List.toList_toArray.{0} ∧
  type_of% @List.take_succ_cons.{0} ∧
  type_of% @List.take_zero.{0} ∧
  type_of% @List.drop_succ_cons.{0} ∧
  type_of% @List.drop_zero.{0} ∧
  type_of% @List.take_nil.{0} ∧
  type_of% @List.drop_nil.{0} ∧
  type_of% @List.singleton_append.{0} ∧
  type_of% @List.all_cons.{0} ∧
  type_of% @List.all_nil.{0} ∧
  type_of% @Option.map_some.{0, 0} ∧
  type_of% @Option.bind_some.{0, 0} ∧
  type_of% @List.length_set.{0} ∧
  type_of% @List.getElem?_set_self.{0} ∧
  type_of% @List.getElem?_set_ne.{0} ∧
  type_of% @List.set_set.{0} :=
  ⟨@eq_self.{1}, @ite_true.{1}, @ite_false.{1}, @List.set_cons_zero.{0}, @List.set_cons_succ.{0}, @List.getD_cons_zero.{0}, @List.getD_cons_succ.{0}, @List.map_cons.{0, 0}, @List.map_nil.{0, 0}, @List.length_cons.{0}, @List.length_nil.{0}, @List.append_nil.{0}, @List.cons_append.{0}, @List.nil_append.{0}, @List.replicate_succ.{0}, @List.replicate_zero.{0}, @List.getElem?_cons_zero.{0}, @List.getElem?_cons_succ.{0}, @List.append_assoc.{0}, @List.length_append.{0}, @List.getElem?_append_left.{0}, @List.getElem?_append_right.{0}, @List.set_append_left.{0}, @List.set_append_right.{0}, @List.mem_cons.{0}, @List.not_mem_nil.{0}, @forall_eq_or_imp.{1}, @forall_eq.{1}, @List.toList_toArray.{0}, @List.take_succ_cons.{0}, @List.take_zero.{0}, @List.drop_succ_cons.{0}, @List.drop_zero.{0}, @List.take_nil.{0}, @List.drop_nil.{0}, @List.singleton_append.{0}, @List.all_cons.{0}, @List.all_nil.{0}, @Option.map_some.{0, 0}, @Option.bind_some.{0, 0}, @List.length_set.{0}, @List.getElem?_set_self.{0}, @List.getElem?_set_ne.{0}, @List.set_set.{0}⟩
theorem NB {n m : Nat} (h : Nat.ble n m = true) : n ≤ m := Nat.le_of_ble_eq_true h
theorem XL : type_of% @List.length_append.{0} ∧ type_of% @List.length_cons.{0} ∧ type_of% @List.length_nil.{0} ∧ type_of% @List.length_set.{0} := ⟨@List.length_append.{0}, @List.length_cons.{0}, @List.length_nil.{0}, @List.length_set.{0}⟩
theorem XX : type_of% @X1 ∧ type_of% @X2 ∧ type_of% @X3 ∧ type_of% @X4 := ⟨@X1, @X2, @X3, @X4⟩
theorem XW : type_of% @XX ∧ type_of% @XA ∧ type_of% @XB ∧ type_of% @lc_block ∧ type_of% @lc_cond ∧ type_of% @XZ := ⟨@XX, @XA, @XB, @lc_block, @lc_cond, @XZ⟩
end Go.Lg
