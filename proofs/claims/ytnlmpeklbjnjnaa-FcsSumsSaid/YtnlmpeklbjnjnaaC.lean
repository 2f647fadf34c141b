/- Sums of texts, walked. -/
import Derived.Test.YtnlmpeklbjnjnaaB
namespace Go.Proofs.Ytnlmpeklbjnjnaa
open Go.Lg
set_option maxRecDepth 8000
set_option maxHeartbeats 4000000
set_option linter.unusedSimpArgs false
set_option linter.unnecessarySimpa false
set_option linter.unusedVariables false

/-- A slice of texts. -/
def StrIn (m : Mem) (l : List ByteArray) (v : Value) : Prop := ∃ a, v = .slice a l.length l.length ∧ (∀ s ∈ l, s.size ≤ maxLen) ∧ l.length ≤ maxLen ∧
  (0 < l.length → ∃ i T kd f, a = some ⟨i, 0, none⟩ ∧ m[i]? = some ⟨l.map .string, T, 1, f, kd⟩ ∧ kd.live = true ∧ i < m.length)

theorem cellB_l {c : List Value} {T z f o : Nat} {kd : Kind} (h : kd.live = true) : cellB (some ⟨c, T, z, f, kd⟩) o = c[o]? := by simp [cellB, h]

/-- The bytes of texts. -/
def bytes (l : List ByteArray) : List UInt8 := (l.map (·.data.toList)).flatten
def sumOf (b : List UInt8) : Nat := 65535 - crc 65535 b

theorem sum_spec (ti Tt : Nat) (l : List ByteArray) (v : Value) (m : Mem) (ht : m[ti]? = some ⟨tabc 256, Tt, 1, 0, .own⟩) (hv : StrIn m l v) :
    Ret Try.prog 16 [.pointer (some ⟨ti, 0, none⟩), v] m (.int .u16 ((sumOf (bytes l) : Nat) : Int)) m := by
  obtain ⟨a, rfl, hsz, hlen, hcell⟩ := hv
  have hti : ti < m.length := (List.getElem?_eq_some_iff.mp ht).1
  unfold maxLen at hsz hlen
  refine LCall_drop (LCall_enter Try.func16 c16 ?_)
  simp (contextual := true) (implicitDefEqProofs := false) (maxSteps := 2000000) (disch := first | rfl | exact Nat.le_of_ble_eq_true rfl | omega | (simp only [List.length_append, List.length_cons, List.length_nil, List.length_set]; omega)) only [L16, W1, W2, W3, W4, W5, W6, W7, W8, W9, W10, W11, W12, W13, W14, W15, eq_self, ite_true, ite_false, undef_eq, List.set_cons_zero, List.set_cons_succ, List.getD_cons_zero, List.getD_cons_succ, List.map_cons, List.map_nil, List.length_cons, List.length_nil, List.append_nil, List.cons_append, List.nil_append, List.replicate_succ, List.replicate_zero, Nat.reduceAdd, Nat.reduceSub, ↓reduceIte, List.getElem?_cons_zero, List.getElem?_cons_succ, basic, cellsL, resOf, setAt, List.append_assoc, List.length_append, List.getElem?_append_left, List.getElem?_append_right, List.set_append_left, List.set_append_right, below, belowB, belowA, atomB, List.mem_cons, List.not_mem_nil, forall_eq_or_imp, forall_eq, List.toList_toArray, implies_true, List.take_succ_cons, List.take_zero, List.drop_succ_cons, List.drop_zero, List.take_nil, List.drop_nil, Nat.reduceLeDiff, Nat.reduceMul, Int.reduceToNat, Int.reduceLT, Int.reduceLE, Int.reduceAdd, Int.reduceNeg, Int.reduceEq, splice, List.singleton_append, Nat.reduceEqDiff, Nat.reduceLT, isAtom, List.all_cons, List.all_nil, Option.map_some, Option.bind_some, List.length_set, Int.reduceSub, Int.reduceMul, List.getElem?_set_self, List.getElem?_set_ne, ofB_2, tmpR_if, ro_sliceData, ro_capNil, ro_noZero, ext_2, ext_3, ext_4, ext_5, List.set_set]
  refine loop_inv (fun n t m' => ∃ (j : Nat) (g : Mem), n = l.length - j ∧ j ≤ l.length ∧
    Tab 40 [(0, .pointer (some ⟨ti, 0, none⟩)), (5, .int .u16 ((crc 65535 (bytes (l.take j)) : Nat) : Int)), (12, .slice a l.length l.length), (13, .int .i64 (l.length : Int)), (14, .int .i64 (j : Int))] t ∧ m' = m ++ g) (n := l.length) ?_ ?_
  · exact ⟨0, [], rfl, Nat.zero_le _, ⟨rfl, by simp [bytes, crc]⟩, by simp⟩
  rintro n t m' ⟨j, g, rfl, hj, ht', rfl⟩
  obtain ⟨f, rfl⟩ : ∃ f : Nat → Value, t = [.pointer (some ⟨ti, 0, none⟩), f 1, f 2, f 3, f 4, .int .u16 ((crc 65535 (bytes (l.take j)) : Nat) : Int), f 6, f 7, f 8, f 9, f 10, f 11, .slice a l.length l.length, .int .i64 (l.length : Int), .int .i64 (j : Int), f 15, f 16, f 17, f 18, f 19, f 20, f 21, f 22, f 23, f 24, f 25, f 26, f 27, f 28, f 29, f 30, f 31, f 32, f 33, f 34, f 35, f 36, f 37, f 38, f 39] := ht'.open fun f => rfl
  by_cases hlt : j < l.length
  · have hlt' : ((j : Int) < (l.length : Int)) = True := by simp [hlt]
    have h0 : ((0 : Int) ≤ (j : Int)) = True := by simp
    obtain ⟨i, T, kd, fz, rfl, hm, hl, hi⟩ := hcell (by omega)
    obtain ⟨s, hs⟩ : ∃ s, l[j]? = some s := ⟨l[j], List.getElem?_eq_getElem hlt⟩
    have hss : s.size ≤ 9223372036854775807 := hsz s (List.mem_of_getElem? hs)
    have hcs : (l.map Value.string)[j]? = some (.string s) := by simp [hs]
    simp (contextual := true) (implicitDefEqProofs := false) (maxSteps := 2000000) (disch := first | rfl | exact Nat.le_of_ble_eq_true rfl | omega | (simp only [List.length_append, List.length_cons, List.length_nil, List.length_set]; omega)) only [hm, hlt', h0, Int.toNat_natCast, cellB_l hl, hcs, W1, W2, W3, W4, W5, W6, W7, W8, W9, W10, W11, W12, W13, W14, W15, eq_self, ite_true, ite_false, undef_eq, List.set_cons_zero, List.set_cons_succ, List.getD_cons_zero, List.getD_cons_succ, List.map_cons, List.map_nil, List.length_cons, List.length_nil, List.append_nil, List.cons_append, List.nil_append, List.replicate_succ, List.replicate_zero, Nat.reduceAdd, Nat.reduceSub, ↓reduceIte, List.getElem?_cons_zero, List.getElem?_cons_succ, basic, cellsL, resOf, setAt, List.append_assoc, List.length_append, List.getElem?_append_left, List.getElem?_append_right, List.set_append_left, List.set_append_right, below, belowB, belowA, atomB, List.mem_cons, List.not_mem_nil, forall_eq_or_imp, forall_eq, List.toList_toArray, implies_true, List.take_succ_cons, List.take_zero, List.drop_succ_cons, List.drop_zero, List.take_nil, List.drop_nil, Nat.reduceLeDiff, Nat.reduceMul, Int.reduceToNat, Int.reduceLT, Int.reduceLE, Int.reduceAdd, Int.reduceNeg, Int.reduceEq, splice, List.singleton_append, Nat.reduceEqDiff, Nat.reduceLT, isAtom, List.all_cons, List.all_nil, Option.map_some, Option.bind_some, List.length_set, Int.reduceSub, Int.reduceMul, List.getElem?_set_self, List.getElem?_set_ne, ofB_2, tmpR_if, ro_sliceData, ro_capNil, ro_noZero, ext_2, ext_3, ext_4, ext_5, List.set_set]
    have htake : bytes (l.take (j + 1)) = bytes (l.take j) ++ s.data.toList := by
      have e := List.take_add_one (l := l) (i := j)
      rw [hs] at e
      unfold bytes
      rw [e]; simp
    refine loop_inv (fun n t m' => ∃ (k : Nat), n = s.size - k ∧ k ≤ s.size ∧
      Tab 40 [(0, .pointer (some ⟨ti, 0, none⟩)), (5, .int .u16 ((crc 65535 (bytes (l.take j) ++ s.data.toList.take k) : Nat) : Int)), (12, .slice (some ⟨i, 0, none⟩) l.length l.length), (13, .int .i64 (l.length : Int)), (14, .int .i64 (j : Int)), (19, .slice (some ⟨m.length + g.length, 0, none⟩) s.size s.size), (20, .int .i64 (s.size : Int)), (21, .int .i64 (k : Int))] t ∧
      m' = m ++ (g ++ [⟨byteCells s.data.toList, 5, 1, 0, .own⟩])) (n := s.size) ?_ ?_
    · exact ⟨0, rfl, Nat.zero_le _, ⟨rfl, by simp⟩, rfl⟩
    rintro n t m' ⟨k, rfl, hk, ht2, rfl⟩
    obtain ⟨f, rfl⟩ : ∃ f : Nat → Value, t = [.pointer (some ⟨ti, 0, none⟩), f 1, f 2, f 3, f 4, .int .u16 ((crc 65535 (bytes (l.take j) ++ s.data.toList.take k) : Nat) : Int), f 6, f 7, f 8, f 9, f 10, f 11, .slice (some ⟨i, 0, none⟩) l.length l.length, .int .i64 (l.length : Int), .int .i64 (j : Int), f 15, f 16, f 17, f 18, .slice (some ⟨m.length + g.length, 0, none⟩) s.size s.size, .int .i64 (s.size : Int), .int .i64 (k : Int), f 22, f 23, f 24, f 25, f 26, f 27, f 28, f 29, f 30, f 31, f 32, f 33, f 34, f 35, f 36, f 37, f 38, f 39] := ht2.open fun f => rfl
    by_cases hks : k < s.size
    · have hk' : ((k : Int) < (s.size : Int)) = True := by simp [hks]
      have h0k : ((0 : Int) ≤ (k : Int)) = True := by simp
      have hkl : k < s.data.toList.length := by simpa using hks
      obtain ⟨c, hc⟩ : ∃ c, s.data.toList[k]? = some c := ⟨s.data.toList[k], List.getElem?_eq_getElem hkl⟩
      have hbc : (byteCells s.data.toList)[k]? = some (.int .u8 ((c.toNat : Nat) : Int)) := by simp [byteCells, hc]
      have hc256 : c.toNat < 256 := c.toNat_lt
      generalize hr : crc 65535 (bytes (l.take j) ++ s.data.toList.take k) = r
      have hr16 : r < 65536 := by rw [← hr]; exact crc_lt (by decide)
      have hx : ((r % 256) ^^^ c.toNat) < 256 := xor_lt (n := 8) (by omega) hc256
      have hx' : ((((r % 256) ^^^ c.toNat : Nat) : Int) < 256) = True := by simp; omega
      have h0x : ((0 : Int) ≤ (((r % 256) ^^^ c.toNat : Nat) : Int)) = True := by simp
      have htab : (tabc 256)[(r % 256) ^^^ c.toNat]? = some (.int .u16 ((b8 ((r % 256) ^^^ c.toNat) : Nat) : Int)) := by rw [tabc_get hx, if_pos hx]
      have hb16 : b8 ((r % 256) ^^^ c.toNat) < 65536 := b8_lt (by omega)
      have hd16 : r / 256 < 65536 := by omega
      have hm8 : r % 256 < 256 := by omega
      have hnext : crc 65535 (bytes (l.take j) ++ s.data.toList.take (k + 1)) = (r / 256) ^^^ b8 ((r % 256) ^^^ c.toNat) := by
        rw [List.take_add_one, hc, take_byte r c.toNat hc256, ← hr, ← List.append_assoc]
        exact crc_snoc _ _ _
      simp (contextual := true) (implicitDefEqProofs := false) (maxSteps := 2000000) (disch := first | rfl | exact Nat.le_of_ble_eq_true rfl | omega | (simp only [List.length_append, List.length_cons, List.length_nil, List.length_set]; omega)) only [hk', h0k, Int.toNat_natCast, hbc, ht, wrap_u8m, b_shr8, b_xor8, b_xor16, hx', h0x, htab, W1, W2, W3, W4, W5, W6, W7, W8, W9, W10, W11, ops_nil, ops_n, ops_g, guardK_it, guardK_if, guardK_u, CondP_t, CondP_f, ex_call, pickK_it, loadK_p, loadNK_p, storeB_s, cellB_s, cellB_r, cellsB_s, cellsB_r, condK_it, lc_skip, lc_region, lc_draw, lc_seq, lc_cond, lc_block, lc_exit, lc_ret, then_n, then_e, then_r, block_n, block_r, block_e, bin_add, bin_sub, bin_mul, bin_quo, bin_rem, bin_and, bin_or, bin_andNot, bin_eql, bin_neq, bin_lss, bin_leq, bin_gtr, bin_geq, bin_shl, bin_sadd, bin_seql, bin_sneq, un_not, un_neg, eqL_b, eqL_i, eqL_s, eqL_pnn, eqL_pns, eqL_psn, eqL_pp, eqL_slnn, eqL_slns, eqL_slsn, ex_callv, slB_e, slB_r, appN_n, appN_n0, appN_s, apB_e, lc_chain, lc_bad, putBK_s, lc_label, lc_goto, then_g, block_g, jump_g, jump_n, jump_r, jump_e, lf_seq, lf_label, eq_self, ite_true, ite_false, undef_eq, List.set_cons_zero, List.set_cons_succ, List.getD_cons_zero, List.getD_cons_succ, List.map_cons, List.map_nil, List.length_cons, List.length_nil, List.append_nil, List.cons_append, List.nil_append, List.replicate_succ, List.replicate_zero, Nat.reduceAdd, Nat.reduceSub, ↓reduceIte, List.getElem?_cons_zero, List.getElem?_cons_succ, basic, cellsL, resOf, setAt, List.append_assoc, List.length_append, List.getElem?_append_left, List.getElem?_append_right, List.set_append_left, List.set_append_right, below, belowB, belowA, atomB, List.mem_cons, List.not_mem_nil, forall_eq_or_imp, forall_eq, List.toList_toArray, implies_true, List.take_succ_cons, List.take_zero, List.drop_succ_cons, List.drop_zero, List.take_nil, List.drop_nil, Nat.reduceLeDiff, Nat.reduceMul, Int.reduceToNat, Int.reduceLT, Int.reduceLE, Int.reduceAdd, Int.reduceNeg, Int.reduceEq, splice, List.singleton_append, Nat.reduceEqDiff, Nat.reduceLT, isAtom, List.all_cons, List.all_nil, Option.map_some, Option.bind_some, List.length_set, Int.reduceSub, Int.reduceMul, List.getElem?_set_self, List.getElem?_set_ne, ofB_2, tmpR_if, ro_sliceData, ro_capNil, ro_noZero, ext_2, ext_3, ext_4, ext_5, List.set_set]
      exact kInv_go ⟨k + 1, rfl, by omega, ⟨rfl, by simp [hnext]⟩, rfl⟩ (by omega)
    · have hk' : ((k : Int) < (s.size : Int)) = False := by simp; omega
      obtain rfl : k = s.size := by omega
      have hfull : s.data.toList.take s.size = s.data.toList := List.take_of_length_le (by simp)
      simp (contextual := true) (implicitDefEqProofs := false) (maxSteps := 2000000) (disch := first | rfl | exact Nat.le_of_ble_eq_true rfl | omega | (simp only [List.length_append, List.length_cons, List.length_nil, List.length_set]; omega)) only [hk', hfull, W1, W2, W3, W4, W5, W6, W7, W8, W9, W10, W11, W12, W13, W14, W15, eq_self, ite_true, ite_false, undef_eq, List.set_cons_zero, List.set_cons_succ, List.getD_cons_zero, List.getD_cons_succ, List.map_cons, List.map_nil, List.length_cons, List.length_nil, List.append_nil, List.cons_append, List.nil_append, List.replicate_succ, List.replicate_zero, Nat.reduceAdd, Nat.reduceSub, ↓reduceIte, List.getElem?_cons_zero, List.getElem?_cons_succ, basic, cellsL, resOf, setAt, List.append_assoc, List.length_append, List.getElem?_append_left, List.getElem?_append_right, List.set_append_left, List.set_append_right, below, belowB, belowA, atomB, List.mem_cons, List.not_mem_nil, forall_eq_or_imp, forall_eq, List.toList_toArray, implies_true, List.take_succ_cons, List.take_zero, List.drop_succ_cons, List.drop_zero, List.take_nil, List.drop_nil, Nat.reduceLeDiff, Nat.reduceMul, Int.reduceToNat, Int.reduceLT, Int.reduceLE, Int.reduceAdd, Int.reduceNeg, Int.reduceEq, splice, List.singleton_append, Nat.reduceEqDiff, Nat.reduceLT, isAtom, List.all_cons, List.all_nil, Option.map_some, Option.bind_some, List.length_set, Int.reduceSub, Int.reduceMul, List.getElem?_set_self, List.getElem?_set_ne, ofB_2, tmpR_if, ro_sliceData, ro_capNil, ro_noZero, ext_2, ext_3, ext_4, ext_5, List.set_set]
      exact kInv_go ⟨j + 1, g ++ [⟨byteCells s.data.toList, 5, 1, 0, .own⟩], rfl, by omega, ⟨rfl, by simp [htake]⟩, by first | rfl | simp⟩ (by omega)
  · have hlt' : ((j : Int) < (l.length : Int)) = False := by simp; omega
    obtain rfl : j = l.length := by omega
    have h16 : crc 65535 (bytes l) < 65536 := crc_lt (by decide)
    simp (contextual := true) (implicitDefEqProofs := false) (maxSteps := 2000000) (disch := first | rfl | exact Nat.le_of_ble_eq_true rfl | omega | (simp only [List.length_append, List.length_cons, List.length_nil, List.length_set]; omega)) only [hlt', List.take_length, u_not16, sumOf, W1, W2, W3, W4, W5, W6, W7, W8, W9, W10, W11, W12, W13, W14, W15, eq_self, ite_true, ite_false, undef_eq, List.set_cons_zero, List.set_cons_succ, List.getD_cons_zero, List.getD_cons_succ, List.map_cons, List.map_nil, List.length_cons, List.length_nil, List.append_nil, List.cons_append, List.nil_append, List.replicate_succ, List.replicate_zero, Nat.reduceAdd, Nat.reduceSub, ↓reduceIte, List.getElem?_cons_zero, List.getElem?_cons_succ, basic, cellsL, resOf, setAt, List.append_assoc, List.length_append, List.getElem?_append_left, List.getElem?_append_right, List.set_append_left, List.set_append_right, below, belowB, belowA, atomB, List.mem_cons, List.not_mem_nil, forall_eq_or_imp, forall_eq, List.toList_toArray, implies_true, List.take_succ_cons, List.take_zero, List.drop_succ_cons, List.drop_zero, List.take_nil, List.drop_nil, Nat.reduceLeDiff, Nat.reduceMul, Int.reduceToNat, Int.reduceLT, Int.reduceLE, Int.reduceAdd, Int.reduceNeg, Int.reduceEq, splice, List.singleton_append, Nat.reduceEqDiff, Nat.reduceLT, isAtom, List.all_cons, List.all_nil, Option.map_some, Option.bind_some, List.length_set, Int.reduceSub, Int.reduceMul, List.getElem?_set_self, List.getElem?_set_ne, ofB_2, tmpR_if, ro_sliceData, ro_capNil, ro_noZero, ext_2, ext_3, ext_4, ext_5, List.set_set]
end Go.Proofs.Ytnlmpeklbjnjnaa
