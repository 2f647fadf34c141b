/- A queue of frames by classes: Take, walked. -/
import Derived.Test.YtfnldlcedgfkeaaC
namespace Go.Proofs.Ytfnldlcedgfkeaa
open Go.Lg
set_option maxRecDepth 8000
set_option maxHeartbeats 4000000
set_option linter.unusedSimpArgs false
set_option linter.unnecessarySimpa false
set_option linter.unusedVariables false

theorem goK_stop {most bytes : Int} {l : List En} {k : Nat} {n : Int} (h : ∀ e, l.head? = some e → ¬ ((k : Int) < most ∧ (k = 0 ∨ n + e.t.size ≤ bytes))) : goK most bytes l k n = k := by
  cases l with
  | nil => rfl
  | cons e r => rw [goK, if_neg (h e rfl)]

theorem if2 {p q A B : Prop} [Decidable p] [Decidable q] (ha : p → q → A) (hb : ¬ (p ∧ q) → B) : if p then if q then A else B else B := by
  split
  · split
    · exact ha ‹_› ‹_›
    · exact hb fun h => absurd h.2 ‹_›
  · exact hb fun h => absurd h.1 ‹_›

theorem take_spec {m : Mem} {q : Nat} {F : List Nat} {L : Nat → List En} (most bytes : Int) (h : Qu m q F L) (htot : tot L ≤ 16) (hsz : ∀ e ∈ allL L, e.t.size ≤ 1000) :
    LCall Try.prog 15 [.pointer (some ⟨q, 0, none⟩), .int .i64 most, .int .i64 bytes] m fun v M => Frm F m M ∧ Qu M q F (dropQ (goK most bytes (allL L) 0 0) L) ∧
      ∃ H, Sl M 9 1 v H (((allL L).take (goK most bytes (allL L) 0 0)).map fun e => tRow e.t) ∧ (∀ x ∈ H, m.length ≤ x) := by
  have hF := h.lt
  obtain ⟨s, G, rfl, h⟩ := h
  have hlen := len_all (L := L)
  have hsum := sumT_le hsz
  generalize hK : goK most bytes (allL L) 0 0 = K
  refine LCall_enter Try.func15 c15 ?_
  simp (contextual := true) (implicitDefEqProofs := false) (maxSteps := 2000000) (disch := first | rfl | exact Nat.le_of_ble_eq_true rfl | omega | (simp only [List.length_append, List.length_cons, List.length_nil, List.length_set]; omega)) only [L15, W1, W2, W3, W4, W5, W6, W7, W8, W9, W10, W11, W12, W13, W14, W15, eq_self, ite_true, ite_false, undef_eq, List.set_cons_zero, List.set_cons_succ, List.getD_cons_zero, List.getD_cons_succ, List.map_cons, List.map_nil, List.length_cons, List.length_nil, List.append_nil, List.cons_append, List.nil_append, List.replicate_succ, List.replicate_zero, Nat.reduceAdd, Nat.reduceSub, ↓reduceIte, List.getElem?_cons_zero, List.getElem?_cons_succ, basic, cellsL, resOf, setAt, List.append_assoc, List.length_append, List.getElem?_append_left, List.getElem?_append_right, List.set_append_left, List.set_append_right, below, belowB, belowA, atomB, List.mem_cons, List.not_mem_nil, forall_eq_or_imp, forall_eq, List.toList_toArray, implies_true, List.take_succ_cons, List.take_zero, List.drop_succ_cons, List.drop_zero, List.take_nil, List.drop_nil, Nat.reduceLeDiff, Nat.reduceMul, Int.reduceToNat, Int.reduceLT, Int.reduceLE, Int.reduceAdd, Int.reduceNeg, Int.reduceEq, splice, List.singleton_append, Nat.reduceEqDiff, Nat.reduceLT, isAtom, List.all_cons, List.all_nil, Option.map_some, Option.bind_some, List.length_set, Int.reduceSub, Int.reduceMul, List.getElem?_set_self, List.getElem?_set_ne, ofB_2, tmpR_if, ro_sliceData, ro_capNil, ro_noZero, ext_2, ext_3, ext_4, ext_5, List.set_set]
  refine loop_inv (fun n t M => ∃ (k : Nat) (s : Nat → Value) (w : Value) (H : List Nat), n = 17 - k ∧ k ≤ tot L ∧ goK most bytes ((allL L).drop k) k (sumT ((allL L).take k)) = K ∧ Frm (Fq q G) m M ∧ Qs M q s G (dropQ k L) ∧
    Sl M 9 1 w H (((allL L).take k).map fun e => tRow e.t) ∧ (∀ x ∈ H, m.length ≤ x) ∧
    Tab 59 [(0, .pointer (some ⟨q, 0, none⟩)), (1, .int .i64 most), (2, .int .i64 bytes), (7, w), (8, .int .i64 (sumT ((allL L).take k) : Int))] t) (n := 17) ?_ ?_
  · exact ⟨0, s, _, [], rfl, Nat.zero_le _, by simpa [sumT] using hK, Frm.refl, h.congr fun c _ => dropQ_zero, .nil, by simp, ⟨rfl, by simp [sumT]⟩⟩
  clear h
  rintro n t M ⟨k, s, w, H, rfl, hk, hgo, hf, h, hw, hH, ht⟩
  obtain ⟨g, rfl⟩ : ∃ f' : Nat → Value, t = [.pointer (some ⟨q, 0, none⟩), .int .i64 most, .int .i64 bytes, f' 3, f' 4, f' 5, f' 6, w, .int .i64 (sumT ((allL L).take k) : Int), f' 9, f' 10, f' 11, f' 12, f' 13, f' 14, f' 15, f' 16, f' 17, f' 18, f' 19, f' 20, f' 21, f' 22, f' 23, f' 24, f' 25, f' 26, f' 27, f' 28, f' 29, f' 30, f' 31, f' 32, f' 33, f' 34, f' 35, f' 36, f' 37, f' 38, f' 39, f' 40, f' 41, f' 42, f' 43, f' 44, f' 45, f' 46, f' 47, f' 48, f' 49, f' 50, f' 51, f' 52, f' 53, f' 54, f' 55, f' 56, f' 57, f' 58] := ht.open fun f' => rfl
  have htl : ((allL L).take k).length = k := by rw [List.length_take]; omega
  obtain ⟨wa, rfl, _⟩ := hw.form
  simp only [List.length_map, htl] at hw ⊢
  have fin : goK most bytes ((allL L).drop k) k (sumT ((allL L).take k)) = k → Frm (Fq q G) m M ∧ Qu M q (Fq q G) (dropQ K L) ∧ ∃ H, Sl M 9 1 (.slice wa k k) H (((allL L).take K).map fun e => tRow e.t) ∧ (∀ x ∈ H, m.length ≤ x) := by
    intro e
    rw [hgo] at e
    subst e
    exact ⟨hf, ⟨s, G, rfl, h⟩, H, hw, hH⟩
  by_cases hkm : (k : Int) < most
  · have hkm' : ((k : Int) < most) = True := eq_true hkm
    simp (contextual := true) (implicitDefEqProofs := false) (maxSteps := 2000000) (disch := first | rfl | exact Nat.le_of_ble_eq_true rfl | omega | (simp only [List.length_append, List.length_cons, List.length_nil, List.length_set]; omega)) only [hkm', W1, W2, W3, W4, W5, W6, W7, W8, W9, W10, W11, W12, W13, W14, W15, eq_self, ite_true, ite_false, undef_eq, List.set_cons_zero, List.set_cons_succ, List.getD_cons_zero, List.getD_cons_succ, List.map_cons, List.map_nil, List.length_cons, List.length_nil, List.append_nil, List.cons_append, List.nil_append, List.replicate_succ, List.replicate_zero, Nat.reduceAdd, Nat.reduceSub, ↓reduceIte, List.getElem?_cons_zero, List.getElem?_cons_succ, basic, cellsL, resOf, setAt, List.append_assoc, List.length_append, List.getElem?_append_left, List.getElem?_append_right, List.set_append_left, List.set_append_right, below, belowB, belowA, atomB, List.mem_cons, List.not_mem_nil, forall_eq_or_imp, forall_eq, List.toList_toArray, implies_true, List.take_succ_cons, List.take_zero, List.drop_succ_cons, List.drop_zero, List.take_nil, List.drop_nil, Nat.reduceLeDiff, Nat.reduceMul, Int.reduceToNat, Int.reduceLT, Int.reduceLE, Int.reduceAdd, Int.reduceNeg, Int.reduceEq, splice, List.singleton_append, Nat.reduceEqDiff, Nat.reduceLT, isAtom, List.all_cons, List.all_nil, Option.map_some, Option.bind_some, List.length_set, Int.reduceSub, Int.reduceMul, List.getElem?_set_self, List.getElem?_set_ne, ofB_2, tmpR_if, ro_sliceData, ro_capNil, ro_noZero, ext_2, ext_3, ext_4, ext_5, List.set_set]
    refine (first_spec ⟨s, G, rfl, h⟩).use ?_
    cases he : (allL L)[k]? with
    | none =>
      have hkt : tot L ≤ k := by
        have := List.getElem?_eq_none_iff.mp he
        omega
      rw [dropQ_end hkt (by omega), dropQ_end hkt (by omega), dropQ_end hkt (by omega)]
      simp (contextual := true) (implicitDefEqProofs := false) (maxSteps := 2000000) (disch := first | rfl | exact Nat.le_of_ble_eq_true rfl | omega | (simp only [List.length_append, List.length_cons, List.length_nil, List.length_set]; omega)) only [ne_eq, not_true_eq_false, W1, W2, W3, W4, W5, W6, W7, W8, W9, W10, W11, W12, W13, W14, W15, eq_self, ite_true, ite_false, undef_eq, List.set_cons_zero, List.set_cons_succ, List.getD_cons_zero, List.getD_cons_succ, List.map_cons, List.map_nil, List.length_cons, List.length_nil, List.append_nil, List.cons_append, List.nil_append, List.replicate_succ, List.replicate_zero, Nat.reduceAdd, Nat.reduceSub, ↓reduceIte, List.getElem?_cons_zero, List.getElem?_cons_succ, basic, cellsL, resOf, setAt, List.append_assoc, List.length_append, List.getElem?_append_left, List.getElem?_append_right, List.set_append_left, List.set_append_right, below, belowB, belowA, atomB, List.mem_cons, List.not_mem_nil, forall_eq_or_imp, forall_eq, List.toList_toArray, implies_true, List.take_succ_cons, List.take_zero, List.drop_succ_cons, List.drop_zero, List.take_nil, List.drop_nil, Nat.reduceLeDiff, Nat.reduceMul, Int.reduceToNat, Int.reduceLT, Int.reduceLE, Int.reduceAdd, Int.reduceNeg, Int.reduceEq, splice, List.singleton_append, Nat.reduceEqDiff, Nat.reduceLT, isAtom, List.all_cons, List.all_nil, Option.map_some, Option.bind_some, List.length_set, Int.reduceSub, Int.reduceMul, List.getElem?_set_self, List.getElem?_set_ne, ofB_2, tmpR_if, ro_sliceData, ro_capNil, ro_noZero, ext_2, ext_3, ext_4, ext_5, List.set_set]
      refine fin (goK_stop fun e he' => ?_)
      rw [List.drop_of_length_le (by omega)] at he'
      simp at he'
    | some e =>
      have hkl := (List.getElem?_eq_some_iff.mp he).1
      obtain ⟨c, hc, hce, hlow, hrest⟩ := pop_step he
      have hfirst : (if dropQ k L 0 ≠ [] then (0 : Int) else if dropQ k L 1 ≠ [] then 1 else if dropQ k L 2 ≠ [] then 2 else -1) = (c : Int) := by
        rcases lt3 hc with rfl | rfl | rfl
        · rw [if_pos (by rw [hce]; simp)]; rfl
        · rw [if_neg (by simpa using hlow 0 (by omega)), if_pos (by rw [hce]; simp)]; rfl
        · rw [if_neg (by simpa using hlow 0 (by omega)), if_neg (by simpa using hlow 1 (by omega)), if_pos (by rw [hce]; simp)]; rfl
      rw [hfirst]
      have hq := h.cell
      have hg := get3 (s := s) hc
      have hcn : ((c : Int) < 0) = False := eq_false (by omega)
      have hc0 : ((0 : Int) ≤ (c : Int)) = True := by simp
      have hc3 : ((c : Int) < 3) = True := eq_true (by omega)
      have hsl := h.sl c hc
      rw [hce] at hsl
      obtain ⟨a, ha, hform⟩ := hsl.form
      obtain ⟨b, o, cs, rfl, hGe, hb, hl, hcc, hrow⟩ := hform (by simp)
      have hrl := hsl.rows_len
      simp only [List.map_cons, List.length_cons, List.length_map] at ha hl
      have hx : cs[o + 1]? = some (.string e.t) := by
        have := row_cell (hrow 0 e.row rfl) (j := 1) (by omega)
        simpa [En.row] using this
      have hesz := hsz e (List.mem_of_getElem? he)
      have hsn := sumT_snoc he
      have hs16 : sumT ((allL L).take k) ≤ 16000 := by
        have := sumT_le (b := 1000) (l := (allL L).take k) fun e he => hsz e (List.mem_of_mem_take he)
        rw [htl] at this; omega
      have hwn : IntKind.i64.wrap ((sumT ((allL L).take k) : Int) + (e.t.size : Int)) = (sumT ((allL L).take (k + 1)) : Int) := by rw [hsn, wrap_i64 (by omega) (by omega)]; omega
      have hpos : ((0 : Int) < (((dropQ (k + 1) L c).length + 1 : Nat) : Int)) = True := eq_true (by omega)
      have hgo' : goK most bytes ((allL L).drop k) k (sumT ((allL L).take k)) = if (k : Int) < most ∧ (k = 0 ∨ ((sumT ((allL L).take k) : Nat) : Int) + e.t.size ≤ bytes) then goK most bytes ((allL L).drop (k + 1)) (k + 1) (((sumT ((allL L).take k) : Nat) : Int) + e.t.size) else k := by
        rw [drop_cons he]; rfl
      have hnn : ((sumT ((allL L).take k) : Nat) : Int) + e.t.size = (sumT ((allL L).take (k + 1)) : Int) := by omega
      have h3 : (((0 : Int) < (k : Int)) = False ∧ True = True ∧ k = 0) ∨ (((0 : Int) < (k : Int)) = True ∧ (bytes < ((sumT ((allL L).take k) : Nat) : Int) + (e.t.size : Int)) = False ∧ 0 < k) ∨ (((0 : Int) < (k : Int)) = True ∧ (bytes < ((sumT ((allL L).take k) : Nat) : Int) + (e.t.size : Int)) = True ∧ 0 < k) := by
        by_cases hk0 : k = 0
        · exact .inl ⟨eq_false (by omega), rfl, hk0⟩
        by_cases hb1 : bytes < ((sumT ((allL L).take k) : Nat) : Int) + (e.t.size : Int)
        · exact .inr (.inr ⟨eq_true (by omega), eq_true hb1, by omega⟩)
        · exact .inr (.inl ⟨eq_true (by omega), eq_false hb1, by omega⟩)
      rcases h3 with ⟨c1, c2, c3⟩ | ⟨c1, c2, c3⟩ | ⟨c1, c2, c3⟩
      rotate_left 2
      · simp (contextual := true) (implicitDefEqProofs := false) (maxSteps := 2000000) (disch := first | rfl | exact Nat.le_of_ble_eq_true rfl | omega | (simp only [List.length_append, List.length_cons, List.length_nil, List.length_set]; omega)) only [hcn, hc0, hc3, hq, hg, ha, hb, hx, hpos, c1, c2, Int.toNat_natCast, W1, W2, W3, W4, W5, W6, W7, W8, W9, W10, W11, W12, W13, W14, W15, eq_self, ite_true, ite_false, undef_eq, List.set_cons_zero, List.set_cons_succ, List.getD_cons_zero, List.getD_cons_succ, List.map_cons, List.map_nil, List.length_cons, List.length_nil, List.append_nil, List.cons_append, List.nil_append, List.replicate_succ, List.replicate_zero, Nat.reduceAdd, Nat.reduceSub, ↓reduceIte, List.getElem?_cons_zero, List.getElem?_cons_succ, basic, cellsL, resOf, setAt, List.append_assoc, List.length_append, List.getElem?_append_left, List.getElem?_append_right, List.set_append_left, List.set_append_right, below, belowB, belowA, atomB, List.mem_cons, List.not_mem_nil, forall_eq_or_imp, forall_eq, List.toList_toArray, implies_true, List.take_succ_cons, List.take_zero, List.drop_succ_cons, List.drop_zero, List.take_nil, List.drop_nil, Nat.reduceLeDiff, Nat.reduceMul, Int.reduceToNat, Int.reduceLT, Int.reduceLE, Int.reduceAdd, Int.reduceNeg, Int.reduceEq, splice, List.singleton_append, Nat.reduceEqDiff, Nat.reduceLT, isAtom, List.all_cons, List.all_nil, Option.map_some, Option.bind_some, List.length_set, Int.reduceSub, Int.reduceMul, List.getElem?_set_self, List.getElem?_set_ne, ofB_2, tmpR_if, ro_sliceData, ro_capNil, ro_noZero, ext_2, ext_3, ext_4, ext_5, List.set_set]
        have c2' := of_eq_true c2
        refine fin ?_
        rw [hgo', if_neg (by omega)]
      all_goals
        have c4 : k = 0 ∨ ((sumT ((allL L).take k) : Nat) : Int) + e.t.size ≤ bytes := by
          first
            | exact .inl c3
            | (have := of_eq_false c2; exact .inr (by omega))
        rw [if_pos ⟨hkm, c4⟩, hnn] at hgo'
        simp (contextual := true) (implicitDefEqProofs := false) (maxSteps := 2000000) (disch := first | rfl | exact Nat.le_of_ble_eq_true rfl | omega | (simp only [List.length_append, List.length_cons, List.length_nil, List.length_set]; omega)) only [hcn, hc0, hc3, hq, hg, ha, hb, hx, hpos, c1, c2, Int.toNat_natCast, W1, W2, W3, W4, W5, W6, W7, W8, W9, W10, W11, ops_nil, ops_n, ops_g, guardK_it, guardK_if, guardK_u, CondP_t, CondP_f, ex_call, pickK_it, loadK_p, loadNK_p, storeB_s, cellB_s, cellB_r, cellsB_s, cellsB_r, condK_it, lc_skip, lc_region, lc_draw, lc_seq, lc_cond, lc_block, lc_exit, lc_ret, then_n, then_e, then_r, block_n, block_r, block_e, bin_add, bin_sub, bin_mul, bin_quo, bin_rem, bin_and, bin_or, bin_xor, bin_andNot, bin_eql, bin_neq, bin_lss, bin_leq, bin_gtr, bin_geq, bin_shl, bin_shr, bin_sadd, bin_seql, bin_sneq, un_not, un_neg, eqL_b, eqL_i, eqL_s, eqL_pnn, eqL_pns, eqL_psn, eqL_pp, eqL_slnn, eqL_slns, eqL_slsn, ex_callv, slB_e, slB_r, apB_e, lc_chain, lc_bad, putBK_s, lc_label, lc_goto, then_g, block_g, jump_g, jump_n, jump_r, jump_e, lf_seq, lf_label, eq_self, ite_true, ite_false, undef_eq, List.set_cons_zero, List.set_cons_succ, List.getD_cons_zero, List.getD_cons_succ, List.map_cons, List.map_nil, List.length_cons, List.length_nil, List.append_nil, List.cons_append, List.nil_append, List.replicate_succ, List.replicate_zero, Nat.reduceAdd, Nat.reduceSub, ↓reduceIte, List.getElem?_cons_zero, List.getElem?_cons_succ, basic, cellsL, resOf, setAt, List.append_assoc, List.length_append, List.getElem?_append_left, List.getElem?_append_right, List.set_append_left, List.set_append_right, below, belowB, belowA, atomB, List.mem_cons, List.not_mem_nil, forall_eq_or_imp, forall_eq, List.toList_toArray, implies_true, List.take_succ_cons, List.take_zero, List.drop_succ_cons, List.drop_zero, List.take_nil, List.drop_nil, Nat.reduceLeDiff, Nat.reduceMul, Int.reduceToNat, Int.reduceLT, Int.reduceLE, Int.reduceAdd, Int.reduceNeg, Int.reduceEq, splice, List.singleton_append, Nat.reduceEqDiff, Nat.reduceLT, isAtom, List.all_cons, List.all_nil, Option.map_some, Option.bind_some, List.length_set, Int.reduceSub, Int.reduceMul, List.getElem?_set_self, List.getElem?_set_ne, ofB_2, tmpR_if, ro_sliceData, ro_capNil, ro_noZero, ext_2, ext_3, ext_4, ext_5, List.set_set]
        refine app_row (bytes := 16) (hw.frm0 Frm.refl.app) rfl (by simp; omega) ?_
        intro v2 M2 G2 hM hf2 hs2 hG2
        simp only [List.length_append, List.length_cons, List.length_nil] at hM hG2
        have hml := hf.len
        have hf3 : Frm H M M2 := hf2.app_of
        have hdisj : ∀ x ∈ Fq q G, x ∉ H := fun x hx hx' => by
          have h1 := hF x hx
          have h2 := hH x hx'
          omega
        have hq2 := h.frm hf3 hdisj
        have hsl2 := hq2.sl c hc
        rw [hce] at hsl2
        have hqc := hq2.cell
        have hb2 := hf3.get hb (hdisj b (mem_Fq hc (by rw [hGe]; simp)))
        have htail : Sl M2 98 2 (.slice (some ⟨b, o + 2, none⟩) (dropQ (k + 1) L c).length (dropQ (k + 1) L c).length) (G c) ((dropQ (k + 1) L c).map En.row) := by
          have h9 := drop_rows hrl hcc (i := 1) (by simp)
          simp only [List.map_cons, List.drop_succ_cons, List.drop_zero, Nat.one_mul] at h9
          rw [hGe]
          have := Sl.own (m := M2) (T := 98) (sz := 2) (b := b) (o := o + 2) (cs := cs) (rows := (dropQ (k + 1) L c).map En.row) hb2 (fun r hr => hrl r (by simp at hr ⊢; exact .inr hr)) h9 (by simp only [List.length_map]; omega)
          simpa only [List.length_map] using this
        have hput := hq2.put hc (H := G c) (l := dropQ (k + 1) L c) Frm.refl htail (fun x hx => Or.inl hx) (by have := h.le c hc; rw [hce] at this; simp at this; omega)
        rw [upd_self] at hput
        obtain ⟨va, rfl, _⟩ := hs2.form
        simp only [List.length_map, List.length_append, List.length_cons, List.length_nil, Nat.zero_add] at hput ⊢
        simp (contextual := true) (implicitDefEqProofs := false) (maxSteps := 2000000) (disch := first | rfl | exact Nat.le_of_ble_eq_true rfl | omega | (simp only [List.length_append, List.length_cons, List.length_nil, List.length_set]; omega)) only [hqc, hc0, hc3, hg, ha, hb2, Int.toNat_natCast, W1, W2, W3, W4, W5, W6, W7, W8, W9, W10, W11, W12, W13, W14, W15, eq_self, ite_true, ite_false, undef_eq, List.set_cons_zero, List.set_cons_succ, List.getD_cons_zero, List.getD_cons_succ, List.map_cons, List.map_nil, List.length_cons, List.length_nil, List.append_nil, List.cons_append, List.nil_append, List.replicate_succ, List.replicate_zero, Nat.reduceAdd, Nat.reduceSub, ↓reduceIte, List.getElem?_cons_zero, List.getElem?_cons_succ, basic, cellsL, resOf, setAt, List.append_assoc, List.length_append, List.getElem?_append_left, List.getElem?_append_right, List.set_append_left, List.set_append_right, below, belowB, belowA, atomB, List.mem_cons, List.not_mem_nil, forall_eq_or_imp, forall_eq, List.toList_toArray, implies_true, List.take_succ_cons, List.take_zero, List.drop_succ_cons, List.drop_zero, List.take_nil, List.drop_nil, Nat.reduceLeDiff, Nat.reduceMul, Int.reduceToNat, Int.reduceLT, Int.reduceLE, Int.reduceAdd, Int.reduceNeg, Int.reduceEq, splice, List.singleton_append, Nat.reduceEqDiff, Nat.reduceLT, isAtom, List.all_cons, List.all_nil, Option.map_some, Option.bind_some, List.length_set, Int.reduceSub, Int.reduceMul, List.getElem?_set_self, List.getElem?_set_ne, ofB_2, tmpR_if, ro_sliceData, ro_capNil, ro_noZero, ext_2, ext_3, ext_4, ext_5, List.set_set]
        rw [set3 hc]
        have hdr : (((allL L).take (k + 1)).map fun e => tRow e.t) = ((allL L).take k).map (fun e => tRow e.t) ++ [[.string e.t]] := by
          rw [take_snoc he, List.map_append]; rfl
        refine ⟨by omega, kInv_go ⟨k + 1, _, .slice va (((allL L).take k).length + 1) (((allL L).take k).length + 1), G2, rfl, by omega, hgo'.symm.trans hgo, ?_, hput.2.1.congr fun d hd => ?_, ?_, fun x hx => by have := hG2 x hx; omega, ⟨rfl, by simp [hnn]⟩⟩ (by omega)⟩
        · refine (hf.trans hf3 fun x hx => .inr (hH x hx)).trans hput.1 fun x hx => .inl hx
        · by_cases hdc : d = c
          · subst hdc; rw [upd_same]
          · rw [upd_other hdc, hrest d hd hdc]
        · rw [hdr]
          have : q ∉ G2 := fun hx => by
            have h1 := hG2 q hx
            have h2 := hF q (by simp [Fq])
            omega
          simp only [List.length_map, List.length_append, List.length_cons, List.length_nil, Nat.zero_add] at hs2
          exact hs2.setb this
  · have hkm' : ((k : Int) < most) = False := eq_false hkm
    simp (contextual := true) (implicitDefEqProofs := false) (maxSteps := 2000000) (disch := first | rfl | exact Nat.le_of_ble_eq_true rfl | omega | (simp only [List.length_append, List.length_cons, List.length_nil, List.length_set]; omega)) only [hkm', W1, W2, W3, W4, W5, W6, W7, W8, W9, W10, W11, W12, W13, W14, W15, eq_self, ite_true, ite_false, undef_eq, List.set_cons_zero, List.set_cons_succ, List.getD_cons_zero, List.getD_cons_succ, List.map_cons, List.map_nil, List.length_cons, List.length_nil, List.append_nil, List.cons_append, List.nil_append, List.replicate_succ, List.replicate_zero, Nat.reduceAdd, Nat.reduceSub, ↓reduceIte, List.getElem?_cons_zero, List.getElem?_cons_succ, basic, cellsL, resOf, setAt, List.append_assoc, List.length_append, List.getElem?_append_left, List.getElem?_append_right, List.set_append_left, List.set_append_right, below, belowB, belowA, atomB, List.mem_cons, List.not_mem_nil, forall_eq_or_imp, forall_eq, List.toList_toArray, implies_true, List.take_succ_cons, List.take_zero, List.drop_succ_cons, List.drop_zero, List.take_nil, List.drop_nil, Nat.reduceLeDiff, Nat.reduceMul, Int.reduceToNat, Int.reduceLT, Int.reduceLE, Int.reduceAdd, Int.reduceNeg, Int.reduceEq, splice, List.singleton_append, Nat.reduceEqDiff, Nat.reduceLT, isAtom, List.all_cons, List.all_nil, Option.map_some, Option.bind_some, List.length_set, Int.reduceSub, Int.reduceMul, List.getElem?_set_self, List.getElem?_set_ne, ofB_2, tmpR_if, ro_sliceData, ro_capNil, ro_noZero, ext_2, ext_3, ext_4, ext_5, List.set_set]
    exact fin (goK_stop fun e _ hh => hkm hh.1)
end Go.Proofs.Ytfnldlcedgfkeaa
