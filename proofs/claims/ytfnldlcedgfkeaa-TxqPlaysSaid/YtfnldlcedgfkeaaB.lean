/- A queue of frames by classes: what turns it, walked. -/
import Derived.Test.YtfnldlcedgfkeaaA
namespace Go.Proofs.Ytfnldlcedgfkeaa
open Go.Lg
set_option maxRecDepth 8000
set_option maxHeartbeats 4000000
set_option linter.unusedSimpArgs false
set_option linter.unnecessarySimpa false
set_option linter.unusedVariables false

theorem upd_same {α : Type} {f : Nat → α} {c : Nat} {x : α} : upd f c x c = x := if_pos rfl
theorem upd_other {α : Type} {f : Nat → α} {c d : Nat} {x : α} (h : d ≠ c) : upd f c x d = f d := if_neg h
theorem set3 {s : Nat → Value} {c : Nat} (h : c < 3) (v : Value) : [s 0, s 1, s 2].set c v = [upd s c v 0, upd s c v 1, upd s c v 2] := by
  rcases lt3 h with rfl | rfl | rfl <;> simp [upd]
/-- A class's slice is stored. -/
theorem Qs.put {m M : Mem} {q : Nat} {s : Nat → Value} {G : Nat → List Nat} {L : Nat → List En} (h : Qs m q s G L) {c : Nat} (hc : c < 3) {v : Value} {H : List Nat} {l : List En} (hf : Frm (G c) m M) (hs : Sl M 98 2 v H (l.map En.row)) (hH : ∀ x ∈ H, x ∈ G c ∨ m.length ≤ x) (hl : l.length ≤ 8) :
    Frm (Fq q G) m (M.set q ⟨[upd s c v 0, upd s c v 1, upd s c v 2], 95, 1, 0, .own⟩) ∧ Qs (M.set q ⟨[upd s c v 0, upd s c v 1, upd s c v 2], 95, 1, 0, .own⟩) q (upd s c v) (upd G c H) (upd L c l) ∧ NwF m (Fq q G) (Fq q (upd G c H)) := by
  have hqm := lt_of_some h.cell
  have hqM := lt_of_some (hf.get h.cell (h.nq c hc))
  have hqH : q ∉ H := fun hx => by
    rcases hH q hx with h1 | h1
    · exact h.nq c hc h1
    · omega
  have hset : Frm [q] M (M.set q ⟨[upd s c v 0, upd s c v 1, upd s c v 2], 95, 1, 0, .own⟩) := Frm.refl.set (by simp)
  refine ⟨?_, ?_, ?_⟩
  · exact (hf.mono fun x hx => mem_Fq hc hx).trans hset fun x hx => by simp at hx; subst hx; exact .inl (by simp [Fq])
  · refine ⟨by rw [List.getElem?_set_self hqM], fun d hd => ?_, fun d hd => ?_, fun d e hd he hne x hx => ?_, fun d hd => ?_⟩
    · by_cases e : d = c
      · subst e
        rw [upd_same, upd_same, upd_same]
        exact hs.setb hqH
      · rw [upd_other e, upd_other e, upd_other e]
        exact ((h.sl d hd).frm hf fun x hx => h.dj d c hd hc e x hx).setb (h.nq d hd)
    · by_cases e : d = c
      · subst e; rw [upd_same]; exact hqH
      · rw [upd_other e]; exact h.nq d hd
    · by_cases e1 : d = c
      · subst e1
        rw [upd_same] at hx
        rw [upd_other (Ne.symm hne)]
        rcases hH x hx with h1 | h1
        · exact h.dj d e hd he hne x h1
        · intro h2
          have := h.lt x (mem_Fq he h2)
          omega
      · rw [upd_other e1] at hx
        by_cases e2 : e = c
        · subst e2
          rw [upd_same]
          intro h2
          rcases hH x h2 with h1 | h1
          · exact h.dj d e hd he hne x hx h1
          · have := h.lt x (mem_Fq hd hx)
            omega
        · rw [upd_other e2]; exact h.dj d e hd he hne x hx
    · by_cases e : d = c
      · subst e; rw [upd_same]; exact hl
      · rw [upd_other e]; exact h.le d hd
  · intro x hx
    rcases of_Fq hx with rfl | ⟨d, hd, hx⟩
    · exact .inl (by simp [Fq])
    · by_cases e : d = c
      · subst e
        rw [upd_same] at hx
        exact (hH x hx).imp (fun h1 => mem_Fq hc h1) id
      · rw [upd_other e] at hx
        exact .inl (mem_Fq hd hx)

/-- What Put answers, and makes. -/
def putR (L : Nat → List En) (c : Int) (t : ByteArray) : Int :=
  if ¬ (0 ≤ c ∧ c < 3) then 1 else if 333 < t.size then 5 else if roomN L c.toNat = 0 then 6 else 0
def putL (L : Nat → List En) (c k : Int) (t : ByteArray) : Nat → List En :=
  if putR L c t = 0 then upd L c.toNat (L c.toNat ++ [(⟨k, t⟩ : En)]) else L

theorem put_spec {m : Mem} {q : Nat} {F : List Nat} {L : Nat → List En} (c k : Int) (t : ByteArray) (h : Qu m q F L) (ht : tot L ≤ 16) :
    LCall Try.prog 14 [.pointer (some ⟨q, 0, none⟩), .int .i64 c, .int .i64 k, .string t] m fun v M => v = .int .i64 (putR L c t) ∧ Frm F m M ∧ ∃ F', Qu M q F' (putL L c k t) ∧ NwF m F F' := by
  have h0 := h
  obtain ⟨s, G, rfl, h⟩ := h
  have hq := h.cell
  have hql := lt_of_some hq
  have hroom := room_spec h0 ht c
  refine LCall_enter Try.func14 c14 ?_
  have bad : putR L c t ≠ 0 → Frm (Fq q G) m m ∧ ∃ F', Qu m q F' (putL L c k t) ∧ NwF m (Fq q G) F' := fun e => ⟨Frm.refl, _, by rw [putL, if_neg e]; exact h0, fun x hx => .inl hx⟩
  simp (contextual := true) (implicitDefEqProofs := false) (maxSteps := 2000000) (disch := first | rfl | exact Nat.le_of_ble_eq_true rfl | omega | (simp only [List.length_append, List.length_cons, List.length_nil, List.length_set]; omega)) only [L14, W1, W2, W3, W4, W5, W6, W7, W8, W9, W10, W11, W12, W13, W14, W15, eq_self, ite_true, ite_false, undef_eq, List.set_cons_zero, List.set_cons_succ, List.getD_cons_zero, List.getD_cons_succ, List.map_cons, List.map_nil, List.length_cons, List.length_nil, List.append_nil, List.cons_append, List.nil_append, List.replicate_succ, List.replicate_zero, Nat.reduceAdd, Nat.reduceSub, ↓reduceIte, List.getElem?_cons_zero, List.getElem?_cons_succ, basic, cellsL, resOf, setAt, List.append_assoc, List.length_append, List.getElem?_append_left, List.getElem?_append_right, List.set_append_left, List.set_append_right, below, belowB, belowA, atomB, List.mem_cons, List.not_mem_nil, forall_eq_or_imp, forall_eq, List.toList_toArray, implies_true, List.take_succ_cons, List.take_zero, List.drop_succ_cons, List.drop_zero, List.take_nil, List.drop_nil, Nat.reduceLeDiff, Nat.reduceMul, Int.reduceToNat, Int.reduceLT, Int.reduceLE, Int.reduceAdd, Int.reduceNeg, Int.reduceEq, splice, List.singleton_append, Nat.reduceEqDiff, Nat.reduceLT, isAtom, List.all_cons, List.all_nil, Option.map_some, Option.bind_some, List.length_set, Int.reduceSub, Int.reduceMul, List.getElem?_set_self, List.getElem?_set_ne, ofB_2, tmpR_if, ro_sliceData, ro_capNil, ro_noZero, ext_2, ext_3, ext_4, ext_5, List.set_set]
  refine (has_spec _ _ _).use ?_
  by_cases hc : 0 ≤ c ∧ c < 3
  · have e1 : putR L c t = if 333 < t.size then 5 else if roomN L c.toNat = 0 then 6 else 0 := if_neg (by simpa using hc)
    rw [if_pos hc] at hroom
    by_cases hl : 333 < t.size
    · have hl' : ((333 : Int) < (t.size : Int)) = True := eq_true (by omega)
      rw [if_pos hl] at e1
      simp (contextual := true) (implicitDefEqProofs := false) (maxSteps := 2000000) (disch := first | rfl | exact Nat.le_of_ble_eq_true rfl | omega | (simp only [List.length_append, List.length_cons, List.length_nil, List.length_set]; omega)) only [decide_eq_true hc, hl', W1, W2, W3, W4, W5, W6, W7, W8, W9, W10, W11, W12, W13, W14, W15, eq_self, ite_true, ite_false, undef_eq, List.set_cons_zero, List.set_cons_succ, List.getD_cons_zero, List.getD_cons_succ, List.map_cons, List.map_nil, List.length_cons, List.length_nil, List.append_nil, List.cons_append, List.nil_append, List.replicate_succ, List.replicate_zero, Nat.reduceAdd, Nat.reduceSub, ↓reduceIte, List.getElem?_cons_zero, List.getElem?_cons_succ, basic, cellsL, resOf, setAt, List.append_assoc, List.length_append, List.getElem?_append_left, List.getElem?_append_right, List.set_append_left, List.set_append_right, below, belowB, belowA, atomB, List.mem_cons, List.not_mem_nil, forall_eq_or_imp, forall_eq, List.toList_toArray, implies_true, List.take_succ_cons, List.take_zero, List.drop_succ_cons, List.drop_zero, List.take_nil, List.drop_nil, Nat.reduceLeDiff, Nat.reduceMul, Int.reduceToNat, Int.reduceLT, Int.reduceLE, Int.reduceAdd, Int.reduceNeg, Int.reduceEq, splice, List.singleton_append, Nat.reduceEqDiff, Nat.reduceLT, isAtom, List.all_cons, List.all_nil, Option.map_some, Option.bind_some, List.length_set, Int.reduceSub, Int.reduceMul, List.getElem?_set_self, List.getElem?_set_ne, ofB_2, tmpR_if, ro_sliceData, ro_capNil, ro_noZero, ext_2, ext_3, ext_4, ext_5, List.set_set]
      exact ⟨by rw [e1], bad (by rw [e1]; decide)⟩
    · have hl' : ((333 : Int) < (t.size : Int)) = False := eq_false (by omega)
      rw [if_neg hl] at e1
      simp (contextual := true) (implicitDefEqProofs := false) (maxSteps := 2000000) (disch := first | rfl | exact Nat.le_of_ble_eq_true rfl | omega | (simp only [List.length_append, List.length_cons, List.length_nil, List.length_set]; omega)) only [decide_eq_true hc, hl', W1, W2, W3, W4, W5, W6, W7, W8, W9, W10, W11, W12, W13, W14, W15, eq_self, ite_true, ite_false, undef_eq, List.set_cons_zero, List.set_cons_succ, List.getD_cons_zero, List.getD_cons_succ, List.map_cons, List.map_nil, List.length_cons, List.length_nil, List.append_nil, List.cons_append, List.nil_append, List.replicate_succ, List.replicate_zero, Nat.reduceAdd, Nat.reduceSub, ↓reduceIte, List.getElem?_cons_zero, List.getElem?_cons_succ, basic, cellsL, resOf, setAt, List.append_assoc, List.length_append, List.getElem?_append_left, List.getElem?_append_right, List.set_append_left, List.set_append_right, below, belowB, belowA, atomB, List.mem_cons, List.not_mem_nil, forall_eq_or_imp, forall_eq, List.toList_toArray, implies_true, List.take_succ_cons, List.take_zero, List.drop_succ_cons, List.drop_zero, List.take_nil, List.drop_nil, Nat.reduceLeDiff, Nat.reduceMul, Int.reduceToNat, Int.reduceLT, Int.reduceLE, Int.reduceAdd, Int.reduceNeg, Int.reduceEq, splice, List.singleton_append, Nat.reduceEqDiff, Nat.reduceLT, isAtom, List.all_cons, List.all_nil, Option.map_some, Option.bind_some, List.length_set, Int.reduceSub, Int.reduceMul, List.getElem?_set_self, List.getElem?_set_ne, ofB_2, tmpR_if, ro_sliceData, ro_capNil, ro_noZero, ext_2, ext_3, ext_4, ext_5, List.set_set]
      refine hroom.use ?_
      by_cases hr : roomN L c.toNat = 0
      · have hr' : ((roomN L c.toNat : Int) = 0) = True := eq_true (by omega)
        rw [if_pos hr] at e1
        simp (contextual := true) (implicitDefEqProofs := false) (maxSteps := 2000000) (disch := first | rfl | exact Nat.le_of_ble_eq_true rfl | omega | (simp only [List.length_append, List.length_cons, List.length_nil, List.length_set]; omega)) only [hr', W1, W2, W3, W4, W5, W6, W7, W8, W9, W10, W11, W12, W13, W14, W15, eq_self, ite_true, ite_false, undef_eq, List.set_cons_zero, List.set_cons_succ, List.getD_cons_zero, List.getD_cons_succ, List.map_cons, List.map_nil, List.length_cons, List.length_nil, List.append_nil, List.cons_append, List.nil_append, List.replicate_succ, List.replicate_zero, Nat.reduceAdd, Nat.reduceSub, ↓reduceIte, List.getElem?_cons_zero, List.getElem?_cons_succ, basic, cellsL, resOf, setAt, List.append_assoc, List.length_append, List.getElem?_append_left, List.getElem?_append_right, List.set_append_left, List.set_append_right, below, belowB, belowA, atomB, List.mem_cons, List.not_mem_nil, forall_eq_or_imp, forall_eq, List.toList_toArray, implies_true, List.take_succ_cons, List.take_zero, List.drop_succ_cons, List.drop_zero, List.take_nil, List.drop_nil, Nat.reduceLeDiff, Nat.reduceMul, Int.reduceToNat, Int.reduceLT, Int.reduceLE, Int.reduceAdd, Int.reduceNeg, Int.reduceEq, splice, List.singleton_append, Nat.reduceEqDiff, Nat.reduceLT, isAtom, List.all_cons, List.all_nil, Option.map_some, Option.bind_some, List.length_set, Int.reduceSub, Int.reduceMul, List.getElem?_set_self, List.getElem?_set_ne, ofB_2, tmpR_if, ro_sliceData, ro_capNil, ro_noZero, ext_2, ext_3, ext_4, ext_5, List.set_set]
        exact ⟨by rw [e1], bad (by rw [e1]; decide)⟩
      · have hr' : ((roomN L c.toNat : Int) = 0) = False := eq_false (by omega)
        rw [if_neg hr] at e1
        obtain ⟨n, rfl⟩ : ∃ n : Nat, c = (n : Int) := ⟨c.toNat, by omega⟩
        have hn : n < 3 := by omega
        have hg := get3 (s := s) hn
        obtain ⟨a, ha, _⟩ := (h.sl n hn).form
        have hsl := h.sl n hn
        have hle := h.le n hn
        have hn0 : ((0 : Int) ≤ (n : Int)) = True := by simp
        have hn3 : ((n : Int) < 3) = True := eq_true hc.2
        have hn1 : (n < 3) = True := eq_true hn
        simp only [Int.toNat_natCast] at hr hr'
        have hlt8 : (L n).length < 8 := by unfold roomN at hr; omega
        simp (contextual := true) (implicitDefEqProofs := false) (maxSteps := 2000000) (disch := first | rfl | exact Nat.le_of_ble_eq_true rfl | omega | (simp only [List.length_append, List.length_cons, List.length_nil, List.length_set]; omega)) only [hr', hq, hg, hn0, hn3, Int.toNat_natCast, W1, W2, W3, W4, W5, W6, W7, W8, W9, W10, W11, ops_nil, ops_n, ops_g, guardK_it, guardK_if, guardK_u, CondP_t, CondP_f, ex_call, pickK_it, loadK_p, loadNK_p, storeB_s, cellB_s, cellB_r, cellsB_s, cellsB_r, condK_it, lc_skip, lc_region, lc_draw, lc_seq, lc_cond, lc_block, lc_exit, lc_ret, then_n, then_e, then_r, block_n, block_r, block_e, bin_add, bin_sub, bin_mul, bin_quo, bin_rem, bin_and, bin_or, bin_xor, bin_andNot, bin_eql, bin_neq, bin_lss, bin_leq, bin_gtr, bin_geq, bin_shl, bin_shr, bin_sadd, bin_seql, bin_sneq, un_not, un_neg, eqL_b, eqL_i, eqL_s, eqL_pnn, eqL_pns, eqL_psn, eqL_pp, eqL_slnn, eqL_slns, eqL_slsn, ex_callv, slB_e, slB_r, apB_e, lc_chain, lc_bad, putBK_s, lc_label, lc_goto, then_g, block_g, jump_g, jump_n, jump_r, jump_e, lf_seq, lf_label, eq_self, ite_true, ite_false, undef_eq, List.set_cons_zero, List.set_cons_succ, List.getD_cons_zero, List.getD_cons_succ, List.map_cons, List.map_nil, List.length_cons, List.length_nil, List.append_nil, List.cons_append, List.nil_append, List.replicate_succ, List.replicate_zero, Nat.reduceAdd, Nat.reduceSub, ↓reduceIte, List.getElem?_cons_zero, List.getElem?_cons_succ, basic, cellsL, resOf, setAt, List.append_assoc, List.length_append, List.getElem?_append_left, List.getElem?_append_right, List.set_append_left, List.set_append_right, below, belowB, belowA, atomB, List.mem_cons, List.not_mem_nil, forall_eq_or_imp, forall_eq, List.toList_toArray, implies_true, List.take_succ_cons, List.take_zero, List.drop_succ_cons, List.drop_zero, List.take_nil, List.drop_nil, Nat.reduceLeDiff, Nat.reduceMul, Int.reduceToNat, Int.reduceLT, Int.reduceLE, Int.reduceAdd, Int.reduceNeg, Int.reduceEq, splice, List.singleton_append, Nat.reduceEqDiff, Nat.reduceLT, isAtom, List.all_cons, List.all_nil, Option.map_some, Option.bind_some, List.length_set, Int.reduceSub, Int.reduceMul, List.getElem?_set_self, List.getElem?_set_ne, ofB_2, tmpR_if, ro_sliceData, ro_capNil, ro_noZero, ext_2, ext_3, ext_4, ext_5, List.set_set]
        refine app_row (bytes := 24) (hsl.frm0 Frm.refl.app) rfl (by simp; omega) ?_
        intro v2 M2 G2 hM hf2 hs2 hG2
        simp only [List.length_append, List.length_cons, List.length_nil] at hM hG2
        have hfm : Frm (G n) m M2 := hf2.app_of
        have hqM := hfm.get hq (h.nq n hn)
        have hqMl := lt_of_some hqM
        have hs3 : Sl M2 98 2 v2 G2 ((L n ++ [(⟨k, t⟩ : En)]).map En.row) := by rw [List.map_append]; exact hs2
        obtain ⟨va, rfl, _⟩ := hs3.form
        have hput := h.put hn (H := G2) (l := L n ++ [(⟨k, t⟩ : En)]) hfm hs3 (fun x hx => Or.inr (by have := hG2 x hx; omega)) (by simp; omega)
        have e2 : putL L (n : Int) k t = upd L n (L n ++ [(⟨k, t⟩ : En)]) := by rw [putL, if_pos e1, Int.toNat_natCast]
        simp only [List.length_map, List.length_append, List.length_cons, List.length_nil, Nat.zero_add] at hput ⊢
        simp (contextual := true) (implicitDefEqProofs := false) (maxSteps := 2000000) (disch := first | rfl | exact Nat.le_of_ble_eq_true rfl | omega | (simp only [List.length_append, List.length_cons, List.length_nil, List.length_set]; omega)) only [hqM, hn0, hn3, hg, Int.toNat_natCast, W1, W2, W3, W4, W5, W6, W7, W8, W9, W10, W11, W12, W13, W14, W15, eq_self, ite_true, ite_false, undef_eq, List.set_cons_zero, List.set_cons_succ, List.getD_cons_zero, List.getD_cons_succ, List.map_cons, List.map_nil, List.length_cons, List.length_nil, List.append_nil, List.cons_append, List.nil_append, List.replicate_succ, List.replicate_zero, Nat.reduceAdd, Nat.reduceSub, ↓reduceIte, List.getElem?_cons_zero, List.getElem?_cons_succ, basic, cellsL, resOf, setAt, List.append_assoc, List.length_append, List.getElem?_append_left, List.getElem?_append_right, List.set_append_left, List.set_append_right, below, belowB, belowA, atomB, List.mem_cons, List.not_mem_nil, forall_eq_or_imp, forall_eq, List.toList_toArray, implies_true, List.take_succ_cons, List.take_zero, List.drop_succ_cons, List.drop_zero, List.take_nil, List.drop_nil, Nat.reduceLeDiff, Nat.reduceMul, Int.reduceToNat, Int.reduceLT, Int.reduceLE, Int.reduceAdd, Int.reduceNeg, Int.reduceEq, splice, List.singleton_append, Nat.reduceEqDiff, Nat.reduceLT, isAtom, List.all_cons, List.all_nil, Option.map_some, Option.bind_some, List.length_set, Int.reduceSub, Int.reduceMul, List.getElem?_set_self, List.getElem?_set_ne, ofB_2, tmpR_if, ro_sliceData, ro_capNil, ro_noZero, ext_2, ext_3, ext_4, ext_5, List.set_set]
        rw [set3 hn, e1, e2]
        exact ⟨by omega, rfl, hput.1, _, ⟨_, _, rfl, hput.2.1⟩, hput.2.2⟩
  · have e1 : putR L c t = 1 := if_pos hc
    simp (contextual := true) (implicitDefEqProofs := false) (maxSteps := 2000000) (disch := first | rfl | exact Nat.le_of_ble_eq_true rfl | omega | (simp only [List.length_append, List.length_cons, List.length_nil, List.length_set]; omega)) only [decide_eq_false hc, W1, W2, W3, W4, W5, W6, W7, W8, W9, W10, W11, W12, W13, W14, W15, eq_self, ite_true, ite_false, undef_eq, List.set_cons_zero, List.set_cons_succ, List.getD_cons_zero, List.getD_cons_succ, List.map_cons, List.map_nil, List.length_cons, List.length_nil, List.append_nil, List.cons_append, List.nil_append, List.replicate_succ, List.replicate_zero, Nat.reduceAdd, Nat.reduceSub, ↓reduceIte, List.getElem?_cons_zero, List.getElem?_cons_succ, basic, cellsL, resOf, setAt, List.append_assoc, List.length_append, List.getElem?_append_left, List.getElem?_append_right, List.set_append_left, List.set_append_right, below, belowB, belowA, atomB, List.mem_cons, List.not_mem_nil, forall_eq_or_imp, forall_eq, List.toList_toArray, implies_true, List.take_succ_cons, List.take_zero, List.drop_succ_cons, List.drop_zero, List.take_nil, List.drop_nil, Nat.reduceLeDiff, Nat.reduceMul, Int.reduceToNat, Int.reduceLT, Int.reduceLE, Int.reduceAdd, Int.reduceNeg, Int.reduceEq, splice, List.singleton_append, Nat.reduceEqDiff, Nat.reduceLT, isAtom, List.all_cons, List.all_nil, Option.map_some, Option.bind_some, List.length_set, Int.reduceSub, Int.reduceMul, List.getElem?_set_self, List.getElem?_set_ne, ofB_2, tmpR_if, ro_sliceData, ro_capNil, ro_noZero, ext_2, ext_3, ext_4, ext_5, List.set_set]
    exact ⟨by rw [e1], bad (by rw [e1]; decide)⟩
end Go.Proofs.Ytfnldlcedgfkeaa
