/- The document's clock, walked. -/
import Derived.Test.YtnimpbaakopniaaQA
namespace Go.Proofs.Ytnimpbaakopniaa
open Go.Lg
set_option maxRecDepth 8000
set_option maxHeartbeats 4000000
set_option linter.unusedSimpArgs false
set_option linter.unnecessarySimpa false
set_option linter.unusedVariables false

/-- The document's clock: the time, and timers. -/
def Rf (m : Mem) (c : Nat) (F : List Nat) (now : Int) (W : List Tm) : Prop := ∃ sv G, F = c :: G ∧ c ∉ G ∧ m[c]? = some ⟨[.int .i64 now, sv], 73, 1, 0, .own⟩ ∧ Sl m 87 3 sv G (W.map Tm.row)
theorem Rf.frm {m m' : Mem} {c : Nat} {F G : List Nat} {now : Int} {L : List Tm} (h : Rf m c F now L) (k : Frm G m m') (hd : ∀ x ∈ F, x ∉ G) : Rf m' c F now L := by
  obtain ⟨sv, H, rfl, h1, h2, h3⟩ := h
  exact ⟨sv, H, rfl, h1, k.get h2 (hd _ (by simp)), h3.frm k fun x hx => hd x (by simp [hx])⟩
theorem Rf.lt {m : Mem} {c : Nat} {F : List Nat} {now : Int} {L : List Tm} (h : Rf m c F now L) : ∀ x ∈ F, x < m.length := by
  obtain ⟨sv, H, rfl, h1, h2, h3⟩ := h
  intro x hx
  rcases List.mem_cons.mp hx with rfl | hx
  · exact lt_of_some h2
  · exact h3.lt x hx

/-- Where a timer stands; -1: nowhere. -/
def atL (k n : Int) : List Tm → Int
  | [] => -1
  | t :: l => if t.is k n = true then 0 else if atL k n l < 0 then -1 else atL k n l + 1
theorem atL_none {k n : Int} : ∀ {l : List Tm}, (∀ x ∈ l, x.is k n = false) → atL k n l = -1
  | [], _ => rfl
  | a :: l, hno => by
    have h1 := hno a (by simp)
    have ih := atL_none (l := l) fun x hx => hno x (by simp [hx])
    simp [atL, h1, ih]
theorem atL_at {k n : Int} : ∀ {l : List Tm} {i : Nat} {t : Tm}, (∀ x ∈ l.take i, x.is k n = false) → l[i]? = some t → t.is k n = true → atL k n l = i
  | [], _, _, _, h, _ => by simp at h
  | a :: l, 0, t, _, h, ht => by simp at h; subst h; simp [atL, ht]
  | a :: l, i + 1, t, hno, h, ht => by
    have h1 := hno a (by simp)
    have ih := atL_at (l := l) (i := i) (fun x hx => hno x (by simp [hx])) (by simpa using h) ht
    simp only [atL, h1, ih]
    simp
    omega
theorem atL_cases (k n : Int) (l : List Tm) : (∀ x ∈ l, x.is k n = false) ∨ ∃ i t, (∀ x ∈ l.take i, x.is k n = false) ∧ l[i]? = some t ∧ t.is k n = true := by
  induction l with
  | nil => exact .inl (by simp)
  | cons a l ih =>
    cases ha : a.is k n
    · rcases ih with h | ⟨i, t, h1, h2, h3⟩
      · exact .inl (by simpa [ha] using h)
      · exact .inr ⟨i + 1, t, by simpa [ha] using h1, by simpa using h2, h3⟩
    · exact .inr ⟨0, a, by simp, by simp, ha⟩

theorem at_spec {m : Mem} {c : Nat} {F : List Nat} {W : List Tm} {now k n : Int} (h : Rf m c F now W) (hn : W.length ≤ 1000000) :
    Ret Try.prog 47 [.pointer (some ⟨c, 0, none⟩), .int .i64 k, .int .i64 n] m (.int .i64 (atL k n W)) m := by
  obtain ⟨sv, G, rfl, hcG, hc, hsl⟩ := h
  have hcl := lt_of_some hc
  obtain ⟨a, rfl, hd⟩ := hsl.form
  simp only [List.length_map] at hsl hc hd
  refine LCall_drop (LCall_enter Try.func47 c47 ?_)
  simp (contextual := true) (implicitDefEqProofs := false) (maxSteps := 2000000) (disch := first | rfl | exact Nat.le_of_ble_eq_true rfl | omega | (simp only [List.length_append, List.length_cons, List.length_nil, List.length_set]; omega)) only [L47, hc, W1, W2, W3, W4, W5, W6, W7, W8, W9, W10, W11, W12, W13, W14, W15, eq_self, ite_true, ite_false, undef_eq, List.set_cons_zero, List.set_cons_succ, List.getD_cons_zero, List.getD_cons_succ, List.map_cons, List.map_nil, List.length_cons, List.length_nil, List.append_nil, List.cons_append, List.nil_append, List.replicate_succ, List.replicate_zero, Nat.reduceAdd, Nat.reduceSub, ↓reduceIte, List.getElem?_cons_zero, List.getElem?_cons_succ, basic, cellsL, resOf, setAt, List.append_assoc, List.length_append, List.getElem?_append_left, List.getElem?_append_right, List.set_append_left, List.set_append_right, below, belowB, belowA, atomB, List.mem_cons, List.not_mem_nil, forall_eq_or_imp, forall_eq, List.toList_toArray, implies_true, List.take_succ_cons, List.take_zero, List.drop_succ_cons, List.drop_zero, List.take_nil, List.drop_nil, Nat.reduceLeDiff, Nat.reduceMul, Int.reduceToNat, Int.reduceLT, Int.reduceLE, Int.reduceAdd, Int.reduceNeg, Int.reduceEq, splice, List.singleton_append, Nat.reduceEqDiff, Nat.reduceLT, isAtom, List.all_cons, List.all_nil, Option.map_some, Option.bind_some, List.length_set, Int.reduceSub, Int.reduceMul, List.getElem?_set_self, List.getElem?_set_ne]
  refine loop_inv (fun n' t m' => ∃ i : Nat, n' = W.length - i ∧ i ≤ W.length ∧ (∀ x ∈ W.take i, x.is k n = false) ∧ m' = m ∧
    Tab 40 [(0, .pointer (some ⟨c, 0, none⟩)), (1, .int .i64 k), (2, .int .i64 n), (7, .int .i64 (i : Int))] t) (n := W.length) ?_ ?_
  · exact ⟨0, rfl, Nat.zero_le _, by simp, rfl, ⟨rfl, by simp⟩⟩
  rintro n' t m' ⟨i, rfl, hi, hno, rfl, ht⟩
  obtain ⟨f, rfl⟩ : ∃ f : Nat → Value, t = [.pointer (some ⟨c, 0, none⟩), .int .i64 k, .int .i64 n, f 3, f 4, f 5, f 6, .int .i64 (i : Int), f 8, f 9, f 10, f 11, f 12, f 13, f 14, f 15, f 16, f 17, f 18, f 19, f 20, f 21, f 22, f 23, f 24, f 25, f 26, f 27, f 28, f 29, f 30, f 31, f 32, f 33, f 34, f 35, f 36, f 37, f 38, f 39] := ht.open fun f => rfl
  by_cases hlt : i < W.length
  · have hlt' : ((i : Int) < (W.length : Int)) = True := by simp [hlt]
    have h0' : ((0 : Int) ≤ (i : Int)) = True := by simp
    obtain ⟨b, o, cs, rfl, rfl, hb, hl, hcc, hrow⟩ := hd (by omega)
    obtain ⟨y, hy⟩ : ∃ r, W[i]? = some r := ⟨W[i], List.getElem?_eq_getElem hlt⟩
    have hp' := hrow i y.row (by simp [hy])
    have d0 : cs[o + i * 3]? = some (.int .i64 y.k) := by simpa [Tm.row] using row_cell hp' (j := 0) (by omega)
    have d1 : cs[o + i * 3 + 1]? = some (.int .i64 y.n) := by simpa [Tm.row] using row_cell hp' (j := 1) (by omega)
    have hw : IntKind.i64.wrap ((i : Int) + 1) = ((i + 1 : Nat) : Int) := by rw [wrap_i64 (by omega) (by omega)]; omega
    have go : y.is k n = false → ∀ x ∈ W.take (i + 1), x.is k n = false := fun h x hx => by
      rw [take_snoc hy] at hx
      rcases List.mem_append.mp hx with h1 | h1
      · exact hno x h1
      · simp at h1; subst h1; exact h
    by_cases h1 : y.k = k
    · by_cases h2 : y.n = n
      · simp (contextual := true) (implicitDefEqProofs := false) (maxSteps := 2000000) (disch := first | rfl | exact Nat.le_of_ble_eq_true rfl | omega | (simp only [List.length_append, List.length_cons, List.length_nil, List.length_set]; omega)) only [hc, hb, hlt', h0', Int.toNat_natCast, d0, d1, h1, h2, W1, W2, W3, W4, W5, W6, W7, W8, W9, W10, W11, W12, W13, W14, W15, eq_self, ite_true, ite_false, undef_eq, List.set_cons_zero, List.set_cons_succ, List.getD_cons_zero, List.getD_cons_succ, List.map_cons, List.map_nil, List.length_cons, List.length_nil, List.append_nil, List.cons_append, List.nil_append, List.replicate_succ, List.replicate_zero, Nat.reduceAdd, Nat.reduceSub, ↓reduceIte, List.getElem?_cons_zero, List.getElem?_cons_succ, basic, cellsL, resOf, setAt, List.append_assoc, List.length_append, List.getElem?_append_left, List.getElem?_append_right, List.set_append_left, List.set_append_right, below, belowB, belowA, atomB, List.mem_cons, List.not_mem_nil, forall_eq_or_imp, forall_eq, List.toList_toArray, implies_true, List.take_succ_cons, List.take_zero, List.drop_succ_cons, List.drop_zero, List.take_nil, List.drop_nil, Nat.reduceLeDiff, Nat.reduceMul, Int.reduceToNat, Int.reduceLT, Int.reduceLE, Int.reduceAdd, Int.reduceNeg, Int.reduceEq, splice, List.singleton_append, Nat.reduceEqDiff, Nat.reduceLT, isAtom, List.all_cons, List.all_nil, Option.map_some, Option.bind_some, List.length_set, Int.reduceSub, Int.reduceMul, List.getElem?_set_self, List.getElem?_set_ne]
        rw [atL_at hno hy (by simp [Tm.is, h1, h2])]
      · simp (contextual := true) (implicitDefEqProofs := false) (maxSteps := 2000000) (disch := first | rfl | exact Nat.le_of_ble_eq_true rfl | omega | (simp only [List.length_append, List.length_cons, List.length_nil, List.length_set]; omega)) only [hc, hb, hlt', h0', Int.toNat_natCast, d0, d1, h1, h2, W1, W2, W3, W4, W5, W6, W7, W8, W9, W10, W11, W12, W13, W14, W15, eq_self, ite_true, ite_false, undef_eq, List.set_cons_zero, List.set_cons_succ, List.getD_cons_zero, List.getD_cons_succ, List.map_cons, List.map_nil, List.length_cons, List.length_nil, List.append_nil, List.cons_append, List.nil_append, List.replicate_succ, List.replicate_zero, Nat.reduceAdd, Nat.reduceSub, ↓reduceIte, List.getElem?_cons_zero, List.getElem?_cons_succ, basic, cellsL, resOf, setAt, List.append_assoc, List.length_append, List.getElem?_append_left, List.getElem?_append_right, List.set_append_left, List.set_append_right, below, belowB, belowA, atomB, List.mem_cons, List.not_mem_nil, forall_eq_or_imp, forall_eq, List.toList_toArray, implies_true, List.take_succ_cons, List.take_zero, List.drop_succ_cons, List.drop_zero, List.take_nil, List.drop_nil, Nat.reduceLeDiff, Nat.reduceMul, Int.reduceToNat, Int.reduceLT, Int.reduceLE, Int.reduceAdd, Int.reduceNeg, Int.reduceEq, splice, List.singleton_append, Nat.reduceEqDiff, Nat.reduceLT, isAtom, List.all_cons, List.all_nil, Option.map_some, Option.bind_some, List.length_set, Int.reduceSub, Int.reduceMul, List.getElem?_set_self, List.getElem?_set_ne]
        exact kInv_go ⟨i + 1, rfl, by omega, go (by simp [Tm.is, h2]), rfl, ⟨rfl, by simp [hw]⟩⟩ (by omega)
    · simp (contextual := true) (implicitDefEqProofs := false) (maxSteps := 2000000) (disch := first | rfl | exact Nat.le_of_ble_eq_true rfl | omega | (simp only [List.length_append, List.length_cons, List.length_nil, List.length_set]; omega)) only [hc, hb, hlt', h0', Int.toNat_natCast, d0, d1, h1, W1, W2, W3, W4, W5, W6, W7, W8, W9, W10, W11, W12, W13, W14, W15, eq_self, ite_true, ite_false, undef_eq, List.set_cons_zero, List.set_cons_succ, List.getD_cons_zero, List.getD_cons_succ, List.map_cons, List.map_nil, List.length_cons, List.length_nil, List.append_nil, List.cons_append, List.nil_append, List.replicate_succ, List.replicate_zero, Nat.reduceAdd, Nat.reduceSub, ↓reduceIte, List.getElem?_cons_zero, List.getElem?_cons_succ, basic, cellsL, resOf, setAt, List.append_assoc, List.length_append, List.getElem?_append_left, List.getElem?_append_right, List.set_append_left, List.set_append_right, below, belowB, belowA, atomB, List.mem_cons, List.not_mem_nil, forall_eq_or_imp, forall_eq, List.toList_toArray, implies_true, List.take_succ_cons, List.take_zero, List.drop_succ_cons, List.drop_zero, List.take_nil, List.drop_nil, Nat.reduceLeDiff, Nat.reduceMul, Int.reduceToNat, Int.reduceLT, Int.reduceLE, Int.reduceAdd, Int.reduceNeg, Int.reduceEq, splice, List.singleton_append, Nat.reduceEqDiff, Nat.reduceLT, isAtom, List.all_cons, List.all_nil, Option.map_some, Option.bind_some, List.length_set, Int.reduceSub, Int.reduceMul, List.getElem?_set_self, List.getElem?_set_ne]
      exact kInv_go ⟨i + 1, rfl, by omega, go (by simp [Tm.is, h1]), rfl, ⟨rfl, by simp [hw]⟩⟩ (by omega)
  · have hlt' : ((i : Int) < (W.length : Int)) = False := by simp; omega
    simp (contextual := true) (implicitDefEqProofs := false) (maxSteps := 2000000) (disch := first | rfl | exact Nat.le_of_ble_eq_true rfl | omega | (simp only [List.length_append, List.length_cons, List.length_nil, List.length_set]; omega)) only [hc, hlt', W1, W2, W3, W4, W5, W6, W7, W8, W9, W10, W11, W12, W13, W14, W15, eq_self, ite_true, ite_false, undef_eq, List.set_cons_zero, List.set_cons_succ, List.getD_cons_zero, List.getD_cons_succ, List.map_cons, List.map_nil, List.length_cons, List.length_nil, List.append_nil, List.cons_append, List.nil_append, List.replicate_succ, List.replicate_zero, Nat.reduceAdd, Nat.reduceSub, ↓reduceIte, List.getElem?_cons_zero, List.getElem?_cons_succ, basic, cellsL, resOf, setAt, List.append_assoc, List.length_append, List.getElem?_append_left, List.getElem?_append_right, List.set_append_left, List.set_append_right, below, belowB, belowA, atomB, List.mem_cons, List.not_mem_nil, forall_eq_or_imp, forall_eq, List.toList_toArray, implies_true, List.take_succ_cons, List.take_zero, List.drop_succ_cons, List.drop_zero, List.take_nil, List.drop_nil, Nat.reduceLeDiff, Nat.reduceMul, Int.reduceToNat, Int.reduceLT, Int.reduceLE, Int.reduceAdd, Int.reduceNeg, Int.reduceEq, splice, List.singleton_append, Nat.reduceEqDiff, Nat.reduceLT, isAtom, List.all_cons, List.all_nil, Option.map_some, Option.bind_some, List.length_set, Int.reduceSub, Int.reduceMul, List.getElem?_set_self, List.getElem?_set_ne]
    rw [List.take_of_length_le (by omega)] at hno
    rw [atL_none hno]

theorem rstop_spec {m : Mem} {c : Nat} {F : List Nat} {W : List Tm} {now k n : Int} (h : Rf m c F now W) (hn : W.length ≤ 1000000) :
    LCall Try.prog 41 [.pointer (some ⟨c, 0, none⟩), .int .i64 k, .int .i64 n] m fun v m' => v = .int .i64 (if 0 ≤ atL k n W then 1 else 0) ∧ Frm F m m' ∧ ∃ F', Rf m' c F' now (W.eraseP fun t => t.is k n) ∧ Nw m F F' := by
  have h' := h
  obtain ⟨sv, G, rfl, hcG, hc, hsl⟩ := h
  have hcl := lt_of_some hc
  refine LCall_enter Try.func41 c41 ?_
  simp (contextual := true) (implicitDefEqProofs := false) (maxSteps := 2000000) (disch := first | rfl | exact Nat.le_of_ble_eq_true rfl | omega | (simp only [List.length_append, List.length_cons, List.length_nil, List.length_set]; omega)) only [L41, W1, W2, W3, W4, W5, W6, W7, W8, W9, W10, W11, W12, W13, W14, W15, eq_self, ite_true, ite_false, undef_eq, List.set_cons_zero, List.set_cons_succ, List.getD_cons_zero, List.getD_cons_succ, List.map_cons, List.map_nil, List.length_cons, List.length_nil, List.append_nil, List.cons_append, List.nil_append, List.replicate_succ, List.replicate_zero, Nat.reduceAdd, Nat.reduceSub, ↓reduceIte, List.getElem?_cons_zero, List.getElem?_cons_succ, basic, cellsL, resOf, setAt, List.append_assoc, List.length_append, List.getElem?_append_left, List.getElem?_append_right, List.set_append_left, List.set_append_right, below, belowB, belowA, atomB, List.mem_cons, List.not_mem_nil, forall_eq_or_imp, forall_eq, List.toList_toArray, implies_true, List.take_succ_cons, List.take_zero, List.drop_succ_cons, List.drop_zero, List.take_nil, List.drop_nil, Nat.reduceLeDiff, Nat.reduceMul, Int.reduceToNat, Int.reduceLT, Int.reduceLE, Int.reduceAdd, Int.reduceNeg, Int.reduceEq, splice, List.singleton_append, Nat.reduceEqDiff, Nat.reduceLT, isAtom, List.all_cons, List.all_nil, Option.map_some, Option.bind_some, List.length_set, Int.reduceSub, Int.reduceMul, List.getElem?_set_self, List.getElem?_set_ne]
  refine (at_spec h' hn).use ?_
  rcases atL_cases k n W with hno | ⟨i, t, hno, hi, ht⟩
  · rw [atL_none hno]
    simp (contextual := true) (implicitDefEqProofs := false) (maxSteps := 2000000) (disch := first | rfl | exact Nat.le_of_ble_eq_true rfl | omega | (simp only [List.length_append, List.length_cons, List.length_nil, List.length_set]; omega)) only [W1, W2, W3, W4, W5, W6, W7, W8, W9, W10, W11, W12, W13, W14, W15, eq_self, ite_true, ite_false, undef_eq, List.set_cons_zero, List.set_cons_succ, List.getD_cons_zero, List.getD_cons_succ, List.map_cons, List.map_nil, List.length_cons, List.length_nil, List.append_nil, List.cons_append, List.nil_append, List.replicate_succ, List.replicate_zero, Nat.reduceAdd, Nat.reduceSub, ↓reduceIte, List.getElem?_cons_zero, List.getElem?_cons_succ, basic, cellsL, resOf, setAt, List.append_assoc, List.length_append, List.getElem?_append_left, List.getElem?_append_right, List.set_append_left, List.set_append_right, below, belowB, belowA, atomB, List.mem_cons, List.not_mem_nil, forall_eq_or_imp, forall_eq, List.toList_toArray, implies_true, List.take_succ_cons, List.take_zero, List.drop_succ_cons, List.drop_zero, List.take_nil, List.drop_nil, Nat.reduceLeDiff, Nat.reduceMul, Int.reduceToNat, Int.reduceLT, Int.reduceLE, Int.reduceAdd, Int.reduceNeg, Int.reduceEq, splice, List.singleton_append, Nat.reduceEqDiff, Nat.reduceLT, isAtom, List.all_cons, List.all_nil, Option.map_some, Option.bind_some, List.length_set, Int.reduceSub, Int.reduceMul, List.getElem?_set_self, List.getElem?_set_ne]
    refine ⟨Frm.refl, c :: G, ?_, fun x hx => .inl hx⟩
    rw [List.eraseP_of_forall_not (by simpa using hno)]
    exact h'
  · rw [atL_at hno hi ht]
    have hil : i < W.length := (List.getElem?_eq_some_iff.mp hi).1
    obtain ⟨a, rfl, hd⟩ := hsl.form
    simp only [List.length_map] at hsl hc hd
    obtain ⟨b, o, cs, rfl, rfl, hb, hl, hcc, hrow⟩ := hd (by omega)
    have hbl := lt_of_some hb
    have hlt' : ((i : Int) < 0) = False := by simp
    have hw : IntKind.i64.wrap ((i : Int) + 1) = ((i + 1 : Nat) : Int) := by rw [wrap_i64 (by omega) (by omega)]; omega
    have hb0 : (0 : Int) ≤ (i : Int) ∧ (i : Int) ≤ (W.length : Int) := by omega
    have hb1 : (0 : Int) ≤ ((i + 1 : Nat) : Int) ∧ ((i + 1 : Nat) : Int) ≤ (W.length : Int) := by omega
    have hx1 : o + i * 3 ≤ cs.length := by omega
    simp (contextual := true) (implicitDefEqProofs := false) (maxSteps := 2000000) (disch := first | rfl | exact Nat.le_of_ble_eq_true rfl | omega | (simp only [List.length_append, List.length_cons, List.length_nil, List.length_set]; omega)) only [hc, hb, hlt', hw, hb0, hb1, Int.toNat_natCast, hx1, W1, W2, W3, W4, W5, W6, W7, W8, W9, W10, W11, ops_nil, ops_n, ops_g, guardK_it, guardK_if, guardK_u, CondP_t, CondP_f, ex_call, pickK_it, loadK_p, loadNK_p, storeB_s, cellB_s, cellB_r, cellsB_s, cellsB_r, condK_it, lc_skip, lc_region, lc_draw, lc_seq, lc_cond, lc_block, lc_exit, lc_ret, then_n, then_e, then_r, block_n, block_r, block_e, bin_add, bin_sub, bin_mul, bin_quo, bin_rem, bin_and, bin_or, bin_xor, bin_andNot, bin_eql, bin_neq, bin_lss, bin_leq, bin_gtr, bin_geq, bin_shl, bin_shr, bin_sadd, bin_seql, bin_sneq, un_not, un_neg, eqL_b, eqL_i, eqL_s, eqL_pnn, eqL_pns, eqL_psn, eqL_pp, eqL_slnn, eqL_slns, eqL_slsn, ex_callv, slB_e, slB_r, apB_e, lc_chain, lc_bad, putBK_s, lc_label, lc_goto, then_g, block_g, jump_g, jump_n, jump_r, jump_e, lf_seq, lf_label, eq_self, ite_true, ite_false, undef_eq, List.set_cons_zero, List.set_cons_succ, List.getD_cons_zero, List.getD_cons_succ, List.map_cons, List.map_nil, List.length_cons, List.length_nil, List.append_nil, List.cons_append, List.nil_append, List.replicate_succ, List.replicate_zero, Nat.reduceAdd, Nat.reduceSub, ↓reduceIte, List.getElem?_cons_zero, List.getElem?_cons_succ, basic, cellsL, resOf, setAt, List.append_assoc, List.length_append, List.getElem?_append_left, List.getElem?_append_right, List.set_append_left, List.set_append_right, below, belowB, belowA, atomB, List.mem_cons, List.not_mem_nil, forall_eq_or_imp, forall_eq, List.toList_toArray, implies_true, List.take_succ_cons, List.take_zero, List.drop_succ_cons, List.drop_zero, List.take_nil, List.drop_nil, Nat.reduceLeDiff, Nat.reduceMul, Int.reduceToNat, Int.reduceLT, Int.reduceLE, Int.reduceAdd, Int.reduceNeg, Int.reduceEq, splice, List.singleton_append, Nat.reduceEqDiff, Nat.reduceLT, isAtom, List.all_cons, List.all_nil, Option.map_some, Option.bind_some, List.length_set, Int.reduceSub, Int.reduceMul, List.getElem?_set_self, List.getElem?_set_ne]
    have hrl : ∀ r ∈ W.map Tm.row, r.length = 3 := by intro r hr; obtain ⟨x, _, rfl⟩ := List.mem_map.mp hr; rfl
    have hs0 : Sl (m ++ [⟨[], 87, 3, 0, .own⟩]) 87 3 (.slice (some ⟨m.length, 0, none⟩) 0 0) [m.length] [] := Sl.make (cs := []) (by simp) (by simp) rfl rfl
    have e1 : (cs.drop o).take (i * 3) = ((W.map Tm.row).take i).flatten := by
      have := take_rows hrl (by simpa using hcc) (i := i) (by simp; omega)
      rwa [show ((W.map Tm.row).take i).length = i by simp; omega] at this
    have e2 : (cs.drop (o + (i + 1) * 3)).take ((W.length - (i + 1)) * 3) = ((W.map Tm.row).drop (i + 1)).flatten := by
      have := drop_rows hrl (by simpa using hcc) (i := i + 1) (by simp; omega)
      rwa [show ((W.map Tm.row).drop (i + 1)).length = W.length - (i + 1) by simp] at this
    refine app_any hs0 (new := (W.map Tm.row).take i) (by simp; omega) (fun r hr => hrl r (List.mem_of_mem_take hr)) e1 (by simp; omega) ?_
    intro v M G' hM hfM hsM hG'
    simp only [List.length_append, List.length_cons, List.length_nil] at hM hG'
    have hcM := hfM.get (i := c) (by rw [List.getElem?_append_left hcl]; exact hc) (by simp; omega)
    have hbM := hfM.get (i := b) (by rw [List.getElem?_append_left hbl]; exact hb) (by simp; omega)
    simp (contextual := true) (implicitDefEqProofs := false) (maxSteps := 2000000) (disch := first | rfl | exact Nat.le_of_ble_eq_true rfl | omega | (simp only [List.length_append, List.length_cons, List.length_nil, List.length_set]; omega)) only [hcM, hbM, hlt', hw, hb0, hb1, Int.toNat_natCast, hx1, W1, W2, W3, W4, W5, W6, W7, W8, W9, W10, W11, ops_nil, ops_n, ops_g, guardK_it, guardK_if, guardK_u, CondP_t, CondP_f, ex_call, pickK_it, loadK_p, loadNK_p, storeB_s, cellB_s, cellB_r, cellsB_s, cellsB_r, condK_it, lc_skip, lc_region, lc_draw, lc_seq, lc_cond, lc_block, lc_exit, lc_ret, then_n, then_e, then_r, block_n, block_r, block_e, bin_add, bin_sub, bin_mul, bin_quo, bin_rem, bin_and, bin_or, bin_xor, bin_andNot, bin_eql, bin_neq, bin_lss, bin_leq, bin_gtr, bin_geq, bin_shl, bin_shr, bin_sadd, bin_seql, bin_sneq, un_not, un_neg, eqL_b, eqL_i, eqL_s, eqL_pnn, eqL_pns, eqL_psn, eqL_pp, eqL_slnn, eqL_slns, eqL_slsn, ex_callv, slB_e, slB_r, apB_e, lc_chain, lc_bad, putBK_s, lc_label, lc_goto, then_g, block_g, jump_g, jump_n, jump_r, jump_e, lf_seq, lf_label, eq_self, ite_true, ite_false, undef_eq, List.set_cons_zero, List.set_cons_succ, List.getD_cons_zero, List.getD_cons_succ, List.map_cons, List.map_nil, List.length_cons, List.length_nil, List.append_nil, List.cons_append, List.nil_append, List.replicate_succ, List.replicate_zero, Nat.reduceAdd, Nat.reduceSub, ↓reduceIte, List.getElem?_cons_zero, List.getElem?_cons_succ, basic, cellsL, resOf, setAt, List.append_assoc, List.length_append, List.getElem?_append_left, List.getElem?_append_right, List.set_append_left, List.set_append_right, below, belowB, belowA, atomB, List.mem_cons, List.not_mem_nil, forall_eq_or_imp, forall_eq, List.toList_toArray, implies_true, List.take_succ_cons, List.take_zero, List.drop_succ_cons, List.drop_zero, List.take_nil, List.drop_nil, Nat.reduceLeDiff, Nat.reduceMul, Int.reduceToNat, Int.reduceLT, Int.reduceLE, Int.reduceAdd, Int.reduceNeg, Int.reduceEq, splice, List.singleton_append, Nat.reduceEqDiff, Nat.reduceLT, isAtom, List.all_cons, List.all_nil, Option.map_some, Option.bind_some, List.length_set, Int.reduceSub, Int.reduceMul, List.getElem?_set_self, List.getElem?_set_ne]
    refine app_any hsM (new := (W.map Tm.row).drop (i + 1)) (by simp) (fun r hr => hrl r (List.mem_of_mem_drop hr)) e2 (by simp; omega) ?_
    intro v2 M2 G2 hM2 hfM2 hsM2 hG2
    have hGn : ∀ x ∈ G', m.length ≤ x := fun x hx => by rcases hG' x hx with h1 | h1; (simp at h1; omega); omega
    have hG2n : ∀ x ∈ G2, m.length ≤ x := fun x hx => by rcases hG2 x hx with h1 | h1; exact hGn x h1; omega
    have hcM2 := hfM2.get hcM (fun hx => by have := hGn c hx; omega)
    have hclM2 := lt_of_some hcM2
    obtain ⟨a', rfl, _⟩ := hsM2.form
    have hcG2 : c ∉ G2 := fun hx => by have := hG2n c hx; omega
    simp (contextual := true) (implicitDefEqProofs := false) (maxSteps := 2000000) (disch := first | rfl | exact Nat.le_of_ble_eq_true rfl | omega | (simp only [List.length_append, List.length_cons, List.length_nil, List.length_set]; omega)) only [hcM2, W1, W2, W3, W4, W5, W6, W7, W8, W9, W10, W11, W12, W13, W14, W15, eq_self, ite_true, ite_false, undef_eq, List.set_cons_zero, List.set_cons_succ, List.getD_cons_zero, List.getD_cons_succ, List.map_cons, List.map_nil, List.length_cons, List.length_nil, List.append_nil, List.cons_append, List.nil_append, List.replicate_succ, List.replicate_zero, Nat.reduceAdd, Nat.reduceSub, ↓reduceIte, List.getElem?_cons_zero, List.getElem?_cons_succ, basic, cellsL, resOf, setAt, List.append_assoc, List.length_append, List.getElem?_append_left, List.getElem?_append_right, List.set_append_left, List.set_append_right, below, belowB, belowA, atomB, List.mem_cons, List.not_mem_nil, forall_eq_or_imp, forall_eq, List.toList_toArray, implies_true, List.take_succ_cons, List.take_zero, List.drop_succ_cons, List.drop_zero, List.take_nil, List.drop_nil, Nat.reduceLeDiff, Nat.reduceMul, Int.reduceToNat, Int.reduceLT, Int.reduceLE, Int.reduceAdd, Int.reduceNeg, Int.reduceEq, splice, List.singleton_append, Nat.reduceEqDiff, Nat.reduceLT, isAtom, List.all_cons, List.all_nil, Option.map_some, Option.bind_some, List.length_set, Int.reduceSub, Int.reduceMul, List.getElem?_set_self, List.getElem?_set_ne]
    refine ⟨?_, c :: G2, ⟨_, G2, rfl, hcG2, by rw [List.getElem?_set_self hclM2], ?_⟩, fun x hx => ?_⟩
    · refine Frm.set ?_ (by simp)
      refine (hfM.app_of.mono (G := [m.length, c, b]) (by simp)).trans hfM2 (fun x hx => .inr (hGn x hx)) |> fun h => ⟨h.len, fun j hj hn => h.same j hj ?_⟩
      simp only [List.mem_cons, List.not_mem_nil, or_false, not_or] at hn ⊢
      omega
    · rw [eraseP_at hno hi ht, List.map_append, List.map_take, List.map_drop]
      simp only [List.nil_append, List.length_append] at hsM2 ⊢
      exact hsM2.setb hcG2
    · rcases List.mem_cons.mp hx with rfl | hx
      · exact .inl (by simp)
      · exact .inr (hG2n x hx)

/-- What Set makes, by the document. -/
def rsetL (now k n ticks : Int) (W : List Tm) : Int × List Tm :=
  if ticks < 1 ∨ 10000 < ticks then (1, W) else if atL k n W < 0 ∧ W.length = 32 then (6, W) else (0, (W.eraseP fun t => t.is k n) ++ [⟨k, n, now + ticks⟩])
theorem eraseP_le {p : Tm → Bool} (W : List Tm) : (W.eraseP p).length ≤ W.length := List.length_eraseP_le

theorem rset_spec {m : Mem} {c : Nat} {F : List Nat} {W : List Tm} {now k n ticks : Int} (h : Rf m c F now W) (hn : W.length ≤ 1000) (hnow : 0 ≤ now ∧ now ≤ 1000000) :
    LCall Try.prog 39 [.pointer (some ⟨c, 0, none⟩), .int .i64 k, .int .i64 n, .int .i64 ticks] m fun v m' => v = .int .i64 (rsetL now k n ticks W).1 ∧ Frm F m m' ∧ ∃ F', Rf m' c F' now (rsetL now k n ticks W).2 ∧ Nw m F F' := by
  have hFl := h.lt
  refine LCall_enter Try.func39 c39 ?_
  unfold rsetL
  by_cases h1 : ticks < 1
  · simp (contextual := true) (implicitDefEqProofs := false) (maxSteps := 2000000) (disch := first | rfl | exact Nat.le_of_ble_eq_true rfl | omega | (simp only [List.length_append, List.length_cons, List.length_nil, List.length_set]; omega)) only [L39, h1, true_or, W1, W2, W3, W4, W5, W6, W7, W8, W9, W10, W11, W12, W13, W14, W15, eq_self, ite_true, ite_false, undef_eq, List.set_cons_zero, List.set_cons_succ, List.getD_cons_zero, List.getD_cons_succ, List.map_cons, List.map_nil, List.length_cons, List.length_nil, List.append_nil, List.cons_append, List.nil_append, List.replicate_succ, List.replicate_zero, Nat.reduceAdd, Nat.reduceSub, ↓reduceIte, List.getElem?_cons_zero, List.getElem?_cons_succ, basic, cellsL, resOf, setAt, List.append_assoc, List.length_append, List.getElem?_append_left, List.getElem?_append_right, List.set_append_left, List.set_append_right, below, belowB, belowA, atomB, List.mem_cons, List.not_mem_nil, forall_eq_or_imp, forall_eq, List.toList_toArray, implies_true, List.take_succ_cons, List.take_zero, List.drop_succ_cons, List.drop_zero, List.take_nil, List.drop_nil, Nat.reduceLeDiff, Nat.reduceMul, Int.reduceToNat, Int.reduceLT, Int.reduceLE, Int.reduceAdd, Int.reduceNeg, Int.reduceEq, splice, List.singleton_append, Nat.reduceEqDiff, Nat.reduceLT, isAtom, List.all_cons, List.all_nil, Option.map_some, Option.bind_some, List.length_set, Int.reduceSub, Int.reduceMul, List.getElem?_set_self, List.getElem?_set_ne]
    exact ⟨Frm.refl, F, h, fun x hx => .inl hx⟩
  by_cases h2 : 10000 < ticks
  · simp (contextual := true) (implicitDefEqProofs := false) (maxSteps := 2000000) (disch := first | rfl | exact Nat.le_of_ble_eq_true rfl | omega | (simp only [List.length_append, List.length_cons, List.length_nil, List.length_set]; omega)) only [L39, h1, h2, or_true, W1, W2, W3, W4, W5, W6, W7, W8, W9, W10, W11, W12, W13, W14, W15, eq_self, ite_true, ite_false, undef_eq, List.set_cons_zero, List.set_cons_succ, List.getD_cons_zero, List.getD_cons_succ, List.map_cons, List.map_nil, List.length_cons, List.length_nil, List.append_nil, List.cons_append, List.nil_append, List.replicate_succ, List.replicate_zero, Nat.reduceAdd, Nat.reduceSub, ↓reduceIte, List.getElem?_cons_zero, List.getElem?_cons_succ, basic, cellsL, resOf, setAt, List.append_assoc, List.length_append, List.getElem?_append_left, List.getElem?_append_right, List.set_append_left, List.set_append_right, below, belowB, belowA, atomB, List.mem_cons, List.not_mem_nil, forall_eq_or_imp, forall_eq, List.toList_toArray, implies_true, List.take_succ_cons, List.take_zero, List.drop_succ_cons, List.drop_zero, List.take_nil, List.drop_nil, Nat.reduceLeDiff, Nat.reduceMul, Int.reduceToNat, Int.reduceLT, Int.reduceLE, Int.reduceAdd, Int.reduceNeg, Int.reduceEq, splice, List.singleton_append, Nat.reduceEqDiff, Nat.reduceLT, isAtom, List.all_cons, List.all_nil, Option.map_some, Option.bind_some, List.length_set, Int.reduceSub, Int.reduceMul, List.getElem?_set_self, List.getElem?_set_ne]
    exact ⟨Frm.refl, F, h, fun x hx => .inl hx⟩
  simp (contextual := true) (implicitDefEqProofs := false) (maxSteps := 2000000) (disch := first | rfl | exact Nat.le_of_ble_eq_true rfl | omega | (simp only [List.length_append, List.length_cons, List.length_nil, List.length_set]; omega)) only [L39, h1, h2, W1, W2, W3, W4, W5, W6, W7, W8, W9, W10, W11, W12, W13, W14, W15, eq_self, ite_true, ite_false, undef_eq, List.set_cons_zero, List.set_cons_succ, List.getD_cons_zero, List.getD_cons_succ, List.map_cons, List.map_nil, List.length_cons, List.length_nil, List.append_nil, List.cons_append, List.nil_append, List.replicate_succ, List.replicate_zero, Nat.reduceAdd, Nat.reduceSub, ↓reduceIte, List.getElem?_cons_zero, List.getElem?_cons_succ, basic, cellsL, resOf, setAt, List.append_assoc, List.length_append, List.getElem?_append_left, List.getElem?_append_right, List.set_append_left, List.set_append_right, below, belowB, belowA, atomB, List.mem_cons, List.not_mem_nil, forall_eq_or_imp, forall_eq, List.toList_toArray, implies_true, List.take_succ_cons, List.take_zero, List.drop_succ_cons, List.drop_zero, List.take_nil, List.drop_nil, Nat.reduceLeDiff, Nat.reduceMul, Int.reduceToNat, Int.reduceLT, Int.reduceLE, Int.reduceAdd, Int.reduceNeg, Int.reduceEq, splice, List.singleton_append, Nat.reduceEqDiff, Nat.reduceLT, isAtom, List.all_cons, List.all_nil, Option.map_some, Option.bind_some, List.length_set, Int.reduceSub, Int.reduceMul, List.getElem?_set_self, List.getElem?_set_ne]
  refine (at_spec h (by omega)).use ?_
  have h' := h
  obtain ⟨sv, G, rfl, hcG, hc, hsl⟩ := h'
  have hcl := lt_of_some hc
  obtain ⟨a, rfl, _⟩ := hsl.form
  simp only [List.length_map] at hsl hc
  have hlen' : ((W.length : Int) = 32) = (W.length = 32) := propext ⟨fun h => by omega, fun h => by omega⟩
  by_cases h3 : atL k n W < 0 ∧ W.length = 32
  · simp (contextual := true) (implicitDefEqProofs := false) (maxSteps := 2000000) (disch := first | rfl | exact Nat.le_of_ble_eq_true rfl | omega | (simp only [List.length_append, List.length_cons, List.length_nil, List.length_set]; omega)) only [h3.1, hc, hlen', h3.2, and_self, W1, W2, W3, W4, W5, W6, W7, W8, W9, W10, W11, W12, W13, W14, W15, eq_self, ite_true, ite_false, undef_eq, List.set_cons_zero, List.set_cons_succ, List.getD_cons_zero, List.getD_cons_succ, List.map_cons, List.map_nil, List.length_cons, List.length_nil, List.append_nil, List.cons_append, List.nil_append, List.replicate_succ, List.replicate_zero, Nat.reduceAdd, Nat.reduceSub, ↓reduceIte, List.getElem?_cons_zero, List.getElem?_cons_succ, basic, cellsL, resOf, setAt, List.append_assoc, List.length_append, List.getElem?_append_left, List.getElem?_append_right, List.set_append_left, List.set_append_right, below, belowB, belowA, atomB, List.mem_cons, List.not_mem_nil, forall_eq_or_imp, forall_eq, List.toList_toArray, implies_true, List.take_succ_cons, List.take_zero, List.drop_succ_cons, List.drop_zero, List.take_nil, List.drop_nil, Nat.reduceLeDiff, Nat.reduceMul, Int.reduceToNat, Int.reduceLT, Int.reduceLE, Int.reduceAdd, Int.reduceNeg, Int.reduceEq, splice, List.singleton_append, Nat.reduceEqDiff, Nat.reduceLT, isAtom, List.all_cons, List.all_nil, Option.map_some, Option.bind_some, List.length_set, Int.reduceSub, Int.reduceMul, List.getElem?_set_self, List.getElem?_set_ne]
    exact ⟨Frm.refl, c :: G, h, fun x hx => .inl hx⟩
  rw [if_neg h3]
  have hne : atL k n W < 0 → (W.length = 32) = False := fun h0 => by simp; omega
  have hflt := eraseP_le (p := fun t => t.is k n) W
  have hwt : IntKind.i64.wrap (now + ticks) = now + ticks := wrap_i64 (by omega) (by omega)
  by_cases h0 : atL k n W < 0
  all_goals first
    | (simp (contextual := true) (implicitDefEqProofs := false) (maxSteps := 2000000) (disch := first | rfl | exact Nat.le_of_ble_eq_true rfl | omega | (simp only [List.length_append, List.length_cons, List.length_nil, List.length_set]; omega)) only [h0, hc, hlen', hne h0, W1, W2, W3, W4, W5, W6, W7, W8, W9, W10, W11, W12, W13, W14, W15, eq_self, ite_true, ite_false, undef_eq, List.set_cons_zero, List.set_cons_succ, List.getD_cons_zero, List.getD_cons_succ, List.map_cons, List.map_nil, List.length_cons, List.length_nil, List.append_nil, List.cons_append, List.nil_append, List.replicate_succ, List.replicate_zero, Nat.reduceAdd, Nat.reduceSub, ↓reduceIte, List.getElem?_cons_zero, List.getElem?_cons_succ, basic, cellsL, resOf, setAt, List.append_assoc, List.length_append, List.getElem?_append_left, List.getElem?_append_right, List.set_append_left, List.set_append_right, below, belowB, belowA, atomB, List.mem_cons, List.not_mem_nil, forall_eq_or_imp, forall_eq, List.toList_toArray, implies_true, List.take_succ_cons, List.take_zero, List.drop_succ_cons, List.drop_zero, List.take_nil, List.drop_nil, Nat.reduceLeDiff, Nat.reduceMul, Int.reduceToNat, Int.reduceLT, Int.reduceLE, Int.reduceAdd, Int.reduceNeg, Int.reduceEq, splice, List.singleton_append, Nat.reduceEqDiff, Nat.reduceLT, isAtom, List.all_cons, List.all_nil, Option.map_some, Option.bind_some, List.length_set, Int.reduceSub, Int.reduceMul, List.getElem?_set_self, List.getElem?_set_ne])
    | (simp (contextual := true) (implicitDefEqProofs := false) (maxSteps := 2000000) (disch := first | rfl | exact Nat.le_of_ble_eq_true rfl | omega | (simp only [List.length_append, List.length_cons, List.length_nil, List.length_set]; omega)) only [h0, W1, W2, W3, W4, W5, W6, W7, W8, W9, W10, W11, W12, W13, W14, W15, eq_self, ite_true, ite_false, undef_eq, List.set_cons_zero, List.set_cons_succ, List.getD_cons_zero, List.getD_cons_succ, List.map_cons, List.map_nil, List.length_cons, List.length_nil, List.append_nil, List.cons_append, List.nil_append, List.replicate_succ, List.replicate_zero, Nat.reduceAdd, Nat.reduceSub, ↓reduceIte, List.getElem?_cons_zero, List.getElem?_cons_succ, basic, cellsL, resOf, setAt, List.append_assoc, List.length_append, List.getElem?_append_left, List.getElem?_append_right, List.set_append_left, List.set_append_right, below, belowB, belowA, atomB, List.mem_cons, List.not_mem_nil, forall_eq_or_imp, forall_eq, List.toList_toArray, implies_true, List.take_succ_cons, List.take_zero, List.drop_succ_cons, List.drop_zero, List.take_nil, List.drop_nil, Nat.reduceLeDiff, Nat.reduceMul, Int.reduceToNat, Int.reduceLT, Int.reduceLE, Int.reduceAdd, Int.reduceNeg, Int.reduceEq, splice, List.singleton_append, Nat.reduceEqDiff, Nat.reduceLT, isAtom, List.all_cons, List.all_nil, Option.map_some, Option.bind_some, List.length_set, Int.reduceSub, Int.reduceMul, List.getElem?_set_self, List.getElem?_set_ne])
  all_goals
    refine (rstop_spec h (by omega)).mono ?_
    rintro v m1 ⟨_, hf1, F', hc1, hn1⟩
    obtain ⟨sv, G', rfl, hcG', hc1, hsl1⟩ := hc1
    have hcl1 := lt_of_some hc1
    simp (contextual := true) (implicitDefEqProofs := false) (maxSteps := 2000000) (disch := first | rfl | exact Nat.le_of_ble_eq_true rfl | omega | (simp only [List.length_append, List.length_cons, List.length_nil, List.length_set]; omega)) only [hc1, hwt, W1, W2, W3, W4, W5, W6, W7, W8, W9, W10, W11, W12, W13, W14, W15, eq_self, ite_true, ite_false, undef_eq, List.set_cons_zero, List.set_cons_succ, List.getD_cons_zero, List.getD_cons_succ, List.map_cons, List.map_nil, List.length_cons, List.length_nil, List.append_nil, List.cons_append, List.nil_append, List.replicate_succ, List.replicate_zero, Nat.reduceAdd, Nat.reduceSub, ↓reduceIte, List.getElem?_cons_zero, List.getElem?_cons_succ, basic, cellsL, resOf, setAt, List.append_assoc, List.length_append, List.getElem?_append_left, List.getElem?_append_right, List.set_append_left, List.set_append_right, below, belowB, belowA, atomB, List.mem_cons, List.not_mem_nil, forall_eq_or_imp, forall_eq, List.toList_toArray, implies_true, List.take_succ_cons, List.take_zero, List.drop_succ_cons, List.drop_zero, List.take_nil, List.drop_nil, Nat.reduceLeDiff, Nat.reduceMul, Int.reduceToNat, Int.reduceLT, Int.reduceLE, Int.reduceAdd, Int.reduceNeg, Int.reduceEq, splice, List.singleton_append, Nat.reduceEqDiff, Nat.reduceLT, isAtom, List.all_cons, List.all_nil, Option.map_some, Option.bind_some, List.length_set, Int.reduceSub, Int.reduceMul, List.getElem?_set_self, List.getElem?_set_ne]
    refine app_row (hsl1.frm0 Frm.refl.app) rfl (by simp; omega) ?_
    intro v' M G'' hM hfM hsM hG''
    simp only [List.length_append, List.length_cons, List.length_nil] at hM hG''
    have hcM := hfM.get (i := c) (by rw [List.getElem?_append_left hcl1]; exact hc1) hcG'
    have hclM := lt_of_some hcM
    have hl1 := hf1.len
    obtain ⟨a', rfl, _⟩ := hsM.form
    simp only [List.length_append, List.length_map, List.length_cons, List.length_nil] at hsM ⊢
    simp (contextual := true) (implicitDefEqProofs := false) (maxSteps := 2000000) (disch := first | rfl | exact Nat.le_of_ble_eq_true rfl | omega | (simp only [List.length_append, List.length_cons, List.length_nil, List.length_set]; omega)) only [hcM, W1, W2, W3, W4, W5, W6, W7, W8, W9, W10, W11, W12, W13, W14, W15, eq_self, ite_true, ite_false, undef_eq, List.set_cons_zero, List.set_cons_succ, List.getD_cons_zero, List.getD_cons_succ, List.map_cons, List.map_nil, List.length_cons, List.length_nil, List.append_nil, List.cons_append, List.nil_append, List.replicate_succ, List.replicate_zero, Nat.reduceAdd, Nat.reduceSub, ↓reduceIte, List.getElem?_cons_zero, List.getElem?_cons_succ, basic, cellsL, resOf, setAt, List.append_assoc, List.length_append, List.getElem?_append_left, List.getElem?_append_right, List.set_append_left, List.set_append_right, below, belowB, belowA, atomB, List.mem_cons, List.not_mem_nil, forall_eq_or_imp, forall_eq, List.toList_toArray, implies_true, List.take_succ_cons, List.take_zero, List.drop_succ_cons, List.drop_zero, List.take_nil, List.drop_nil, Nat.reduceLeDiff, Nat.reduceMul, Int.reduceToNat, Int.reduceLT, Int.reduceLE, Int.reduceAdd, Int.reduceNeg, Int.reduceEq, splice, List.singleton_append, Nat.reduceEqDiff, Nat.reduceLT, isAtom, List.all_cons, List.all_nil, Option.map_some, Option.bind_some, List.length_set, Int.reduceSub, Int.reduceMul, List.getElem?_set_self, List.getElem?_set_ne]
    have hcG2 : c ∉ G'' := fun hx => by have := hG'' c hx; omega
    refine ⟨((hf1.trans hfM.app_of fun x hx => hn1 x (by simp [hx])).set (by simp)), c :: G'', ⟨_, G'', rfl, hcG2, by rw [List.getElem?_set_self hclM], ?_⟩, fun x hx => ?_⟩
    · have := hsM.setb (B := ⟨[.int .i64 now, Value.slice a' ((W.eraseP fun t => t.is k n).length + (0 + 1)) ((W.eraseP fun t => t.is k n).length + (0 + 1))], 73, 1, 0, .own⟩) hcG2
      simpa [Tm.row] using this
    · rcases List.mem_cons.mp hx with rfl | hx
      · exact .inl (by simp)
      · have := hG'' x hx; exact .inr (by omega)

theorem ronly_spec {m : Mem} {c : Nat} {F : List Nat} {W : List Tm} {now n : Int} (h : Rf m c F now W) (hn : W.length ≤ 1000) :
    LCall Try.prog 46 [.pointer (some ⟨c, 0, none⟩), .int .i64 n] m fun v m' => v = .int .i64 ((W.length : Int) - (W.filter fun t => !decide (t.n = n)).length) ∧ Frm F m m' ∧ ∃ F', Rf m' c F' now (W.filter fun t => !decide (t.n = n)) ∧ Nw m F F' := by
  obtain ⟨sv, G, rfl, hcG, hc, hsl⟩ := h
  have hcl := lt_of_some hc
  obtain ⟨a, rfl, hd⟩ := hsl.form
  simp only [List.length_map] at hsl hc hd
  refine LCall_enter Try.func46 c46 ?_
  simp (contextual := true) (implicitDefEqProofs := false) (maxSteps := 2000000) (disch := first | rfl | exact Nat.le_of_ble_eq_true rfl | omega | (simp only [List.length_append, List.length_cons, List.length_nil, List.length_set]; omega)) only [L46, hc, W1, W2, W3, W4, W5, W6, W7, W8, W9, W10, W11, W12, W13, W14, W15, eq_self, ite_true, ite_false, undef_eq, List.set_cons_zero, List.set_cons_succ, List.getD_cons_zero, List.getD_cons_succ, List.map_cons, List.map_nil, List.length_cons, List.length_nil, List.append_nil, List.cons_append, List.nil_append, List.replicate_succ, List.replicate_zero, Nat.reduceAdd, Nat.reduceSub, ↓reduceIte, List.getElem?_cons_zero, List.getElem?_cons_succ, basic, cellsL, resOf, setAt, List.append_assoc, List.length_append, List.getElem?_append_left, List.getElem?_append_right, List.set_append_left, List.set_append_right, below, belowB, belowA, atomB, List.mem_cons, List.not_mem_nil, forall_eq_or_imp, forall_eq, List.toList_toArray, implies_true, List.take_succ_cons, List.take_zero, List.drop_succ_cons, List.drop_zero, List.take_nil, List.drop_nil, Nat.reduceLeDiff, Nat.reduceMul, Int.reduceToNat, Int.reduceLT, Int.reduceLE, Int.reduceAdd, Int.reduceNeg, Int.reduceEq, splice, List.singleton_append, Nat.reduceEqDiff, Nat.reduceLT, isAtom, List.all_cons, List.all_nil, Option.map_some, Option.bind_some, List.length_set, Int.reduceSub, Int.reduceMul, List.getElem?_set_self, List.getElem?_set_ne]
  refine loop_inv (fun n' t m' => ∃ (k : Nat) (rest : Value) (Gr : List Nat), n' = W.length - k ∧ k ≤ W.length ∧ Frm [] m m' ∧ Sl m' 87 3 rest Gr (((W.take k).filter fun t => !decide (t.n = n)).map Tm.row) ∧ (∀ x ∈ Gr, m.length ≤ x) ∧
    Tab 51 [(0, .pointer (some ⟨c, 0, none⟩)), (1, .int .i64 n), (5, rest), (6, .int .i64 (k : Int))] t) (n := W.length) ?_ ?_
  · exact ⟨0, _, [m.length], rfl, Nat.zero_le _, Frm.refl.app, Sl.make (cs := []) (rows := []) (by simp) (by simp) rfl rfl, by simp, ⟨rfl, by simp⟩⟩
  rintro n' t m' ⟨k, rest, Gr, rfl, hk, hfr, hre, hGr, ht⟩
  obtain ⟨g, rfl⟩ : ∃ f' : Nat → Value, t = [.pointer (some ⟨c, 0, none⟩), .int .i64 n, f' 2, f' 3, f' 4, rest, .int .i64 (k : Int), f' 7, f' 8, f' 9, f' 10, f' 11, f' 12, f' 13, f' 14, f' 15, f' 16, f' 17, f' 18, f' 19, f' 20, f' 21, f' 22, f' 23, f' 24, f' 25, f' 26, f' 27, f' 28, f' 29, f' 30, f' 31, f' 32, f' 33, f' 34, f' 35, f' 36, f' 37, f' 38, f' 39, f' 40, f' 41, f' 42, f' 43, f' 44, f' 45, f' 46, f' 47, f' 48, f' 49, f' 50] := ht.open fun f' => rfl
  have hlm := hfr.len
  have hcm := hfr.get0 hc
  have hclm := lt_of_some hcm
  by_cases hlt : k < W.length
  · have hlt' : ((k : Int) < (W.length : Int)) = True := by simp [hlt]
    have h0' : ((0 : Int) ≤ (k : Int)) = True := by simp
    obtain ⟨b, o, cs, rfl, rfl, hb, hl, hcc, hrow⟩ := hd (by omega)
    obtain ⟨y, hy⟩ : ∃ r, W[k]? = some r := ⟨W[k], List.getElem?_eq_getElem hlt⟩
    have hp' := hrow k y.row (by simp [hy])
    have d1 : cs[o + k * 3 + 1]? = some (.int .i64 y.n) := by simpa [Tm.row] using row_cell hp' (j := 1) (by omega)
    simp only [Tm.row] at hp'
    have hbm := hfr.get0 hb
    have hblm := lt_of_some hbm
    have hw : IntKind.i64.wrap ((k : Int) + 1) = ((k + 1 : Nat) : Int) := by rw [wrap_i64 (by omega) (by omega)]; omega
    have hfl2 : ((W.take k).filter fun t => !decide (t.n = n)).length ≤ k := Nat.le_trans (List.length_filter_le _ _) (by simp; omega)
    by_cases hyn : y.n = n
    · simp (contextual := true) (implicitDefEqProofs := false) (maxSteps := 2000000) (disch := first | rfl | exact Nat.le_of_ble_eq_true rfl | omega | (simp only [List.length_append, List.length_cons, List.length_nil, List.length_set]; omega)) only [hcm, hbm, hlt', h0', d1, Int.toNat_natCast, hyn, W1, W2, W3, W4, W5, W6, W7, W8, W9, W10, W11, W12, W13, W14, W15, eq_self, ite_true, ite_false, undef_eq, List.set_cons_zero, List.set_cons_succ, List.getD_cons_zero, List.getD_cons_succ, List.map_cons, List.map_nil, List.length_cons, List.length_nil, List.append_nil, List.cons_append, List.nil_append, List.replicate_succ, List.replicate_zero, Nat.reduceAdd, Nat.reduceSub, ↓reduceIte, List.getElem?_cons_zero, List.getElem?_cons_succ, basic, cellsL, resOf, setAt, List.append_assoc, List.length_append, List.getElem?_append_left, List.getElem?_append_right, List.set_append_left, List.set_append_right, below, belowB, belowA, atomB, List.mem_cons, List.not_mem_nil, forall_eq_or_imp, forall_eq, List.toList_toArray, implies_true, List.take_succ_cons, List.take_zero, List.drop_succ_cons, List.drop_zero, List.take_nil, List.drop_nil, Nat.reduceLeDiff, Nat.reduceMul, Int.reduceToNat, Int.reduceLT, Int.reduceLE, Int.reduceAdd, Int.reduceNeg, Int.reduceEq, splice, List.singleton_append, Nat.reduceEqDiff, Nat.reduceLT, isAtom, List.all_cons, List.all_nil, Option.map_some, Option.bind_some, List.length_set, Int.reduceSub, Int.reduceMul, List.getElem?_set_self, List.getElem?_set_ne]
      refine kInv_go ⟨k + 1, rest, Gr, rfl, by omega, hfr, ?_, hGr, ⟨rfl, by simp [hw]⟩⟩ (by omega)
      rw [take_snoc hy, List.filter_append]
      simpa [hyn] using hre
    · simp (contextual := true) (implicitDefEqProofs := false) (maxSteps := 2000000) (disch := first | rfl | exact Nat.le_of_ble_eq_true rfl | omega | (simp only [List.length_append, List.length_cons, List.length_nil, List.length_set]; omega)) only [hcm, hbm, hlt', h0', d1, Int.toNat_natCast, hyn, hp', W1, W2, W3, W4, W5, W6, W7, W8, W9, W10, W11, ops_nil, ops_n, ops_g, guardK_it, guardK_if, guardK_u, CondP_t, CondP_f, ex_call, pickK_it, loadK_p, loadNK_p, storeB_s, cellB_s, cellB_r, cellsB_s, cellsB_r, condK_it, lc_skip, lc_region, lc_draw, lc_seq, lc_cond, lc_block, lc_exit, lc_ret, then_n, then_e, then_r, block_n, block_r, block_e, bin_add, bin_sub, bin_mul, bin_quo, bin_rem, bin_and, bin_or, bin_xor, bin_andNot, bin_eql, bin_neq, bin_lss, bin_leq, bin_gtr, bin_geq, bin_shl, bin_shr, bin_sadd, bin_seql, bin_sneq, un_not, un_neg, eqL_b, eqL_i, eqL_s, eqL_pnn, eqL_pns, eqL_psn, eqL_pp, eqL_slnn, eqL_slns, eqL_slsn, ex_callv, slB_e, slB_r, apB_e, lc_chain, lc_bad, putBK_s, lc_label, lc_goto, then_g, block_g, jump_g, jump_n, jump_r, jump_e, lf_seq, lf_label, eq_self, ite_true, ite_false, undef_eq, List.set_cons_zero, List.set_cons_succ, List.getD_cons_zero, List.getD_cons_succ, List.map_cons, List.map_nil, List.length_cons, List.length_nil, List.append_nil, List.cons_append, List.nil_append, List.replicate_succ, List.replicate_zero, Nat.reduceAdd, Nat.reduceSub, ↓reduceIte, List.getElem?_cons_zero, List.getElem?_cons_succ, basic, cellsL, resOf, setAt, List.append_assoc, List.length_append, List.getElem?_append_left, List.getElem?_append_right, List.set_append_left, List.set_append_right, below, belowB, belowA, atomB, List.mem_cons, List.not_mem_nil, forall_eq_or_imp, forall_eq, List.toList_toArray, implies_true, List.take_succ_cons, List.take_zero, List.drop_succ_cons, List.drop_zero, List.take_nil, List.drop_nil, Nat.reduceLeDiff, Nat.reduceMul, Int.reduceToNat, Int.reduceLT, Int.reduceLE, Int.reduceAdd, Int.reduceNeg, Int.reduceEq, splice, List.singleton_append, Nat.reduceEqDiff, Nat.reduceLT, isAtom, List.all_cons, List.all_nil, Option.map_some, Option.bind_some, List.length_set, Int.reduceSub, Int.reduceMul, List.getElem?_set_self, List.getElem?_set_ne]
      refine app_row (hre.frm0 Frm.refl.app) rfl (by simp; omega) ?_
      intro v M G' hM hfM hsM hG'
      simp only [List.length_append, List.length_cons, List.length_nil] at hM hG'
      simp (contextual := true) (implicitDefEqProofs := false) (maxSteps := 2000000) (disch := first | rfl | exact Nat.le_of_ble_eq_true rfl | omega | (simp only [List.length_append, List.length_cons, List.length_nil, List.length_set]; omega)) only [W1, W2, W3, W4, W5, W6, W7, W8, W9, W10, W11, W12, W13, W14, W15, eq_self, ite_true, ite_false, undef_eq, List.set_cons_zero, List.set_cons_succ, List.getD_cons_zero, List.getD_cons_succ, List.map_cons, List.map_nil, List.length_cons, List.length_nil, List.append_nil, List.cons_append, List.nil_append, List.replicate_succ, List.replicate_zero, Nat.reduceAdd, Nat.reduceSub, ↓reduceIte, List.getElem?_cons_zero, List.getElem?_cons_succ, basic, cellsL, resOf, setAt, List.append_assoc, List.length_append, List.getElem?_append_left, List.getElem?_append_right, List.set_append_left, List.set_append_right, below, belowB, belowA, atomB, List.mem_cons, List.not_mem_nil, forall_eq_or_imp, forall_eq, List.toList_toArray, implies_true, List.take_succ_cons, List.take_zero, List.drop_succ_cons, List.drop_zero, List.take_nil, List.drop_nil, Nat.reduceLeDiff, Nat.reduceMul, Int.reduceToNat, Int.reduceLT, Int.reduceLE, Int.reduceAdd, Int.reduceNeg, Int.reduceEq, splice, List.singleton_append, Nat.reduceEqDiff, Nat.reduceLT, isAtom, List.all_cons, List.all_nil, Option.map_some, Option.bind_some, List.length_set, Int.reduceSub, Int.reduceMul, List.getElem?_set_self, List.getElem?_set_ne]
      refine kInv_go ⟨k + 1, v, G', rfl, by omega, hfr.trans hfM.app_of fun x hx => .inr (hGr x hx), ?_, fun x hx => ?_, ⟨rfl, by simp [hw]⟩⟩ (by omega)
      · rw [take_snoc hy, List.filter_append]
        simpa [hyn, Tm.row] using hsM
      · have := hG' x hx; omega
  · have hlt' : ((k : Int) < (W.length : Int)) = False := by simp; omega
    rw [List.take_of_length_le (by omega)] at hre
    obtain ⟨a2, rfl, _⟩ := hre.form
    simp only [List.length_map] at hre ⊢
    have hfl2 : (W.filter fun t => !decide (t.n = n)).length ≤ W.length := List.length_filter_le _ _
    have hw : IntKind.i64.wrap ((W.length : Int) - ((W.filter fun t => !decide (t.n = n)).length : Int)) = (W.length : Int) - ((W.filter fun t => !decide (t.n = n)).length : Int) := wrap_i64 (by omega) (by omega)
    have hcr : c ∉ Gr := fun hx => by have := hGr c hx; omega
    simp (contextual := true) (implicitDefEqProofs := false) (maxSteps := 2000000) (disch := first | rfl | exact Nat.le_of_ble_eq_true rfl | omega | (simp only [List.length_append, List.length_cons, List.length_nil, List.length_set]; omega)) only [hlt', hcm, hw, W1, W2, W3, W4, W5, W6, W7, W8, W9, W10, W11, W12, W13, W14, W15, eq_self, ite_true, ite_false, undef_eq, List.set_cons_zero, List.set_cons_succ, List.getD_cons_zero, List.getD_cons_succ, List.map_cons, List.map_nil, List.length_cons, List.length_nil, List.append_nil, List.cons_append, List.nil_append, List.replicate_succ, List.replicate_zero, Nat.reduceAdd, Nat.reduceSub, ↓reduceIte, List.getElem?_cons_zero, List.getElem?_cons_succ, basic, cellsL, resOf, setAt, List.append_assoc, List.length_append, List.getElem?_append_left, List.getElem?_append_right, List.set_append_left, List.set_append_right, below, belowB, belowA, atomB, List.mem_cons, List.not_mem_nil, forall_eq_or_imp, forall_eq, List.toList_toArray, implies_true, List.take_succ_cons, List.take_zero, List.drop_succ_cons, List.drop_zero, List.take_nil, List.drop_nil, Nat.reduceLeDiff, Nat.reduceMul, Int.reduceToNat, Int.reduceLT, Int.reduceLE, Int.reduceAdd, Int.reduceNeg, Int.reduceEq, splice, List.singleton_append, Nat.reduceEqDiff, Nat.reduceLT, isAtom, List.all_cons, List.all_nil, Option.map_some, Option.bind_some, List.length_set, Int.reduceSub, Int.reduceMul, List.getElem?_set_self, List.getElem?_set_ne]
    refine ⟨hfr.of_nil.set (by simp), c :: Gr, ⟨_, Gr, rfl, hcr, by rw [List.getElem?_set_self hclm], hre.setb hcr⟩, fun x hx => ?_⟩
    rcases List.mem_cons.mp hx with rfl | hx
    · exact .inl (by simp)
    · exact .inr (hGr x hx)

theorem rtick_spec {m : Mem} {c : Nat} {F : List Nat} {W : List Tm} {now : Int} (h : Rf m c F now W) (hn : W.length ≤ 1000) (hnow : 0 ≤ now ∧ now ≤ 1000000) :
    LCall Try.prog 44 [.pointer (some ⟨c, 0, none⟩)] m fun v m' => Frm F m m' ∧ ∃ F', Rf m' c F' (now + 1) (W.filter fun t => !decide (t.l = now + 1)) ∧ Nw m F F' ∧ ∃ G, Sl m' 87 3 v G ((W.filter fun t => decide (t.l = now + 1)).map Tm.row) ∧ ∀ x ∈ G, m.length ≤ x ∧ x ∉ F' := by
  obtain ⟨sv, G, rfl, hcG, hc, hsl⟩ := h
  have hcl := lt_of_some hc
  have hGl := hsl.lt
  obtain ⟨a, rfl, hd⟩ := hsl.form
  simp only [List.length_map] at hsl hc hd
  have hw1 : IntKind.i64.wrap (now + 1) = now + 1 := wrap_i64 (by omega) (by omega)
  refine LCall_enter Try.func44 c44 ?_
  simp (contextual := true) (implicitDefEqProofs := false) (maxSteps := 2000000) (disch := first | rfl | exact Nat.le_of_ble_eq_true rfl | omega | (simp only [List.length_append, List.length_cons, List.length_nil, List.length_set]; omega)) only [L44, hc, hw1, W1, W2, W3, W4, W5, W6, W7, W8, W9, W10, W11, W12, W13, W14, W15, eq_self, ite_true, ite_false, undef_eq, List.set_cons_zero, List.set_cons_succ, List.getD_cons_zero, List.getD_cons_succ, List.map_cons, List.map_nil, List.length_cons, List.length_nil, List.append_nil, List.cons_append, List.nil_append, List.replicate_succ, List.replicate_zero, Nat.reduceAdd, Nat.reduceSub, ↓reduceIte, List.getElem?_cons_zero, List.getElem?_cons_succ, basic, cellsL, resOf, setAt, List.append_assoc, List.length_append, List.getElem?_append_left, List.getElem?_append_right, List.set_append_left, List.set_append_right, below, belowB, belowA, atomB, List.mem_cons, List.not_mem_nil, forall_eq_or_imp, forall_eq, List.toList_toArray, implies_true, List.take_succ_cons, List.take_zero, List.drop_succ_cons, List.drop_zero, List.take_nil, List.drop_nil, Nat.reduceLeDiff, Nat.reduceMul, Int.reduceToNat, Int.reduceLT, Int.reduceLE, Int.reduceAdd, Int.reduceNeg, Int.reduceEq, splice, List.singleton_append, Nat.reduceEqDiff, Nat.reduceLT, isAtom, List.all_cons, List.all_nil, Option.map_some, Option.bind_some, List.length_set, Int.reduceSub, Int.reduceMul, List.getElem?_set_self, List.getElem?_set_ne]
  refine loop_inv (fun n' t m' => ∃ (k : Nat) (due rest : Value) (Gd Gr : List Nat), n' = W.length - k ∧ k ≤ W.length ∧ Frm [c] m m' ∧ m'[c]? = some ⟨[.int .i64 (now + 1), .slice a W.length W.length], 73, 1, 0, .own⟩ ∧
    Sl m' 87 3 due Gd (((W.take k).filter fun t => decide (t.l = now + 1)).map Tm.row) ∧ Sl m' 87 3 rest Gr (((W.take k).filter fun t => !decide (t.l = now + 1)).map Tm.row) ∧
    (∀ x ∈ Gd, m.length ≤ x) ∧ (∀ x ∈ Gr, m.length ≤ x) ∧ (∀ x ∈ Gd, x ∉ Gr) ∧
    Tab 62 [(0, .pointer (some ⟨c, 0, none⟩)), (3, due), (4, rest), (5, .int .i64 (k : Int))] t) (n := W.length) ?_ ?_
  · refine ⟨0, _, _, [m.length], [m.length + 1], rfl, Nat.zero_le _, (Frm.refl.set (by simp)).app, ?_, Sl.make (cs := []) (rows := []) ?_ (by simp) rfl rfl, Sl.make (cs := []) (rows := []) ?_ (by simp) rfl rfl, by simp, by simp, by simp, ⟨rfl, by simp⟩⟩
    · rw [List.getElem?_append_left (by simpa using hcl), List.getElem?_set_self hcl]
    · simp
    · rw [List.getElem?_append_right (by simp)]; simp
  rintro n' t m' ⟨k, due, rest, Gd, Gr, rfl, hk, hfr, hcm, hdu, hre, hGd, hGr, hdis, ht⟩
  obtain ⟨g, rfl⟩ : ∃ f' : Nat → Value, t = [.pointer (some ⟨c, 0, none⟩), f' 1, f' 2, due, rest, .int .i64 (k : Int), f' 6, f' 7, f' 8, f' 9, f' 10, f' 11, f' 12, f' 13, f' 14, f' 15, f' 16, f' 17, f' 18, f' 19, f' 20, f' 21, f' 22, f' 23, f' 24, f' 25, f' 26, f' 27, f' 28, f' 29, f' 30, f' 31, f' 32, f' 33, f' 34, f' 35, f' 36, f' 37, f' 38, f' 39, f' 40, f' 41, f' 42, f' 43, f' 44, f' 45, f' 46, f' 47, f' 48, f' 49, f' 50, f' 51, f' 52, f' 53, f' 54, f' 55, f' 56, f' 57, f' 58, f' 59, f' 60, f' 61] := ht.open fun f' => rfl
  have hlm := hfr.len
  have hclm := lt_of_some hcm
  have hGdl := hdu.lt
  have hGrl := hre.lt
  by_cases hlt : k < W.length
  · have hlt' : ((k : Int) < (W.length : Int)) = True := by simp [hlt]
    have h0' : ((0 : Int) ≤ (k : Int)) = True := by simp
    obtain ⟨b, o, cs, rfl, rfl, hb, hl, hcc, hrow⟩ := hd (by omega)
    obtain ⟨y, hy⟩ : ∃ r, W[k]? = some r := ⟨W[k], List.getElem?_eq_getElem hlt⟩
    have hp' := hrow k y.row (by simp [hy])
    have d2 : cs[o + k * 3 + 2]? = some (.int .i64 y.l) := by simpa [Tm.row] using row_cell hp' (j := 2) (by omega)
    simp only [Tm.row] at hp'
    have hbm := hfr.get hb (by simp only [List.mem_singleton] at hcG ⊢; exact fun e => hcG e.symm)
    have hblm := lt_of_some hbm
    have hw : IntKind.i64.wrap ((k : Int) + 1) = ((k + 1 : Nat) : Int) := by rw [wrap_i64 (by omega) (by omega)]; omega
    have hfl1 : ((W.take k).filter fun t => decide (t.l = now + 1)).length ≤ k := Nat.le_trans (List.length_filter_le _ _) (by simp; omega)
    have hfl2 : ((W.take k).filter fun t => !decide (t.l = now + 1)).length ≤ k := Nat.le_trans (List.length_filter_le _ _) (by simp; omega)
    by_cases hyn : y.l = now + 1
    · simp (contextual := true) (implicitDefEqProofs := false) (maxSteps := 2000000) (disch := first | rfl | exact Nat.le_of_ble_eq_true rfl | omega | (simp only [List.length_append, List.length_cons, List.length_nil, List.length_set]; omega)) only [hcm, hbm, hlt', h0', d2, Int.toNat_natCast, hyn, hp', W1, W2, W3, W4, W5, W6, W7, W8, W9, W10, W11, ops_nil, ops_n, ops_g, guardK_it, guardK_if, guardK_u, CondP_t, CondP_f, ex_call, pickK_it, loadK_p, loadNK_p, storeB_s, cellB_s, cellB_r, cellsB_s, cellsB_r, condK_it, lc_skip, lc_region, lc_draw, lc_seq, lc_cond, lc_block, lc_exit, lc_ret, then_n, then_e, then_r, block_n, block_r, block_e, bin_add, bin_sub, bin_mul, bin_quo, bin_rem, bin_and, bin_or, bin_xor, bin_andNot, bin_eql, bin_neq, bin_lss, bin_leq, bin_gtr, bin_geq, bin_shl, bin_shr, bin_sadd, bin_seql, bin_sneq, un_not, un_neg, eqL_b, eqL_i, eqL_s, eqL_pnn, eqL_pns, eqL_psn, eqL_pp, eqL_slnn, eqL_slns, eqL_slsn, ex_callv, slB_e, slB_r, apB_e, lc_chain, lc_bad, putBK_s, lc_label, lc_goto, then_g, block_g, jump_g, jump_n, jump_r, jump_e, lf_seq, lf_label, eq_self, ite_true, ite_false, undef_eq, List.set_cons_zero, List.set_cons_succ, List.getD_cons_zero, List.getD_cons_succ, List.map_cons, List.map_nil, List.length_cons, List.length_nil, List.append_nil, List.cons_append, List.nil_append, List.replicate_succ, List.replicate_zero, Nat.reduceAdd, Nat.reduceSub, ↓reduceIte, List.getElem?_cons_zero, List.getElem?_cons_succ, basic, cellsL, resOf, setAt, List.append_assoc, List.length_append, List.getElem?_append_left, List.getElem?_append_right, List.set_append_left, List.set_append_right, below, belowB, belowA, atomB, List.mem_cons, List.not_mem_nil, forall_eq_or_imp, forall_eq, List.toList_toArray, implies_true, List.take_succ_cons, List.take_zero, List.drop_succ_cons, List.drop_zero, List.take_nil, List.drop_nil, Nat.reduceLeDiff, Nat.reduceMul, Int.reduceToNat, Int.reduceLT, Int.reduceLE, Int.reduceAdd, Int.reduceNeg, Int.reduceEq, splice, List.singleton_append, Nat.reduceEqDiff, Nat.reduceLT, isAtom, List.all_cons, List.all_nil, Option.map_some, Option.bind_some, List.length_set, Int.reduceSub, Int.reduceMul, List.getElem?_set_self, List.getElem?_set_ne]
      refine app_row (hdu.frm0 Frm.refl.app) rfl (by simp; omega) ?_
      intro v M G' hM hfM hsM hG'
      simp only [List.length_append, List.length_cons, List.length_nil] at hM hG'
      simp (contextual := true) (implicitDefEqProofs := false) (maxSteps := 2000000) (disch := first | rfl | exact Nat.le_of_ble_eq_true rfl | omega | (simp only [List.length_append, List.length_cons, List.length_nil, List.length_set]; omega)) only [W1, W2, W3, W4, W5, W6, W7, W8, W9, W10, W11, W12, W13, W14, W15, eq_self, ite_true, ite_false, undef_eq, List.set_cons_zero, List.set_cons_succ, List.getD_cons_zero, List.getD_cons_succ, List.map_cons, List.map_nil, List.length_cons, List.length_nil, List.append_nil, List.cons_append, List.nil_append, List.replicate_succ, List.replicate_zero, Nat.reduceAdd, Nat.reduceSub, ↓reduceIte, List.getElem?_cons_zero, List.getElem?_cons_succ, basic, cellsL, resOf, setAt, List.append_assoc, List.length_append, List.getElem?_append_left, List.getElem?_append_right, List.set_append_left, List.set_append_right, below, belowB, belowA, atomB, List.mem_cons, List.not_mem_nil, forall_eq_or_imp, forall_eq, List.toList_toArray, implies_true, List.take_succ_cons, List.take_zero, List.drop_succ_cons, List.drop_zero, List.take_nil, List.drop_nil, Nat.reduceLeDiff, Nat.reduceMul, Int.reduceToNat, Int.reduceLT, Int.reduceLE, Int.reduceAdd, Int.reduceNeg, Int.reduceEq, splice, List.singleton_append, Nat.reduceEqDiff, Nat.reduceLT, isAtom, List.all_cons, List.all_nil, Option.map_some, Option.bind_some, List.length_set, Int.reduceSub, Int.reduceMul, List.getElem?_set_self, List.getElem?_set_ne]
      refine kInv_go ⟨k + 1, v, rest, G', Gr, rfl, by omega, hfr.trans hfM.app_of fun x hx => .inr (hGd x hx), hfM.get (by rw [List.getElem?_append_left hclm]; exact hcm) fun hx => by have := hGd c hx; omega, ?_, ?_, fun x hx => ?_, hGr, fun x hx hx' => ?_, ⟨rfl, by simp [hw]⟩⟩ (by omega)
      · rw [take_snoc hy, List.filter_append]
        simpa [hyn, Tm.row] using hsM
      · rw [take_snoc hy, List.filter_append]
        simpa [hyn, Tm.row] using (hre.frm0 Frm.refl.app).frm hfM fun x hx hx' => hdis x hx' hx
      · have := hG' x hx; omega
      · have := hG' x hx; have := hGrl x hx'; omega
    · simp (contextual := true) (implicitDefEqProofs := false) (maxSteps := 2000000) (disch := first | rfl | exact Nat.le_of_ble_eq_true rfl | omega | (simp only [List.length_append, List.length_cons, List.length_nil, List.length_set]; omega)) only [hcm, hbm, hlt', h0', d2, Int.toNat_natCast, hyn, hp', W1, W2, W3, W4, W5, W6, W7, W8, W9, W10, W11, ops_nil, ops_n, ops_g, guardK_it, guardK_if, guardK_u, CondP_t, CondP_f, ex_call, pickK_it, loadK_p, loadNK_p, storeB_s, cellB_s, cellB_r, cellsB_s, cellsB_r, condK_it, lc_skip, lc_region, lc_draw, lc_seq, lc_cond, lc_block, lc_exit, lc_ret, then_n, then_e, then_r, block_n, block_r, block_e, bin_add, bin_sub, bin_mul, bin_quo, bin_rem, bin_and, bin_or, bin_xor, bin_andNot, bin_eql, bin_neq, bin_lss, bin_leq, bin_gtr, bin_geq, bin_shl, bin_shr, bin_sadd, bin_seql, bin_sneq, un_not, un_neg, eqL_b, eqL_i, eqL_s, eqL_pnn, eqL_pns, eqL_psn, eqL_pp, eqL_slnn, eqL_slns, eqL_slsn, ex_callv, slB_e, slB_r, apB_e, lc_chain, lc_bad, putBK_s, lc_label, lc_goto, then_g, block_g, jump_g, jump_n, jump_r, jump_e, lf_seq, lf_label, eq_self, ite_true, ite_false, undef_eq, List.set_cons_zero, List.set_cons_succ, List.getD_cons_zero, List.getD_cons_succ, List.map_cons, List.map_nil, List.length_cons, List.length_nil, List.append_nil, List.cons_append, List.nil_append, List.replicate_succ, List.replicate_zero, Nat.reduceAdd, Nat.reduceSub, ↓reduceIte, List.getElem?_cons_zero, List.getElem?_cons_succ, basic, cellsL, resOf, setAt, List.append_assoc, List.length_append, List.getElem?_append_left, List.getElem?_append_right, List.set_append_left, List.set_append_right, below, belowB, belowA, atomB, List.mem_cons, List.not_mem_nil, forall_eq_or_imp, forall_eq, List.toList_toArray, implies_true, List.take_succ_cons, List.take_zero, List.drop_succ_cons, List.drop_zero, List.take_nil, List.drop_nil, Nat.reduceLeDiff, Nat.reduceMul, Int.reduceToNat, Int.reduceLT, Int.reduceLE, Int.reduceAdd, Int.reduceNeg, Int.reduceEq, splice, List.singleton_append, Nat.reduceEqDiff, Nat.reduceLT, isAtom, List.all_cons, List.all_nil, Option.map_some, Option.bind_some, List.length_set, Int.reduceSub, Int.reduceMul, List.getElem?_set_self, List.getElem?_set_ne]
      refine app_row (hre.frm0 Frm.refl.app) rfl (by simp; omega) ?_
      intro v M G' hM hfM hsM hG'
      simp only [List.length_append, List.length_cons, List.length_nil] at hM hG'
      simp (contextual := true) (implicitDefEqProofs := false) (maxSteps := 2000000) (disch := first | rfl | exact Nat.le_of_ble_eq_true rfl | omega | (simp only [List.length_append, List.length_cons, List.length_nil, List.length_set]; omega)) only [W1, W2, W3, W4, W5, W6, W7, W8, W9, W10, W11, W12, W13, W14, W15, eq_self, ite_true, ite_false, undef_eq, List.set_cons_zero, List.set_cons_succ, List.getD_cons_zero, List.getD_cons_succ, List.map_cons, List.map_nil, List.length_cons, List.length_nil, List.append_nil, List.cons_append, List.nil_append, List.replicate_succ, List.replicate_zero, Nat.reduceAdd, Nat.reduceSub, ↓reduceIte, List.getElem?_cons_zero, List.getElem?_cons_succ, basic, cellsL, resOf, setAt, List.append_assoc, List.length_append, List.getElem?_append_left, List.getElem?_append_right, List.set_append_left, List.set_append_right, below, belowB, belowA, atomB, List.mem_cons, List.not_mem_nil, forall_eq_or_imp, forall_eq, List.toList_toArray, implies_true, List.take_succ_cons, List.take_zero, List.drop_succ_cons, List.drop_zero, List.take_nil, List.drop_nil, Nat.reduceLeDiff, Nat.reduceMul, Int.reduceToNat, Int.reduceLT, Int.reduceLE, Int.reduceAdd, Int.reduceNeg, Int.reduceEq, splice, List.singleton_append, Nat.reduceEqDiff, Nat.reduceLT, isAtom, List.all_cons, List.all_nil, Option.map_some, Option.bind_some, List.length_set, Int.reduceSub, Int.reduceMul, List.getElem?_set_self, List.getElem?_set_ne]
      refine kInv_go ⟨k + 1, due, v, Gd, G', rfl, by omega, hfr.trans hfM.app_of fun x hx => .inr (hGr x hx), hfM.get (by rw [List.getElem?_append_left hclm]; exact hcm) fun hx => by have := hGr c hx; omega, ?_, ?_, hGd, fun x hx => ?_, fun x hx hx' => ?_, ⟨rfl, by simp [hw]⟩⟩ (by omega)
      · rw [take_snoc hy, List.filter_append]
        simpa [hyn, Tm.row] using (hdu.frm0 Frm.refl.app).frm hfM hdis
      · rw [take_snoc hy, List.filter_append]
        simpa [hyn, Tm.row] using hsM
      · have := hG' x hx; omega
      · have := hG' x hx'; have := hGdl x hx; omega
  · have hlt' : ((k : Int) < (W.length : Int)) = False := by simp; omega
    rw [List.take_of_length_le (by omega)] at hdu hre
    obtain ⟨a1, rfl, _⟩ := hdu.form
    obtain ⟨a2, rfl, _⟩ := hre.form
    simp only [List.length_map] at hre hdu ⊢
    have hcr : c ∉ Gr := fun hx => by have := hGr c hx; omega
    have hcd : c ∉ Gd := fun hx => by have := hGd c hx; omega
    simp (contextual := true) (implicitDefEqProofs := false) (maxSteps := 2000000) (disch := first | rfl | exact Nat.le_of_ble_eq_true rfl | omega | (simp only [List.length_append, List.length_cons, List.length_nil, List.length_set]; omega)) only [hlt', hcm, W1, W2, W3, W4, W5, W6, W7, W8, W9, W10, W11, W12, W13, W14, W15, eq_self, ite_true, ite_false, undef_eq, List.set_cons_zero, List.set_cons_succ, List.getD_cons_zero, List.getD_cons_succ, List.map_cons, List.map_nil, List.length_cons, List.length_nil, List.append_nil, List.cons_append, List.nil_append, List.replicate_succ, List.replicate_zero, Nat.reduceAdd, Nat.reduceSub, ↓reduceIte, List.getElem?_cons_zero, List.getElem?_cons_succ, basic, cellsL, resOf, setAt, List.append_assoc, List.length_append, List.getElem?_append_left, List.getElem?_append_right, List.set_append_left, List.set_append_right, below, belowB, belowA, atomB, List.mem_cons, List.not_mem_nil, forall_eq_or_imp, forall_eq, List.toList_toArray, implies_true, List.take_succ_cons, List.take_zero, List.drop_succ_cons, List.drop_zero, List.take_nil, List.drop_nil, Nat.reduceLeDiff, Nat.reduceMul, Int.reduceToNat, Int.reduceLT, Int.reduceLE, Int.reduceAdd, Int.reduceNeg, Int.reduceEq, splice, List.singleton_append, Nat.reduceEqDiff, Nat.reduceLT, isAtom, List.all_cons, List.all_nil, Option.map_some, Option.bind_some, List.length_set, Int.reduceSub, Int.reduceMul, List.getElem?_set_self, List.getElem?_set_ne]
    refine ⟨(hfr.mono fun x hx => by simp at hx; simp [hx]).set (by simp), c :: Gr, ⟨_, Gr, rfl, hcr, by rw [List.getElem?_set_self hclm], hre.setb hcr⟩, fun x hx => ?_, Gd, hdu.setb hcd, fun x hx => ⟨hGd x hx, fun hx' => ?_⟩⟩
    · rcases List.mem_cons.mp hx with rfl | hx
      · exact .inl (by simp)
      · exact .inr (hGr x hx)
    · rcases List.mem_cons.mp hx' with rfl | hx'
      · exact hcd hx
      · exact hdis x hx hx'
end Go.Proofs.Ytnimpbaakopniaa
