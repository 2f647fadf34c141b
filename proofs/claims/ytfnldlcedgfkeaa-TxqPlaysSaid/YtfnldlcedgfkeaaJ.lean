/- The document's queue: what is read of it, walked. -/
import Derived.Test.YtfnldlcedgfkeaaI
namespace Go.Proofs.Ytfnldlcedgfkeaa
open Go.Lg
set_option maxRecDepth 8000
set_option maxHeartbeats 8000000
set_option linter.unusedSimpArgs false
set_option linter.unnecessarySimpa false
set_option linter.unusedVariables false

/-- A class, a key, a frame. -/
structure RE where
  c : Int
  k : Int
  t : ByteArray
def RE.row (e : RE) : List Value := [.int .i64 e.c, .int .i64 e.k, .string e.t]
def RE.en (e : RE) : En := ⟨e.k, e.t⟩
def Rq (m : Mem) (w : Nat) (F : List Nat) (W : List RE) : Prop := ∃ sv G, F = w :: G ∧ w ∉ G ∧ m[w]? = some ⟨[sv], 83, 1, 0, .own⟩ ∧ Sl m 89 3 sv G (W.map RE.row)
theorem Rq.frm {m m' : Mem} {w : Nat} {F G : List Nat} {W : List RE} (h : Rq m w F W) (k : Frm G m m') (hd : ∀ x ∈ F, x ∉ G) : Rq m' w F W := by
  obtain ⟨sv, H, rfl, h1, h2, h3⟩ := h
  exact ⟨sv, H, rfl, h1, k.get h2 (hd _ (by simp)), h3.frm k fun x hx => hd x (by simp [hx])⟩
theorem Rq.lt {m : Mem} {w : Nat} {F : List Nat} {W : List RE} (h : Rq m w F W) : ∀ x ∈ F, x < m.length := by
  obtain ⟨sv, H, rfl, h1, h2, h3⟩ := h
  intro x hx
  rcases List.mem_cons.mp hx with rfl | hx
  · exact lt_of_some h2
  · exact h3.lt x hx
theorem Rq.store {m M : Mem} {w : Nat} {F G : List Nat} {W W' : List RE} {v : Value} (h : Rq m w F W) (hf : Frm [] m M) (hs : Sl M 89 3 v G (W'.map RE.row)) (hG : ∀ x ∈ G, m.length ≤ x ∨ x ∈ F ∧ x ≠ w) :
    Frm F m (M.set w ⟨[v], 83, 1, 0, .own⟩) ∧ Rq (M.set w ⟨[v], 83, 1, 0, .own⟩) w (w :: G) W' ∧ NwF m F (w :: G) := by
  obtain ⟨sv, H, rfl, h1, h2, h3⟩ := h
  have hl := lt_of_some h2
  have hlM := lt_of_some (hf.get0 h2)
  have hwG : w ∉ G := fun hx => by
    rcases hG w hx with h | h
    · omega
    · exact h.2 rfl
  refine ⟨(hf.of_nil).set (by simp), ⟨v, G, rfl, hwG, by rw [List.getElem?_set_self hlM], hs.setb hwG⟩, fun x hx => ?_⟩
  rcases List.mem_cons.mp hx with rfl | hx
  · exact .inl (by simp)
  · rcases hG x hx with h | h
    · exact .inr h
    · exact .inl h.1
def cntB (p : RE → Bool) (l : List RE) : Nat := l.countP p
theorem cntB_snoc {p : RE → Bool} {l : List RE} {j : Nat} {e : RE} (h : l[j]? = some e) : cntB p (l.take (j + 1)) = cntB p (l.take j) + if p e = true then 1 else 0 := by
  rw [cntB, take_snoc h, List.countP_append]
  simp [cntB, List.countP_cons]
theorem cntB_le {p : RE → Bool} {l : List RE} {j : Nat} : cntB p (l.take j) ≤ l.length := by
  have h1 : cntB p (l.take j) ≤ (l.take j).length := List.countP_le_length
  have h2 : (l.take j).length ≤ l.length := by simp; omega
  omega

theorem rcount_spec {m : Mem} {w : Nat} {F : List Nat} {W : List RE} (k : Int) (h : Rq m w F W) (hn : W.length ≤ 1000) :
    Ret Try.prog 46 [.pointer (some ⟨w, 0, none⟩), .int .i64 k] m (.int .i64 (cntB (fun e => decide (e.k = k)) W)) m := by
  obtain ⟨sv, G, rfl, hwG, hc, hsl⟩ := h
  have hcl := lt_of_some hc
  obtain ⟨a, rfl, hform⟩ := hsl.form
  simp only [List.length_map] at hsl hc hform
  refine LCall_drop (LCall_enter Try.func46 c46 ?_)
  simp (contextual := true) (implicitDefEqProofs := false) (maxSteps := 2000000) (disch := first | rfl | exact Nat.le_of_ble_eq_true rfl | omega | (simp only [List.length_append, List.length_cons, List.length_nil, List.length_set]; omega)) only [L46, W1, W2, W3, W4, W5, W6, W7, W8, W9, W10, W11, W12, W13, W14, W15, eq_self, ite_true, ite_false, undef_eq, List.set_cons_zero, List.set_cons_succ, List.getD_cons_zero, List.getD_cons_succ, List.map_cons, List.map_nil, List.length_cons, List.length_nil, List.append_nil, List.cons_append, List.nil_append, List.replicate_succ, List.replicate_zero, Nat.reduceAdd, Nat.reduceSub, ↓reduceIte, List.getElem?_cons_zero, List.getElem?_cons_succ, basic, cellsL, resOf, setAt, List.append_assoc, List.length_append, List.getElem?_append_left, List.getElem?_append_right, List.set_append_left, List.set_append_right, below, belowB, belowA, atomB, List.mem_cons, List.not_mem_nil, forall_eq_or_imp, forall_eq, List.toList_toArray, implies_true, List.take_succ_cons, List.take_zero, List.drop_succ_cons, List.drop_zero, List.take_nil, List.drop_nil, Nat.reduceLeDiff, Nat.reduceMul, Int.reduceToNat, Int.reduceLT, Int.reduceLE, Int.reduceAdd, Int.reduceNeg, Int.reduceEq, splice, List.singleton_append, Nat.reduceEqDiff, Nat.reduceLT, isAtom, List.all_cons, List.all_nil, Option.map_some, Option.bind_some, List.length_set, Int.reduceSub, Int.reduceMul, List.getElem?_set_self, List.getElem?_set_ne, ofB_2, tmpR_if, ro_sliceData, ro_capNil, ro_noZero, ext_2, ext_3, ext_4, ext_5, List.set_set]
  refine loop_inv (fun n t M => ∃ (i : Nat), n = W.length - i ∧ i ≤ W.length ∧ M = m ∧
    Tab 29 [(0, .pointer (some ⟨w, 0, none⟩)), (1, .int .i64 k), (5, .int .i64 (cntB (fun e => decide (e.k = k)) (W.take i))), (6, .int .i64 (i : Int))] t) (n := W.length) ?_ ?_
  · exact ⟨0, rfl, Nat.zero_le _, rfl, ⟨rfl, by simp [cntB]⟩⟩
  rintro n t m ⟨i, rfl, hi, rfl, ht⟩
  obtain ⟨g, rfl⟩ : ∃ f' : Nat → Value, t = [.pointer (some ⟨w, 0, none⟩), .int .i64 k, f' 2, f' 3, f' 4, .int .i64 (cntB (fun e => decide (e.k = k)) (W.take i)), .int .i64 (i : Int), f' 7, f' 8, f' 9, f' 10, f' 11, f' 12, f' 13, f' 14, f' 15, f' 16, f' 17, f' 18, f' 19, f' 20, f' 21, f' 22, f' 23, f' 24, f' 25, f' 26, f' 27, f' 28] := ht.open fun f' => rfl
  by_cases hlt : i < W.length
  · have hlt' : ((i : Int) < (W.length : Int)) = True := by simp [hlt]
    have h0' : ((0 : Int) ≤ (i : Int)) = True := by simp
    have hwi : IntKind.i64.wrap ((i : Int) + 1) = ((i + 1 : Nat) : Int) := by rw [wrap_i64 (by omega) (by omega)]; omega
    obtain ⟨b, o, cs, rfl, rfl, hb, hl, hcc, hrow⟩ := hform (by omega)
    obtain ⟨e, he⟩ : ∃ r, W[i]? = some r := ⟨_, List.getElem?_eq_getElem hlt⟩
    have hx : cs[o + i * 3 + 1]? = some (.int .i64 e.k) := by
      have := row_cell (hrow i e.row (by simp [he])) (j := 1) (by omega)
      simpa [RE.row] using this
    have hsn := cntB_snoc (p := fun e => decide (e.k = k)) he
    have hle := cntB_le (p := fun e => decide (e.k = k)) (l := W) (j := i)
    generalize hy : cntB (fun e => decide (e.k = k)) (W.take i) = y at hsn hle ⊢
    have hwy : IntKind.i64.wrap ((y : Int) + 1) = ((y + 1 : Nat) : Int) := by rw [wrap_i64 (by omega) (by omega)]; omega
    by_cases hk : e.k = k
    · rw [if_pos (by simpa using hk)] at hsn
      simp (contextual := true) (implicitDefEqProofs := false) (maxSteps := 2000000) (disch := first | rfl | exact Nat.le_of_ble_eq_true rfl | omega | (simp only [List.length_append, List.length_cons, List.length_nil, List.length_set]; omega)) only [hc, hlt', h0', hb, hx, hk, hwy, Int.toNat_natCast, W1, W2, W3, W4, W5, W6, W7, W8, W9, W10, W11, W12, W13, W14, W15, eq_self, ite_true, ite_false, undef_eq, List.set_cons_zero, List.set_cons_succ, List.getD_cons_zero, List.getD_cons_succ, List.map_cons, List.map_nil, List.length_cons, List.length_nil, List.append_nil, List.cons_append, List.nil_append, List.replicate_succ, List.replicate_zero, Nat.reduceAdd, Nat.reduceSub, ↓reduceIte, List.getElem?_cons_zero, List.getElem?_cons_succ, basic, cellsL, resOf, setAt, List.append_assoc, List.length_append, List.getElem?_append_left, List.getElem?_append_right, List.set_append_left, List.set_append_right, below, belowB, belowA, atomB, List.mem_cons, List.not_mem_nil, forall_eq_or_imp, forall_eq, List.toList_toArray, implies_true, List.take_succ_cons, List.take_zero, List.drop_succ_cons, List.drop_zero, List.take_nil, List.drop_nil, Nat.reduceLeDiff, Nat.reduceMul, Int.reduceToNat, Int.reduceLT, Int.reduceLE, Int.reduceAdd, Int.reduceNeg, Int.reduceEq, splice, List.singleton_append, Nat.reduceEqDiff, Nat.reduceLT, isAtom, List.all_cons, List.all_nil, Option.map_some, Option.bind_some, List.length_set, Int.reduceSub, Int.reduceMul, List.getElem?_set_self, List.getElem?_set_ne, ofB_2, tmpR_if, ro_sliceData, ro_capNil, ro_noZero, ext_2, ext_3, ext_4, ext_5, List.set_set]
      exact kInv_go ⟨i + 1, rfl, by omega, rfl, ⟨rfl, by simp [hwi, hsn]⟩⟩ (by omega)
    · rw [if_neg (by simpa using hk)] at hsn
      simp (contextual := true) (implicitDefEqProofs := false) (maxSteps := 2000000) (disch := first | rfl | exact Nat.le_of_ble_eq_true rfl | omega | (simp only [List.length_append, List.length_cons, List.length_nil, List.length_set]; omega)) only [hc, hlt', h0', hb, hx, hk, Int.toNat_natCast, W1, W2, W3, W4, W5, W6, W7, W8, W9, W10, W11, W12, W13, W14, W15, eq_self, ite_true, ite_false, undef_eq, List.set_cons_zero, List.set_cons_succ, List.getD_cons_zero, List.getD_cons_succ, List.map_cons, List.map_nil, List.length_cons, List.length_nil, List.append_nil, List.cons_append, List.nil_append, List.replicate_succ, List.replicate_zero, Nat.reduceAdd, Nat.reduceSub, ↓reduceIte, List.getElem?_cons_zero, List.getElem?_cons_succ, basic, cellsL, resOf, setAt, List.append_assoc, List.length_append, List.getElem?_append_left, List.getElem?_append_right, List.set_append_left, List.set_append_right, below, belowB, belowA, atomB, List.mem_cons, List.not_mem_nil, forall_eq_or_imp, forall_eq, List.toList_toArray, implies_true, List.take_succ_cons, List.take_zero, List.drop_succ_cons, List.drop_zero, List.take_nil, List.drop_nil, Nat.reduceLeDiff, Nat.reduceMul, Int.reduceToNat, Int.reduceLT, Int.reduceLE, Int.reduceAdd, Int.reduceNeg, Int.reduceEq, splice, List.singleton_append, Nat.reduceEqDiff, Nat.reduceLT, isAtom, List.all_cons, List.all_nil, Option.map_some, Option.bind_some, List.length_set, Int.reduceSub, Int.reduceMul, List.getElem?_set_self, List.getElem?_set_ne, ofB_2, tmpR_if, ro_sliceData, ro_capNil, ro_noZero, ext_2, ext_3, ext_4, ext_5, List.set_set]
      exact kInv_go ⟨i + 1, rfl, by omega, rfl, ⟨rfl, by simp [hwi, hsn]⟩⟩ (by omega)
  · have hlt' : ((i : Int) < (W.length : Int)) = False := by simp; omega
    simp (contextual := true) (implicitDefEqProofs := false) (maxSteps := 2000000) (disch := first | rfl | exact Nat.le_of_ble_eq_true rfl | omega | (simp only [List.length_append, List.length_cons, List.length_nil, List.length_set]; omega)) only [hc, hlt', W1, W2, W3, W4, W5, W6, W7, W8, W9, W10, W11, W12, W13, W14, W15, eq_self, ite_true, ite_false, undef_eq, List.set_cons_zero, List.set_cons_succ, List.getD_cons_zero, List.getD_cons_succ, List.map_cons, List.map_nil, List.length_cons, List.length_nil, List.append_nil, List.cons_append, List.nil_append, List.replicate_succ, List.replicate_zero, Nat.reduceAdd, Nat.reduceSub, ↓reduceIte, List.getElem?_cons_zero, List.getElem?_cons_succ, basic, cellsL, resOf, setAt, List.append_assoc, List.length_append, List.getElem?_append_left, List.getElem?_append_right, List.set_append_left, List.set_append_right, below, belowB, belowA, atomB, List.mem_cons, List.not_mem_nil, forall_eq_or_imp, forall_eq, List.toList_toArray, implies_true, List.take_succ_cons, List.take_zero, List.drop_succ_cons, List.drop_zero, List.take_nil, List.drop_nil, Nat.reduceLeDiff, Nat.reduceMul, Int.reduceToNat, Int.reduceLT, Int.reduceLE, Int.reduceAdd, Int.reduceNeg, Int.reduceEq, splice, List.singleton_append, Nat.reduceEqDiff, Nat.reduceLT, isAtom, List.all_cons, List.all_nil, Option.map_some, Option.bind_some, List.length_set, Int.reduceSub, Int.reduceMul, List.getElem?_set_self, List.getElem?_set_ne, ofB_2, tmpR_if, ro_sliceData, ro_capNil, ro_noZero, ext_2, ext_3, ext_4, ext_5, List.set_set]
    rw [List.take_of_length_le (by omega)]

theorem rof_spec {m : Mem} {w : Nat} {F : List Nat} {W : List RE} (k : Int) (h : Rq m w F W) (hn : W.length ≤ 1000) :
    Ret Try.prog 48 [.pointer (some ⟨w, 0, none⟩), .int .i64 k] m (.int .i64 (cntB (fun e => decide (e.c = k)) W)) m := by
  obtain ⟨sv, G, rfl, hwG, hc, hsl⟩ := h
  have hcl := lt_of_some hc
  obtain ⟨a, rfl, hform⟩ := hsl.form
  simp only [List.length_map] at hsl hc hform
  refine LCall_drop (LCall_enter Try.func48 c48 ?_)
  simp (contextual := true) (implicitDefEqProofs := false) (maxSteps := 2000000) (disch := first | rfl | exact Nat.le_of_ble_eq_true rfl | omega | (simp only [List.length_append, List.length_cons, List.length_nil, List.length_set]; omega)) only [L48, W1, W2, W3, W4, W5, W6, W7, W8, W9, W10, W11, W12, W13, W14, W15, eq_self, ite_true, ite_false, undef_eq, List.set_cons_zero, List.set_cons_succ, List.getD_cons_zero, List.getD_cons_succ, List.map_cons, List.map_nil, List.length_cons, List.length_nil, List.append_nil, List.cons_append, List.nil_append, List.replicate_succ, List.replicate_zero, Nat.reduceAdd, Nat.reduceSub, ↓reduceIte, List.getElem?_cons_zero, List.getElem?_cons_succ, basic, cellsL, resOf, setAt, List.append_assoc, List.length_append, List.getElem?_append_left, List.getElem?_append_right, List.set_append_left, List.set_append_right, below, belowB, belowA, atomB, List.mem_cons, List.not_mem_nil, forall_eq_or_imp, forall_eq, List.toList_toArray, implies_true, List.take_succ_cons, List.take_zero, List.drop_succ_cons, List.drop_zero, List.take_nil, List.drop_nil, Nat.reduceLeDiff, Nat.reduceMul, Int.reduceToNat, Int.reduceLT, Int.reduceLE, Int.reduceAdd, Int.reduceNeg, Int.reduceEq, splice, List.singleton_append, Nat.reduceEqDiff, Nat.reduceLT, isAtom, List.all_cons, List.all_nil, Option.map_some, Option.bind_some, List.length_set, Int.reduceSub, Int.reduceMul, List.getElem?_set_self, List.getElem?_set_ne, ofB_2, tmpR_if, ro_sliceData, ro_capNil, ro_noZero, ext_2, ext_3, ext_4, ext_5, List.set_set]
  refine loop_inv (fun n t M => ∃ (i : Nat), n = W.length - i ∧ i ≤ W.length ∧ M = m ∧
    Tab 29 [(0, .pointer (some ⟨w, 0, none⟩)), (1, .int .i64 k), (5, .int .i64 (cntB (fun e => decide (e.c = k)) (W.take i))), (6, .int .i64 (i : Int))] t) (n := W.length) ?_ ?_
  · exact ⟨0, rfl, Nat.zero_le _, rfl, ⟨rfl, by simp [cntB]⟩⟩
  rintro n t m ⟨i, rfl, hi, rfl, ht⟩
  obtain ⟨g, rfl⟩ : ∃ f' : Nat → Value, t = [.pointer (some ⟨w, 0, none⟩), .int .i64 k, f' 2, f' 3, f' 4, .int .i64 (cntB (fun e => decide (e.c = k)) (W.take i)), .int .i64 (i : Int), f' 7, f' 8, f' 9, f' 10, f' 11, f' 12, f' 13, f' 14, f' 15, f' 16, f' 17, f' 18, f' 19, f' 20, f' 21, f' 22, f' 23, f' 24, f' 25, f' 26, f' 27, f' 28] := ht.open fun f' => rfl
  by_cases hlt : i < W.length
  · have hlt' : ((i : Int) < (W.length : Int)) = True := by simp [hlt]
    have h0' : ((0 : Int) ≤ (i : Int)) = True := by simp
    have hwi : IntKind.i64.wrap ((i : Int) + 1) = ((i + 1 : Nat) : Int) := by rw [wrap_i64 (by omega) (by omega)]; omega
    obtain ⟨b, o, cs, rfl, rfl, hb, hl, hcc, hrow⟩ := hform (by omega)
    obtain ⟨e, he⟩ : ∃ r, W[i]? = some r := ⟨_, List.getElem?_eq_getElem hlt⟩
    have hx : cs[o + i * 3]? = some (.int .i64 e.c) := by
      have := row_cell (hrow i e.row (by simp [he])) (j := 0) (by omega)
      simpa [RE.row] using this
    have hsn := cntB_snoc (p := fun e => decide (e.c = k)) he
    have hle := cntB_le (p := fun e => decide (e.c = k)) (l := W) (j := i)
    generalize hy : cntB (fun e => decide (e.c = k)) (W.take i) = y at hsn hle ⊢
    have hwy : IntKind.i64.wrap ((y : Int) + 1) = ((y + 1 : Nat) : Int) := by rw [wrap_i64 (by omega) (by omega)]; omega
    by_cases hk : e.c = k
    · rw [if_pos (by simpa using hk)] at hsn
      simp (contextual := true) (implicitDefEqProofs := false) (maxSteps := 2000000) (disch := first | rfl | exact Nat.le_of_ble_eq_true rfl | omega | (simp only [List.length_append, List.length_cons, List.length_nil, List.length_set]; omega)) only [hc, hlt', h0', hb, hx, hk, hwy, Int.toNat_natCast, W1, W2, W3, W4, W5, W6, W7, W8, W9, W10, W11, W12, W13, W14, W15, eq_self, ite_true, ite_false, undef_eq, List.set_cons_zero, List.set_cons_succ, List.getD_cons_zero, List.getD_cons_succ, List.map_cons, List.map_nil, List.length_cons, List.length_nil, List.append_nil, List.cons_append, List.nil_append, List.replicate_succ, List.replicate_zero, Nat.reduceAdd, Nat.reduceSub, ↓reduceIte, List.getElem?_cons_zero, List.getElem?_cons_succ, basic, cellsL, resOf, setAt, List.append_assoc, List.length_append, List.getElem?_append_left, List.getElem?_append_right, List.set_append_left, List.set_append_right, below, belowB, belowA, atomB, List.mem_cons, List.not_mem_nil, forall_eq_or_imp, forall_eq, List.toList_toArray, implies_true, List.take_succ_cons, List.take_zero, List.drop_succ_cons, List.drop_zero, List.take_nil, List.drop_nil, Nat.reduceLeDiff, Nat.reduceMul, Int.reduceToNat, Int.reduceLT, Int.reduceLE, Int.reduceAdd, Int.reduceNeg, Int.reduceEq, splice, List.singleton_append, Nat.reduceEqDiff, Nat.reduceLT, isAtom, List.all_cons, List.all_nil, Option.map_some, Option.bind_some, List.length_set, Int.reduceSub, Int.reduceMul, List.getElem?_set_self, List.getElem?_set_ne, ofB_2, tmpR_if, ro_sliceData, ro_capNil, ro_noZero, ext_2, ext_3, ext_4, ext_5, List.set_set]
      exact kInv_go ⟨i + 1, rfl, by omega, rfl, ⟨rfl, by simp [hwi, hsn]⟩⟩ (by omega)
    · rw [if_neg (by simpa using hk)] at hsn
      simp (contextual := true) (implicitDefEqProofs := false) (maxSteps := 2000000) (disch := first | rfl | exact Nat.le_of_ble_eq_true rfl | omega | (simp only [List.length_append, List.length_cons, List.length_nil, List.length_set]; omega)) only [hc, hlt', h0', hb, hx, hk, Int.toNat_natCast, W1, W2, W3, W4, W5, W6, W7, W8, W9, W10, W11, W12, W13, W14, W15, eq_self, ite_true, ite_false, undef_eq, List.set_cons_zero, List.set_cons_succ, List.getD_cons_zero, List.getD_cons_succ, List.map_cons, List.map_nil, List.length_cons, List.length_nil, List.append_nil, List.cons_append, List.nil_append, List.replicate_succ, List.replicate_zero, Nat.reduceAdd, Nat.reduceSub, ↓reduceIte, List.getElem?_cons_zero, List.getElem?_cons_succ, basic, cellsL, resOf, setAt, List.append_assoc, List.length_append, List.getElem?_append_left, List.getElem?_append_right, List.set_append_left, List.set_append_right, below, belowB, belowA, atomB, List.mem_cons, List.not_mem_nil, forall_eq_or_imp, forall_eq, List.toList_toArray, implies_true, List.take_succ_cons, List.take_zero, List.drop_succ_cons, List.drop_zero, List.take_nil, List.drop_nil, Nat.reduceLeDiff, Nat.reduceMul, Int.reduceToNat, Int.reduceLT, Int.reduceLE, Int.reduceAdd, Int.reduceNeg, Int.reduceEq, splice, List.singleton_append, Nat.reduceEqDiff, Nat.reduceLT, isAtom, List.all_cons, List.all_nil, Option.map_some, Option.bind_some, List.length_set, Int.reduceSub, Int.reduceMul, List.getElem?_set_self, List.getElem?_set_ne, ofB_2, tmpR_if, ro_sliceData, ro_capNil, ro_noZero, ext_2, ext_3, ext_4, ext_5, List.set_set]
      exact kInv_go ⟨i + 1, rfl, by omega, rfl, ⟨rfl, by simp [hwi, hsn]⟩⟩ (by omega)
  · have hlt' : ((i : Int) < (W.length : Int)) = False := by simp; omega
    simp (contextual := true) (implicitDefEqProofs := false) (maxSteps := 2000000) (disch := first | rfl | exact Nat.le_of_ble_eq_true rfl | omega | (simp only [List.length_append, List.length_cons, List.length_nil, List.length_set]; omega)) only [hc, hlt', W1, W2, W3, W4, W5, W6, W7, W8, W9, W10, W11, W12, W13, W14, W15, eq_self, ite_true, ite_false, undef_eq, List.set_cons_zero, List.set_cons_succ, List.getD_cons_zero, List.getD_cons_succ, List.map_cons, List.map_nil, List.length_cons, List.length_nil, List.append_nil, List.cons_append, List.nil_append, List.replicate_succ, List.replicate_zero, Nat.reduceAdd, Nat.reduceSub, ↓reduceIte, List.getElem?_cons_zero, List.getElem?_cons_succ, basic, cellsL, resOf, setAt, List.append_assoc, List.length_append, List.getElem?_append_left, List.getElem?_append_right, List.set_append_left, List.set_append_right, below, belowB, belowA, atomB, List.mem_cons, List.not_mem_nil, forall_eq_or_imp, forall_eq, List.toList_toArray, implies_true, List.take_succ_cons, List.take_zero, List.drop_succ_cons, List.drop_zero, List.take_nil, List.drop_nil, Nat.reduceLeDiff, Nat.reduceMul, Int.reduceToNat, Int.reduceLT, Int.reduceLE, Int.reduceAdd, Int.reduceNeg, Int.reduceEq, splice, List.singleton_append, Nat.reduceEqDiff, Nat.reduceLT, isAtom, List.all_cons, List.all_nil, Option.map_some, Option.bind_some, List.length_set, Int.reduceSub, Int.reduceMul, List.getElem?_set_self, List.getElem?_set_ne, ofB_2, tmpR_if, ro_sliceData, ro_capNil, ro_noZero, ext_2, ext_3, ext_4, ext_5, List.set_set]
    rw [List.take_of_length_le (by omega)]

def isC (c : Int) (e : RE) : Bool := decide (e.c = c)
def preS (W : List RE) (c : Nat) : List RE := ((List.range c).map fun (d : Nat) => W.filter (isC (d : Int))).flatten
def sortW (W : List RE) : List RE := preS W 3
theorem preS_succ (W : List RE) (c : Nat) : preS W (c + 1) = preS W c ++ W.filter (isC (c : Int)) := by
  simp [preS, List.range_succ]
theorem preS_le {W : List RE} : ∀ {c : Nat}, (preS W c).length ≤ W.length * c
  | 0 => by simp [preS]
  | c + 1 => by
    have h1 := preS_le (W := W) (c := c)
    have h2 := List.length_filter_le (isC (c : Int)) W
    rw [preS_succ, List.length_append, Nat.mul_add]; omega
theorem filter_snoc {α : Type} {p : α → Bool} {l : List α} {j : Nat} {e : α} (h : l[j]? = some e) : (l.take (j + 1)).filter p = (l.take j).filter p ++ if p e = true then [e] else [] := by
  rw [take_snoc h, List.filter_append]
  by_cases hp : p e = true
  · simp [hp]
  · simp [hp]

theorem sorted_spec {m : Mem} {w : Nat} {F : List Nat} {W : List RE} (h : Rq m w F W) (hn : W.length ≤ 1000) :
    LCall Try.prog 44 [.pointer (some ⟨w, 0, none⟩)] m fun v M => Frm [] m M ∧ ∃ G, Sl M 89 3 v G ((sortW W).map RE.row) ∧ ∀ x ∈ G, m.length ≤ x := by
  obtain ⟨sv, G0, rfl, hwG, hc0, hsl⟩ := h
  have hcl := lt_of_some hc0
  obtain ⟨a, rfl, hform⟩ := hsl.form
  simp only [List.length_map] at hsl hc0 hform
  refine LCall_enter Try.func44 c44 ?_
  simp (contextual := true) (implicitDefEqProofs := false) (maxSteps := 2000000) (disch := first | rfl | exact Nat.le_of_ble_eq_true rfl | omega | (simp only [List.length_append, List.length_cons, List.length_nil, List.length_set]; omega)) only [L44, W1, W2, W3, W4, W5, W6, W7, W8, W9, W10, W11, W12, W13, W14, W15, eq_self, ite_true, ite_false, undef_eq, List.set_cons_zero, List.set_cons_succ, List.getD_cons_zero, List.getD_cons_succ, List.map_cons, List.map_nil, List.length_cons, List.length_nil, List.append_nil, List.cons_append, List.nil_append, List.replicate_succ, List.replicate_zero, Nat.reduceAdd, Nat.reduceSub, ↓reduceIte, List.getElem?_cons_zero, List.getElem?_cons_succ, basic, cellsL, resOf, setAt, List.append_assoc, List.length_append, List.getElem?_append_left, List.getElem?_append_right, List.set_append_left, List.set_append_right, below, belowB, belowA, atomB, List.mem_cons, List.not_mem_nil, forall_eq_or_imp, forall_eq, List.toList_toArray, implies_true, List.take_succ_cons, List.take_zero, List.drop_succ_cons, List.drop_zero, List.take_nil, List.drop_nil, Nat.reduceLeDiff, Nat.reduceMul, Int.reduceToNat, Int.reduceLT, Int.reduceLE, Int.reduceAdd, Int.reduceNeg, Int.reduceEq, splice, List.singleton_append, Nat.reduceEqDiff, Nat.reduceLT, isAtom, List.all_cons, List.all_nil, Option.map_some, Option.bind_some, List.length_set, Int.reduceSub, Int.reduceMul, List.getElem?_set_self, List.getElem?_set_ne, ofB_2, tmpR_if, ro_sliceData, ro_capNil, ro_noZero, ext_2, ext_3, ext_4, ext_5, List.set_set]
  refine loop_inv (fun n t M => ∃ (c : Nat) (v : Value) (H : List Nat), n = 3 - c ∧ c ≤ 3 ∧ Frm [] m M ∧ Sl M 89 3 v H ((preS W c).map RE.row) ∧ (∀ x ∈ H, m.length ≤ x) ∧
    Tab 41 [(0, .pointer (some ⟨w, 0, none⟩)), (3, v), (4, .int .i64 (c : Int))] t) (n := 3) ?_ ?_
  · exact ⟨0, .slice (some ⟨m.length, 0, none⟩) 0 0, [m.length], rfl, by omega, Frm.refl.app, Sl.make (n := 0) (b := m.length) (cs := []) (by simp) (by simp [preS]) (by simp [preS]) (by simp [preS]), by simp, ⟨rfl, by simp⟩⟩
  rintro n t M ⟨c, v, H, rfl, hc, hf, hv, hH, ht⟩
  obtain ⟨g, rfl⟩ : ∃ f' : Nat → Value, t = [.pointer (some ⟨w, 0, none⟩), f' 1, f' 2, v, .int .i64 (c : Int), f' 5, f' 6, f' 7, f' 8, f' 9, f' 10, f' 11, f' 12, f' 13, f' 14, f' 15, f' 16, f' 17, f' 18, f' 19, f' 20, f' 21, f' 22, f' 23, f' 24, f' 25, f' 26, f' 27, f' 28, f' 29, f' 30, f' 31, f' 32, f' 33, f' 34, f' 35, f' 36, f' 37, f' 38, f' 39, f' 40] := ht.open fun f' => rfl
  by_cases hlt : c < 3
  · have hlt' : ((c : Int) < 3) = True := eq_true (by omega)
    have hwc : IntKind.i64.wrap ((c : Int) + 1) = ((c + 1 : Nat) : Int) := by rw [wrap_i64 (by omega) (by omega)]; omega
    simp (contextual := true) (implicitDefEqProofs := false) (maxSteps := 2000000) (disch := first | rfl | exact Nat.le_of_ble_eq_true rfl | omega | (simp only [List.length_append, List.length_cons, List.length_nil, List.length_set]; omega)) only [hlt', W1, W2, W3, W4, W5, W6, W7, W8, W9, W10, W11, W12, W13, W14, W15, eq_self, ite_true, ite_false, undef_eq, List.set_cons_zero, List.set_cons_succ, List.getD_cons_zero, List.getD_cons_succ, List.map_cons, List.map_nil, List.length_cons, List.length_nil, List.append_nil, List.cons_append, List.nil_append, List.replicate_succ, List.replicate_zero, Nat.reduceAdd, Nat.reduceSub, ↓reduceIte, List.getElem?_cons_zero, List.getElem?_cons_succ, basic, cellsL, resOf, setAt, List.append_assoc, List.length_append, List.getElem?_append_left, List.getElem?_append_right, List.set_append_left, List.set_append_right, below, belowB, belowA, atomB, List.mem_cons, List.not_mem_nil, forall_eq_or_imp, forall_eq, List.toList_toArray, implies_true, List.take_succ_cons, List.take_zero, List.drop_succ_cons, List.drop_zero, List.take_nil, List.drop_nil, Nat.reduceLeDiff, Nat.reduceMul, Int.reduceToNat, Int.reduceLT, Int.reduceLE, Int.reduceAdd, Int.reduceNeg, Int.reduceEq, splice, List.singleton_append, Nat.reduceEqDiff, Nat.reduceLT, isAtom, List.all_cons, List.all_nil, Option.map_some, Option.bind_some, List.length_set, Int.reduceSub, Int.reduceMul, List.getElem?_set_self, List.getElem?_set_ne, ofB_2, tmpR_if, ro_sliceData, ro_capNil, ro_noZero, ext_2, ext_3, ext_4, ext_5, List.set_set]
    refine loop_inv (fun n t M => ∃ (i : Nat) (v : Value) (H : List Nat), n = W.length - i ∧ i ≤ W.length ∧ Frm [] m M ∧ Sl M 89 3 v H ((preS W c ++ (W.take i).filter (isC (c : Int))).map RE.row) ∧ (∀ x ∈ H, m.length ≤ x) ∧
      Tab 41 [(0, .pointer (some ⟨w, 0, none⟩)), (3, v), (4, .int .i64 (c : Int)), (5, .int .i64 (i : Int))] t) (n := W.length) ?_ ?_
    · exact ⟨0, v, H, rfl, Nat.zero_le _, hf, by simpa using hv, hH, ⟨rfl, by simp⟩⟩
    clear hf hv hH ht
    rintro n t M ⟨i, v, H, rfl, hi, hf, hv, hH, ht⟩
    obtain ⟨g, rfl⟩ : ∃ f' : Nat → Value, t = [.pointer (some ⟨w, 0, none⟩), f' 1, f' 2, v, .int .i64 (c : Int), .int .i64 (i : Int), f' 6, f' 7, f' 8, f' 9, f' 10, f' 11, f' 12, f' 13, f' 14, f' 15, f' 16, f' 17, f' 18, f' 19, f' 20, f' 21, f' 22, f' 23, f' 24, f' 25, f' 26, f' 27, f' 28, f' 29, f' 30, f' 31, f' 32, f' 33, f' 34, f' 35, f' 36, f' 37, f' 38, f' 39, f' 40] := ht.open fun f' => rfl
    have hcM := hf.get0 hc0
    by_cases hlj : i < W.length
    · have hlj' : ((i : Int) < (W.length : Int)) = True := by simp [hlj]
      have h0j : ((0 : Int) ≤ (i : Int)) = True := by simp
      have hwi : IntKind.i64.wrap ((i : Int) + 1) = ((i + 1 : Nat) : Int) := by rw [wrap_i64 (by omega) (by omega)]; omega
      obtain ⟨b, o, cs, rfl, rfl, hb, hl, hcc, hrow⟩ := hform (by omega)
      obtain ⟨e, he⟩ : ∃ r, W[i]? = some r := ⟨_, List.getElem?_eq_getElem hlj⟩
      have hx : cs[o + i * 3]? = some (.int .i64 e.c) := by
        have := row_cell (hrow i e.row (by simp [he])) (j := 0) (by omega)
        simpa [RE.row] using this
      have hpart : List.take 3 (List.drop (o + i * 3) cs) = [.int .i64 e.c, .int .i64 e.k, .string e.t] := hrow i e.row (by simp [he])
      have hbM := hf.get0 hb
      have hsn := filter_snoc (p := isC (c : Int)) he
      have hml := hf.len
      have hp1 := preS_le (W := W) (c := c)
      have hp2 := List.length_filter_le (isC (c : Int)) (W.take i)
      have hp3 : (W.take i).length ≤ W.length := by simp; omega
      have hp4 : W.length * c ≤ 1000 * 3 := Nat.mul_le_mul hn (by omega)
      by_cases hk : e.c = (c : Int)
      · rw [if_pos (by simpa [isC] using hk)] at hsn
        simp (contextual := true) (implicitDefEqProofs := false) (maxSteps := 2000000) (disch := first | rfl | exact Nat.le_of_ble_eq_true rfl | omega | (simp only [List.length_append, List.length_cons, List.length_nil, List.length_set]; omega)) only [hcM, hlj', h0j, hbM, hx, hk, hpart, Int.toNat_natCast, W1, W2, W3, W4, W5, W6, W7, W8, W9, W10, W11, ops_nil, ops_n, ops_g, guardK_it, guardK_if, guardK_u, CondP_t, CondP_f, ex_call, pickK_it, loadK_p, loadNK_p, storeB_s, cellB_s, cellB_r, cellsB_s, cellsB_r, condK_it, lc_skip, lc_region, lc_draw, lc_seq, lc_cond, lc_block, lc_exit, lc_ret, then_n, then_e, then_r, block_n, block_r, block_e, bin_add, bin_sub, bin_mul, bin_quo, bin_rem, bin_and, bin_or, bin_xor, bin_andNot, bin_eql, bin_neq, bin_lss, bin_leq, bin_gtr, bin_geq, bin_shl, bin_shr, bin_sadd, bin_seql, bin_sneq, un_not, un_neg, eqL_b, eqL_i, eqL_s, eqL_pnn, eqL_pns, eqL_psn, eqL_pp, eqL_slnn, eqL_slns, eqL_slsn, ex_callv, slB_e, slB_r, apB_e, lc_chain, lc_bad, putBK_s, lc_label, lc_goto, then_g, block_g, jump_g, jump_n, jump_r, jump_e, lf_seq, lf_label, eq_self, ite_true, ite_false, undef_eq, List.set_cons_zero, List.set_cons_succ, List.getD_cons_zero, List.getD_cons_succ, List.map_cons, List.map_nil, List.length_cons, List.length_nil, List.append_nil, List.cons_append, List.nil_append, List.replicate_succ, List.replicate_zero, Nat.reduceAdd, Nat.reduceSub, ↓reduceIte, List.getElem?_cons_zero, List.getElem?_cons_succ, basic, cellsL, resOf, setAt, List.append_assoc, List.length_append, List.getElem?_append_left, List.getElem?_append_right, List.set_append_left, List.set_append_right, below, belowB, belowA, atomB, List.mem_cons, List.not_mem_nil, forall_eq_or_imp, forall_eq, List.toList_toArray, implies_true, List.take_succ_cons, List.take_zero, List.drop_succ_cons, List.drop_zero, List.take_nil, List.drop_nil, Nat.reduceLeDiff, Nat.reduceMul, Int.reduceToNat, Int.reduceLT, Int.reduceLE, Int.reduceAdd, Int.reduceNeg, Int.reduceEq, splice, List.singleton_append, Nat.reduceEqDiff, Nat.reduceLT, isAtom, List.all_cons, List.all_nil, Option.map_some, Option.bind_some, List.length_set, Int.reduceSub, Int.reduceMul, List.getElem?_set_self, List.getElem?_set_ne, ofB_2, tmpR_if, ro_sliceData, ro_capNil, ro_noZero, ext_2, ext_3, ext_4, ext_5, List.set_set]
        refine app_row (bytes := 32) (hv.frm0 Frm.refl.app) rfl (by simp; omega) ?_
        intro v2 M2 G2 hM hf2 hs2 hG2
        simp only [List.length_append, List.length_cons, List.length_nil] at hM hG2
        simp (contextual := true) (implicitDefEqProofs := false) (maxSteps := 2000000) (disch := first | rfl | exact Nat.le_of_ble_eq_true rfl | omega | (simp only [List.length_append, List.length_cons, List.length_nil, List.length_set]; omega)) only [W1, W2, W3, W4, W5, W6, W7, W8, W9, W10, W11, W12, W13, W14, W15, eq_self, ite_true, ite_false, undef_eq, List.set_cons_zero, List.set_cons_succ, List.getD_cons_zero, List.getD_cons_succ, List.map_cons, List.map_nil, List.length_cons, List.length_nil, List.append_nil, List.cons_append, List.nil_append, List.replicate_succ, List.replicate_zero, Nat.reduceAdd, Nat.reduceSub, ↓reduceIte, List.getElem?_cons_zero, List.getElem?_cons_succ, basic, cellsL, resOf, setAt, List.append_assoc, List.length_append, List.getElem?_append_left, List.getElem?_append_right, List.set_append_left, List.set_append_right, below, belowB, belowA, atomB, List.mem_cons, List.not_mem_nil, forall_eq_or_imp, forall_eq, List.toList_toArray, implies_true, List.take_succ_cons, List.take_zero, List.drop_succ_cons, List.drop_zero, List.take_nil, List.drop_nil, Nat.reduceLeDiff, Nat.reduceMul, Int.reduceToNat, Int.reduceLT, Int.reduceLE, Int.reduceAdd, Int.reduceNeg, Int.reduceEq, splice, List.singleton_append, Nat.reduceEqDiff, Nat.reduceLT, isAtom, List.all_cons, List.all_nil, Option.map_some, Option.bind_some, List.length_set, Int.reduceSub, Int.reduceMul, List.getElem?_set_self, List.getElem?_set_ne, ofB_2, tmpR_if, ro_sliceData, ro_capNil, ro_noZero, ext_2, ext_3, ext_4, ext_5, List.set_set]
        refine kInv_go ⟨i + 1, v2, G2, rfl, by omega, hf.trans hf2.app_of fun x hx => .inr (hH x hx), ?_, fun x hx => by have := hG2 x hx; omega, ⟨rfl, by simp [hwi]⟩⟩ (by omega)
        rw [hsn, ← List.append_assoc, List.map_append]
        simpa [RE.row, hk] using hs2
      · rw [if_neg (by simpa [isC] using hk), List.append_nil] at hsn
        simp (contextual := true) (implicitDefEqProofs := false) (maxSteps := 2000000) (disch := first | rfl | exact Nat.le_of_ble_eq_true rfl | omega | (simp only [List.length_append, List.length_cons, List.length_nil, List.length_set]; omega)) only [hcM, hlj', h0j, hbM, hx, hk, Int.toNat_natCast, W1, W2, W3, W4, W5, W6, W7, W8, W9, W10, W11, W12, W13, W14, W15, eq_self, ite_true, ite_false, undef_eq, List.set_cons_zero, List.set_cons_succ, List.getD_cons_zero, List.getD_cons_succ, List.map_cons, List.map_nil, List.length_cons, List.length_nil, List.append_nil, List.cons_append, List.nil_append, List.replicate_succ, List.replicate_zero, Nat.reduceAdd, Nat.reduceSub, ↓reduceIte, List.getElem?_cons_zero, List.getElem?_cons_succ, basic, cellsL, resOf, setAt, List.append_assoc, List.length_append, List.getElem?_append_left, List.getElem?_append_right, List.set_append_left, List.set_append_right, below, belowB, belowA, atomB, List.mem_cons, List.not_mem_nil, forall_eq_or_imp, forall_eq, List.toList_toArray, implies_true, List.take_succ_cons, List.take_zero, List.drop_succ_cons, List.drop_zero, List.take_nil, List.drop_nil, Nat.reduceLeDiff, Nat.reduceMul, Int.reduceToNat, Int.reduceLT, Int.reduceLE, Int.reduceAdd, Int.reduceNeg, Int.reduceEq, splice, List.singleton_append, Nat.reduceEqDiff, Nat.reduceLT, isAtom, List.all_cons, List.all_nil, Option.map_some, Option.bind_some, List.length_set, Int.reduceSub, Int.reduceMul, List.getElem?_set_self, List.getElem?_set_ne, ofB_2, tmpR_if, ro_sliceData, ro_capNil, ro_noZero, ext_2, ext_3, ext_4, ext_5, List.set_set]
        exact kInv_go ⟨i + 1, v, H, rfl, by omega, hf, by rw [hsn]; exact hv, hH, ⟨rfl, by simp [hwi]⟩⟩ (by omega)
    · have hlj' : ((i : Int) < (W.length : Int)) = False := by simp; omega
      rw [List.take_of_length_le (by omega), ← preS_succ] at hv
      simp (contextual := true) (implicitDefEqProofs := false) (maxSteps := 2000000) (disch := first | rfl | exact Nat.le_of_ble_eq_true rfl | omega | (simp only [List.length_append, List.length_cons, List.length_nil, List.length_set]; omega)) only [hcM, hlj', W1, W2, W3, W4, W5, W6, W7, W8, W9, W10, W11, W12, W13, W14, W15, eq_self, ite_true, ite_false, undef_eq, List.set_cons_zero, List.set_cons_succ, List.getD_cons_zero, List.getD_cons_succ, List.map_cons, List.map_nil, List.length_cons, List.length_nil, List.append_nil, List.cons_append, List.nil_append, List.replicate_succ, List.replicate_zero, Nat.reduceAdd, Nat.reduceSub, ↓reduceIte, List.getElem?_cons_zero, List.getElem?_cons_succ, basic, cellsL, resOf, setAt, List.append_assoc, List.length_append, List.getElem?_append_left, List.getElem?_append_right, List.set_append_left, List.set_append_right, below, belowB, belowA, atomB, List.mem_cons, List.not_mem_nil, forall_eq_or_imp, forall_eq, List.toList_toArray, implies_true, List.take_succ_cons, List.take_zero, List.drop_succ_cons, List.drop_zero, List.take_nil, List.drop_nil, Nat.reduceLeDiff, Nat.reduceMul, Int.reduceToNat, Int.reduceLT, Int.reduceLE, Int.reduceAdd, Int.reduceNeg, Int.reduceEq, splice, List.singleton_append, Nat.reduceEqDiff, Nat.reduceLT, isAtom, List.all_cons, List.all_nil, Option.map_some, Option.bind_some, List.length_set, Int.reduceSub, Int.reduceMul, List.getElem?_set_self, List.getElem?_set_ne, ofB_2, tmpR_if, ro_sliceData, ro_capNil, ro_noZero, ext_2, ext_3, ext_4, ext_5, List.set_set]
      exact kInv_go ⟨c + 1, v, H, rfl, by omega, hf, hv, hH, ⟨rfl, by simp [hwc]⟩⟩ (by omega)
  · have hlt' : ((c : Int) < 3) = False := eq_false (by omega)
    obtain rfl : c = 3 := by omega
    obtain ⟨va, rfl, _⟩ := hv.form
    simp (contextual := true) (implicitDefEqProofs := false) (maxSteps := 2000000) (disch := first | rfl | exact Nat.le_of_ble_eq_true rfl | omega | (simp only [List.length_append, List.length_cons, List.length_nil, List.length_set]; omega)) only [hlt', W1, W2, W3, W4, W5, W6, W7, W8, W9, W10, W11, W12, W13, W14, W15, eq_self, ite_true, ite_false, undef_eq, List.set_cons_zero, List.set_cons_succ, List.getD_cons_zero, List.getD_cons_succ, List.map_cons, List.map_nil, List.length_cons, List.length_nil, List.append_nil, List.cons_append, List.nil_append, List.replicate_succ, List.replicate_zero, Nat.reduceAdd, Nat.reduceSub, ↓reduceIte, List.getElem?_cons_zero, List.getElem?_cons_succ, basic, cellsL, resOf, setAt, List.append_assoc, List.length_append, List.getElem?_append_left, List.getElem?_append_right, List.set_append_left, List.set_append_right, below, belowB, belowA, atomB, List.mem_cons, List.not_mem_nil, forall_eq_or_imp, forall_eq, List.toList_toArray, implies_true, List.take_succ_cons, List.take_zero, List.drop_succ_cons, List.drop_zero, List.take_nil, List.drop_nil, Nat.reduceLeDiff, Nat.reduceMul, Int.reduceToNat, Int.reduceLT, Int.reduceLE, Int.reduceAdd, Int.reduceNeg, Int.reduceEq, splice, List.singleton_append, Nat.reduceEqDiff, Nat.reduceLT, isAtom, List.all_cons, List.all_nil, Option.map_some, Option.bind_some, List.length_set, Int.reduceSub, Int.reduceMul, List.getElem?_set_self, List.getElem?_set_ne, ofB_2, tmpR_if, ro_sliceData, ro_capNil, ro_noZero, ext_2, ext_3, ext_4, ext_5, List.set_set]
    exact ⟨hf, H, hv, hH⟩
end Go.Proofs.Ytfnldlcedgfkeaa
