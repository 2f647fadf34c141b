/- A box of messages: walked. -/
import Derived.Test.YtfpnnaalbjmnlaaT
namespace Go.Proofs.Ytfpnnaalbjmnlaa
open Go.Lg
set_option maxRecDepth 8000
set_option maxHeartbeats 8000000
set_option linter.unusedSimpArgs false
set_option linter.unnecessarySimpa false
set_option linter.unusedVariables false

/-- A box in memory: its messages, piece by piece. -/
structure Bs (M : Mem) (bi : Nat) (sv : Value) (G P : List Nat) (vs : List Value) (n1 put : Int) (Ls : List (List PP)) : Prop where
  cell : M[bi]? = some ⟨[.int .i64 n1, .int .i64 put, sv], 58, 1, 0, .own⟩
  sl : Sl M 50 1 sv G (vs.map fun v => [v])
  len : vs.length = Ls.length
  el : ∀ (i : Nat) (v : Value) (l : List PP), vs[i]? = some v → Ls[i]? = some l → ∃ g, (∀ x ∈ g, x ∈ P) ∧ Sl M 36 2 v g (l.map prow)
  nb : bi ∉ G ∧ bi ∉ P
  dj : ∀ x ∈ G, x ∉ P
  pl : ∀ x ∈ P, x < M.length
def Bx (M : Mem) (bi : Nat) (F : List Nat) (n1 put : Int) (Ls : List (List PP)) : Prop := ∃ sv G P vs, F = bi :: (G ++ P) ∧ Bs M bi sv G P vs n1 put Ls
theorem Bs.frm {M M' : Mem} {bi : Nat} {sv : Value} {G P H : List Nat} {vs : List Value} {n1 put : Int} {Ls : List (List PP)} (h : Bs M bi sv G P vs n1 put Ls) (k : Frm H M M') (hd : ∀ x ∈ bi :: (G ++ P), x ∉ H) : Bs M' bi sv G P vs n1 put Ls := by
  refine ⟨k.get h.cell (hd _ (by simp)), h.sl.frm k fun x hx => hd x (by simp [hx]), h.len, fun i v l h1 h2 => ?_, h.nb, h.dj, fun x hx => Nat.lt_of_lt_of_le (h.pl x hx) k.len⟩
  obtain ⟨g, hg, hs⟩ := h.el i v l h1 h2
  exact ⟨g, hg, hs.frm k fun x hx => hd x (by simp [hg x hx])⟩
theorem Bx.frm {M M' : Mem} {bi : Nat} {F H : List Nat} {n1 put : Int} {Ls : List (List PP)} (h : Bx M bi F n1 put Ls) (k : Frm H M M') (hd : ∀ x ∈ F, x ∉ H) : Bx M' bi F n1 put Ls := by
  obtain ⟨sv, G, P, vs, rfl, h⟩ := h
  exact ⟨sv, G, P, vs, rfl, h.frm k hd⟩
theorem Bx.lt {M : Mem} {bi : Nat} {F : List Nat} {n1 put : Int} {Ls : List (List PP)} (h : Bx M bi F n1 put Ls) : ∀ x ∈ F, x < M.length := by
  obtain ⟨sv, G, P, vs, rfl, h⟩ := h
  intro x hx
  simp only [List.mem_cons, List.mem_append] at hx
  rcases hx with rfl | hx | hx
  · exact lt_of_some h.cell
  · exact h.sl.lt x hx
  · exact h.pl x hx

theorem len_spec {m : Mem} {bi : Nat} {F : List Nat} {n1 put : Int} {Ls : List (List PP)} (h : Bx m bi F n1 put Ls) : Ret Try.prog 16 [.pointer (some ⟨bi, 0, none⟩)] m (.int .i64 (Ls.length : Int)) m := by
  obtain ⟨sv, G, P, vs, rfl, h⟩ := h
  have hc := h.cell
  have hi := lt_of_some hc
  obtain ⟨a, rfl, _⟩ := h.sl.form
  simp only [List.length_map, h.len] at hc
  refine LCall_drop (LCall_enter Try.func16 c16 ?_)
  simp (contextual := true) (implicitDefEqProofs := false) (maxSteps := 2000000) (disch := first | rfl | exact Nat.le_of_ble_eq_true rfl | omega | (simp only [List.length_append, List.length_cons, List.length_nil, List.length_set]; omega)) only [L16, hc, W1, W2, W3, W4, W5, W6, W7, W8, W9, W10, W11, W12, W13, W14, W15, eq_self, ite_true, ite_false, undef_eq, List.set_cons_zero, List.set_cons_succ, List.getD_cons_zero, List.getD_cons_succ, List.map_cons, List.map_nil, List.length_cons, List.length_nil, List.append_nil, List.cons_append, List.nil_append, List.replicate_succ, List.replicate_zero, Nat.reduceAdd, Nat.reduceSub, ↓reduceIte, List.getElem?_cons_zero, List.getElem?_cons_succ, basic, cellsL, resOf, setAt, List.append_assoc, List.length_append, List.getElem?_append_left, List.getElem?_append_right, List.set_append_left, List.set_append_right, below, belowB, belowA, atomB, List.mem_cons, List.not_mem_nil, forall_eq_or_imp, forall_eq, List.toList_toArray, implies_true, List.take_succ_cons, List.take_zero, List.drop_succ_cons, List.drop_zero, List.take_nil, List.drop_nil, Nat.reduceLeDiff, Nat.reduceMul, Int.reduceToNat, Int.reduceLT, Int.reduceLE, Int.reduceAdd, Int.reduceNeg, Int.reduceEq, splice, List.singleton_append, Nat.reduceEqDiff, Nat.reduceLT, isAtom, List.all_cons, List.all_nil, Option.map_some, Option.bind_some, List.length_set, Int.reduceSub, Int.reduceMul, List.getElem?_set_self, List.getElem?_set_ne, ofB_2, tmpR_if, ro_sliceData, ro_capNil, ro_noZero, ext_2, ext_3, ext_4, ext_5, List.set_set]
theorem total_spec {m : Mem} {bi : Nat} {F : List Nat} {n1 put : Int} {Ls : List (List PP)} (h : Bx m bi F n1 put Ls) : Ret Try.prog 18 [.pointer (some ⟨bi, 0, none⟩)] m (.int .i64 put) m := by
  obtain ⟨sv, G, P, vs, rfl, h⟩ := h
  have hc := h.cell
  have hi := lt_of_some hc
  refine LCall_drop (LCall_enter Try.func18 c18 ?_)
  simp (contextual := true) (implicitDefEqProofs := false) (maxSteps := 2000000) (disch := first | rfl | exact Nat.le_of_ble_eq_true rfl | omega | (simp only [List.length_append, List.length_cons, List.length_nil, List.length_set]; omega)) only [L18, hc, W1, W2, W3, W4, W5, W6, W7, W8, W9, W10, W11, W12, W13, W14, W15, eq_self, ite_true, ite_false, undef_eq, List.set_cons_zero, List.set_cons_succ, List.getD_cons_zero, List.getD_cons_succ, List.map_cons, List.map_nil, List.length_cons, List.length_nil, List.append_nil, List.cons_append, List.nil_append, List.replicate_succ, List.replicate_zero, Nat.reduceAdd, Nat.reduceSub, ↓reduceIte, List.getElem?_cons_zero, List.getElem?_cons_succ, basic, cellsL, resOf, setAt, List.append_assoc, List.length_append, List.getElem?_append_left, List.getElem?_append_right, List.set_append_left, List.set_append_right, below, belowB, belowA, atomB, List.mem_cons, List.not_mem_nil, forall_eq_or_imp, forall_eq, List.toList_toArray, implies_true, List.take_succ_cons, List.take_zero, List.drop_succ_cons, List.drop_zero, List.take_nil, List.drop_nil, Nat.reduceLeDiff, Nat.reduceMul, Int.reduceToNat, Int.reduceLT, Int.reduceLE, Int.reduceAdd, Int.reduceNeg, Int.reduceEq, splice, List.singleton_append, Nat.reduceEqDiff, Nat.reduceLT, isAtom, List.all_cons, List.all_nil, Option.map_some, Option.bind_some, List.length_set, Int.reduceSub, Int.reduceMul, List.getElem?_set_self, List.getElem?_set_ne, ofB_2, tmpR_if, ro_sliceData, ro_capNil, ro_noZero, ext_2, ext_3, ext_4, ext_5, List.set_set]
theorem reset_specB {m : Mem} {bi : Nat} {F : List Nat} {n1 put : Int} {Ls : List (List PP)} (h : Bx m bi F n1 put Ls) : LCall Try.prog 14 [.pointer (some ⟨bi, 0, none⟩)] m fun v M => v = .int .i64 (Ls.length : Int) ∧ Frm F m M ∧ Bx M bi [bi] n1 0 [] := by
  have h0 := h
  obtain ⟨sv, G, P, vs, rfl, h⟩ := h
  have hc := h.cell
  have hi := lt_of_some hc
  refine LCall_enter Try.func14 c14 ?_
  simp (contextual := true) (implicitDefEqProofs := false) (maxSteps := 2000000) (disch := first | rfl | exact Nat.le_of_ble_eq_true rfl | omega | (simp only [List.length_append, List.length_cons, List.length_nil, List.length_set]; omega)) only [L14, W1, W2, W3, W4, W5, W6, W7, W8, W9, W10, W11, W12, W13, W14, W15, eq_self, ite_true, ite_false, undef_eq, List.set_cons_zero, List.set_cons_succ, List.getD_cons_zero, List.getD_cons_succ, List.map_cons, List.map_nil, List.length_cons, List.length_nil, List.append_nil, List.cons_append, List.nil_append, List.replicate_succ, List.replicate_zero, Nat.reduceAdd, Nat.reduceSub, ↓reduceIte, List.getElem?_cons_zero, List.getElem?_cons_succ, basic, cellsL, resOf, setAt, List.append_assoc, List.length_append, List.getElem?_append_left, List.getElem?_append_right, List.set_append_left, List.set_append_right, below, belowB, belowA, atomB, List.mem_cons, List.not_mem_nil, forall_eq_or_imp, forall_eq, List.toList_toArray, implies_true, List.take_succ_cons, List.take_zero, List.drop_succ_cons, List.drop_zero, List.take_nil, List.drop_nil, Nat.reduceLeDiff, Nat.reduceMul, Int.reduceToNat, Int.reduceLT, Int.reduceLE, Int.reduceAdd, Int.reduceNeg, Int.reduceEq, splice, List.singleton_append, Nat.reduceEqDiff, Nat.reduceLT, isAtom, List.all_cons, List.all_nil, Option.map_some, Option.bind_some, List.length_set, Int.reduceSub, Int.reduceMul, List.getElem?_set_self, List.getElem?_set_ne, ofB_2, tmpR_if, ro_sliceData, ro_capNil, ro_noZero, ext_2, ext_3, ext_4, ext_5, List.set_set]
  refine (len_spec h0).use ?_
  simp (contextual := true) (implicitDefEqProofs := false) (maxSteps := 2000000) (disch := first | rfl | exact Nat.le_of_ble_eq_true rfl | omega | (simp only [List.length_append, List.length_cons, List.length_nil, List.length_set]; omega)) only [hc, W1, W2, W3, W4, W5, W6, W7, W8, W9, W10, W11, W12, W13, W14, W15, eq_self, ite_true, ite_false, undef_eq, List.set_cons_zero, List.set_cons_succ, List.getD_cons_zero, List.getD_cons_succ, List.map_cons, List.map_nil, List.length_cons, List.length_nil, List.append_nil, List.cons_append, List.nil_append, List.replicate_succ, List.replicate_zero, Nat.reduceAdd, Nat.reduceSub, ↓reduceIte, List.getElem?_cons_zero, List.getElem?_cons_succ, basic, cellsL, resOf, setAt, List.append_assoc, List.length_append, List.getElem?_append_left, List.getElem?_append_right, List.set_append_left, List.set_append_right, below, belowB, belowA, atomB, List.mem_cons, List.not_mem_nil, forall_eq_or_imp, forall_eq, List.toList_toArray, implies_true, List.take_succ_cons, List.take_zero, List.drop_succ_cons, List.drop_zero, List.take_nil, List.drop_nil, Nat.reduceLeDiff, Nat.reduceMul, Int.reduceToNat, Int.reduceLT, Int.reduceLE, Int.reduceAdd, Int.reduceNeg, Int.reduceEq, splice, List.singleton_append, Nat.reduceEqDiff, Nat.reduceLT, isAtom, List.all_cons, List.all_nil, Option.map_some, Option.bind_some, List.length_set, Int.reduceSub, Int.reduceMul, List.getElem?_set_self, List.getElem?_set_ne, ofB_2, tmpR_if, ro_sliceData, ro_capNil, ro_noZero, ext_2, ext_3, ext_4, ext_5, List.set_set]
  exact ⟨Frm.refl.set (by simp), _, [], [], [], rfl, by rw [List.getElem?_set_self hi], .nil, rfl, by simp, by simp, by simp, by simp⟩
def sumL (Ls : List (List PP)) : Nat := (Ls.map List.length).sum
theorem sumL_snoc {Ls : List (List PP)} {j : Nat} {l : List PP} (h : Ls[j]? = some l) : sumL (Ls.take (j + 1)) = sumL (Ls.take j) + l.length := by
  rw [sumL, take_snoc h, List.map_append, List.sum_append]; simp [sumL]
theorem sumL_le {Ls : List (List PP)} {b : Nat} (h : ∀ l ∈ Ls, l.length ≤ b) : sumL Ls ≤ b * Ls.length := by
  induction Ls with
  | nil => simp [sumL]
  | cons l Ls ih =>
    have h1 := h l (by simp)
    have h2 := ih fun x hx => h x (by simp [hx])
    simp only [sumL, List.map_cons, List.sum_cons, List.length_cons] at h2 ⊢
    have : b * (Ls.length + 1) = b * Ls.length + b := by rw [Nat.mul_add]; omega
    omega
theorem left_spec {m : Mem} {bi : Nat} {F : List Nat} {n1 put : Int} {Ls : List (List PP)} (h : Bx m bi F n1 put Ls) (h8 : Ls.length ≤ 8) (h41 : ∀ l ∈ Ls, l.length ≤ 41) : Ret Try.prog 17 [.pointer (some ⟨bi, 0, none⟩)] m (.int .i64 (sumL Ls : Int)) m := by
  obtain ⟨sv, G, P, vs, rfl, h⟩ := h
  have hc := h.cell
  have hi := lt_of_some hc
  obtain ⟨a, rfl, hform⟩ := h.sl.form
  simp only [List.length_map, h.len] at hc hform
  refine LCall_drop (LCall_enter Try.func17 c17 ?_)
  simp (contextual := true) (implicitDefEqProofs := false) (maxSteps := 2000000) (disch := first | rfl | exact Nat.le_of_ble_eq_true rfl | omega | (simp only [List.length_append, List.length_cons, List.length_nil, List.length_set]; omega)) only [L17, hc, W1, W2, W3, W4, W5, W6, W7, W8, W9, W10, W11, W12, W13, W14, W15, eq_self, ite_true, ite_false, undef_eq, List.set_cons_zero, List.set_cons_succ, List.getD_cons_zero, List.getD_cons_succ, List.map_cons, List.map_nil, List.length_cons, List.length_nil, List.append_nil, List.cons_append, List.nil_append, List.replicate_succ, List.replicate_zero, Nat.reduceAdd, Nat.reduceSub, ↓reduceIte, List.getElem?_cons_zero, List.getElem?_cons_succ, basic, cellsL, resOf, setAt, List.append_assoc, List.length_append, List.getElem?_append_left, List.getElem?_append_right, List.set_append_left, List.set_append_right, below, belowB, belowA, atomB, List.mem_cons, List.not_mem_nil, forall_eq_or_imp, forall_eq, List.toList_toArray, implies_true, List.take_succ_cons, List.take_zero, List.drop_succ_cons, List.drop_zero, List.take_nil, List.drop_nil, Nat.reduceLeDiff, Nat.reduceMul, Int.reduceToNat, Int.reduceLT, Int.reduceLE, Int.reduceAdd, Int.reduceNeg, Int.reduceEq, splice, List.singleton_append, Nat.reduceEqDiff, Nat.reduceLT, isAtom, List.all_cons, List.all_nil, Option.map_some, Option.bind_some, List.length_set, Int.reduceSub, Int.reduceMul, List.getElem?_set_self, List.getElem?_set_ne, ofB_2, tmpR_if, ro_sliceData, ro_capNil, ro_noZero, ext_2, ext_3, ext_4, ext_5, List.set_set]
  refine loop_inv (fun n t M => ∃ (j : Nat), n = Ls.length - j ∧ j ≤ Ls.length ∧ M = m ∧
    Tab 23 [(3, .int .i64 (sumL (Ls.take j) : Int)), (11, .slice a Ls.length Ls.length), (12, .int .i64 (Ls.length : Int)), (13, .int .i64 (j : Int))] t) (n := Ls.length) ?_ ?_
  · exact ⟨0, rfl, Nat.zero_le _, rfl, ⟨rfl, by simp [sumL]⟩⟩
  rintro n t m ⟨j, rfl, hj, rfl, ht⟩
  obtain ⟨f, rfl⟩ : ∃ f' : Nat → Value, t = [f' 0, f' 1, f' 2, .int .i64 (sumL (Ls.take j) : Int), f' 4, f' 5, f' 6, f' 7, f' 8, f' 9, f' 10, .slice a Ls.length Ls.length, .int .i64 (Ls.length : Int), .int .i64 (j : Int), f' 14, f' 15, f' 16, f' 17, f' 18, f' 19, f' 20, f' 21, f' 22] := ht.open fun f' => rfl
  by_cases hlt : j < Ls.length
  · have hlt' : ((j : Int) < (Ls.length : Int)) = True := by simp [hlt]
    have h0 : ((0 : Int) ≤ (j : Int)) = True := by simp
    have hwj : IntKind.i64.wrap ((j : Int) + 1) = ((j + 1 : Nat) : Int) := by rw [wrap_i64 (by omega) (by omega)]; omega
    obtain ⟨b, o, cs, rfl, _, hb, hl, _, hrow⟩ := hform (by omega)
    obtain ⟨l, hls⟩ : ∃ l, Ls[j]? = some l := ⟨_, List.getElem?_eq_getElem hlt⟩
    obtain ⟨u, hu⟩ : ∃ u, vs[j]? = some u := ⟨_, List.getElem?_eq_getElem (by rw [h.len]; exact hlt)⟩
    obtain ⟨g, _, hsl⟩ := h.el j u l hu hls
    obtain ⟨ua, rfl, _⟩ := hsl.form
    simp only [List.length_map] at hu
    have hx : cs[o + j]? = some (.slice ua l.length l.length) := by
      have := row_cell (hrow j _ (by rw [List.getElem?_map, hu]; rfl)) (j := 0) (by omega)
      simpa using this
    have hsn := sumL_snoc hls
    have hle := sumL_le (b := 41) (Ls := Ls.take j) fun x hx => h41 x (List.mem_of_mem_take hx)
    have htl : (Ls.take j).length = j := by rw [List.length_take]; omega
    have hl41 := h41 l (List.mem_of_getElem? hls)
    have hw : IntKind.i64.wrap ((sumL (Ls.take j) : Int) + (l.length : Int)) = (sumL (Ls.take (j + 1)) : Int) := by rw [wrap_i64 (by omega) (by omega)]; omega
    simp (contextual := true) (implicitDefEqProofs := false) (maxSteps := 2000000) (disch := first | rfl | exact Nat.le_of_ble_eq_true rfl | omega | (simp only [List.length_append, List.length_cons, List.length_nil, List.length_set]; omega)) only [hlt', h0, hb, hx, hw, Int.toNat_natCast, W1, W2, W3, W4, W5, W6, W7, W8, W9, W10, W11, W12, W13, W14, W15, eq_self, ite_true, ite_false, undef_eq, List.set_cons_zero, List.set_cons_succ, List.getD_cons_zero, List.getD_cons_succ, List.map_cons, List.map_nil, List.length_cons, List.length_nil, List.append_nil, List.cons_append, List.nil_append, List.replicate_succ, List.replicate_zero, Nat.reduceAdd, Nat.reduceSub, ↓reduceIte, List.getElem?_cons_zero, List.getElem?_cons_succ, basic, cellsL, resOf, setAt, List.append_assoc, List.length_append, List.getElem?_append_left, List.getElem?_append_right, List.set_append_left, List.set_append_right, below, belowB, belowA, atomB, List.mem_cons, List.not_mem_nil, forall_eq_or_imp, forall_eq, List.toList_toArray, implies_true, List.take_succ_cons, List.take_zero, List.drop_succ_cons, List.drop_zero, List.take_nil, List.drop_nil, Nat.reduceLeDiff, Nat.reduceMul, Int.reduceToNat, Int.reduceLT, Int.reduceLE, Int.reduceAdd, Int.reduceNeg, Int.reduceEq, splice, List.singleton_append, Nat.reduceEqDiff, Nat.reduceLT, isAtom, List.all_cons, List.all_nil, Option.map_some, Option.bind_some, List.length_set, Int.reduceSub, Int.reduceMul, List.getElem?_set_self, List.getElem?_set_ne, ofB_2, tmpR_if, ro_sliceData, ro_capNil, ro_noZero, ext_2, ext_3, ext_4, ext_5, List.set_set]
    exact kInv_go ⟨j + 1, rfl, by omega, rfl, ⟨rfl, by simp [hwj]⟩⟩ (by omega)
  · have hlt' : ((j : Int) < (Ls.length : Int)) = False := by simp; omega
    simp (contextual := true) (implicitDefEqProofs := false) (maxSteps := 2000000) (disch := first | rfl | exact Nat.le_of_ble_eq_true rfl | omega | (simp only [List.length_append, List.length_cons, List.length_nil, List.length_set]; omega)) only [hlt', W1, W2, W3, W4, W5, W6, W7, W8, W9, W10, W11, W12, W13, W14, W15, eq_self, ite_true, ite_false, undef_eq, List.set_cons_zero, List.set_cons_succ, List.getD_cons_zero, List.getD_cons_succ, List.map_cons, List.map_nil, List.length_cons, List.length_nil, List.append_nil, List.cons_append, List.nil_append, List.replicate_succ, List.replicate_zero, Nat.reduceAdd, Nat.reduceSub, ↓reduceIte, List.getElem?_cons_zero, List.getElem?_cons_succ, basic, cellsL, resOf, setAt, List.append_assoc, List.length_append, List.getElem?_append_left, List.getElem?_append_right, List.set_append_left, List.set_append_right, below, belowB, belowA, atomB, List.mem_cons, List.not_mem_nil, forall_eq_or_imp, forall_eq, List.toList_toArray, implies_true, List.take_succ_cons, List.take_zero, List.drop_succ_cons, List.drop_zero, List.take_nil, List.drop_nil, Nat.reduceLeDiff, Nat.reduceMul, Int.reduceToNat, Int.reduceLT, Int.reduceLE, Int.reduceAdd, Int.reduceNeg, Int.reduceEq, splice, List.singleton_append, Nat.reduceEqDiff, Nat.reduceLT, isAtom, List.all_cons, List.all_nil, Option.map_some, Option.bind_some, List.length_set, Int.reduceSub, Int.reduceMul, List.getElem?_set_self, List.getElem?_set_ne, ofB_2, tmpR_if, ro_sliceData, ro_capNil, ro_noZero, ext_2, ext_3, ext_4, ext_5, List.set_set]
    rw [List.take_of_length_le (by omega)]
theorem splitL_zero (n1 : Int) : (splitL 0 n1 []).2 = if 16 ≤ n1 ∧ n1 ≤ 256 then 0 else 1 := by
  unfold splitL
  by_cases h : 16 ≤ n1 ∧ n1 ≤ 256
  · have : (0 : Int) ≤ n1 := by omega
    rw [if_pos h]; simp [h, this]
  · rw [if_neg h]; simp [h]
theorem newb_spec (n1 : Int) (m : Mem) : LCall Try.prog 8 [.int .i64 n1] m fun v M => Frm [] m M ∧
    (if 16 ≤ n1 ∧ n1 ≤ 256 then ∃ bi, v = .tuple #[.pointer (some ⟨bi, 0, none⟩), .int .i64 0] ∧ m.length ≤ bi ∧ Bx M bi [bi] n1 0 [] else v = .tuple #[.pointer none, .int .i64 1]) := by
  refine LCall_enter Try.func8 c8 ?_
  simp (contextual := true) (implicitDefEqProofs := false) (maxSteps := 2000000) (disch := first | rfl | exact Nat.le_of_ble_eq_true rfl | omega | (simp only [List.length_append, List.length_cons, List.length_nil, List.length_set]; omega)) only [L8, W1, W2, W3, W4, W5, W6, W7, W8, W9, W10, W11, W12, W13, W14, W15, eq_self, ite_true, ite_false, undef_eq, List.set_cons_zero, List.set_cons_succ, List.getD_cons_zero, List.getD_cons_succ, List.map_cons, List.map_nil, List.length_cons, List.length_nil, List.append_nil, List.cons_append, List.nil_append, List.replicate_succ, List.replicate_zero, Nat.reduceAdd, Nat.reduceSub, ↓reduceIte, List.getElem?_cons_zero, List.getElem?_cons_succ, basic, cellsL, resOf, setAt, List.append_assoc, List.length_append, List.getElem?_append_left, List.getElem?_append_right, List.set_append_left, List.set_append_right, below, belowB, belowA, atomB, List.mem_cons, List.not_mem_nil, forall_eq_or_imp, forall_eq, List.toList_toArray, implies_true, List.take_succ_cons, List.take_zero, List.drop_succ_cons, List.drop_zero, List.take_nil, List.drop_nil, Nat.reduceLeDiff, Nat.reduceMul, Int.reduceToNat, Int.reduceLT, Int.reduceLE, Int.reduceAdd, Int.reduceNeg, Int.reduceEq, splice, List.singleton_append, Nat.reduceEqDiff, Nat.reduceLT, isAtom, List.all_cons, List.all_nil, Option.map_some, Option.bind_some, List.length_set, Int.reduceSub, Int.reduceMul, List.getElem?_set_self, List.getElem?_set_ne, ofB_2, tmpR_if, ro_sliceData, ro_capNil, ro_noZero, ext_2, ext_3, ext_4, ext_5, List.set_set]
  refine (split_spec 0 n1 [] (by simp) m).mono ?_
  rintro v M ⟨sv, G, rfl, hf, hs, hG⟩
  have hml := hf.len
  rw [splitL_zero]
  obtain ⟨sa, rfl, _⟩ := hs.form
  by_cases h : 16 ≤ n1 ∧ n1 ≤ 256
  · rw [if_pos h]
    simp (contextual := true) (implicitDefEqProofs := false) (maxSteps := 2000000) (disch := first | rfl | exact Nat.le_of_ble_eq_true rfl | omega | (simp only [List.length_append, List.length_cons, List.length_nil, List.length_set]; omega)) only [W1, W2, W3, W4, W5, W6, W7, W8, W9, W10, W11, W12, W13, W14, W15, eq_self, ite_true, ite_false, undef_eq, List.set_cons_zero, List.set_cons_succ, List.getD_cons_zero, List.getD_cons_succ, List.map_cons, List.map_nil, List.length_cons, List.length_nil, List.append_nil, List.cons_append, List.nil_append, List.replicate_succ, List.replicate_zero, Nat.reduceAdd, Nat.reduceSub, ↓reduceIte, List.getElem?_cons_zero, List.getElem?_cons_succ, basic, cellsL, resOf, setAt, List.append_assoc, List.length_append, List.getElem?_append_left, List.getElem?_append_right, List.set_append_left, List.set_append_right, below, belowB, belowA, atomB, List.mem_cons, List.not_mem_nil, forall_eq_or_imp, forall_eq, List.toList_toArray, implies_true, List.take_succ_cons, List.take_zero, List.drop_succ_cons, List.drop_zero, List.take_nil, List.drop_nil, Nat.reduceLeDiff, Nat.reduceMul, Int.reduceToNat, Int.reduceLT, Int.reduceLE, Int.reduceAdd, Int.reduceNeg, Int.reduceEq, splice, List.singleton_append, Nat.reduceEqDiff, Nat.reduceLT, isAtom, List.all_cons, List.all_nil, Option.map_some, Option.bind_some, List.length_set, Int.reduceSub, Int.reduceMul, List.getElem?_set_self, List.getElem?_set_ne, ofB_2, tmpR_if, ro_sliceData, ro_capNil, ro_noZero, ext_2, ext_3, ext_4, ext_5, List.set_set]
    refine ⟨hf.nil_trans Frm.refl.app, ?_⟩
    rw [if_pos h]
    exact ⟨M.length, rfl, hml, _, [], [], [], rfl, by simp, .nil, rfl, by simp, by simp, by simp, by simp⟩
  · rw [if_neg h]
    simp (contextual := true) (implicitDefEqProofs := false) (maxSteps := 2000000) (disch := first | rfl | exact Nat.le_of_ble_eq_true rfl | omega | (simp only [List.length_append, List.length_cons, List.length_nil, List.length_set]; omega)) only [W1, W2, W3, W4, W5, W6, W7, W8, W9, W10, W11, W12, W13, W14, W15, eq_self, ite_true, ite_false, undef_eq, List.set_cons_zero, List.set_cons_succ, List.getD_cons_zero, List.getD_cons_succ, List.map_cons, List.map_nil, List.length_cons, List.length_nil, List.append_nil, List.cons_append, List.nil_append, List.replicate_succ, List.replicate_zero, Nat.reduceAdd, Nat.reduceSub, ↓reduceIte, List.getElem?_cons_zero, List.getElem?_cons_succ, basic, cellsL, resOf, setAt, List.append_assoc, List.length_append, List.getElem?_append_left, List.getElem?_append_right, List.set_append_left, List.set_append_right, below, belowB, belowA, atomB, List.mem_cons, List.not_mem_nil, forall_eq_or_imp, forall_eq, List.toList_toArray, implies_true, List.take_succ_cons, List.take_zero, List.drop_succ_cons, List.drop_zero, List.take_nil, List.drop_nil, Nat.reduceLeDiff, Nat.reduceMul, Int.reduceToNat, Int.reduceLT, Int.reduceLE, Int.reduceAdd, Int.reduceNeg, Int.reduceEq, splice, List.singleton_append, Nat.reduceEqDiff, Nat.reduceLT, isAtom, List.all_cons, List.all_nil, Option.map_some, Option.bind_some, List.length_set, Int.reduceSub, Int.reduceMul, List.getElem?_set_self, List.getElem?_set_ne, ofB_2, tmpR_if, ro_sliceData, ro_capNil, ro_noZero, ext_2, ext_3, ext_4, ext_5, List.set_set]
    refine ⟨hf, ?_⟩
    rw [if_neg h]
    trivial

/-- What Put answers. -/
def bputE (n1 : Int) (Ls : List (List PP)) (pid : Int) (text : List UInt8) : Int :=
  if (splitL pid n1 text).2 ≠ 0 then (splitL pid n1 text).2 else if 8 ≤ Ls.length then 6 else 0
def bputL (n1 : Int) (Ls : List (List PP)) (pid : Int) (text : List UInt8) : List (List PP) :=
  if bputE n1 Ls pid text = 0 then Ls ++ [(splitL pid n1 text).1] else Ls
def bputN (n1 : Int) (put : Int) (Ls : List (List PP)) (pid : Int) (text : List UInt8) : Int :=
  if bputE n1 Ls pid text = 0 then put + 1 else put
theorem bput_spec {m : Mem} {bi : Nat} {F : List Nat} {n1 put : Int} {Ls : List (List PP)} (pid : Int) (text : List UInt8) (h : Bx m bi F n1 put Ls) (hl : text.length ≤ 140737488355328) (hp : 0 ≤ put ∧ put ≤ 1000000) (h8 : Ls.length ≤ 8) :
    LCall Try.prog 10 [.pointer (some ⟨bi, 0, none⟩), .int .i64 pid, str text] m fun v M => v = .int .i64 (bputE n1 Ls pid text) ∧ Frm F m M ∧ ∃ F', Bx M bi F' n1 (bputN n1 put Ls pid text) (bputL n1 Ls pid text) ∧ NwF m F F' := by
  obtain ⟨sv, G, P, vs, rfl, h⟩ := h
  have hc := h.cell
  have hi := lt_of_some hc
  refine LCall_enter Try.func10 c10 ?_
  simp (contextual := true) (implicitDefEqProofs := false) (maxSteps := 2000000) (disch := first | rfl | exact Nat.le_of_ble_eq_true rfl | omega | (simp only [List.length_append, List.length_cons, List.length_nil, List.length_set]; omega)) only [L10, hc, W1, W2, W3, W4, W5, W6, W7, W8, W9, W10, W11, W12, W13, W14, W15, eq_self, ite_true, ite_false, undef_eq, List.set_cons_zero, List.set_cons_succ, List.getD_cons_zero, List.getD_cons_succ, List.map_cons, List.map_nil, List.length_cons, List.length_nil, List.append_nil, List.cons_append, List.nil_append, List.replicate_succ, List.replicate_zero, Nat.reduceAdd, Nat.reduceSub, ↓reduceIte, List.getElem?_cons_zero, List.getElem?_cons_succ, basic, cellsL, resOf, setAt, List.append_assoc, List.length_append, List.getElem?_append_left, List.getElem?_append_right, List.set_append_left, List.set_append_right, below, belowB, belowA, atomB, List.mem_cons, List.not_mem_nil, forall_eq_or_imp, forall_eq, List.toList_toArray, implies_true, List.take_succ_cons, List.take_zero, List.drop_succ_cons, List.drop_zero, List.take_nil, List.drop_nil, Nat.reduceLeDiff, Nat.reduceMul, Int.reduceToNat, Int.reduceLT, Int.reduceLE, Int.reduceAdd, Int.reduceNeg, Int.reduceEq, splice, List.singleton_append, Nat.reduceEqDiff, Nat.reduceLT, isAtom, List.all_cons, List.all_nil, Option.map_some, Option.bind_some, List.length_set, Int.reduceSub, Int.reduceMul, List.getElem?_set_self, List.getElem?_set_ne, ofB_2, tmpR_if, ro_sliceData, ro_capNil, ro_noZero, ext_2, ext_3, ext_4, ext_5, List.set_set]
  refine (split_spec pid n1 text hl m).mono ?_
  rintro v M ⟨wv, W, rfl, hf, hs, hW⟩
  have hml := hf.len
  have hM := h.frm hf (by simp)
  have hcM := hM.cell
  have hiM := lt_of_some hcM
  have keep : bputE n1 Ls pid text ≠ 0 → ∃ F', Bx M bi F' n1 (bputN n1 put Ls pid text) (bputL n1 Ls pid text) ∧ NwF m (bi :: (G ++ P)) F' := fun e => by
    rw [bputN, bputL, if_neg e, if_neg e]
    exact ⟨_, ⟨sv, G, P, vs, rfl, hM⟩, fun x hx => .inl hx⟩
  obtain ⟨wa, rfl, _⟩ := hs.form
  obtain ⟨sa, rfl, _⟩ := h.sl.form
  simp only [List.length_map, h.len] at hc hcM
  by_cases he : (splitL pid n1 text).2 = 0
  · have he' : ((splitL pid n1 text).2 = 0) = True := eq_true he
    by_cases h88 : 8 ≤ Ls.length
    · have h88' : ((8 : Int) ≤ (Ls.length : Int)) = True := eq_true (by omega)
      have e1 : bputE n1 Ls pid text = 6 := by rw [bputE, if_neg (by simp [he]), if_pos h88]
      simp (contextual := true) (implicitDefEqProofs := false) (maxSteps := 2000000) (disch := first | rfl | exact Nat.le_of_ble_eq_true rfl | omega | (simp only [List.length_append, List.length_cons, List.length_nil, List.length_set]; omega)) only [he', hcM, h88', W1, W2, W3, W4, W5, W6, W7, W8, W9, W10, W11, W12, W13, W14, W15, eq_self, ite_true, ite_false, undef_eq, List.set_cons_zero, List.set_cons_succ, List.getD_cons_zero, List.getD_cons_succ, List.map_cons, List.map_nil, List.length_cons, List.length_nil, List.append_nil, List.cons_append, List.nil_append, List.replicate_succ, List.replicate_zero, Nat.reduceAdd, Nat.reduceSub, ↓reduceIte, List.getElem?_cons_zero, List.getElem?_cons_succ, basic, cellsL, resOf, setAt, List.append_assoc, List.length_append, List.getElem?_append_left, List.getElem?_append_right, List.set_append_left, List.set_append_right, below, belowB, belowA, atomB, List.mem_cons, List.not_mem_nil, forall_eq_or_imp, forall_eq, List.toList_toArray, implies_true, List.take_succ_cons, List.take_zero, List.drop_succ_cons, List.drop_zero, List.take_nil, List.drop_nil, Nat.reduceLeDiff, Nat.reduceMul, Int.reduceToNat, Int.reduceLT, Int.reduceLE, Int.reduceAdd, Int.reduceNeg, Int.reduceEq, splice, List.singleton_append, Nat.reduceEqDiff, Nat.reduceLT, isAtom, List.all_cons, List.all_nil, Option.map_some, Option.bind_some, List.length_set, Int.reduceSub, Int.reduceMul, List.getElem?_set_self, List.getElem?_set_ne, ofB_2, tmpR_if, ro_sliceData, ro_capNil, ro_noZero, ext_2, ext_3, ext_4, ext_5, List.set_set]
      exact ⟨by rw [e1], hf.of_nil, keep (by rw [e1]; decide)⟩
    · have h88' : ((8 : Int) ≤ (Ls.length : Int)) = False := eq_false (by omega)
      have e1 : bputE n1 Ls pid text = 0 := by rw [bputE, if_neg (by simp [he]), if_neg h88]
      have hw : IntKind.i64.wrap (put + 1) = put + 1 := wrap_i64 (by omega) (by omega)
      simp (contextual := true) (implicitDefEqProofs := false) (maxSteps := 2000000) (disch := first | rfl | exact Nat.le_of_ble_eq_true rfl | omega | (simp only [List.length_append, List.length_cons, List.length_nil, List.length_set]; omega)) only [he', hcM, h88', W1, W2, W3, W4, W5, W6, W7, W8, W9, W10, W11, ops_nil, ops_n, ops_g, guardK_it, guardK_if, guardK_u, CondP_t, CondP_f, ex_call, pickK_it, loadK_p, loadNK_p, storeB_s, cellB_s, cellB_r, cellsB_s, cellsB_r, condK_it, lc_skip, lc_region, lc_draw, lc_seq, lc_cond, lc_block, lc_exit, lc_ret, then_n, then_e, then_r, block_n, block_r, block_e, bin_add, bin_sub, bin_mul, bin_quo, bin_rem, bin_and, bin_or, bin_xor, bin_andNot, bin_eql, bin_neq, bin_lss, bin_leq, bin_gtr, bin_geq, bin_shl, bin_shr, bin_sadd, bin_seql, bin_sneq, un_not, un_neg, eqL_b, eqL_i, eqL_s, eqL_pnn, eqL_pns, eqL_psn, eqL_pp, eqL_slnn, eqL_slns, eqL_slsn, ex_callv, slB_e, slB_r, apB_e, lc_chain, lc_bad, putBK_s, lc_label, lc_goto, then_g, block_g, jump_g, jump_n, jump_r, jump_e, lf_seq, lf_label, eq_self, ite_true, ite_false, undef_eq, List.set_cons_zero, List.set_cons_succ, List.getD_cons_zero, List.getD_cons_succ, List.map_cons, List.map_nil, List.length_cons, List.length_nil, List.append_nil, List.cons_append, List.nil_append, List.replicate_succ, List.replicate_zero, Nat.reduceAdd, Nat.reduceSub, ↓reduceIte, List.getElem?_cons_zero, List.getElem?_cons_succ, basic, cellsL, resOf, setAt, List.append_assoc, List.length_append, List.getElem?_append_left, List.getElem?_append_right, List.set_append_left, List.set_append_right, below, belowB, belowA, atomB, List.mem_cons, List.not_mem_nil, forall_eq_or_imp, forall_eq, List.toList_toArray, implies_true, List.take_succ_cons, List.take_zero, List.drop_succ_cons, List.drop_zero, List.take_nil, List.drop_nil, Nat.reduceLeDiff, Nat.reduceMul, Int.reduceToNat, Int.reduceLT, Int.reduceLE, Int.reduceAdd, Int.reduceNeg, Int.reduceEq, splice, List.singleton_append, Nat.reduceEqDiff, Nat.reduceLT, isAtom, List.all_cons, List.all_nil, Option.map_some, Option.bind_some, List.length_set, Int.reduceSub, Int.reduceMul, List.getElem?_set_self, List.getElem?_set_ne, ofB_2, tmpR_if, ro_sliceData, ro_capNil, ro_noZero, ext_2, ext_3, ext_4, ext_5, List.set_set]
      have hsl := hM.sl
      simp only [List.length_map, h.len] at hsl
      refine app_row (bytes := 24) (hsl.frm0 Frm.refl.app) rfl (by simp [h.len]; omega) ?_
      intro v2 M2 G2 hM2 hf2 hs2 hG2
      simp only [List.length_append, List.length_cons, List.length_nil] at hM2 hG2
      have hf3 : Frm G M M2 := hf2.app_of
      have hc2 := hf3.get hcM h.nb.1
      have hc2l := lt_of_some hc2
      have hs3 := hs.frm hf3 fun x hx hx' => by have := hW x hx; have := h.sl.lt x hx'; omega
      have hset : Frm [bi] M2 (M2.set bi ⟨[.int .i64 n1, .int .i64 (put + 1), v2], 58, 1, 0, .own⟩) := Frm.refl.set (by simp)
      have hbG2 : bi ∉ G2 := fun hx => by have := hG2 bi hx; omega
      have hbW : bi ∉ W := fun hx => by have := hW bi hx; omega
      have hWM : ∀ x ∈ W, x < M.length := hs.lt
      have hb : Bs (M2.set bi ⟨[.int .i64 n1, .int .i64 (put + 1), v2], 58, 1, 0, .own⟩) bi v2 G2 (P ++ W) (vs ++ [.slice wa (List.map prow (splitL pid n1 text).1).length (List.map prow (splitL pid n1 text).1).length]) n1 (put + 1) (Ls ++ [(splitL pid n1 text).1]) := by
        refine ⟨by rw [List.getElem?_set_self hc2l], ?_, by simp [h.len], fun i v l h1 h2 => ?_, ⟨hbG2, by simp [h.nb.2, hbW]⟩, fun x hx hx' => ?_, fun x hx => ?_⟩
        · rw [List.map_append]
          simp only [List.length_map] at hs2 ⊢
          exact hs2.setb hbG2
        · by_cases hil : i < Ls.length
          · rw [List.getElem?_append_left (by rw [h.len]; exact hil)] at h1
            rw [List.getElem?_append_left hil] at h2
            obtain ⟨g, hg, hs'⟩ := hM.el i v l h1 h2
            exact ⟨g, fun x hx => by simp [hg x hx], (hs'.frm hf3 fun x hx hx' => h.dj x hx' (hg x hx)).setb fun hx => h.nb.2 (hg _ hx)⟩
          · have hi2 : i = Ls.length := by
              have := (List.getElem?_eq_some_iff.mp h2).1
              simp at this; omega
            subst hi2
            rw [List.getElem?_append_right (by rw [h.len]; exact Nat.le_refl _)] at h1
            rw [List.getElem?_append_right (Nat.le_refl _)] at h2
            simp [h.len] at h1 h2
            subst h1 h2
            exact ⟨W, fun x hx => by simp [hx], by simpa only [List.length_map] using hs3.setb hbW⟩
        · have h1 := hG2 x hx
          simp only [List.mem_append] at hx'
          rcases hx' with h2 | h2
          · have := h.pl x h2; omega
          · have := hWM x h2; omega
        · have := hf3.len
          simp only [List.length_set]
          simp only [List.mem_append] at hx
          rcases hx with h2 | h2
          · have := h.pl x h2; omega
          · have := hWM x h2; omega
      obtain ⟨v2a, rfl, _⟩ := hs2.form
      simp (contextual := true) (implicitDefEqProofs := false) (maxSteps := 2000000) (disch := first | rfl | exact Nat.le_of_ble_eq_true rfl | omega | (simp only [List.length_append, List.length_cons, List.length_nil, List.length_set]; omega)) only [hc2, hw, W1, W2, W3, W4, W5, W6, W7, W8, W9, W10, W11, W12, W13, W14, W15, eq_self, ite_true, ite_false, undef_eq, List.set_cons_zero, List.set_cons_succ, List.getD_cons_zero, List.getD_cons_succ, List.map_cons, List.map_nil, List.length_cons, List.length_nil, List.append_nil, List.cons_append, List.nil_append, List.replicate_succ, List.replicate_zero, Nat.reduceAdd, Nat.reduceSub, ↓reduceIte, List.getElem?_cons_zero, List.getElem?_cons_succ, basic, cellsL, resOf, setAt, List.append_assoc, List.length_append, List.getElem?_append_left, List.getElem?_append_right, List.set_append_left, List.set_append_right, below, belowB, belowA, atomB, List.mem_cons, List.not_mem_nil, forall_eq_or_imp, forall_eq, List.toList_toArray, implies_true, List.take_succ_cons, List.take_zero, List.drop_succ_cons, List.drop_zero, List.take_nil, List.drop_nil, Nat.reduceLeDiff, Nat.reduceMul, Int.reduceToNat, Int.reduceLT, Int.reduceLE, Int.reduceAdd, Int.reduceNeg, Int.reduceEq, splice, List.singleton_append, Nat.reduceEqDiff, Nat.reduceLT, isAtom, List.all_cons, List.all_nil, Option.map_some, Option.bind_some, List.length_set, Int.reduceSub, Int.reduceMul, List.getElem?_set_self, List.getElem?_set_ne, ofB_2, tmpR_if, ro_sliceData, ro_capNil, ro_noZero, ext_2, ext_3, ext_4, ext_5, List.set_set]
      rw [e1, bputN, bputL, if_pos e1, if_pos e1]
      simp only [List.length_append, List.length_cons, List.length_nil, Nat.zero_add] at hb
      refine ⟨rfl, ?_, bi :: (G2 ++ (P ++ W)), ⟨_, G2, P ++ W, _, rfl, hb⟩, fun x hx => ?_⟩
      · exact ((hf.of_nil).trans (hf3.mono fun x hx => by simp [hx]) fun x hx => .inl hx).set (by simp)
      · simp only [List.mem_cons, List.mem_append] at hx
        rcases hx with rfl | hx | hx | hx
        · exact .inl (by simp)
        · exact .inr (by have := hG2 x hx; omega)
        · exact .inl (by simp [hx])
        · exact .inr (hW x hx)
  · have he' : ((splitL pid n1 text).2 = 0) = False := eq_false he
    have e1 : bputE n1 Ls pid text = (splitL pid n1 text).2 := if_pos he
    simp (contextual := true) (implicitDefEqProofs := false) (maxSteps := 2000000) (disch := first | rfl | exact Nat.le_of_ble_eq_true rfl | omega | (simp only [List.length_append, List.length_cons, List.length_nil, List.length_set]; omega)) only [he', hcM, W1, W2, W3, W4, W5, W6, W7, W8, W9, W10, W11, W12, W13, W14, W15, eq_self, ite_true, ite_false, undef_eq, List.set_cons_zero, List.set_cons_succ, List.getD_cons_zero, List.getD_cons_succ, List.map_cons, List.map_nil, List.length_cons, List.length_nil, List.append_nil, List.cons_append, List.nil_append, List.replicate_succ, List.replicate_zero, Nat.reduceAdd, Nat.reduceSub, ↓reduceIte, List.getElem?_cons_zero, List.getElem?_cons_succ, basic, cellsL, resOf, setAt, List.append_assoc, List.length_append, List.getElem?_append_left, List.getElem?_append_right, List.set_append_left, List.set_append_right, below, belowB, belowA, atomB, List.mem_cons, List.not_mem_nil, forall_eq_or_imp, forall_eq, List.toList_toArray, implies_true, List.take_succ_cons, List.take_zero, List.drop_succ_cons, List.drop_zero, List.take_nil, List.drop_nil, Nat.reduceLeDiff, Nat.reduceMul, Int.reduceToNat, Int.reduceLT, Int.reduceLE, Int.reduceAdd, Int.reduceNeg, Int.reduceEq, splice, List.singleton_append, Nat.reduceEqDiff, Nat.reduceLT, isAtom, List.all_cons, List.all_nil, Option.map_some, Option.bind_some, List.length_set, Int.reduceSub, Int.reduceMul, List.getElem?_set_self, List.getElem?_set_ne, ofB_2, tmpR_if, ro_sliceData, ro_capNil, ro_noZero, ext_2, ext_3, ext_4, ext_5, List.set_set]
    exact ⟨by rw [e1], hf.of_nil, keep (by rw [e1]; exact he)⟩
end Go.Proofs.Ytfpnnaalbjmnlaa
