/- The document's box: walked. -/
import Derived.Test.YtfpnnaalbjmnlaaC
import Derived.Test.YtfpnnaalbjmnlaaY
namespace Go.Proofs.Ytfpnnaalbjmnlaa
open Go.Lg
set_option maxRecDepth 8000
set_option maxHeartbeats 8000000
set_option linter.unusedSimpArgs false
set_option linter.unnecessarySimpa false
set_option linter.unusedVariables false

/-- A piece, and of which message. -/
structure RP where
  o : Int
  p : PP
def RP.row (x : RP) : List Value := [.int .i64 x.o, .int .i64 x.p.1, str x.p.2]
def Rb (m : Mem) (w : Nat) (F : List Nat) (n1 cnt : Int) (W : List RP) : Prop := ∃ sv G, F = w :: G ∧ w ∉ G ∧ m[w]? = some ⟨[.int .i64 n1, .int .i64 cnt, sv], 45, 1, 0, .own⟩ ∧ Sl m 63 3 sv G (W.map RP.row)
theorem Rb.frm {m m' : Mem} {w : Nat} {F G : List Nat} {n1 cnt : Int} {W : List RP} (h : Rb m w F n1 cnt W) (k : Frm G m m') (hd : ∀ x ∈ F, x ∉ G) : Rb m' w F n1 cnt W := by
  obtain ⟨sv, H, rfl, h1, h2, h3⟩ := h
  exact ⟨sv, H, rfl, h1, k.get h2 (hd _ (by simp)), h3.frm k fun x hx => hd x (by simp [hx])⟩
theorem Rb.lt {m : Mem} {w : Nat} {F : List Nat} {n1 cnt : Int} {W : List RP} (h : Rb m w F n1 cnt W) : ∀ x ∈ F, x < m.length := by
  obtain ⟨sv, H, rfl, h1, h2, h3⟩ := h
  intro x hx
  rcases List.mem_cons.mp hx with rfl | hx
  · exact lt_of_some h2
  · exact h3.lt x hx
theorem rnew_spec (n1 : Int) (m : Mem) : LCall Try.prog 9 [.int .i64 n1] m fun v M =>
    if 16 ≤ n1 ∧ n1 ≤ 256 then v = .pointer (some ⟨m.length, 0, none⟩) ∧ Frm [] m M ∧ Rb M m.length [m.length] n1 0 [] else v = .pointer none ∧ M = m := by
  refine LCall_enter Try.func9 c9 ?_
  by_cases h1 : n1 < 16
  · simp (contextual := true) (implicitDefEqProofs := false) (maxSteps := 2000000) (disch := first | rfl | exact Nat.le_of_ble_eq_true rfl | omega | (simp only [List.length_append, List.length_cons, List.length_nil, List.length_set]; omega)) only [L9, h1, W1, W2, W3, W4, W5, W6, W7, W8, W9, W10, W11, W12, W13, W14, W15, eq_self, ite_true, ite_false, undef_eq, List.set_cons_zero, List.set_cons_succ, List.getD_cons_zero, List.getD_cons_succ, List.map_cons, List.map_nil, List.length_cons, List.length_nil, List.append_nil, List.cons_append, List.nil_append, List.replicate_succ, List.replicate_zero, Nat.reduceAdd, Nat.reduceSub, ↓reduceIte, List.getElem?_cons_zero, List.getElem?_cons_succ, basic, cellsL, resOf, setAt, List.append_assoc, List.length_append, List.getElem?_append_left, List.getElem?_append_right, List.set_append_left, List.set_append_right, below, belowB, belowA, atomB, List.mem_cons, List.not_mem_nil, forall_eq_or_imp, forall_eq, List.toList_toArray, implies_true, List.take_succ_cons, List.take_zero, List.drop_succ_cons, List.drop_zero, List.take_nil, List.drop_nil, Nat.reduceLeDiff, Nat.reduceMul, Int.reduceToNat, Int.reduceLT, Int.reduceLE, Int.reduceAdd, Int.reduceNeg, Int.reduceEq, splice, List.singleton_append, Nat.reduceEqDiff, Nat.reduceLT, isAtom, List.all_cons, List.all_nil, Option.map_some, Option.bind_some, List.length_set, Int.reduceSub, Int.reduceMul, List.getElem?_set_self, List.getElem?_set_ne, ofB_2, tmpR_if, ro_sliceData, ro_capNil, ro_noZero, ext_2, ext_3, ext_4, ext_5, List.set_set]
    rw [if_neg (by omega)]
    trivial
  · by_cases h2 : 256 < n1
    · simp (contextual := true) (implicitDefEqProofs := false) (maxSteps := 2000000) (disch := first | rfl | exact Nat.le_of_ble_eq_true rfl | omega | (simp only [List.length_append, List.length_cons, List.length_nil, List.length_set]; omega)) only [L9, h1, h2, W1, W2, W3, W4, W5, W6, W7, W8, W9, W10, W11, W12, W13, W14, W15, eq_self, ite_true, ite_false, undef_eq, List.set_cons_zero, List.set_cons_succ, List.getD_cons_zero, List.getD_cons_succ, List.map_cons, List.map_nil, List.length_cons, List.length_nil, List.append_nil, List.cons_append, List.nil_append, List.replicate_succ, List.replicate_zero, Nat.reduceAdd, Nat.reduceSub, ↓reduceIte, List.getElem?_cons_zero, List.getElem?_cons_succ, basic, cellsL, resOf, setAt, List.append_assoc, List.length_append, List.getElem?_append_left, List.getElem?_append_right, List.set_append_left, List.set_append_right, below, belowB, belowA, atomB, List.mem_cons, List.not_mem_nil, forall_eq_or_imp, forall_eq, List.toList_toArray, implies_true, List.take_succ_cons, List.take_zero, List.drop_succ_cons, List.drop_zero, List.take_nil, List.drop_nil, Nat.reduceLeDiff, Nat.reduceMul, Int.reduceToNat, Int.reduceLT, Int.reduceLE, Int.reduceAdd, Int.reduceNeg, Int.reduceEq, splice, List.singleton_append, Nat.reduceEqDiff, Nat.reduceLT, isAtom, List.all_cons, List.all_nil, Option.map_some, Option.bind_some, List.length_set, Int.reduceSub, Int.reduceMul, List.getElem?_set_self, List.getElem?_set_ne, ofB_2, tmpR_if, ro_sliceData, ro_capNil, ro_noZero, ext_2, ext_3, ext_4, ext_5, List.set_set]
      rw [if_neg (by omega)]
      trivial
    · simp (contextual := true) (implicitDefEqProofs := false) (maxSteps := 2000000) (disch := first | rfl | exact Nat.le_of_ble_eq_true rfl | omega | (simp only [List.length_append, List.length_cons, List.length_nil, List.length_set]; omega)) only [L9, h1, h2, W1, W2, W3, W4, W5, W6, W7, W8, W9, W10, W11, W12, W13, W14, W15, eq_self, ite_true, ite_false, undef_eq, List.set_cons_zero, List.set_cons_succ, List.getD_cons_zero, List.getD_cons_succ, List.map_cons, List.map_nil, List.length_cons, List.length_nil, List.append_nil, List.cons_append, List.nil_append, List.replicate_succ, List.replicate_zero, Nat.reduceAdd, Nat.reduceSub, ↓reduceIte, List.getElem?_cons_zero, List.getElem?_cons_succ, basic, cellsL, resOf, setAt, List.append_assoc, List.length_append, List.getElem?_append_left, List.getElem?_append_right, List.set_append_left, List.set_append_right, below, belowB, belowA, atomB, List.mem_cons, List.not_mem_nil, forall_eq_or_imp, forall_eq, List.toList_toArray, implies_true, List.take_succ_cons, List.take_zero, List.drop_succ_cons, List.drop_zero, List.take_nil, List.drop_nil, Nat.reduceLeDiff, Nat.reduceMul, Int.reduceToNat, Int.reduceLT, Int.reduceLE, Int.reduceAdd, Int.reduceNeg, Int.reduceEq, splice, List.singleton_append, Nat.reduceEqDiff, Nat.reduceLT, isAtom, List.all_cons, List.all_nil, Option.map_some, Option.bind_some, List.length_set, Int.reduceSub, Int.reduceMul, List.getElem?_set_self, List.getElem?_set_ne, ofB_2, tmpR_if, ro_sliceData, ro_capNil, ro_noZero, ext_2, ext_3, ext_4, ext_5, List.set_set]
      rw [if_pos (by omega)]
      exact ⟨Frm.refl.app, _, [], rfl, by simp, by simp, .nil⟩

/-- How many messages the pieces are of, behind one of such a message. -/
def bnd : Option Int → List RP → Nat
  | _, [] => 0
  | q, x :: l => (if q = some x.o then 0 else 1) + bnd (some x.o) l
def prevO (W : List RP) (i : Nat) : Option Int := if i = 0 then none else (W[i - 1]?).map RP.o
theorem bnd_step {W : List RP} {i : Nat} {x : RP} (h : W[i]? = some x) : bnd (prevO W i) (W.drop i) = (if prevO W i = some x.o then 0 else 1) + bnd (prevO W (i + 1)) (W.drop (i + 1)) := by
  obtain ⟨h1, h2⟩ := List.getElem?_eq_some_iff.mp h
  rw [List.drop_eq_getElem_cons h1, h2, bnd]
  have : prevO W (i + 1) = some x.o := by
    rw [prevO, if_neg (by omega), show i + 1 - 1 = i by omega, h]; rfl
  rw [this]
theorem bnd_le : ∀ {l : List RP} {q : Option Int}, bnd q l ≤ l.length
  | [], _ => Nat.le_refl _
  | x :: l, q => by
    have := bnd_le (l := l) (q := some x.o)
    rw [bnd, List.length_cons]; split <;> omega
theorem rlen_spec {m : Mem} {w : Nat} {F : List Nat} {n1 cnt : Int} {W : List RP} (h : Rb m w F n1 cnt W) (hn : W.length ≤ 1000) : Ret Try.prog 15 [.pointer (some ⟨w, 0, none⟩)] m (.int .i64 (bnd none W : Int)) m := by
  obtain ⟨sv, G, rfl, hwG, hc, hsl⟩ := h
  have hcl := lt_of_some hc
  obtain ⟨a, rfl, hform⟩ := hsl.form
  simp only [List.length_map] at hsl hc hform
  refine LCall_drop (LCall_enter Try.func15 c15 ?_)
  simp (contextual := true) (implicitDefEqProofs := false) (maxSteps := 2000000) (disch := first | rfl | exact Nat.le_of_ble_eq_true rfl | omega | (simp only [List.length_append, List.length_cons, List.length_nil, List.length_set]; omega)) only [L15, W1, W2, W3, W4, W5, W6, W7, W8, W9, W10, W11, W12, W13, W14, W15, eq_self, ite_true, ite_false, undef_eq, List.set_cons_zero, List.set_cons_succ, List.getD_cons_zero, List.getD_cons_succ, List.map_cons, List.map_nil, List.length_cons, List.length_nil, List.append_nil, List.cons_append, List.nil_append, List.replicate_succ, List.replicate_zero, Nat.reduceAdd, Nat.reduceSub, ↓reduceIte, List.getElem?_cons_zero, List.getElem?_cons_succ, basic, cellsL, resOf, setAt, List.append_assoc, List.length_append, List.getElem?_append_left, List.getElem?_append_right, List.set_append_left, List.set_append_right, below, belowB, belowA, atomB, List.mem_cons, List.not_mem_nil, forall_eq_or_imp, forall_eq, List.toList_toArray, implies_true, List.take_succ_cons, List.take_zero, List.drop_succ_cons, List.drop_zero, List.take_nil, List.drop_nil, Nat.reduceLeDiff, Nat.reduceMul, Int.reduceToNat, Int.reduceLT, Int.reduceLE, Int.reduceAdd, Int.reduceNeg, Int.reduceEq, splice, List.singleton_append, Nat.reduceEqDiff, Nat.reduceLT, isAtom, List.all_cons, List.all_nil, Option.map_some, Option.bind_some, List.length_set, Int.reduceSub, Int.reduceMul, List.getElem?_set_self, List.getElem?_set_ne, ofB_2, tmpR_if, ro_sliceData, ro_capNil, ro_noZero, ext_2, ext_3, ext_4, ext_5, List.set_set]
  refine loop_inv (fun n t M => ∃ (i c : Nat), n = W.length - i ∧ i ≤ W.length ∧ M = m ∧ c + bnd (prevO W i) (W.drop i) = bnd none W ∧ c ≤ i ∧
    Tab 39 [(0, .pointer (some ⟨w, 0, none⟩)), (3, .int .i64 (c : Int)), (4, .int .i64 (i : Int))] t) (n := W.length) ?_ ?_
  · exact ⟨0, 0, rfl, Nat.zero_le _, rfl, by simp [prevO], Nat.le_refl _, ⟨rfl, by simp⟩⟩
  rintro n t m ⟨i, c, rfl, hi, rfl, hbn, hci, ht⟩
  obtain ⟨g, rfl⟩ : ∃ f' : Nat → Value, t = [.pointer (some ⟨w, 0, none⟩), f' 1, f' 2, .int .i64 (c : Int), .int .i64 (i : Int), f' 5, f' 6, f' 7, f' 8, f' 9, f' 10, f' 11, f' 12, f' 13, f' 14, f' 15, f' 16, f' 17, f' 18, f' 19, f' 20, f' 21, f' 22, f' 23, f' 24, f' 25, f' 26, f' 27, f' 28, f' 29, f' 30, f' 31, f' 32, f' 33, f' 34, f' 35, f' 36, f' 37, f' 38] := ht.open fun f' => rfl
  by_cases hlt : i < W.length
  · have hlt' : ((i : Int) < (W.length : Int)) = True := by simp [hlt]
    have h0' : ((0 : Int) ≤ (i : Int)) = True := by simp
    have hwi : IntKind.i64.wrap ((i : Int) + 1) = ((i + 1 : Nat) : Int) := by rw [wrap_i64 (by omega) (by omega)]; omega
    have hwc : IntKind.i64.wrap ((c : Int) + 1) = ((c + 1 : Nat) : Int) := by rw [wrap_i64 (by omega) (by omega)]; omega
    obtain ⟨b, o, cs, rfl, rfl, hb, hl, hcc, hrow⟩ := hform (by omega)
    obtain ⟨e, he⟩ : ∃ r, W[i]? = some r := ⟨_, List.getElem?_eq_getElem hlt⟩
    have hx : cs[o + i * 3]? = some (.int .i64 e.o) := by
      have := row_cell (hrow i e.row (by simp [he])) (j := 0) (by omega)
      simpa [RP.row] using this
    have hst := bnd_step he
    by_cases hi0 : i = 0
    · have hz : ((i : Int) = 0) = True := eq_true (by omega)
      have hpv : prevO W i = none := if_pos hi0
      rw [hpv, if_neg (by simp)] at hst
      rw [hpv] at hbn
      simp (contextual := true) (implicitDefEqProofs := false) (maxSteps := 2000000) (disch := first | rfl | exact Nat.le_of_ble_eq_true rfl | omega | (simp only [List.length_append, List.length_cons, List.length_nil, List.length_set]; omega)) only [hc, hlt', h0', hb, hx, hz, hwc, Int.toNat_natCast, W1, W2, W3, W4, W5, W6, W7, W8, W9, W10, W11, W12, W13, W14, W15, eq_self, ite_true, ite_false, undef_eq, List.set_cons_zero, List.set_cons_succ, List.getD_cons_zero, List.getD_cons_succ, List.map_cons, List.map_nil, List.length_cons, List.length_nil, List.append_nil, List.cons_append, List.nil_append, List.replicate_succ, List.replicate_zero, Nat.reduceAdd, Nat.reduceSub, ↓reduceIte, List.getElem?_cons_zero, List.getElem?_cons_succ, basic, cellsL, resOf, setAt, List.append_assoc, List.length_append, List.getElem?_append_left, List.getElem?_append_right, List.set_append_left, List.set_append_right, below, belowB, belowA, atomB, List.mem_cons, List.not_mem_nil, forall_eq_or_imp, forall_eq, List.toList_toArray, implies_true, List.take_succ_cons, List.take_zero, List.drop_succ_cons, List.drop_zero, List.take_nil, List.drop_nil, Nat.reduceLeDiff, Nat.reduceMul, Int.reduceToNat, Int.reduceLT, Int.reduceLE, Int.reduceAdd, Int.reduceNeg, Int.reduceEq, splice, List.singleton_append, Nat.reduceEqDiff, Nat.reduceLT, isAtom, List.all_cons, List.all_nil, Option.map_some, Option.bind_some, List.length_set, Int.reduceSub, Int.reduceMul, List.getElem?_set_self, List.getElem?_set_ne, ofB_2, tmpR_if, ro_sliceData, ro_capNil, ro_noZero, ext_2, ext_3, ext_4, ext_5, List.set_set]
      exact kInv_go ⟨i + 1, c + 1, rfl, by omega, rfl, by omega, by omega, ⟨rfl, by simp [hwi]⟩⟩ (by omega)
    · have hz : ((i : Int) = 0) = False := eq_false (by omega)
      have hw1 : IntKind.i64.wrap ((i : Int) - 1) = (i : Int) - 1 := wrap_i64 (by omega) (by omega)
      have hp0 : ((0 : Int) ≤ (i : Int) - 1) = True := eq_true (by omega)
      have hp1 : ((i : Int) - 1 < (W.length : Int)) = True := eq_true (by omega)
      have htn : ((i : Int) - 1).toNat = i - 1 := by omega
      obtain ⟨d, hd⟩ : ∃ r, W[i - 1]? = some r := ⟨_, List.getElem?_eq_getElem (by omega)⟩
      have hy : cs[o + (i - 1) * 3]? = some (.int .i64 d.o) := by
        have := row_cell (hrow (i - 1) d.row (by simp [hd])) (j := 0) (by omega)
        simpa [RP.row] using this
      have hpv : prevO W i = some d.o := by rw [prevO, if_neg hi0, hd]; rfl
      rw [hpv] at hst hbn
      by_cases hed : e.o = d.o
      · have hed' : (e.o = d.o) = True := eq_true hed
        rw [if_pos (by rw [hed])] at hst
        simp (contextual := true) (implicitDefEqProofs := false) (maxSteps := 2000000) (disch := first | rfl | exact Nat.le_of_ble_eq_true rfl | omega | (simp only [List.length_append, List.length_cons, List.length_nil, List.length_set]; omega)) only [hc, hlt', h0', hb, hx, hy, hz, hw1, hp0, hp1, htn, hed', Int.toNat_natCast, W1, W2, W3, W4, W5, W6, W7, W8, W9, W10, W11, W12, W13, W14, W15, eq_self, ite_true, ite_false, undef_eq, List.set_cons_zero, List.set_cons_succ, List.getD_cons_zero, List.getD_cons_succ, List.map_cons, List.map_nil, List.length_cons, List.length_nil, List.append_nil, List.cons_append, List.nil_append, List.replicate_succ, List.replicate_zero, Nat.reduceAdd, Nat.reduceSub, ↓reduceIte, List.getElem?_cons_zero, List.getElem?_cons_succ, basic, cellsL, resOf, setAt, List.append_assoc, List.length_append, List.getElem?_append_left, List.getElem?_append_right, List.set_append_left, List.set_append_right, below, belowB, belowA, atomB, List.mem_cons, List.not_mem_nil, forall_eq_or_imp, forall_eq, List.toList_toArray, implies_true, List.take_succ_cons, List.take_zero, List.drop_succ_cons, List.drop_zero, List.take_nil, List.drop_nil, Nat.reduceLeDiff, Nat.reduceMul, Int.reduceToNat, Int.reduceLT, Int.reduceLE, Int.reduceAdd, Int.reduceNeg, Int.reduceEq, splice, List.singleton_append, Nat.reduceEqDiff, Nat.reduceLT, isAtom, List.all_cons, List.all_nil, Option.map_some, Option.bind_some, List.length_set, Int.reduceSub, Int.reduceMul, List.getElem?_set_self, List.getElem?_set_ne, ofB_2, tmpR_if, ro_sliceData, ro_capNil, ro_noZero, ext_2, ext_3, ext_4, ext_5, List.set_set]
        exact kInv_go ⟨i + 1, c, rfl, by omega, rfl, by omega, by omega, ⟨rfl, by simp [hwi]⟩⟩ (by omega)
      · have hed' : (e.o = d.o) = False := eq_false hed
        rw [if_neg (by simpa using fun hh => hed hh.symm)] at hst
        simp (contextual := true) (implicitDefEqProofs := false) (maxSteps := 2000000) (disch := first | rfl | exact Nat.le_of_ble_eq_true rfl | omega | (simp only [List.length_append, List.length_cons, List.length_nil, List.length_set]; omega)) only [hc, hlt', h0', hb, hx, hy, hz, hw1, hp0, hp1, htn, hed', hwc, Int.toNat_natCast, W1, W2, W3, W4, W5, W6, W7, W8, W9, W10, W11, W12, W13, W14, W15, eq_self, ite_true, ite_false, undef_eq, List.set_cons_zero, List.set_cons_succ, List.getD_cons_zero, List.getD_cons_succ, List.map_cons, List.map_nil, List.length_cons, List.length_nil, List.append_nil, List.cons_append, List.nil_append, List.replicate_succ, List.replicate_zero, Nat.reduceAdd, Nat.reduceSub, ↓reduceIte, List.getElem?_cons_zero, List.getElem?_cons_succ, basic, cellsL, resOf, setAt, List.append_assoc, List.length_append, List.getElem?_append_left, List.getElem?_append_right, List.set_append_left, List.set_append_right, below, belowB, belowA, atomB, List.mem_cons, List.not_mem_nil, forall_eq_or_imp, forall_eq, List.toList_toArray, implies_true, List.take_succ_cons, List.take_zero, List.drop_succ_cons, List.drop_zero, List.take_nil, List.drop_nil, Nat.reduceLeDiff, Nat.reduceMul, Int.reduceToNat, Int.reduceLT, Int.reduceLE, Int.reduceAdd, Int.reduceNeg, Int.reduceEq, splice, List.singleton_append, Nat.reduceEqDiff, Nat.reduceLT, isAtom, List.all_cons, List.all_nil, Option.map_some, Option.bind_some, List.length_set, Int.reduceSub, Int.reduceMul, List.getElem?_set_self, List.getElem?_set_ne, ofB_2, tmpR_if, ro_sliceData, ro_capNil, ro_noZero, ext_2, ext_3, ext_4, ext_5, List.set_set]
        exact kInv_go ⟨i + 1, c + 1, rfl, by omega, rfl, by omega, by omega, ⟨rfl, by simp [hwi]⟩⟩ (by omega)
  · have hlt' : ((i : Int) < (W.length : Int)) = False := by simp; omega
    rw [List.drop_of_length_le (by omega), bnd] at hbn
    simp (contextual := true) (implicitDefEqProofs := false) (maxSteps := 2000000) (disch := first | rfl | exact Nat.le_of_ble_eq_true rfl | omega | (simp only [List.length_append, List.length_cons, List.length_nil, List.length_set]; omega)) only [hc, hlt', W1, W2, W3, W4, W5, W6, W7, W8, W9, W10, W11, W12, W13, W14, W15, eq_self, ite_true, ite_false, undef_eq, List.set_cons_zero, List.set_cons_succ, List.getD_cons_zero, List.getD_cons_succ, List.map_cons, List.map_nil, List.length_cons, List.length_nil, List.append_nil, List.cons_append, List.nil_append, List.replicate_succ, List.replicate_zero, Nat.reduceAdd, Nat.reduceSub, ↓reduceIte, List.getElem?_cons_zero, List.getElem?_cons_succ, basic, cellsL, resOf, setAt, List.append_assoc, List.length_append, List.getElem?_append_left, List.getElem?_append_right, List.set_append_left, List.set_append_right, below, belowB, belowA, atomB, List.mem_cons, List.not_mem_nil, forall_eq_or_imp, forall_eq, List.toList_toArray, implies_true, List.take_succ_cons, List.take_zero, List.drop_succ_cons, List.drop_zero, List.take_nil, List.drop_nil, Nat.reduceLeDiff, Nat.reduceMul, Int.reduceToNat, Int.reduceLT, Int.reduceLE, Int.reduceAdd, Int.reduceNeg, Int.reduceEq, splice, List.singleton_append, Nat.reduceEqDiff, Nat.reduceLT, isAtom, List.all_cons, List.all_nil, Option.map_some, Option.bind_some, List.length_set, Int.reduceSub, Int.reduceMul, List.getElem?_set_self, List.getElem?_set_ne, ofB_2, tmpR_if, ro_sliceData, ro_capNil, ro_noZero, ext_2, ext_3, ext_4, ext_5, List.set_set]
    rw [← hbn]; rfl
end Go.Proofs.Ytfpnnaalbjmnlaa
