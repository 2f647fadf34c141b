/- The next digipeater; what it sends on: walked. -/
import Derived.Test.YtadkdihbbngbfaaDoorMB
set_option linter.unusedSimpArgs false
set_option linter.unnecessarySimpa false
set_option linter.unusedVariables false
namespace Go.Proofs.YtadkdihbbngbfaaDoor
open Go.Lg
set_option maxRecDepth 8000
set_option maxHeartbeats 8000000
theorem nohas_spec (e : En) (m : Mem) : Ret Tryd.prog 69 [.agg #[str e.b, .int .i64 e.s, .bool e.k]] m (.bool (!e.k)) m := by
  refine LCall_drop (LCall_enter Tryd.func69 c69 ?_)
  simp (contextual := true) (implicitDefEqProofs := false) (maxSteps := 2000000) (disch := first | rfl | exact NB rfl | omega | (simp only [XL]; omega)) only [L69, XW, undef_eq, Nat.reduceAdd, Nat.reduceSub, ↓reduceIte, basic, cellsL, resOf, setAt, below, belowB, belowA, atomB, Nat.reduceLeDiff, Nat.reduceMul, Int.reduceToNat, Int.reduceLT, Int.reduceLE, Int.reduceAdd, Int.reduceNeg, Int.reduceEq, splice, Nat.reduceEqDiff, Nat.reduceLT, isAtom, Int.reduceSub, Int.reduceMul, implies_true]
theorem next_spec {tb : List UInt8} {ts : Int} {fb : List UInt8} {fs : Int} {tm fm : Bool} {dv : Value} {l : List En} {m : Mem} (h : Rd m 3 dv (l.map En.row)) (hn : l.length ≤ 1000000) : Ret Tryd.prog 49 [pathV tb ts fb fs tm fm dv] m (.int .i64 (nx l)) m := by
  have h0 := h
  obtain ⟨a, rfl, _⟩ := h
  refine LCall_drop (LCall_enter Tryd.func49 c49 ?_)
  simp (contextual := true) (implicitDefEqProofs := false) (maxSteps := 2000000) (disch := first | rfl | exact NB rfl | omega | (simp only [XL]; omega)) only [L49, XW, undef_eq, Nat.reduceAdd, Nat.reduceSub, ↓reduceIte, basic, cellsL, resOf, setAt, below, belowB, belowA, atomB, Nat.reduceLeDiff, Nat.reduceMul, Int.reduceToNat, Int.reduceLT, Int.reduceLE, Int.reduceAdd, Int.reduceNeg, Int.reduceEq, splice, Nat.reduceEqDiff, Nat.reduceLT, isAtom, Int.reduceSub, Int.reduceMul, implies_true]
  refine (index_spec (p := fun e => !e.k) (by kernel_rfl) (fun e _ m => nohas_spec e m) h0.app hn).use ?_
  simp (contextual := true) (implicitDefEqProofs := false) (maxSteps := 2000000) (disch := first | rfl | exact NB rfl | omega | (simp only [XL]; omega)) only [nx, XW, undef_eq, Nat.reduceAdd, Nat.reduceSub, ↓reduceIte, basic, cellsL, resOf, setAt, below, belowB, belowA, atomB, Nat.reduceLeDiff, Nat.reduceMul, Int.reduceToNat, Int.reduceLT, Int.reduceLE, Int.reduceAdd, Int.reduceNeg, Int.reduceEq, splice, Nat.reduceEqDiff, Nat.reduceLT, isAtom, Int.reduceSub, Int.reduceMul, implies_true]
theorem pnone_spec {tb : List UInt8} {ts : Int} {fb : List UInt8} {fs : Int} {tm fm : Bool} {dv : Value} {l : List En} {m : Mem} (h : Rd m 3 dv (l.map En.row)) (hn : l.length ≤ 1000000) (hx : nx l = -1) : Ret Tryd.prog 27 [pathV tb ts fb fs tm fm dv] m (.tuple #[.agg #[str [], .int .i64 0], .bool false]) m := by
  have h0 := h
  obtain ⟨a, rfl, _⟩ := h
  refine LCall_drop (LCall_enter Tryd.func27 c27 ?_)
  simp (contextual := true) (implicitDefEqProofs := false) (maxSteps := 2000000) (disch := first | rfl | exact NB rfl | omega | (simp only [XL]; omega)) only [L27, XW, undef_eq, Nat.reduceAdd, Nat.reduceSub, ↓reduceIte, basic, cellsL, resOf, setAt, below, belowB, belowA, atomB, Nat.reduceLeDiff, Nat.reduceMul, Int.reduceToNat, Int.reduceLT, Int.reduceLE, Int.reduceAdd, Int.reduceNeg, Int.reduceEq, splice, Nat.reduceEqDiff, Nat.reduceLT, isAtom, Int.reduceSub, Int.reduceMul, implies_true]
  refine (next_spec h0.app hn).use ?_
  rw [hx]
  simp (contextual := true) (implicitDefEqProofs := false) (maxSteps := 2000000) (disch := first | rfl | exact NB rfl | omega | (simp only [XL]; omega)) only [XW, undef_eq, Nat.reduceAdd, Nat.reduceSub, ↓reduceIte, basic, cellsL, resOf, setAt, below, belowB, belowA, atomB, Nat.reduceLeDiff, Nat.reduceMul, Int.reduceToNat, Int.reduceLT, Int.reduceLE, Int.reduceAdd, Int.reduceNeg, Int.reduceEq, splice, Nat.reduceEqDiff, Nat.reduceLT, isAtom, Int.reduceSub, Int.reduceMul, implies_true]
theorem psome_spec {tb : List UInt8} {ts : Int} {fb : List UInt8} {fs : Int} {tm fm : Bool} {dv : Value} {l : List En} {j : Nat} {e : En} {m : Mem} (h : Rd m 3 dv (l.map En.row)) (hn : l.length ≤ 1000000) (hx : nx l = (j : Int)) (he : l[j]? = some e) : Ret Tryd.prog 27 [pathV tb ts fb fs tm fm dv] m (.tuple #[.agg #[str e.b, .int .i64 e.s], .bool true]) m := by
  have h0 := h
  obtain ⟨a, rfl, hform⟩ := h
  have hj : j < l.length := (List.getElem?_eq_some_iff.mp he).1
  simp only [List.length_map] at hform
  obtain ⟨b, o, cs, T, fz, kd, rfl, hb, hk, hl, hrow⟩ := hform (by omega)
  have hr : (cs.drop (o + j * 3)).take 2 = [str e.b, .int .i64 e.s] := by
    have := congrArg (List.take 2) (hrow j e.row (by simp [he]))
    rwa [List.take_take] at this
  have hlen : o + j * 3 + 2 ≤ cs.length := by omega
  have hbl := lt_of_some hb
  have hneg : ((j : Int) < 0) = False := eq_false (by omega)
  have hlt : ((j : Int) < (l.length : Int)) = True := eq_true (by omega)
  refine LCall_drop (LCall_enter Tryd.func27 c27 ?_)
  simp (contextual := true) (implicitDefEqProofs := false) (maxSteps := 2000000) (disch := first | rfl | exact NB rfl | omega | (simp only [XL]; omega)) only [L27, XW, undef_eq, Nat.reduceAdd, Nat.reduceSub, ↓reduceIte, basic, cellsL, resOf, setAt, below, belowB, belowA, atomB, Nat.reduceLeDiff, Nat.reduceMul, Int.reduceToNat, Int.reduceLT, Int.reduceLE, Int.reduceAdd, Int.reduceNeg, Int.reduceEq, splice, Nat.reduceEqDiff, Nat.reduceLT, isAtom, Int.reduceSub, Int.reduceMul, implies_true]
  refine (next_spec h0.app hn).use ?_
  rw [hx]
  have h0' : ((0 : Int) ≤ (j : Int)) = True := eq_true (by omega)
  simp (contextual := true) (implicitDefEqProofs := false) (maxSteps := 2000000) (disch := first | rfl | exact NB rfl | omega | (simp only [XL]; omega)) only [hneg, hlt, h0', hb, hr, cellsB_l hk hlen, Int.toNat_natCast, List.length_map, XW, undef_eq, Nat.reduceAdd, Nat.reduceSub, ↓reduceIte, basic, cellsL, resOf, setAt, below, belowB, belowA, atomB, Nat.reduceLeDiff, Nat.reduceMul, Int.reduceToNat, Int.reduceLT, Int.reduceLE, Int.reduceAdd, Int.reduceNeg, Int.reduceEq, splice, Nat.reduceEqDiff, Nat.reduceLT, isAtom, Int.reduceSub, Int.reduceMul, implies_true]
theorem clone_spec {dv : Value} {l : List En} {m : Mem} (h : RdN m 3 dv (l.map En.row)) (hn : l.length ≤ 1000000) (h0 : 0 < l.length) : LCall Tryd.prog 50 [dv] m fun v M => Frm [] m M ∧ ∃ F, Sl M 89 3 v F (l.map En.row) ∧ ∀ z ∈ F, m.length ≤ z := by
  have hh := h
  obtain ⟨a, rfl, hform⟩ := h.1
  simp only [List.length_map] at hform
  obtain ⟨b, o, cs, T, fz, kd, rfl, hb, hk, hl, hrow⟩ := hform h0
  refine LCall_enter Tryd.func50 c50 ?_
  simp (contextual := true) (implicitDefEqProofs := false) (maxSteps := 2000000) (disch := first | rfl | exact NB rfl | omega | (simp only [XL]; omega)) only [L50, XX, XB, lc_block, lc_cond, XZ, undef_eq, Nat.reduceAdd, Nat.reduceSub, ↓reduceIte, basic, cellsL, resOf, setAt, below, belowB, belowA, atomB, Nat.reduceLeDiff, Nat.reduceMul, Int.reduceToNat, Int.reduceLT, Int.reduceLE, Int.reduceAdd, Int.reduceNeg, Int.reduceEq, splice, Nat.reduceEqDiff, Nat.reduceLT, isAtom, Int.reduceSub, Int.reduceMul, implies_true]
  obtain ⟨N, hN, hNl, hfN, hb0⟩ : ∃ N, m ++ [⟨[], 89, 3, 0, .own⟩] = N ∧ N.length = m.length + 1 ∧ Frm [] m N ∧ N[m.length]? = some ⟨[], 89, 3, 0, .own⟩ := ⟨_, rfl, by simp, Frm.refl.app, by simp⟩
  rw [hN]
  have hn0 := h.2 N hfN
  rw [new_sl] at hn0
  rw [hn0]
  have hs0 : Sl N 89 3 (.slice (some ⟨m.length, 0, none⟩) 0 0) [m.length] [] := Sl.own (T := 89) (sz := 3) (rows := []) hb0 (by simp) (by simp) (by simp)
  refine app_any hs0 (new := l.map En.row) (by simp) (fun r hr => ?_) rfl (by simp; omega) ?_
  · obtain ⟨e, _, rfl⟩ := List.mem_map.mp hr; rfl
  intro v M G hM hf hs hG
  obtain ⟨va, rfl, _⟩ := hs.form
  simp (contextual := true) (implicitDefEqProofs := false) (maxSteps := 2000000) (disch := first | rfl | exact NB rfl | omega | (simp only [XL]; omega)) only [XW, undef_eq, Nat.reduceAdd, Nat.reduceSub, ↓reduceIte, basic, cellsL, resOf, setAt, below, belowB, belowA, atomB, Nat.reduceLeDiff, Nat.reduceMul, Int.reduceToNat, Int.reduceLT, Int.reduceLE, Int.reduceAdd, Int.reduceNeg, Int.reduceEq, splice, Nat.reduceEqDiff, Nat.reduceLT, isAtom, Int.reduceSub, Int.reduceMul, implies_true]
  refine ⟨hfN.trans hf fun x hx => .inr (by simp at hx; omega), G, by simpa using hs, fun x hx => ?_⟩
  rcases hG x hx with h1 | h1
  · simp at h1; omega
  · omega
theorem set_row {cs : List Value} {k : Nat} {A B C D : Value} (h : (cs.drop k).take 3 = [A, B, C]) : cs.set (k + 2) D = setAt cs k [A, B, D] := by
  have h0 : cs[k]? = some A := by have := row_cell h (j := 0) (by omega); simpa using this
  have h1 : cs[k + 1]? = some B := by have := row_cell h (j := 1) (by omega); simpa using this
  obtain ⟨l0, e0⟩ := List.getElem?_eq_some_iff.mp h0
  obtain ⟨l1, e1⟩ := List.getElem?_eq_some_iff.mp h1
  have s0 : cs.set k A = cs := by rw [← e0, List.set_getElem_self]
  have s1 : cs.set (k + 1) B = cs := by rw [← e1, List.set_getElem_self]
  show _ = ((cs.set k A).set (k + 1) B).set (k + 1 + 1) D
  rw [s0, s1]
theorem sent_spec {tb : List UInt8} {ts : Int} {fb : List UInt8} {fs : Int} {tm fm : Bool} {dv : Value} {l : List En} {j : Nat} {e : En} {m : Mem} (h : RdN m 3 dv (l.map En.row)) (hn : l.length ≤ 1000000) (hx : nx l = (j : Int)) (he : l[j]? = some e) :
    LCall Tryd.prog 28 [pathV tb ts fb fs tm fm dv] m fun v M => Frm [] m M ∧ ∃ sv F, v = .tuple #[pathV tb ts fb fs tm fm sv, .bool true] ∧ Sl M 89 3 sv F ((sentL l j e).map En.row) ∧ ∀ z ∈ F, m.length ≤ z := by
  have h0 := h
  obtain ⟨a, rfl, _⟩ := h.1
  have hj : j < l.length := (List.getElem?_eq_some_iff.mp he).1
  have hneg : ((j : Int) < 0) = False := eq_false (by omega)
  have hlt : ((j : Int) < (l.length : Int)) = True := eq_true (by omega)
  refine LCall_enter Tryd.func28 c28 ?_
  simp (contextual := true) (implicitDefEqProofs := false) (maxSteps := 2000000) (disch := first | rfl | exact NB rfl | omega | (simp only [XL]; omega)) only [L28, XW, undef_eq, Nat.reduceAdd, Nat.reduceSub, ↓reduceIte, basic, cellsL, resOf, setAt, below, belowB, belowA, atomB, Nat.reduceLeDiff, Nat.reduceMul, Int.reduceToNat, Int.reduceLT, Int.reduceLE, Int.reduceAdd, Int.reduceNeg, Int.reduceEq, splice, Nat.reduceEqDiff, Nat.reduceLT, isAtom, Int.reduceSub, Int.reduceMul, implies_true]
  refine (next_spec h0.1.app hn).use ?_
  rw [hx]
  simp (contextual := true) (implicitDefEqProofs := false) (maxSteps := 2000000) (disch := first | rfl | exact NB rfl | omega | (simp only [XL]; omega)) only [XW, undef_eq, Nat.reduceAdd, Nat.reduceSub, ↓reduceIte, basic, cellsL, resOf, setAt, below, belowB, belowA, atomB, Nat.reduceLeDiff, Nat.reduceMul, Int.reduceToNat, Int.reduceLT, Int.reduceLE, Int.reduceAdd, Int.reduceNeg, Int.reduceEq, splice, Nat.reduceEqDiff, Nat.reduceLT, isAtom, Int.reduceSub, Int.reduceMul, implies_true]
  refine (clone_spec h0.app hn (by omega)).mono ?_
  rintro v M ⟨hf, F, hs, hF⟩
  have hb0 := hf.get0 (i := m.length) (b := ⟨[str tb, .int .i64 ts, str fb, .int .i64 fs, .bool tm, .bool fm, .slice a (l.map En.row).length (l.map En.row).length], 55, 1, 0, .own⟩) (by simp)
  have hb1 := hf.get0 (i := m.length + 1) (b := ⟨[.string ⟨#[]⟩, .int .i64 0, .string ⟨#[]⟩, .int .i64 0, .bool false, .bool false, .slice none 0 0], 55, 1, 0, .own⟩) (by rw [List.getElem?_append_right (by omega)]; simp)
  have l0 := lt_of_some hb0
  have l1 := lt_of_some hb1
  have hfm : Frm [] m M := (Frm.refl (F := []) (m := m)).app.nil_trans hf
  have hFm : ∀ z ∈ F, m.length + 2 ≤ z := fun z hz => by have := hF z hz; simp only [List.length_append, List.length_cons, List.length_nil] at this; omega
  obtain ⟨sa, rfl, hform⟩ := hs.form
  simp only [List.length_map] at hform
  obtain ⟨b, o, cs, rfl, rfl, hb, hlb, hflat, hrow⟩ := hform (by omega)
  have hbF := hFm b (by simp)
  have hlb2 : o + j * 3 + 2 < cs.length := by omega
  have hbl := lt_of_some hb
  have hne0 : m.length ≠ b := by omega
  have hne1 : m.length + 1 ≠ b := by omega
  simp (contextual := true) (implicitDefEqProofs := false) (maxSteps := 2000000) (disch := first | rfl | exact NB rfl | omega | (simp only [XL]; omega)) only [hb0, hb1, hneg, hlt, hb, Int.toNat_natCast, List.length_map, XW, undef_eq, Nat.reduceAdd, Nat.reduceSub, ↓reduceIte, basic, cellsL, resOf, setAt, below, belowB, belowA, atomB, Nat.reduceLeDiff, Nat.reduceMul, Int.reduceToNat, Int.reduceLT, Int.reduceLE, Int.reduceAdd, Int.reduceNeg, Int.reduceEq, splice, Nat.reduceEqDiff, Nat.reduceLT, isAtom, Int.reduceSub, Int.reduceMul, implies_true]
  refine ⟨by omega, by omega, ?_, .slice (some ⟨b, o, none⟩) l.length l.length, [b], rfl, ?_, fun z hz => by have := hFm z hz; omega⟩
  · exact ((hfm.set (i := m.length) (.inr (Nat.le_refl _))).set (i := b) (.inr (by omega))).set (i := m.length + 1) (.inr (by omega))
  · have hr := hrow j e.row (by simp [he])
    have hrl : ∀ r ∈ l.map En.row, r.length = 3 := fun r hr => by obtain ⟨e, _, rfl⟩ := List.mem_map.mp hr; rfl
    have hmap : (sentL l j e).map En.row = (l.map En.row).set j [str e.b, .int .i64 e.s, .bool true] := by unfold sentL; rw [List.map_set]; rfl
    have hl' : ((sentL l j e).map En.row).length = l.length := by unfold sentL; simp
    have hst := store_row (cs := cs) (o := o) (sz := 3) (i := j) (rows := l.map En.row) (r := [str e.b, .int .i64 e.s, .bool true]) hrl (by simpa using hflat) (by simpa using hlb) (by simpa using hj) rfl
    rw [← hmap, ← set_row (D := .bool true) hr] at hst
    have := Sl.own (m := ((M.set m.length ⟨[str tb, .int .i64 ts, str fb, .int .i64 fs, .bool tm, .bool fm, .slice (some ⟨b, o, none⟩) l.length l.length], 55, 1, 0, .own⟩).set b ⟨cs.set (o + j * 3 + 2) (.bool true), 89, 3, 0, .own⟩).set (m.length + 1) ⟨[str tb, .int .i64 ts, str fb, .int .i64 fs, .bool tm, .bool fm, .slice (some ⟨b, o, none⟩) l.length l.length], 55, 1, 0, .own⟩) (T := 89) (sz := 3) (b := b) (o := o) (cs := cs.set (o + j * 3 + 2) (.bool true)) (rows := (sentL l j e).map En.row)
      (by rw [List.getElem?_set_ne hne1, List.getElem?_set_self (by simpa using hbl)])
      (fun r hr => by obtain ⟨e, _, rfl⟩ := List.mem_map.mp hr; rfl) hst (by rw [hl', List.length_set]; omega)
    rw [hl'] at this
    exact this
theorem rnext_spec {x y : En} {l : List En} {v : Value} {j : Nat} {e : En} {m : Mem} (h : Rd m 3 v ((x :: y :: l).map En.row)) (hn : l.length ≤ 1000000) (he : l[j]? = some e) (hk : e.k = false) (hall : ∀ j' e', j' < j → l[j']? = some e' → e'.k = true) : Ret Tryd.prog 10 [.agg #[v]] m (.int .i64 ((j + 2 : Nat) : Int)) m := by
  have hj : j < l.length := (List.getElem?_eq_some_iff.mp he).1
  obtain ⟨L, hL⟩ : ∃ L, x :: y :: l = L := ⟨_, rfl⟩
  have hLl : L.length = l.length + 2 := by rw [← hL]; rfl
  have hget : ∀ i, L[i + 2]? = l[i]? := fun i => by rw [← hL]; rfl
  rw [hL] at h
  obtain ⟨a, rfl, hform⟩ := h
  simp only [List.length_map] at hform ⊢
  obtain ⟨b, o, cs, T, fz, kd, rfl, hb, hkd, hl, hrow⟩ := hform (by omega)
  refine LCall_drop (LCall_enter Tryd.func10 c10 ?_)
  simp (contextual := true) (implicitDefEqProofs := false) (maxSteps := 2000000) (disch := first | rfl | exact NB rfl | omega | (simp only [XL]; omega)) only [L10, XW, undef_eq, Nat.reduceAdd, Nat.reduceSub, ↓reduceIte, basic, cellsL, resOf, setAt, below, belowB, belowA, atomB, Nat.reduceLeDiff, Nat.reduceMul, Int.reduceToNat, Int.reduceLT, Int.reduceLE, Int.reduceAdd, Int.reduceNeg, Int.reduceEq, splice, Nat.reduceEqDiff, Nat.reduceLT, isAtom, Int.reduceSub, Int.reduceMul, implies_true]
  obtain ⟨M0, hM, hf0, hb0⟩ : ∃ M0, m ++ [⟨[.slice (some ⟨b, o, none⟩) L.length L.length], 28, 1, 0, .own⟩] = M0 ∧ Frm [] m M0 ∧ M0[m.length]? = some ⟨[.slice (some ⟨b, o, none⟩) L.length L.length], 28, 1, 0, .own⟩ := ⟨_, rfl, Frm.refl.app, by simp⟩
  rw [hM]
  have hext : ext m M0 := ⟨_, hM.symm⟩
  clear hM
  have l0 := lt_of_some hb0
  have hbM := hf0.get0 hb
  have hbl := lt_of_some hbM
  refine loop_inv (fun n t M => ∃ (i : Nat), n = j - i ∧ i ≤ j ∧ M = M0 ∧
    Tab 19 [(1, .pointer (some ⟨m.length, 0, none⟩)), (3, .int .i64 ((i + 2 : Nat) : Int))] t) (n := j) ?_ ?_
  · exact ⟨0, rfl, Nat.zero_le _, rfl, ⟨rfl, by simp⟩⟩
  rintro N t M ⟨i, rfl, hi, rfl, ht⟩
  obtain ⟨f, rfl⟩ : ∃ f' : Nat → Value, t = [f' 0, .pointer (some ⟨m.length, 0, none⟩), f' 2, .int .i64 ((i + 2 : Nat) : Int), f' 4, f' 5, f' 6, f' 7, f' 8, f' 9, f' 10, f' 11, f' 12, f' 13, f' 14, f' 15, f' 16, f' 17, f' 18] := ht.open fun f' => rfl
  have hlt' : (((i + 2 : Nat) : Int) < (L.length : Int)) = True := eq_true (by omega)
  have h0' : ((0 : Int) ≤ ((i + 2 : Nat) : Int)) = True := eq_true (by omega)
  have hwi : IntKind.i64.wrap (((i + 2 : Nat) : Int) + 1) = ((i + 1 + 2 : Nat) : Int) := by rw [wrap_i64 (by omega) (by omega)]; omega
  obtain ⟨q, hq⟩ : ∃ r, l[i]? = some r := ⟨l[i], List.getElem?_eq_getElem (by omega)⟩
  have hr : (cs.drop (o + (i + 2) * 3)).take 3 = [str q.b, .int .i64 q.s, .bool q.k] := hrow (i + 2) q.row (by rw [List.getElem?_map, hget, hq]; rfl)
  have hc2 : cs[o + (i + 2) * 3 + 2]? = some (.bool q.k) := row_cell hr (j := 2) (by omega)
  by_cases hij : i = j
  · subst hij
    rw [he] at hq
    obtain rfl : e = q := by simpa using hq
    simp (contextual := true) (implicitDefEqProofs := false) (maxSteps := 2000000) (disch := first | rfl | exact NB rfl | omega | (simp only [XL]; omega)) only [hb0, hbM, hlt', h0', hc2, hk, cellB_l hkd, Int.toNat_natCast, XW, undef_eq, Nat.reduceAdd, Nat.reduceSub, ↓reduceIte, basic, cellsL, resOf, setAt, below, belowB, belowA, atomB, Nat.reduceLeDiff, Nat.reduceMul, Int.reduceToNat, Int.reduceLT, Int.reduceLE, Int.reduceAdd, Int.reduceNeg, Int.reduceEq, splice, Nat.reduceEqDiff, Nat.reduceLT, isAtom, Int.reduceSub, Int.reduceMul, implies_true]
    exact hext
  · have hqk := hall i q (by omega) hq
    simp (contextual := true) (implicitDefEqProofs := false) (maxSteps := 2000000) (disch := first | rfl | exact NB rfl | omega | (simp only [XL]; omega)) only [hb0, hbM, hlt', h0', hc2, hqk, cellB_l hkd, Int.toNat_natCast, XW, undef_eq, Nat.reduceAdd, Nat.reduceSub, ↓reduceIte, basic, cellsL, resOf, setAt, below, belowB, belowA, atomB, Nat.reduceLeDiff, Nat.reduceMul, Int.reduceToNat, Int.reduceLT, Int.reduceLE, Int.reduceAdd, Int.reduceNeg, Int.reduceEq, splice, Nat.reduceEqDiff, Nat.reduceLT, isAtom, Int.reduceSub, Int.reduceMul, implies_true]
    exact kInv_go ⟨i + 1, rfl, by omega, rfl, ⟨rfl, by simp [hwi]; omega⟩⟩ (by omega)
end Go.Proofs.YtadkdihbbngbfaaDoor
/- What can be decoded; the next digipeater and what it sends on, by the document: walked. -/
namespace Go.Proofs.YtadkdihbbngbfaaDoor
open Go.Lg
set_option maxRecDepth 8000
set_option maxHeartbeats 8000000
theorem _root_.Go.Lg.Frm.ext0 {m M : Mem} (h : Frm [] m M) : ext m M := h.ext (by simp)
def decB (s : List UInt8) : Bool := decide ((decF s false).1 = 0) || decide ((decF s true).1 = 0)
theorem decodes_spec (s : List UInt8) (hl : s.length ≤ 100000) (m : Mem) : Ret Tryd.prog 14 [str s] m (.bool (decB s)) m := by
  refine LCall_drop (LCall_enter Tryd.func14 c14 ?_)
  simp (contextual := true) (implicitDefEqProofs := false) (maxSteps := 2000000) (disch := first | rfl | exact NB rfl | omega | (simp only [XL]; omega)) only [L14, XW, undef_eq, Nat.reduceAdd, Nat.reduceSub, ↓reduceIte, basic, cellsL, resOf, setAt, below, belowB, belowA, atomB, Nat.reduceLeDiff, Nat.reduceMul, Int.reduceToNat, Int.reduceLT, Int.reduceLE, Int.reduceAdd, Int.reduceNeg, Int.reduceEq, splice, Nat.reduceEqDiff, Nat.reduceLT, isAtom, Int.reduceSub, Int.reduceMul, implies_true]
  refine (decode_spec s false hl _).mono ?_
  rintro v M ⟨hf, hv⟩
  by_cases h1 : (decF s false).1 = 0
  · rw [if_pos h1] at hv
    obtain ⟨x, y, l, sv, F, hL, rfl, hs, hF⟩ := hv
    obtain ⟨sa, rfl, _⟩ := hs.form
    have e : decB s = true := by unfold decB; simp [h1]
    rw [e]
    simp (contextual := true) (implicitDefEqProofs := false) (maxSteps := 2000000) (disch := first | rfl | exact NB rfl | omega | (simp only [XL]; omega)) only [XW, undef_eq, Nat.reduceAdd, Nat.reduceSub, ↓reduceIte, basic, cellsL, resOf, setAt, below, belowB, belowA, atomB, Nat.reduceLeDiff, Nat.reduceMul, Int.reduceToNat, Int.reduceLT, Int.reduceLE, Int.reduceAdd, Int.reduceNeg, Int.reduceEq, splice, Nat.reduceEqDiff, Nat.reduceLT, isAtom, Int.reduceSub, Int.reduceMul, implies_true]
    exact hf.app.ext0
  · rw [if_neg h1] at hv
    subst hv
    have h1' : ((decF s false).1 = 0) = False := eq_false h1
    simp (contextual := true) (implicitDefEqProofs := false) (maxSteps := 2000000) (disch := first | rfl | exact NB rfl | omega | (simp only [XL]; omega)) only [h1', zFrame, XW, undef_eq, Nat.reduceAdd, Nat.reduceSub, ↓reduceIte, basic, cellsL, resOf, setAt, below, belowB, belowA, atomB, Nat.reduceLeDiff, Nat.reduceMul, Int.reduceToNat, Int.reduceLT, Int.reduceLE, Int.reduceAdd, Int.reduceNeg, Int.reduceEq, splice, Nat.reduceEqDiff, Nat.reduceLT, isAtom, Int.reduceSub, Int.reduceMul, implies_true]
    refine (decode_spec s true hl _).mono ?_
    rintro v M2 ⟨hf2, hv⟩
    have hf3 : Frm [] m M2 := hf.app.nil_trans hf2
    by_cases h2 : (decF s true).1 = 0
    · rw [if_pos h2] at hv
      obtain ⟨x, y, l, sv, F, hL, rfl, hs, hF⟩ := hv
      obtain ⟨sa, rfl, _⟩ := hs.form
      have e : decB s = true := by unfold decB; simp [h2]
      rw [e]
      simp (contextual := true) (implicitDefEqProofs := false) (maxSteps := 2000000) (disch := first | rfl | exact NB rfl | omega | (simp only [XL]; omega)) only [XW, undef_eq, Nat.reduceAdd, Nat.reduceSub, ↓reduceIte, basic, cellsL, resOf, setAt, below, belowB, belowA, atomB, Nat.reduceLeDiff, Nat.reduceMul, Int.reduceToNat, Int.reduceLT, Int.reduceLE, Int.reduceAdd, Int.reduceNeg, Int.reduceEq, splice, Nat.reduceEqDiff, Nat.reduceLT, isAtom, Int.reduceSub, Int.reduceMul, implies_true]
      exact hf3.app.ext0
    · rw [if_neg h2] at hv
      subst hv
      have h2' : ((decF s true).1 = 0) = False := eq_false h2
      have e : decB s = false := by unfold decB; simp [h1, h2]
      rw [e]
      simp (contextual := true) (implicitDefEqProofs := false) (maxSteps := 2000000) (disch := first | rfl | exact NB rfl | omega | (simp only [XL]; omega)) only [h2', zFrame, XW, undef_eq, Nat.reduceAdd, Nat.reduceSub, ↓reduceIte, basic, cellsL, resOf, setAt, below, belowB, belowA, atomB, Nat.reduceLeDiff, Nat.reduceMul, Int.reduceToNat, Int.reduceLT, Int.reduceLE, Int.reduceAdd, Int.reduceNeg, Int.reduceEq, splice, Nat.reduceEqDiff, Nat.reduceLT, isAtom, Int.reduceSub, Int.reduceMul, implies_true]
      exact hf3.app.ext0
theorem rdecodes_spec (s : List UInt8) (hl : s.length ≤ 100000) (m : Mem) : Ret Tryd.prog 8 [str s] m (.bool (decB s)) m := by
  refine LCall_drop (LCall_enter Tryd.func8 c8 ?_)
  simp (contextual := true) (implicitDefEqProofs := false) (maxSteps := 2000000) (disch := first | rfl | exact NB rfl | omega | (simp only [XL]; omega)) only [L8, XW, undef_eq, Nat.reduceAdd, Nat.reduceSub, ↓reduceIte, basic, cellsL, resOf, setAt, below, belowB, belowA, atomB, Nat.reduceLeDiff, Nat.reduceMul, Int.reduceToNat, Int.reduceLT, Int.reduceLE, Int.reduceAdd, Int.reduceNeg, Int.reduceEq, splice, Nat.reduceEqDiff, Nat.reduceLT, isAtom, Int.reduceSub, Int.reduceMul, implies_true]
  have key : ∀ (w : Bool) (v : Value) (m M : Mem), (if (decF s w).1 = 0 then ∃ sv F, v = .tuple #[rframeV sv (decF s w).2.c (decF s w).2.pid (decF s w).2.info, .int .i64 0] ∧ Sl M 34 3 sv F ((decF s w).2.L.map En.row) ∧ ∀ x ∈ F, m.length ≤ x else v = .tuple #[zRframe, .int .i64 (decF s w).1]) →
      ∃ a1 a2 a3 a4 a5 a6 a7 a8, v = .tuple #[.agg #[.slice a1 a2 a2, .int .i64 a3, .int .i64 a4, .int .i64 a5, .bool a6, .int .i64 a7, str a8], .int .i64 (decF s w).1] := by
    intro w v m M h
    by_cases h1 : (decF s w).1 = 0
    · rw [if_pos h1] at h
      obtain ⟨sv, F, rfl, hs, _⟩ := h
      obtain ⟨sa, rfl, _⟩ := hs.form
      exact ⟨_, _, _, _, _, _, _, _, by rw [h1]⟩
    · rw [if_neg h1] at h
      exact ⟨none, 0, 0, 0, 0, false, 0, [], h⟩
  refine (rdecode_spec s false hl _).mono ?_
  rintro v M ⟨hf, hv⟩
  obtain ⟨a1, a2, a3, a4, a5, a6, a7, a8, rfl⟩ := key _ _ _ _ hv
  simp (contextual := true) (implicitDefEqProofs := false) (maxSteps := 2000000) (disch := first | rfl | exact NB rfl | omega | (simp only [XL]; omega)) only [XW, undef_eq, Nat.reduceAdd, Nat.reduceSub, ↓reduceIte, basic, cellsL, resOf, setAt, below, belowB, belowA, atomB, Nat.reduceLeDiff, Nat.reduceMul, Int.reduceToNat, Int.reduceLT, Int.reduceLE, Int.reduceAdd, Int.reduceNeg, Int.reduceEq, splice, Nat.reduceEqDiff, Nat.reduceLT, isAtom, Int.reduceSub, Int.reduceMul, implies_true]
  refine (rdecode_spec s true hl _).mono ?_
  rintro v M2 ⟨hf2, hv2⟩
  obtain ⟨b1, b2, b3, b4, b5, b6, b7, b8, rfl⟩ := key _ _ _ _ hv2
  have hf3 : Frm [] m M2 := hf.app.nil_trans hf2
  by_cases h1 : (decF s false).1 = 0
  · have h1' : ((decF s false).1 = 0) = True := eq_true h1
    have e : decB s = true := by unfold decB; simp [h1]
    rw [e]
    simp (contextual := true) (implicitDefEqProofs := false) (maxSteps := 2000000) (disch := first | rfl | exact NB rfl | omega | (simp only [XL]; omega)) only [h1', XW, undef_eq, Nat.reduceAdd, Nat.reduceSub, ↓reduceIte, basic, cellsL, resOf, setAt, below, belowB, belowA, atomB, Nat.reduceLeDiff, Nat.reduceMul, Int.reduceToNat, Int.reduceLT, Int.reduceLE, Int.reduceAdd, Int.reduceNeg, Int.reduceEq, splice, Nat.reduceEqDiff, Nat.reduceLT, isAtom, Int.reduceSub, Int.reduceMul, implies_true]
    exact hf3.app.ext0
  · have h1' : ((decF s false).1 = 0) = False := eq_false h1
    by_cases h2 : (decF s true).1 = 0
    · have h2' : ((decF s true).1 = 0) = True := eq_true h2
      have e : decB s = true := by unfold decB; simp [h2]
      rw [e]
      simp (contextual := true) (implicitDefEqProofs := false) (maxSteps := 2000000) (disch := first | rfl | exact NB rfl | omega | (simp only [XL]; omega)) only [h1', h2', XW, undef_eq, Nat.reduceAdd, Nat.reduceSub, ↓reduceIte, basic, cellsL, resOf, setAt, below, belowB, belowA, atomB, Nat.reduceLeDiff, Nat.reduceMul, Int.reduceToNat, Int.reduceLT, Int.reduceLE, Int.reduceAdd, Int.reduceNeg, Int.reduceEq, splice, Nat.reduceEqDiff, Nat.reduceLT, isAtom, Int.reduceSub, Int.reduceMul, implies_true]
      exact hf3.app.ext0
    · have h2' : ((decF s true).1 = 0) = False := eq_false h2
      have e : decB s = false := by unfold decB; simp [h1, h2]
      rw [e]
      simp (contextual := true) (implicitDefEqProofs := false) (maxSteps := 2000000) (disch := first | rfl | exact NB rfl | omega | (simp only [XL]; omega)) only [h1', h2', XW, undef_eq, Nat.reduceAdd, Nat.reduceSub, ↓reduceIte, basic, cellsL, resOf, setAt, below, belowB, belowA, atomB, Nat.reduceLeDiff, Nat.reduceMul, Int.reduceToNat, Int.reduceLT, Int.reduceLE, Int.reduceAdd, Int.reduceNeg, Int.reduceEq, splice, Nat.reduceEqDiff, Nat.reduceLT, isAtom, Int.reduceSub, Int.reduceMul, implies_true]
      exact hf3.app.ext0
theorem rnone_spec {x y : En} {l : List En} {v : Value} {m : Mem} (h : Rd m 3 v ((x :: y :: l).map En.row)) (hn : l.length ≤ 1000000) (hall : ∀ e ∈ l, e.k = true) : Ret Tryd.prog 10 [.agg #[v]] m (.int .i64 (-1)) m := by
  obtain ⟨L, hL⟩ : ∃ L, x :: y :: l = L := ⟨_, rfl⟩
  have hLl : L.length = l.length + 2 := by rw [← hL]; rfl
  have hget : ∀ i, L[i + 2]? = l[i]? := fun i => by rw [← hL]; rfl
  rw [hL] at h
  obtain ⟨a, rfl, hform⟩ := h
  simp only [List.length_map] at hform ⊢
  obtain ⟨b, o, cs, T, fz, kd, rfl, hb, hkd, hl, hrow⟩ := hform (by omega)
  refine LCall_drop (LCall_enter Tryd.func10 c10 ?_)
  simp (contextual := true) (implicitDefEqProofs := false) (maxSteps := 2000000) (disch := first | rfl | exact NB rfl | omega | (simp only [XL]; omega)) only [L10, XW, undef_eq, Nat.reduceAdd, Nat.reduceSub, ↓reduceIte, basic, cellsL, resOf, setAt, below, belowB, belowA, atomB, Nat.reduceLeDiff, Nat.reduceMul, Int.reduceToNat, Int.reduceLT, Int.reduceLE, Int.reduceAdd, Int.reduceNeg, Int.reduceEq, splice, Nat.reduceEqDiff, Nat.reduceLT, isAtom, Int.reduceSub, Int.reduceMul, implies_true]
  obtain ⟨M0, hM, hf0, hb0⟩ : ∃ M0, m ++ [⟨[.slice (some ⟨b, o, none⟩) L.length L.length], 28, 1, 0, .own⟩] = M0 ∧ Frm [] m M0 ∧ M0[m.length]? = some ⟨[.slice (some ⟨b, o, none⟩) L.length L.length], 28, 1, 0, .own⟩ := ⟨_, rfl, Frm.refl.app, by simp⟩
  rw [hM]
  have hext : ext m M0 := ⟨_, hM.symm⟩
  clear hM
  have l0 := lt_of_some hb0
  have hbM := hf0.get0 hb
  have hbl := lt_of_some hbM
  refine loop_inv (fun n t M => ∃ (i : Nat), n = l.length - i ∧ i ≤ l.length ∧ M = M0 ∧
    Tab 19 [(1, .pointer (some ⟨m.length, 0, none⟩)), (3, .int .i64 ((i + 2 : Nat) : Int))] t) (n := l.length) ?_ ?_
  · exact ⟨0, rfl, Nat.zero_le _, rfl, ⟨rfl, by simp⟩⟩
  rintro N t M ⟨i, rfl, hi, rfl, ht⟩
  obtain ⟨f, rfl⟩ : ∃ f' : Nat → Value, t = [f' 0, .pointer (some ⟨m.length, 0, none⟩), f' 2, .int .i64 ((i + 2 : Nat) : Int), f' 4, f' 5, f' 6, f' 7, f' 8, f' 9, f' 10, f' 11, f' 12, f' 13, f' 14, f' 15, f' 16, f' 17, f' 18] := ht.open fun f' => rfl
  have h0' : ((0 : Int) ≤ ((i + 2 : Nat) : Int)) = True := eq_true (by omega)
  have hwi : IntKind.i64.wrap (((i + 2 : Nat) : Int) + 1) = ((i + 1 + 2 : Nat) : Int) := by rw [wrap_i64 (by omega) (by omega)]; omega
  by_cases hij : i < l.length
  · have hlt' : (((i + 2 : Nat) : Int) < (L.length : Int)) = True := eq_true (by omega)
    obtain ⟨q, hq⟩ : ∃ r, l[i]? = some r := ⟨l[i], List.getElem?_eq_getElem (by omega)⟩
    have hr : (cs.drop (o + (i + 2) * 3)).take 3 = [str q.b, .int .i64 q.s, .bool q.k] := hrow (i + 2) q.row (by rw [List.getElem?_map, hget, hq]; rfl)
    have hc2 : cs[o + (i + 2) * 3 + 2]? = some (.bool q.k) := row_cell hr (j := 2) (by omega)
    have hqk := hall q (List.mem_of_getElem? hq)
    simp (contextual := true) (implicitDefEqProofs := false) (maxSteps := 2000000) (disch := first | rfl | exact NB rfl | omega | (simp only [XL]; omega)) only [hb0, hbM, hlt', h0', hc2, hqk, cellB_l hkd, Int.toNat_natCast, XW, undef_eq, Nat.reduceAdd, Nat.reduceSub, ↓reduceIte, basic, cellsL, resOf, setAt, below, belowB, belowA, atomB, Nat.reduceLeDiff, Nat.reduceMul, Int.reduceToNat, Int.reduceLT, Int.reduceLE, Int.reduceAdd, Int.reduceNeg, Int.reduceEq, splice, Nat.reduceEqDiff, Nat.reduceLT, isAtom, Int.reduceSub, Int.reduceMul, implies_true]
    exact kInv_go ⟨i + 1, rfl, by omega, rfl, ⟨rfl, by simp [hwi]; omega⟩⟩ (by omega)
  · have hlt' : (((i + 2 : Nat) : Int) < (L.length : Int)) = False := eq_false (by omega)
    simp (contextual := true) (implicitDefEqProofs := false) (maxSteps := 2000000) (disch := first | rfl | exact NB rfl | omega | (simp only [XL]; omega)) only [hb0, hlt', XW, undef_eq, Nat.reduceAdd, Nat.reduceSub, ↓reduceIte, basic, cellsL, resOf, setAt, below, belowB, belowA, atomB, Nat.reduceLeDiff, Nat.reduceMul, Int.reduceToNat, Int.reduceLT, Int.reduceLE, Int.reduceAdd, Int.reduceNeg, Int.reduceEq, splice, Nat.reduceEqDiff, Nat.reduceLT, isAtom, Int.reduceSub, Int.reduceMul, implies_true]
    exact hext
end Go.Proofs.YtadkdihbbngbfaaDoor
/- What the next digipeater sends on, by the document: walked. -/
namespace Go.Proofs.YtadkdihbbngbfaaDoor
open Go.Lg
set_option maxRecDepth 8000
set_option maxHeartbeats 8000000
end Go.Proofs.YtadkdihbbngbfaaDoor
/- What a digipeater sends on, by the document: walked. -/
namespace Go.Proofs.YtadkdihbbngbfaaDoor
open Go.Lg
set_option maxRecDepth 8000
set_option maxHeartbeats 8000000
def En.cl (e : En) : Cl := ⟨e.b, e.s⟩
def onL (cs : List Cl) (s : List UInt8) (L : List En) : List UInt8 × Nat :=
  if nx (L.drop 2) = -1 then ([], 1) else
  match (L.drop 2)[(nx (L.drop 2)).toNat]? with
  | none => ([], 1)
  | some e => if e.cl ∈ cs then (putE (sentL L ((nx (L.drop 2)).toNat + 2) e) ++ s.drop (7 * L.length), 0) else ([], 1)
def onF (cs : List Cl) (s : List UInt8) : List UInt8 × Nat := if decB s = true then onL cs s (getP s 11 []).2 else ([], 2)
theorem onL_none {cs : List Cl} {s : List UInt8} {x y : En} {l : List En} (h : nx l = -1) : onL cs s (x :: y :: l) = ([], 1) := by
  have h' : nx ((x :: y :: l).drop 2) = -1 := h
  rw [onL, if_pos h']
theorem onL_some {cs : List Cl} {s : List UInt8} {x y : En} {l : List En} {j : Nat} {e : En} (h : nx l = (j : Int)) (he : l[j]? = some e) :
    onL cs s (x :: y :: l) = if e.cl ∈ cs then (putE (x :: y :: sentL l j e) ++ s.drop (7 * (l.length + 2)), 0) else ([], 1) := by
  have h' : nx ((x :: y :: l).drop 2) = (j : Int) := h
  rw [onL, if_neg (by rw [h']; omega), h', Int.toNat_natCast]
  have he' : ((x :: y :: l).drop 2)[j]? = some e := he
  rw [he']
  rfl
theorem dec_path {s : List UInt8} (h : decB s = true) : (getP s 11 []).1 = 0 ∧ ∃ x y l, (getP s 11 []).2 = x :: y :: l ∧ l.length ≤ 8 ∧ 7 * (l.length + 2) ≤ s.length ∧ (∀ e ∈ x :: y :: l, e.ok = true) ∧ ordB l = true := by
  have h1 : (getP s 11 []).1 = 0 := by
    unfold decB at h
    rcases Bool.or_eq_true_iff.1 h with h | h
    · exact (decF_ok (of_decide_eq_true h)).1
    · exact (decF_ok (of_decide_eq_true h)).1
  refine ⟨h1, ?_⟩
  obtain ⟨h2, h3, h4, h5, h6⟩ := getP_shape (s := s) (n := 11) (L := []) rfl (by simp) h1
  match hL : (getP s 11 []).2, h2 with
  | x :: y :: l, _ =>
    rw [hL] at h3 h4 h5 h6
    simp at h3 h4
    exact ⟨x, y, l, rfl, by omega, by omega, h5, h6⟩
end Go.Proofs.YtadkdihbbngbfaaDoor
/- What a digipeater sends on: walked. -/
namespace Go.Proofs.YtadkdihbbngbfaaDoor
open Go.Lg
set_option maxRecDepth 8000
set_option maxHeartbeats 8000000
theorem on_nil (s : List UInt8) (m : Mem) : Ret Tryd.prog 13 [.pointer none, str s] m (.tuple #[str [], .bool false]) m := by
  refine LCall_drop (LCall_enter Tryd.func13 c13 ?_)
  simp (contextual := true) (implicitDefEqProofs := false) (maxSteps := 2000000) (disch := first | rfl | exact NB rfl | omega | (simp only [XL]; omega)) only [L13, XW, undef_eq, Nat.reduceAdd, Nat.reduceSub, ↓reduceIte, basic, cellsL, resOf, setAt, below, belowB, belowA, atomB, Nat.reduceLeDiff, Nat.reduceMul, Int.reduceToNat, Int.reduceLT, Int.reduceLE, Int.reduceAdd, Int.reduceNeg, Int.reduceEq, splice, Nat.reduceEqDiff, Nat.reduceLT, isAtom, Int.reduceSub, Int.reduceMul, implies_true]
def cnt (h k : Nat) (x : Nat) : Int := ((if h = k then x + 1 else x : Nat) : Int)
theorem onL_how {cs : List Cl} {s : List UInt8} {L : List En} : (onL cs s L).2 = 0 ∨ (onL cs s L).2 = 1 := by
  unfold onL
  split
  · exact .inr rfl
  · split
    · exact .inr rfl
    · split
      · exact .inl rfl
      · exact .inr rfl
theorem on_spec {cs : List Cl} {s : List UInt8} {sv : Value} {x y z : Nat} {di : Nat} {m : Mem} (hd : m[di]? = some (dgB sv x y z)) (h : Rd m 2 sv (cs.map Cl.row)) (hn : cs.length ≤ 1000000) (hl : s.length ≤ 100000)
    (hx : x ≤ 1000000 ∧ y ≤ 1000000 ∧ z ≤ 1000000) :
    LCall Tryd.prog 13 [.pointer (some ⟨di, 0, none⟩), str s] m fun u M => Frm [di] m M ∧ u = .tuple #[str (onF cs s).1, .bool (decide ((onF cs s).2 = 0))] ∧ M[di]? = some (dgB sv (cnt (onF cs s).2 0 x) (cnt (onF cs s).2 1 y) (cnt (onF cs s).2 2 z)) := by
  have hd' : m[di]? = some ⟨[sv, .int .i64 x, .int .i64 y, .int .i64 z], 74, 1, 0, .own⟩ := hd
  have l0 := lt_of_some hd
  have w1 : ∀ n : Nat, n ≤ 1000000 → IntKind.i64.wrap ((n : Int) + 1) = ((n + 1 : Nat) : Int) := fun n h => by rw [wrap_i64 (by omega) (by omega)]; omega
  have wx := w1 x hx.1
  have wy := w1 y hx.2.1
  have wz := w1 z hx.2.2
  refine LCall_enter Tryd.func13 c13 ?_
  simp (contextual := true) (implicitDefEqProofs := false) (maxSteps := 2000000) (disch := first | rfl | exact NB rfl | omega | (simp only [XL]; omega)) only [L13, XW, undef_eq, Nat.reduceAdd, Nat.reduceSub, ↓reduceIte, basic, cellsL, resOf, setAt, below, belowB, belowA, atomB, Nat.reduceLeDiff, Nat.reduceMul, Int.reduceToNat, Int.reduceLT, Int.reduceLE, Int.reduceAdd, Int.reduceNeg, Int.reduceEq, splice, Nat.reduceEqDiff, Nat.reduceLT, isAtom, Int.reduceSub, Int.reduceMul, implies_true]
  refine (decodes_spec s hl _).use ?_
  cases hdc : decB s with
  | false =>
    have e : onF cs s = ([], 2) := by rw [onF, if_neg (by rw [hdc]; decide)]
    rw [e]
    simp (contextual := true) (implicitDefEqProofs := false) (maxSteps := 2000000) (disch := first | rfl | exact NB rfl | omega | (simp only [XL]; omega)) only [hd', wz, XW, undef_eq, Nat.reduceAdd, Nat.reduceSub, ↓reduceIte, basic, cellsL, resOf, setAt, below, belowB, belowA, atomB, Nat.reduceLeDiff, Nat.reduceMul, Int.reduceToNat, Int.reduceLT, Int.reduceLE, Int.reduceAdd, Int.reduceNeg, Int.reduceEq, splice, Nat.reduceEqDiff, Nat.reduceLT, isAtom, Int.reduceSub, Int.reduceMul, implies_true]
    exact ⟨Frm.refl.set (.inl (by simp)), by simp [dgB, cnt]⟩
  | true =>
    obtain ⟨hg, px, py, l, hL, hl8, hls, hok, hord⟩ := dec_path hdc
    have e : onF cs s = onL cs s (px :: py :: l) := by rw [onF, if_pos hdc, hL]
    rw [e]
    simp (contextual := true) (implicitDefEqProofs := false) (maxSteps := 2000000) (disch := first | rfl | exact NB rfl | omega | (simp only [XL]; omega)) only [XW, undef_eq, Nat.reduceAdd, Nat.reduceSub, ↓reduceIte, basic, cellsL, resOf, setAt, below, belowB, belowA, atomB, Nat.reduceLeDiff, Nat.reduceMul, Int.reduceToNat, Int.reduceLT, Int.reduceLE, Int.reduceAdd, Int.reduceNeg, Int.reduceEq, splice, Nat.reduceEqDiff, Nat.reduceLT, isAtom, Int.reduceSub, Int.reduceMul, implies_true]
    refine (getP_spec s hl _).mono ?_
    rintro v M1 ⟨hf1, hv⟩
    rw [if_pos hg] at hv
    obtain ⟨px', py', l', pv, F, hL', rfl, hs, hF⟩ := hv
    rw [hL] at hL'
    obtain ⟨rfl, rfl, rfl⟩ : px = px' ∧ py = py' ∧ l = l' := by simpa using hL'
    rw [hL]
    simp only [List.length_cons]
    have hs0 := hs
    obtain ⟨sa, rfl, _⟩ := hs.form
    simp (contextual := true) (implicitDefEqProofs := false) (maxSteps := 2000000) (disch := first | rfl | exact NB rfl | omega | (simp only [XL]; omega)) only [XW, undef_eq, Nat.reduceAdd, Nat.reduceSub, ↓reduceIte, basic, cellsL, resOf, setAt, below, belowB, belowA, atomB, Nat.reduceLeDiff, Nat.reduceMul, Int.reduceToNat, Int.reduceLT, Int.reduceLE, Int.reduceAdd, Int.reduceNeg, Int.reduceEq, splice, Nat.reduceEqDiff, Nat.reduceLT, isAtom, Int.reduceSub, Int.reduceMul, implies_true]
    obtain ⟨M, hM, hMl, hf2, hb0⟩ : ∃ N, M1 ++ [⟨[str px.b, .int .i64 px.s, str py.b, .int .i64 py.s, .bool px.k, .bool py.k, .slice sa (l.map En.row).length (l.map En.row).length], 55, 1, 0, .own⟩] = N ∧ N.length = M1.length + 1 ∧ Frm [] M1 N ∧ N[M1.length]? = some ⟨[str px.b, .int .i64 px.s, str py.b, .int .i64 py.s, .bool px.k, .bool py.k, .slice sa (l.map En.row).length (l.map En.row).length], 55, 1, 0, .own⟩ := ⟨_, rfl, by simp, Frm.refl.app, by simp⟩
    rw [hM]
    have hsM := hs.frm0 hf2
    have hfm : Frm [] m M := hf1.nil_trans hf2
    have hn1 : l.length ≤ 1000000 := by omega
    have hdM := hfm.get0 hd'
    have hlm := hfm.len
    rcases idx_cases (p := fun e => !e.k) (l := l) (i := 0) with ⟨hxi, hall⟩ | ⟨j, q, hq, hqk, hxi, hall⟩
    · rw [onL_none hxi]
      refine (pnone_spec (Sl.rd hsM) hn1 hxi).use ?_
      have l1 := lt_of_some hdM
      simp (contextual := true) (implicitDefEqProofs := false) (maxSteps := 2000000) (disch := first | rfl | exact NB rfl | omega | (simp only [XL]; omega)) only [hdM, wy, XW, undef_eq, Nat.reduceAdd, Nat.reduceSub, ↓reduceIte, basic, cellsL, resOf, setAt, below, belowB, belowA, atomB, Nat.reduceLeDiff, Nat.reduceMul, Int.reduceToNat, Int.reduceLT, Int.reduceLE, Int.reduceAdd, Int.reduceNeg, Int.reduceEq, splice, Nat.reduceEqDiff, Nat.reduceLT, isAtom, Int.reduceSub, Int.reduceMul, implies_true]
      exact ⟨((Frm.of_nil (F := [di]) hfm).set (.inl (by simp))).app, rfl⟩
    have hx' : nx l = (j : Int) := by unfold nx; rw [hxi]; simp
    have hqk' : q.k = false := by simpa using hqk
    have hall' : ∀ j' e', j' < j → l[j']? = some e' → e'.k = true := fun j' e' h1 h2 => by simpa using hall j' e' h1 h2
    have hjl : j < l.length := (List.getElem?_eq_some_iff.mp hq).1
    rw [onL_some hx' hq]
    refine (psome_spec (Sl.rd hsM) hn1 hx' hq).use ?_
    have l1 := lt_of_some hdM
    simp (contextual := true) (implicitDefEqProofs := false) (maxSteps := 2000000) (disch := first | rfl | exact NB rfl | omega | (simp only [XL]; omega)) only [XW, undef_eq, Nat.reduceAdd, Nat.reduceSub, ↓reduceIte, basic, cellsL, resOf, setAt, below, belowB, belowA, atomB, Nat.reduceLeDiff, Nat.reduceMul, Int.reduceToNat, Int.reduceLT, Int.reduceLE, Int.reduceAdd, Int.reduceNeg, Int.reduceEq, splice, Nat.reduceEqDiff, Nat.reduceLT, isAtom, Int.reduceSub, Int.reduceMul, implies_true]
    obtain ⟨N, hN, hNl, hf3, hb1⟩ : ∃ N, M ++ [⟨[str q.b, .int .i64 q.s], 32, 1, 0, .own⟩] = N ∧ N.length = M.length + 1 ∧ Frm [] M N ∧ N[M.length]? = some ⟨[str q.b, .int .i64 q.s], 32, 1, 0, .own⟩ := ⟨_, rfl, by simp, Frm.refl.app, by simp⟩
    rw [hN]
    have hfN : Frm [] m N := hfm.nil_trans hf3
    have hdN := hfN.get0 hd
    have hdN' := hf3.get0 hdM
    have hb0N := hf3.get0 hb0
    have l2 := lt_of_some hdN
    have hsN := hsM.frm0 hf3
    refine (mine_spec (c := q.cl) hdN (h.frm0 hfN) hn).use ?_
    by_cases hm : q.cl ∈ cs
    · have hmd : decide (q.cl ∈ cs) = true := decide_eq_true hm
      rw [if_pos hm, hmd]
      have l3 := lt_of_some hb0N
      simp (contextual := true) (implicitDefEqProofs := false) (maxSteps := 2000000) (disch := first | rfl | exact NB rfl | omega | (simp only [XL]; omega)) only [hb0N, XW, undef_eq, Nat.reduceAdd, Nat.reduceSub, ↓reduceIte, basic, cellsL, resOf, setAt, below, belowB, belowA, atomB, Nat.reduceLeDiff, Nat.reduceMul, Int.reduceToNat, Int.reduceLT, Int.reduceLE, Int.reduceAdd, Int.reduceNeg, Int.reduceEq, splice, Nat.reduceEqDiff, Nat.reduceLT, isAtom, Int.reduceSub, Int.reduceMul, implies_true]
      refine (sent_spec (Sl.rdn hsN) hn1 hx' hq).mono ?_
      rintro v M3 ⟨hf4, tv, G, rfl, hs3, hG⟩
      have hf5 : Frm [] m M3 := hfN.nil_trans hf4
      have hd3 := hf4.get0 hdN'
      have hb3 := hf4.get0 hb0N
      have l4 := lt_of_some hd3
      have l5 := lt_of_some hb3
      have hne : M1.length ≠ di := by have := hf1.len; omega
      obtain ⟨ta, rfl, _⟩ := hs3.form
      simp (contextual := true) (implicitDefEqProofs := false) (maxSteps := 2000000) (disch := first | rfl | exact NB rfl | omega | (simp only [XL]; omega)) only [hb3, XW, undef_eq, Nat.reduceAdd, Nat.reduceSub, ↓reduceIte, basic, cellsL, resOf, setAt, below, belowB, belowA, atomB, Nat.reduceLeDiff, Nat.reduceMul, Int.reduceToNat, Int.reduceLT, Int.reduceLE, Int.reduceAdd, Int.reduceNeg, Int.reduceEq, splice, Nat.reduceEqDiff, Nat.reduceLT, isAtom, Int.reduceSub, Int.reduceMul, implies_true]
      have hrp : rightP px.b px.s py.b py.s (sentL l j q) = true := by
        refine sent_right hq hall ?_
        rw [rightP_all, List.all_eq_true.2 hok, hord]
        simpa using hl8
      have hsl : (sentL l j q).length = l.length := by unfold sentL; simp
      have hc0 : ((0 : Int) ≤ ((7 * (l.length + 1 + 1) : Nat) : Int)) = True := eq_true (by omega)
      have hc1 : (((7 * (l.length + 1 + 1) : Nat) : Int) ≤ (s.length : Int)) = True := eq_true (by omega)
      have hcut : List.take (s.length - 7 * (l.length + 1 + 1)) (List.drop (7 * (l.length + 1 + 1)) s) = s.drop (7 * (l.length + 1 + 1)) := List.take_of_length_le (by rw [List.length_drop]; exact Nat.le_refl _)
      have hadd := bin_ladd (a := putE (px :: py :: sentL l j q)) (b := s.drop (7 * (l.length + 1 + 1))) (by rw [putE_len, List.length_drop]; simp only [List.length_cons, hsl]; omega)
      have hGn : M1.length ∉ G := fun hx => by have := hG _ hx; omega
      refine (putP_spec (tm := px.k) (fm := py.k) (Sl.rdn (hs3.setb hGn)) hrp).use ?_
      simp (contextual := true) (implicitDefEqProofs := false) (maxSteps := 2000000) (disch := first | rfl | exact NB rfl | omega | (simp only [XL]; omega)) only [hb3, hd3, hne, wx, hadd, bin_ladd, str_cut, str_app, str_eq, string_mk_size, string_mk, hc0, hc1, hcut, Int.toNat_natCast, XW, undef_eq, Nat.reduceAdd, Nat.reduceSub, ↓reduceIte, basic, cellsL, resOf, setAt, below, belowB, belowA, atomB, Nat.reduceLeDiff, Nat.reduceMul, Int.reduceToNat, Int.reduceLT, Int.reduceLE, Int.reduceAdd, Int.reduceNeg, Int.reduceEq, splice, Nat.reduceEqDiff, Nat.reduceLT, isAtom, Int.reduceSub, Int.reduceMul, implies_true]
      exact ⟨((Frm.of_nil (F := [di]) hf5).set (i := M1.length) (.inr hf1.len)).set (.inl (by simp)), rfl⟩
    · have hmd : decide (q.cl ∈ cs) = false := decide_eq_false hm
      rw [if_neg hm, hmd]
      simp (contextual := true) (implicitDefEqProofs := false) (maxSteps := 2000000) (disch := first | rfl | exact NB rfl | omega | (simp only [XL]; omega)) only [hdN', wy, XW, undef_eq, Nat.reduceAdd, Nat.reduceSub, ↓reduceIte, basic, cellsL, resOf, setAt, below, belowB, belowA, atomB, Nat.reduceLeDiff, Nat.reduceMul, Int.reduceToNat, Int.reduceLT, Int.reduceLE, Int.reduceAdd, Int.reduceNeg, Int.reduceEq, splice, Nat.reduceEqDiff, Nat.reduceLT, isAtom, Int.reduceSub, Int.reduceMul, implies_true]
      exact ⟨(Frm.of_nil (F := [di]) hfN).set (.inl (by simp)), by simp [dgB, cnt, l2]⟩
end Go.Proofs.YtadkdihbbngbfaaDoor
/- Whether a frame is for somebody, here and now: walked. -/
namespace Go.Proofs.YtadkdihbbngbfaaDoor
open Go.Lg
set_option maxRecDepth 8000
set_option maxHeartbeats 8000000
def forL (c : Cl) : List En → Bool
  | x :: _ :: l => x.cl.same c && decide (nx l = -1)
  | _ => false
def forB (c : Cl) (s : List UInt8) : Bool := decB s && forL c (getP s 11 []).2
theorem eqN_en {e : En} {c : Cl} : eqN [(0, .string), (1, .int)] (cl e.b e.s) (cl c.b c.s) = some (e.cl.same c) := eqN_cl (c := e.cl) (d := c)
theorem for_spec (c : Cl) (s : List UInt8) (hl : s.length ≤ 100000) (m : Mem) : Ret Tryd.prog 12 [cl c.b c.s, str s] m (.bool (forB c s)) m := by
  refine LCall_drop (LCall_enter Tryd.func12 c12 ?_)
  simp (contextual := true) (implicitDefEqProofs := false) (maxSteps := 2000000) (disch := first | rfl | exact NB rfl | omega | (simp only [XL]; omega)) only [L12, XW, undef_eq, Nat.reduceAdd, Nat.reduceSub, ↓reduceIte, basic, cellsL, resOf, setAt, below, belowB, belowA, atomB, Nat.reduceLeDiff, Nat.reduceMul, Int.reduceToNat, Int.reduceLT, Int.reduceLE, Int.reduceAdd, Int.reduceNeg, Int.reduceEq, splice, Nat.reduceEqDiff, Nat.reduceLT, isAtom, Int.reduceSub, Int.reduceMul, implies_true]
  obtain ⟨M0, hM0, hf0, hbc⟩ : ∃ N, m ++ [⟨[str c.b, .int .i64 c.s], 32, 1, 0, .own⟩] = N ∧ Frm [] m N ∧ N[m.length]? = some ⟨[str c.b, .int .i64 c.s], 32, 1, 0, .own⟩ := ⟨_, rfl, Frm.refl.app, by simp⟩
  rw [hM0]
  refine (getP_spec s hl _).mono ?_
  rintro v M1 ⟨hf1, hv⟩
  by_cases hg : (getP s 11 []).1 = 0
  · rw [if_pos hg] at hv
    obtain ⟨px, py, l, pv, F, hL, rfl, hs, hF⟩ := hv
    obtain ⟨sa, rfl, _⟩ := hs.form
    have hsh := getP_shape (s := s) (n := 11) (L := []) rfl (by simp) hg
    rw [hL] at hsh
    have hn1 : l.length ≤ 1000000 := by have := hsh.2.1; simp at this; omega
    have e : forB c s = (decB s && (px.cl.same c && decide (nx l = -1))) := by rw [forB, hL]; rfl
    rw [e, hL]
    simp (contextual := true) (implicitDefEqProofs := false) (maxSteps := 2000000) (disch := first | rfl | exact NB rfl | omega | (simp only [XL]; omega)) only [XW, undef_eq, Nat.reduceAdd, Nat.reduceSub, ↓reduceIte, basic, cellsL, resOf, setAt, below, belowB, belowA, atomB, Nat.reduceLeDiff, Nat.reduceMul, Int.reduceToNat, Int.reduceLT, Int.reduceLE, Int.reduceAdd, Int.reduceNeg, Int.reduceEq, splice, Nat.reduceEqDiff, Nat.reduceLT, isAtom, Int.reduceSub, Int.reduceMul, implies_true]
    obtain ⟨M, hM, hMl, hf2, hb0⟩ : ∃ N, M1 ++ [⟨[str px.b, .int .i64 px.s, str py.b, .int .i64 py.s, .bool px.k, .bool py.k, .slice sa (l.map En.row).length (l.map En.row).length], 55, 1, 0, .own⟩] = N ∧ N.length = M1.length + 1 ∧ Frm [] M1 N ∧ N[M1.length]? = some ⟨[str px.b, .int .i64 px.s, str py.b, .int .i64 py.s, .bool px.k, .bool py.k, .slice sa (l.map En.row).length (l.map En.row).length], 55, 1, 0, .own⟩ := ⟨_, rfl, by simp, Frm.refl.app, by simp⟩
    rw [hM]
    have hsM := hs.frm0 hf2
    have hfm : Frm [] m M := (hf0.nil_trans hf1).nil_trans hf2
    have hbcM := (hf1.nil_trans hf2).get0 hbc
    have l0 := lt_of_some hb0
    have l1 := lt_of_some hbcM
    cases hsm : px.cl.same c with
    | false =>
      simp (contextual := true) (implicitDefEqProofs := false) (maxSteps := 2000000) (disch := first | rfl | exact NB rfl | omega | (simp only [XL]; omega)) only [hb0, hbcM, eqN_en, hsm, XW, undef_eq, Nat.reduceAdd, Nat.reduceSub, ↓reduceIte, basic, cellsL, resOf, setAt, below, belowB, belowA, atomB, Nat.reduceLeDiff, Nat.reduceMul, Int.reduceToNat, Int.reduceLT, Int.reduceLE, Int.reduceAdd, Int.reduceNeg, Int.reduceEq, splice, Nat.reduceEqDiff, Nat.reduceLT, isAtom, Int.reduceSub, Int.reduceMul, implies_true]
      exact ⟨hfm.ext0, by simp⟩
    | true =>
      simp (contextual := true) (implicitDefEqProofs := false) (maxSteps := 2000000) (disch := first | rfl | exact NB rfl | omega | (simp only [XL]; omega)) only [hb0, hbcM, eqN_en, hsm, XW, undef_eq, Nat.reduceAdd, Nat.reduceSub, ↓reduceIte, basic, cellsL, resOf, setAt, below, belowB, belowA, atomB, Nat.reduceLeDiff, Nat.reduceMul, Int.reduceToNat, Int.reduceLT, Int.reduceLE, Int.reduceAdd, Int.reduceNeg, Int.reduceEq, splice, Nat.reduceEqDiff, Nat.reduceLT, isAtom, Int.reduceSub, Int.reduceMul, implies_true]
      rcases idx_cases (p := fun e => !e.k) (l := l) (i := 0) with ⟨hx, hall⟩ | ⟨j, q, hq, hqk, hx, hall⟩
      · have hx' : nx l = -1 := hx
        refine (pnone_spec (Sl.rd hsM) hn1 hx').use ?_
        rw [hx']
        simp (contextual := true) (implicitDefEqProofs := false) (maxSteps := 2000000) (disch := first | rfl | exact NB rfl | omega | (simp only [XL]; omega)) only [XW, undef_eq, Nat.reduceAdd, Nat.reduceSub, ↓reduceIte, basic, cellsL, resOf, setAt, below, belowB, belowA, atomB, Nat.reduceLeDiff, Nat.reduceMul, Int.reduceToNat, Int.reduceLT, Int.reduceLE, Int.reduceAdd, Int.reduceNeg, Int.reduceEq, splice, Nat.reduceEqDiff, Nat.reduceLT, isAtom, Int.reduceSub, Int.reduceMul, implies_true]
        refine (decodes_spec s hl _).use ?_
        simp (contextual := true) (implicitDefEqProofs := false) (maxSteps := 2000000) (disch := first | rfl | exact NB rfl | omega | (simp only [XL]; omega)) only [Bool.and_true, Bool.true_and, XW, undef_eq, Nat.reduceAdd, Nat.reduceSub, ↓reduceIte, basic, cellsL, resOf, setAt, below, belowB, belowA, atomB, Nat.reduceLeDiff, Nat.reduceMul, Int.reduceToNat, Int.reduceLT, Int.reduceLE, Int.reduceAdd, Int.reduceNeg, Int.reduceEq, splice, Nat.reduceEqDiff, Nat.reduceLT, isAtom, Int.reduceSub, Int.reduceMul, implies_true]
        exact hfm.app.ext0
      · have hx' : nx l = (j : Int) := by unfold nx; rw [hx]; simp
        refine (psome_spec (Sl.rd hsM) hn1 hx' hq).use ?_
        have hd1 : decide (nx l = -1) = false := decide_eq_false (by rw [hx']; omega)
        rw [hd1]
        simp (contextual := true) (implicitDefEqProofs := false) (maxSteps := 2000000) (disch := first | rfl | exact NB rfl | omega | (simp only [XL]; omega)) only [Bool.and_false, XW, undef_eq, Nat.reduceAdd, Nat.reduceSub, ↓reduceIte, basic, cellsL, resOf, setAt, below, belowB, belowA, atomB, Nat.reduceLeDiff, Nat.reduceMul, Int.reduceToNat, Int.reduceLT, Int.reduceLE, Int.reduceAdd, Int.reduceNeg, Int.reduceEq, splice, Nat.reduceEqDiff, Nat.reduceLT, isAtom, Int.reduceSub, Int.reduceMul, implies_true]
        exact hfm.app.ext0
  · rw [if_neg hg] at hv
    subst hv
    have hg' : ((getP s 11 []).1 = 0) = False := eq_false hg
    have hd : decB s = false := by
      cases hd : decB s with
      | false => rfl
      | true => exact absurd (dec_path hd).1 hg
    have e : forB c s = false := by rw [forB, hd]; rfl
    rw [e]
    simp (contextual := true) (implicitDefEqProofs := false) (maxSteps := 2000000) (disch := first | rfl | exact NB rfl | omega | (simp only [XL]; omega)) only [hg', XW, undef_eq, Nat.reduceAdd, Nat.reduceSub, ↓reduceIte, basic, cellsL, resOf, setAt, below, belowB, belowA, atomB, Nat.reduceLeDiff, Nat.reduceMul, Int.reduceToNat, Int.reduceLT, Int.reduceLE, Int.reduceAdd, Int.reduceNeg, Int.reduceEq, splice, Nat.reduceEqDiff, Nat.reduceLT, isAtom, Int.reduceSub, Int.reduceMul, implies_true]
    exact (hf0.nil_trans hf1).app.ext0
end Go.Proofs.YtadkdihbbngbfaaDoor
/- Great inputs; the document's example: walked. -/
namespace Go.Proofs.YtadkdihbbngbfaaDoor
open Go.Lg
set_option maxRecDepth 8000
set_option maxHeartbeats 8000000
def gB (l : List (List UInt8)) : Bool := decide (40 < l.length) || l.any fun s => decide (1000 < s.length)
theorem great_spec {l : List (List UInt8)} {v : Value} {m : Mem} (h : Rd m 1 v (l.map fun s => [str s])) : Ret Tryd.prog 7 [v] m (.bool (gB l)) m := by
  obtain ⟨a, rfl, hform⟩ := h
  simp only [List.length_map] at hform ⊢
  refine LCall_drop (LCall_enter Tryd.func7 c7 ?_)
  by_cases h40 : 40 < l.length
  · have h40' : ((40 : Int) < (l.length : Int)) = True := eq_true (by omega)
    have e : gB l = true := by unfold gB; simp [h40]
    rw [e]
    simp (contextual := true) (implicitDefEqProofs := false) (maxSteps := 2000000) (disch := first | rfl | exact NB rfl | omega | (simp only [XL]; omega)) only [L7, h40', XW, undef_eq, Nat.reduceAdd, Nat.reduceSub, ↓reduceIte, basic, cellsL, resOf, setAt, below, belowB, belowA, atomB, Nat.reduceLeDiff, Nat.reduceMul, Int.reduceToNat, Int.reduceLT, Int.reduceLE, Int.reduceAdd, Int.reduceNeg, Int.reduceEq, splice, Nat.reduceEqDiff, Nat.reduceLT, isAtom, Int.reduceSub, Int.reduceMul, implies_true]
  have h40' : ((40 : Int) < (l.length : Int)) = False := eq_false (by omega)
  simp (contextual := true) (implicitDefEqProofs := false) (maxSteps := 2000000) (disch := first | rfl | exact NB rfl | omega | (simp only [XL]; omega)) only [L7, h40', XW, undef_eq, Nat.reduceAdd, Nat.reduceSub, ↓reduceIte, basic, cellsL, resOf, setAt, below, belowB, belowA, atomB, Nat.reduceLeDiff, Nat.reduceMul, Int.reduceToNat, Int.reduceLT, Int.reduceLE, Int.reduceAdd, Int.reduceNeg, Int.reduceEq, splice, Nat.reduceEqDiff, Nat.reduceLT, isAtom, Int.reduceSub, Int.reduceMul, implies_true]
  refine loop_inv (fun n t M => ∃ (j : Nat), n = l.length - j ∧ j ≤ l.length ∧ (l.take j).any (fun s => decide (1000 < s.length)) = false ∧ M = m ∧
    Tab 18 [(8, .slice a l.length l.length), (9, .int .i64 (l.length : Int)), (10, .int .i64 (j : Int))] t) (n := l.length) ?_ ?_
  · exact ⟨0, rfl, Nat.zero_le _, by simp, rfl, ⟨rfl, by simp⟩⟩
  rintro N t m ⟨j, rfl, hj, hx, rfl, ht⟩
  obtain ⟨f, rfl⟩ : ∃ f' : Nat → Value, t = [f' 0, f' 1, f' 2, f' 3, f' 4, f' 5, f' 6, f' 7, .slice a l.length l.length, .int .i64 (l.length : Int), .int .i64 (j : Int), f' 11, f' 12, f' 13, f' 14, f' 15, f' 16, f' 17] := ht.open fun f' => rfl
  by_cases hlt : j < l.length
  · have hlt' : ((j : Int) < (l.length : Int)) = True := by simp [hlt]
    have h0' : ((0 : Int) ≤ (j : Int)) = True := by simp
    have hwj : IntKind.i64.wrap ((j : Int) + 1) = ((j + 1 : Nat) : Int) := by rw [wrap_i64 (by omega) (by omega)]; omega
    obtain ⟨b, o, cs, T, fz, kd, rfl, hb, hk, hl, hrow⟩ := hform (by omega)
    obtain ⟨s, hs⟩ : ∃ r, l[j]? = some r := ⟨l[j], List.getElem?_eq_getElem hlt⟩
    have hr : (cs.drop (o + j * 1)).take 1 = [str s] := hrow j [str s] (by simp [hs])
    have hc : cs[o + j]? = some (str s) := by have := row_cell hr (j := 0) (by omega); simpa using this
    have hbl := lt_of_some hb
    have hsn : (l.take (j + 1)).any (fun s => decide (1000 < s.length)) = ((l.take j).any (fun s => decide (1000 < s.length)) || decide (1000 < s.length)) := by rw [take_snoc hs, List.any_append]; simp
    have e1 : ((1000 : Int) < (s.length : Int)) = (1000 < s.length) := by apply propext; omega
    by_cases hbig : 1000 < s.length
    · have e : gB l = true := by
        unfold gB
        rw [Bool.or_eq_true_iff]; right
        rw [List.any_eq_true]
        exact ⟨s, List.mem_of_getElem? hs, by simpa using hbig⟩
      rw [e]
      simp (contextual := true) (implicitDefEqProofs := false) (maxSteps := 2000000) (disch := first | rfl | exact NB rfl | omega | (simp only [XL]; omega)) only [hb, hlt', h0', hc, cellB_l hk, Int.toNat_natCast, Nat.mul_one, bin_ladd, str_cut, str_app, str_eq, string_mk_size, string_mk, e1, hbig, XW, undef_eq, Nat.reduceAdd, Nat.reduceSub, ↓reduceIte, basic, cellsL, resOf, setAt, below, belowB, belowA, atomB, Nat.reduceLeDiff, Nat.reduceMul, Int.reduceToNat, Int.reduceLT, Int.reduceLE, Int.reduceAdd, Int.reduceNeg, Int.reduceEq, splice, Nat.reduceEqDiff, Nat.reduceLT, isAtom, Int.reduceSub, Int.reduceMul, implies_true]
    · simp (contextual := true) (implicitDefEqProofs := false) (maxSteps := 2000000) (disch := first | rfl | exact NB rfl | omega | (simp only [XL]; omega)) only [hb, hlt', h0', hc, cellB_l hk, Int.toNat_natCast, Nat.mul_one, bin_ladd, str_cut, str_app, str_eq, string_mk_size, string_mk, e1, hbig, XW, undef_eq, Nat.reduceAdd, Nat.reduceSub, ↓reduceIte, basic, cellsL, resOf, setAt, below, belowB, belowA, atomB, Nat.reduceLeDiff, Nat.reduceMul, Int.reduceToNat, Int.reduceLT, Int.reduceLE, Int.reduceAdd, Int.reduceNeg, Int.reduceEq, splice, Nat.reduceEqDiff, Nat.reduceLT, isAtom, Int.reduceSub, Int.reduceMul, implies_true]
      exact kInv_go ⟨j + 1, rfl, by omega, by rw [hsn, hx]; simpa using hbig, rfl, ⟨rfl, by simp [hwj]⟩⟩ (by omega)
  · have hlt' : ((j : Int) < (l.length : Int)) = False := by simp; omega
    have e : gB l = false := by
      rw [List.take_of_length_le (by omega)] at hx
      unfold gB; rw [hx]; simpa using h40
    rw [e]
    simp (contextual := true) (implicitDefEqProofs := false) (maxSteps := 2000000) (disch := first | rfl | exact NB rfl | omega | (simp only [XL]; omega)) only [hlt', XW, undef_eq, Nat.reduceAdd, Nat.reduceSub, ↓reduceIte, basic, cellsL, resOf, setAt, below, belowB, belowA, atomB, Nat.reduceLeDiff, Nat.reduceMul, Int.reduceToNat, Int.reduceLT, Int.reduceLE, Int.reduceAdd, Int.reduceNeg, Int.reduceEq, splice, Nat.reduceEqDiff, Nat.reduceLT, isAtom, Int.reduceSub, Int.reduceMul, implies_true]
end Go.Proofs.YtadkdihbbngbfaaDoor
/- The document's example: walked. -/
namespace Go.Proofs.YtadkdihbbngbfaaDoor
open Go.Lg
set_option maxRecDepth 8000
set_option maxHeartbeats 8000000
def cA : Cl := ⟨[65], 0⟩
def cB : Cl := ⟨[66], 0⟩
def cC : Cl := ⟨[67], 0⟩
def ctU : Ct := ⟨12, 0, 0, false⟩
def exS : List UInt8 := encF [⟨[66], 0, true⟩, ⟨[65], 0, false⟩, ⟨[67], 0, false⟩] (ctU.bytes false) (K.pidB 12) 240 [120]
def exT : List UInt8 := (onF [cC] exS).1
theorem ex_len : exS.length = 24 := by decide +kernel
theorem ex_lenT : exT.length = 24 := by decide +kernel
theorem ex_how : (onF [cC] exS).2 = 0 := by decide +kernel
theorem ex_for : forB cB exS = false := by decide +kernel
theorem ex_forT : forB cB exT = true := by decide +kernel
theorem ex_made : madeE [cC] = 0 := by decide +kernel
theorem ex_right : rightP [66] 0 [65] 0 [⟨[67], 0, false⟩] = true := by decide +kernel
theorem ex_ctl : K.rightC 12 0 0 false = true := by decide +kernel
theorem ex_wrong : wrongE (rightP [66] 0 [65] 0 [⟨[67], 0, false⟩]) (K.rightC 12 0 0 false) (K.pidB 12) (K.infoB 12) 240 [120] = 0 := by decide +kernel
theorem bytes_len (c : Ct) (w : Bool) : (c.bytes w).length ≤ 2 := by
  unfold Ct.bytes; rw [K.strL_len]; unfold K.putL8; split
  · simp
  · split <;> simp
theorem ctl_put {c : Ct} {w : Bool} (hc : c.right w = true) (m : Mem) : Ret Tryd.prog 37 [c.val, .bool w] m (.tuple #[str (c.bytes w), .int .i64 0]) m := by
  have := K.ctlput_spec c.k c.ns c.nr c.pf w m
  have hc' : K.rightC c.k c.ns c.nr w = true := hc
  rw [hc'] at this
  exact this
theorem rdn_nil {sz : Nat} {m : Mem} : RdN m sz (.slice none 0 0) [] := ⟨⟨none, rfl, fun h => by simp at h⟩, fun M _ => rfl⟩
theorem awake_spec (m : Mem) : Ret Tryd.prog 6 [] m (.bool true) m := by
  refine LCall_drop (LCall_enter Tryd.func6 c6 ?_)
  simp (contextual := true) (implicitDefEqProofs := false) (maxSteps := 2000000) (disch := first | rfl | exact NB rfl | omega | (simp only [XL]; omega)) only [L6, XW, undef_eq, Nat.reduceAdd, Nat.reduceSub, ↓reduceIte, basic, cellsL, resOf, setAt, below, belowB, belowA, atomB, Nat.reduceLeDiff, Nat.reduceMul, Int.reduceToNat, Int.reduceLT, Int.reduceLE, Int.reduceAdd, Int.reduceNeg, Int.reduceEq, splice, Nat.reduceEqDiff, Nat.reduceLT, isAtom, Int.reduceSub, Int.reduceMul, implies_true]
  obtain ⟨M0, hM0, hM0l, hf0, hb1, hb2, hb3⟩ : ∃ N, m ++ [⟨[str [65], .int .i64 0], 32, 1, 0, .own⟩, ⟨[str [66], .int .i64 0], 32, 1, 0, .own⟩, ⟨[str [67], .int .i64 0], 32, 1, 0, .own⟩, ⟨[str [67], .int .i64 0], 32, 2, 0, .own⟩] = N ∧ N.length = m.length + 4 ∧ Frm [] m N ∧
      N[m.length + 1]? = some ⟨[str [66], .int .i64 0], 32, 1, 0, .own⟩ ∧ N[m.length + 2]? = some ⟨[str [67], .int .i64 0], 32, 1, 0, .own⟩ ∧ N[m.length + 3]? = some ⟨[str [67], .int .i64 0], 32, 2, 0, .own⟩ :=
    ⟨_, rfl, by simp, Frm.refl.app, by rw [List.getElem?_append_right (by omega)]; simp, by rw [List.getElem?_append_right (by omega)]; simp, by rw [List.getElem?_append_right (by omega)]; simp⟩
  rw [hM0]
  have hs0 : Sl M0 32 2 (.slice (some ⟨m.length + 3, 0, none⟩) 1 1) [m.length + 3] ([cC].map Cl.row) := Sl.own (T := 32) (sz := 2) (rows := [cC].map Cl.row) hb3 (by simp [Cl.row]) (by simp [Cl.row, cC]) (by simp)
  refine (via_spec (fb := [65]) (fs := 0) (tb := [66]) (ts := 0) (cm := true) (cs := [cC]) (by decide) (by decide) (by decide) (Sl.rd hs0) (by decide)).mono ?_
  rintro v M1 ⟨hf1, hv⟩
  have hri : rightP [66] 0 [65] 0 ([cC].map Cl.en) = true := ex_right
  rw [if_pos hri] at hv
  obtain ⟨sv, F, rfl, hs1, hF⟩ := hv
  have hs1' := hs1
  obtain ⟨sa, rfl, _⟩ := hs1.form
  simp (contextual := true) (implicitDefEqProofs := false) (maxSteps := 2000000) (disch := first | rfl | exact NB rfl | omega | (simp only [XL]; omega)) only [XW, undef_eq, Nat.reduceAdd, Nat.reduceSub, ↓reduceIte, basic, cellsL, resOf, setAt, below, belowB, belowA, atomB, Nat.reduceLeDiff, Nat.reduceMul, Int.reduceToNat, Int.reduceLT, Int.reduceLE, Int.reduceAdd, Int.reduceNeg, Int.reduceEq, splice, Nat.reduceEqDiff, Nat.reduceLT, isAtom, Int.reduceSub, Int.reduceMul, implies_true]
  obtain ⟨M2, hM2, hM2l, hf2, hb4⟩ : ∃ N, M1 ++ [⟨[str [66], .int .i64 0, str [65], .int .i64 0, .bool true, .bool false, .slice sa 1 1], 55, 1, 0, .own⟩] = N ∧ N.length = M1.length + 1 ∧ Frm [] M1 N ∧ N[M1.length]? = some ⟨[str [66], .int .i64 0, str [65], .int .i64 0, .bool true, .bool false, .slice sa 1 1], 55, 1, 0, .own⟩ := ⟨_, rfl, by simp, Frm.refl.app, by simp⟩
  rw [hM2]
  have hs2 := hs1.frm0 hf2
  have henc := encode_spec (tb := [66]) (ts := 0) (fb := [65]) (fs := 0) (tm := true) (fm := false) (l := [cC].map Cl.en) (c := ctU) (pid := 240) (info := [120]) (wide := false) (m := M2) (Sl.rdn hs2)
    (fun m => K.ctlright_spec 12 0 0 false false m) (fun m => K.pid_spec 12 m) (fun m => K.info_spec 12 m) (fun m => ctl_put (c := ctU) (w := false) ex_ctl m) (Nat.le_trans (bytes_len _ _) (by decide)) ex_wrong
  have henc' : Ret Tryd.prog 21 [frameV [66] 0 [65] 0 true false (.slice sa 1 1) ctU 240 [120], .bool false] M2 (.tuple #[str exS, .int .i64 0]) M2 := henc
  refine henc'.use ?_
  have hf3 : Frm [] M0 M2 := hf1.nil_trans hf2
  have hb2' := hf3.get0 hb2
  have hb1' := hf3.get0 hb1
  have l2 := lt_of_some hb2'
  simp (contextual := true) (implicitDefEqProofs := false) (maxSteps := 2000000) (disch := first | rfl | exact NB rfl | omega | (simp only [XL]; omega)) only [hb2', XW, undef_eq, Nat.reduceAdd, Nat.reduceSub, ↓reduceIte, basic, cellsL, resOf, setAt, below, belowB, belowA, atomB, Nat.reduceLeDiff, Nat.reduceMul, Int.reduceToNat, Int.reduceLT, Int.reduceLE, Int.reduceAdd, Int.reduceNeg, Int.reduceEq, splice, Nat.reduceEqDiff, Nat.reduceLT, isAtom, Int.reduceSub, Int.reduceMul, implies_true]
  refine (new_spec (c := cC) (l := []) (v := .slice none 0 0) rdn_nil (by decide) (fun e he => by rw [show e = cC from (by simpa using he)]; exact ⟨by decide, by decide⟩)).mono ?_
  rintro v M3 ⟨hf4, hv⟩
  rw [if_pos ex_made] at hv
  obtain ⟨di, dv, G, rfl, hd, hs3, hdi, hG, hnd⟩ := hv
  simp (contextual := true) (implicitDefEqProofs := false) (maxSteps := 2000000) (disch := first | rfl | exact NB rfl | omega | (simp only [XL]; omega)) only [XW, undef_eq, Nat.reduceAdd, Nat.reduceSub, ↓reduceIte, basic, cellsL, resOf, setAt, below, belowB, belowA, atomB, Nat.reduceLeDiff, Nat.reduceMul, Int.reduceToNat, Int.reduceLT, Int.reduceLE, Int.reduceAdd, Int.reduceNeg, Int.reduceEq, splice, Nat.reduceEqDiff, Nat.reduceLT, isAtom, Int.reduceSub, Int.reduceMul, implies_true]
  refine (on_spec (cs := [cC]) (x := 0) (y := 0) (z := 0) hd (Sl.rd hs3) (by decide) (by rw [ex_len]; decide) (by decide)).mono ?_
  rintro v M4 ⟨hf5, rfl, hd4⟩
  rw [ex_how]
  have ht : (onF [cC] exS).1 = exT := rfl
  rw [ht]
  have hb1'' := hf5.get (hf4.get0 hb1') (by simp; have := lt_of_some hb1'; omega)
  have l1 := lt_of_some hb1''
  have hfm : Frm [] m M4 := by
    have h1 : Frm [] m M3 := (hf0.nil_trans hf3).nil_trans hf4
    exact h1.trans hf5 fun x hx => .inr (by simp at hx; have := (hf0.nil_trans hf3).len; omega)
  simp (contextual := true) (implicitDefEqProofs := false) (maxSteps := 2000000) (disch := first | rfl | exact NB rfl | omega | (simp only [XL]; omega)) only [hb1'', XW, undef_eq, Nat.reduceAdd, Nat.reduceSub, ↓reduceIte, basic, cellsL, resOf, setAt, below, belowB, belowA, atomB, Nat.reduceLeDiff, Nat.reduceMul, Int.reduceToNat, Int.reduceLT, Int.reduceLE, Int.reduceAdd, Int.reduceNeg, Int.reduceEq, splice, Nat.reduceEqDiff, Nat.reduceLT, isAtom, Int.reduceSub, Int.reduceMul, implies_true]
  refine (for_spec cB exS (by rw [ex_len]; decide) M4).use ?_
  rw [ex_for]
  simp (contextual := true) (implicitDefEqProofs := false) (maxSteps := 2000000) (disch := first | rfl | exact NB rfl | omega | (simp only [XL]; omega)) only [hb1'', XW, undef_eq, Nat.reduceAdd, Nat.reduceSub, ↓reduceIte, basic, cellsL, resOf, setAt, below, belowB, belowA, atomB, Nat.reduceLeDiff, Nat.reduceMul, Int.reduceToNat, Int.reduceLT, Int.reduceLE, Int.reduceAdd, Int.reduceNeg, Int.reduceEq, splice, Nat.reduceEqDiff, Nat.reduceLT, isAtom, Int.reduceSub, Int.reduceMul, implies_true]
  refine (for_spec cB exT (by rw [ex_lenT]; decide) M4).use ?_
  rw [ex_forT]
  simp (contextual := true) (implicitDefEqProofs := false) (maxSteps := 2000000) (disch := first | rfl | exact NB rfl | omega | (simp only [XL]; omega)) only [bin_ladd, str_cut, str_app, str_eq, string_mk_size, string_mk, ex_len, ex_lenT, XW, undef_eq, Nat.reduceAdd, Nat.reduceSub, ↓reduceIte, basic, cellsL, resOf, setAt, below, belowB, belowA, atomB, Nat.reduceLeDiff, Nat.reduceMul, Int.reduceToNat, Int.reduceLT, Int.reduceLE, Int.reduceAdd, Int.reduceNeg, Int.reduceEq, splice, Nat.reduceEqDiff, Nat.reduceLT, isAtom, Int.reduceSub, Int.reduceMul, implies_true]
  exact hfm.ext0
end Go.Proofs.YtadkdihbbngbfaaDoor
/- The law of a digipeater that is not there: walked. -/
namespace Go.Proofs.YtadkdihbbngbfaaDoor
open Go.Lg
set_option maxRecDepth 8000
set_option maxHeartbeats 8000000
theorem gB_one (s : List UInt8) : gB [s] = decide (1000 < s.length) := by simp [gB]
theorem one_rd {m : Mem} {b : Nat} {s : List UInt8} (hb : m[b]? = some ⟨[str s], 9, 1, 0, .own⟩) : Rd m 1 (.slice (some ⟨b, 0, none⟩) 1 1) ([s].map fun s => [str s]) :=
  Sl.rd (T := 9) (F := [b]) (Sl.own (T := 9) (sz := 1) (rows := [s].map fun s => [str s]) hb (by simp) (by simp) (by simp))
theorem cl_of {m : Mem} {n : Nat} {v : Value} (h : TyV Tryd.prog m (n + 2) 32 v) : ∃ c : Cl, v = cl c.b c.s ∧ c.okW := by
  obtain ⟨_, rfl, x1, _, rfl, h1, x2, _, rfl, h2, rfl⟩ := h.struct Tryd.underlying32 rfl
  obtain ⟨s, rfl, hs⟩ := h1.text Tryd.underlying9
  obtain ⟨a, rfl, ha⟩ := h2.int Tryd.underlying3
  obtain ⟨l, rfl⟩ := str_is s
  rw [string_mk_size] at hs
  exact ⟨⟨l, a⟩, rfl, Nat.le_trans hs (by decide), by simpa [Lit.wf] using ha⟩
end Go.Proofs.YtadkdihbbngbfaaDoor
/- What is sent on, again and again: plain. -/
namespace Go.Proofs.YtadkdihbbngbfaaDoor
open Go.Lg
set_option maxRecDepth 8000
def putN (L : List En) : List UInt8 := L.flatMap fun e => putC e.b e.s e.k false
theorem putN_len {L : List En} : (putN L).length = 7 * L.length := by
  induction L with
  | nil => rfl
  | cons e L ih =>
    unfold putN at ih ⊢
    rw [List.flatMap_cons, List.length_append, ih, putC_len, List.length_cons]; omega
theorem putN_snoc {L : List En} {e : En} : putN (L ++ [e]) = putN L ++ putC e.b e.s e.k false := by
  unfold putN; rw [List.flatMap_append]; simp
theorem putTo_N {M : List En} : ∀ {j : Nat}, j < M.length → putTo M j = putN (M.take j)
  | 0, _ => rfl
  | j + 1, h => by
    obtain ⟨e, he⟩ : ∃ r, M[j]? = some r := ⟨M[j], List.getElem?_eq_getElem (by omega)⟩
    rw [putTo_succ he, putTo_N (by omega), take_snoc he, putN_snoc]
    congr 2
    simp; omega
theorem putE_last {L : List En} {e : En} : putE (L ++ [e]) = putN L ++ putC e.b e.s e.k true := by
  unfold putE
  have hl : (L ++ [e]).length = L.length + 1 := by simp
  rw [hl, putTo_succ (e := e) (by simp), putTo_N (by simp)]
  simp
theorem getP_canon {s : List UInt8} : ∀ {n : Nat} {L : List En}, n + L.length = 11 → s.take (7 * L.length) = putN L → (getP s n L).1 = 0 → s.take (7 * (getP s n L).2.length) = putE (getP s n L).2
  | 0, L, hn, hp, h => by simp [getP] at h
  | n + 1, L, hn, hp, h => by
    rw [getP] at h ⊢
    by_cases h1 : s.length < 7 * L.length + 7
    · rw [if_pos h1] at h; cases h
    rw [if_neg h1] at h ⊢
    have hck : okC (chk s L) = true → s.take (7 * (L.length + 1)) = putN L ++ putC (enC (chk s L)).b (enC (chk s L)).s (enC (chk s L)).k (endC (chk s L)) := fun hok => by
      unfold okC at hok
      rw [Bool.and_eq_true] at hok
      have e := of_decide_eq_true hok.2
      show _ = putN L ++ putC (baseT (chk s L)) (ssidC (chk s L)) (markC (chk s L)) (endC (chk s L))
      rw [e, ← hp, show 7 * (L.length + 1) = 7 * L.length + 7 by omega, List.take_add]
      rfl
    by_cases h2 : okC (chk s L) = false
    · rw [if_pos h2] at h; cases h
    rw [if_neg h2] at h ⊢
    have h2' : okC (chk s L) = true := by simpa using h2
    have hc := hck h2'
    by_cases h3 : L.length = 10
    · rw [if_pos h3] at h; cases h
    rw [if_neg h3] at h ⊢
    by_cases h4 : endC (chk s L) = false
    · rw [if_pos h4] at h ⊢
      refine getP_canon (by simp; omega) ?_ h
      rw [h4] at hc
      rw [putN_snoc, List.length_append]
      exact hc
    rw [if_neg h4] at h ⊢
    have h4' : endC (chk s L) = true := by simpa using h4
    rw [h4'] at hc
    by_cases h5 : L.length = 0
    · rw [if_pos h5] at h; cases h
    rw [if_neg h5] at h ⊢
    by_cases h6 : ordB ((L ++ [enC (chk s L)]).drop 2) = false
    · rw [if_pos h6] at h; cases h
    rw [if_neg h6]
    show s.take (7 * (L ++ [enC (chk s L)]).length) = putE (L ++ [enC (chk s L)])
    rw [putE_last, List.length_append]
    exact hc
theorem path_bytes {s : List UInt8} (h : (getP s 11 []).1 = 0) : s = putE (getP s 11 []).2 ++ s.drop (7 * (getP s 11 []).2.length) := by
  have e := getP_canon (s := s) (n := 11) (L := []) rfl (by simp [putN]) h
  rw [← e, List.take_append_drop]
theorem decE_fst {L L' : List En} {c : Ct} {o : Option (Int × List UInt8)} : (decE L c o).1 = (decE L' c o).1 := by
  cases o with
  | none => rfl
  | some p =>
    obtain ⟨pid, info⟩ := p
    rw [decE_s, decE_s]
    split <;> rfl
theorem dec_same {L L' : List En} {rest : List UInt8} (hl : L'.length = L.length) (h : getP (putE L ++ rest) 11 [] = (0, L)) (h' : getP (putE L' ++ rest) 11 [] = (0, L')) : decB (putE L' ++ rest) = decB (putE L ++ rest) := by
  have hd : (putE L ++ rest).drop (7 * L.length) = rest := List.drop_left' putE_len
  have hd' : (putE L' ++ rest).drop (7 * L'.length) = rest := List.drop_left' putE_len
  have key : ∀ w, (decF (putE L' ++ rest) w).1 = (decF (putE L ++ rest) w).1 := fun w => by
    unfold decF
    rw [h, h']
    simp only [if_true]
    have e1 : ∀ n, (putE L ++ rest).drop (7 * L.length + n) = rest.drop n := fun n => by rw [← List.drop_drop, hd]
    have e2 : ∀ n, (putE L' ++ rest).drop (7 * L'.length + n) = rest.drop n := fun n => by rw [← List.drop_drop, hd']
    rw [hd, hd', e1, e2]
    split
    · exact decE_fst
    · rfl
  unfold decB
  rw [key, key]
end Go.Proofs.YtadkdihbbngbfaaDoor
/- The law of one bit and of all digipeaters: walked. -/
namespace Go.Proofs.YtadkdihbbngbfaaDoor
open Go.Lg
set_option maxRecDepth 8000
set_option maxHeartbeats 8000000
def unm (l : List En) : Nat := (l.filter fun e => !e.k).length
theorem unm_none {l : List En} (h : ∀ e ∈ l, e.k = true) : unm l = 0 := by
  unfold unm
  rw [List.filter_eq_nil_iff.2 fun e he => by simp [h e he]]
  rfl
theorem unm_snoc {l : List En} {j : Nat} {e : En} (h : l[j]? = some e) : unm (l.take (j + 1)) = unm (l.take j) + (if e.k then 0 else 1) := by
  unfold unm
  rw [take_snoc h, List.filter_append, List.length_append]
  cases hk : e.k <;> simp [List.filter_cons, hk]
theorem unm_sent {l : List En} {j : Nat} {e : En} (h : l[j]? = some e) (hk : e.k = false) : unm (sentL l j e) + 1 = unm l := by
  have hj : j < l.length := (List.getElem?_eq_some_iff.mp h).1
  have e1 : l = l.take j ++ e :: l.drop (j + 1) := by
    have := List.drop_eq_getElem_cons hj
    rw [(List.getElem?_eq_some_iff.mp h).2] at this
    rw [← this, List.take_append_drop]
  have e2 : sentL l j e = l.take j ++ ⟨e.b, e.s, true⟩ :: l.drop (j + 1) := by
    unfold sentL; rw [List.set_eq_take_append_cons_drop, if_pos hj]
  rw [e2]
  conv => rhs; rw [e1]
  unfold unm
  simp only [List.filter_append, List.filter_cons, List.length_append, hk]
  simp
  omega
theorem made_one {c : Cl} (h : rightC c.b c.s = true) : madeE [c] = 0 := by
  have hd : distOK ([c].map Cl.pr) = true := dist_true fun j hj => by
    obtain rfl : j = 0 := by simpa using hj
    simp [badAt, h]
  rw [madeE, if_neg (by rw [hd]; decide), if_neg (by simp)]
theorem one_okW {c : Cl} (h : rightC c.b c.s = true) : ∀ e ∈ [c], e.okW := fun e he => by
  rw [show e = c from (by simpa using he)]
  obtain ⟨_, h1, h2⟩ := right_le h
  have e1 : IntKind.i64.min = -9223372036854775808 := by decide
  have e2 : IntKind.i64.max = 9223372036854775807 := by decide
  refine ⟨by omega, ?_⟩
  show (decide (IntKind.i64.min ≤ c.s) && decide (c.s ≤ IntKind.i64.max)) = true
  rw [e1, e2, decide_eq_true (by omega), decide_eq_true (by omega)]; rfl
theorem on_one {s : List UInt8} {x y : En} {l : List En} {j : Nat} {q : En} (hd : decB s = true) (hL : (getP s 11 []).2 = x :: y :: l) (hx : nx l = (j : Int)) (hq : l[j]? = some q) :
    onF [q.cl] s = (putE (x :: y :: sentL l j q) ++ s.drop (7 * (l.length + 2)), 0) := by
  rw [onF, if_pos hd, hL, onL_some hx hq, if_pos (by simp)]
theorem on_none {s : List UInt8} {x y : En} {l : List En} {c : Cl} (hd : decB s = true) (hL : (getP s 11 []).2 = x :: y :: l) (hx : nx l = -1) : onF [c] s = ([], 1) := by
  rw [onF, if_pos hd, hL, onL_none hx]
theorem unm_zero {l : List En} (h : unm l = 0) : ∀ e ∈ l, e.k = true := fun e he => by
  unfold unm at h
  have := List.length_eq_zero_iff.1 h
  rw [List.filter_eq_nil_iff] at this
  simpa using this e he
theorem nx_none {l : List En} (h : ∀ e ∈ l, e.k = true) : nx l = -1 := by
  rcases idx_cases (p := fun e => !e.k) (l := l) (i := 0) with ⟨hx, _⟩ | ⟨j, q, hq, hqk, _, _⟩
  · exact hx
  · have := h q (List.mem_of_getElem? hq)
    rw [this] at hqk
    cases hqk
theorem unm_some {l : List En} (h : 0 < unm l) : ∃ (j : Nat) (q : En), l[j]? = some q ∧ q.k = false ∧ nx l = (j : Int) ∧ ∀ (j' : Nat) (e' : En), j' < j → l[j']? = some e' → e'.k = true := by
  rcases idx_cases (p := fun e => !e.k) (l := l) (i := 0) with ⟨_, hall⟩ | ⟨j, q, hq, hqk, hx, hall⟩
  · have := unm_none (l := l) fun e he => by simpa using hall e he
    omega
  · exact ⟨j, q, hq, by simpa using hqk, by unfold nx; rw [hx]; simp, fun j' e' h1 h2 => by simpa using hall j' e' h1 h2⟩
theorem unm_le {l : List En} : unm l ≤ l.length := by unfold unm; exact List.length_filter_le _ _
structure Sent (s t : List UInt8) (x y : En) (l : List En) (j : Nat) (q : En) : Prop where
  len : t.length = s.length
  get : (getP t 11 []).1 = 0 ∧ (getP t 11 []).2 = x :: y :: sentL l j q
  dec : decB t = true
  at_ : ∃ u v : UInt8, s[7 * (j + 2) + 6]? = some u ∧ t[7 * (j + 2) + 6]? = some v ∧ u.toNat < 128 ∧ v.toNat = u.toNat + 128
  other : ∀ p, 7 * (j + 2) + 6 ≠ p → t[p]? = s[p]?
theorem sent_facts {s : List UInt8} {x y : En} {l : List En} {j : Nat} {q : En} (hd : decB s = true) (hL : (getP s 11 []).2 = x :: y :: l) (hq : l[j]? = some q) (hqk : q.k = false) (hall : ∀ j' e', j' < j → l[j']? = some e' → e'.k = true) :
    Sent s (putE (x :: y :: sentL l j q) ++ s.drop (7 * (l.length + 2))) x y l j q := by
  obtain ⟨hg, x', y', l', hL', hl8, hls, hok, hord⟩ := dec_path hd
  rw [hL] at hL'
  obtain ⟨rfl, rfl, rfl⟩ : x = x' ∧ y = y' ∧ l = l' := by simpa using hL'
  have hs := path_bytes hg
  rw [hL] at hs
  have hll : (x :: y :: l).length = l.length + 2 := rfl
  rw [hll] at hs
  obtain ⟨R, hR⟩ : ∃ R, s.drop (7 * (l.length + 2)) = R := ⟨_, rfl⟩
  rw [hR] at hs ⊢
  have hsl : (sentL l j q).length = l.length := by unfold sentL; simp
  have hrp : rightP x.b x.s y.b y.s (sentL l j q) = true := by
    refine sent_right hq (fun j' e' h1 h2 => by simp [hall j' e' h1 h2]) ?_
    rw [rightP_all, List.all_eq_true.2 hok, hord]
    simpa using hl8
  have hrl := rightP_le (tm := x.k) (fm := y.k) hrp
  have hg2 : getP (putE (x :: y :: sentL l j q) ++ R) 11 [] = (0, x :: y :: sentL l j q) := getP_put hrl.2.2 (by simp) (by simp [hsl]; omega) hrl.2.1
  have hg1 : getP (putE (x :: y :: l) ++ R) 11 [] = (0, x :: y :: l) := getP_put hok (by simp) (by simp; omega) hord
  have hE : (x :: y :: l : List En)[j + 2]? = some q := hq
  obtain ⟨hsame, u, v, hu, hv, hu1, hv1⟩ := sent_bytes (L := (x :: y :: l : List En)) (rest := R) hE hqk (hok q (List.mem_of_getElem? hE))
  have hsn : sentL (x :: y :: l : List En) (j + 2) q = x :: y :: sentL l j q := rfl
  rw [hsn] at hsame hv
  have hdc := dec_same (L := x :: y :: l) (L' := x :: y :: sentL l j q) (rest := R) (by simp [hsl]) hg1 hg2
  rw [← hs] at hu hsame hdc
  refine ⟨?_, by rw [hg2]; exact ⟨rfl, rfl⟩, by rw [hdc]; exact hd, ⟨u, v, hu, hv, hu1, hv1⟩, fun p hp => hsame p (Ne.symm hp)⟩
  conv => rhs; rw [hs]
  rw [List.length_append, List.length_append, putE_len, putE_len]
  simp [hsl]
theorem xor128 {u v : UInt8} (hu : u.toNat < 128) (hv : v.toNat = u.toNat + 128) : binV .xor (.int .u8 (u.toNat : Int)) (.int .u8 (v.toNat : Int)) = some (.int .u8 128) := by
  have key : ∀ n : Fin 128, IntKind.u8.wrap ((BitVec.ofInt IntKind.u8.bits ((n.1 : Nat) : Int) ^^^ BitVec.ofInt IntKind.u8.bits ((n.1 + 128 : Nat) : Int)).toNat : Int) = 128 := by decide +kernel
  rw [bin_xor, hv]
  exact congrArg (fun y => some (Value.int .u8 y)) (key ⟨u.toNat, hu⟩)
theorem en_row2 {cs : List Value} {o i : Nat} {e : En} (h : (cs.drop (o + i * 3)).take 3 = e.row) : (cs.drop (o + i * 3)).take 2 = [str e.b, .int .i64 e.s] := by
  have := congrArg (List.take 2) h
  rwa [List.take_take] at this
def pB (sv : Value) : Blk := ⟨[sv], 28, 1, 0, .own⟩
theorem once_law (s0 : List UInt8) (m : Mem) : LCall Tryd.prog 3 [str s0] m fun v _ => v = .bool true := by
  refine LCall_enter Tryd.func3 c3 ?_
  simp (contextual := true) (implicitDefEqProofs := false) (maxSteps := 2000000) (disch := first | rfl | exact NB rfl | omega | (simp only [XL]; omega)) only [L3, XW, undef_eq, Nat.reduceAdd, Nat.reduceSub, ↓reduceIte, basic, cellsL, resOf, setAt, below, belowB, belowA, atomB, Nat.reduceLeDiff, Nat.reduceMul, Int.reduceToNat, Int.reduceLT, Int.reduceLE, Int.reduceAdd, Int.reduceNeg, Int.reduceEq, splice, Nat.reduceEqDiff, Nat.reduceLT, isAtom, Int.reduceSub, Int.reduceMul, implies_true]
  refine (awake_spec _).use ?_
  simp (contextual := true) (implicitDefEqProofs := false) (maxSteps := 2000000) (disch := first | rfl | exact NB rfl | omega | (simp only [XL]; omega)) only [XW, undef_eq, Nat.reduceAdd, Nat.reduceSub, ↓reduceIte, basic, cellsL, resOf, setAt, below, belowB, belowA, atomB, Nat.reduceLeDiff, Nat.reduceMul, Int.reduceToNat, Int.reduceLT, Int.reduceLE, Int.reduceAdd, Int.reduceNeg, Int.reduceEq, splice, Nat.reduceEqDiff, Nat.reduceLT, isAtom, Int.reduceSub, Int.reduceMul, implies_true]
  have hb : (m ++ [⟨[str s0], 9, 1, 0, .own⟩] : Mem)[m.length]? = some ⟨[str s0], 9, 1, 0, .own⟩ := by simp
  refine (great_spec (one_rd hb)).use ?_
  rw [gB_one]
  by_cases h1 : 1000 < s0.length
  · have h1' : decide (1000 < s0.length) = true := decide_eq_true h1
    rw [h1']
    simp (contextual := true) (implicitDefEqProofs := false) (maxSteps := 2000000) (disch := first | rfl | exact NB rfl | omega | (simp only [XL]; omega)) only [XW, undef_eq, Nat.reduceAdd, Nat.reduceSub, ↓reduceIte, basic, cellsL, resOf, setAt, below, belowB, belowA, atomB, Nat.reduceLeDiff, Nat.reduceMul, Int.reduceToNat, Int.reduceLT, Int.reduceLE, Int.reduceAdd, Int.reduceNeg, Int.reduceEq, splice, Nat.reduceEqDiff, Nat.reduceLT, isAtom, Int.reduceSub, Int.reduceMul, implies_true]
  have h1' : decide (1000 < s0.length) = false := decide_eq_false h1
  rw [h1']
  simp (contextual := true) (implicitDefEqProofs := false) (maxSteps := 2000000) (disch := first | rfl | exact NB rfl | omega | (simp only [XL]; omega)) only [XW, undef_eq, Nat.reduceAdd, Nat.reduceSub, ↓reduceIte, basic, cellsL, resOf, setAt, below, belowB, belowA, atomB, Nat.reduceLeDiff, Nat.reduceMul, Int.reduceToNat, Int.reduceLT, Int.reduceLE, Int.reduceAdd, Int.reduceNeg, Int.reduceEq, splice, Nat.reduceEqDiff, Nat.reduceLT, isAtom, Int.reduceSub, Int.reduceMul, implies_true]
  refine (rdecodes_spec s0 (by omega) _).use ?_
  cases hd0 : decB s0 with
  | false => simp (contextual := true) (implicitDefEqProofs := false) (maxSteps := 2000000) (disch := first | rfl | exact NB rfl | omega | (simp only [XL]; omega)) only [XW, undef_eq, Nat.reduceAdd, Nat.reduceSub, ↓reduceIte, basic, cellsL, resOf, setAt, below, belowB, belowA, atomB, Nat.reduceLeDiff, Nat.reduceMul, Int.reduceToNat, Int.reduceLT, Int.reduceLE, Int.reduceAdd, Int.reduceNeg, Int.reduceEq, splice, Nat.reduceEqDiff, Nat.reduceLT, isAtom, Int.reduceSub, Int.reduceMul, implies_true]
  | true =>
  simp (contextual := true) (implicitDefEqProofs := false) (maxSteps := 2000000) (disch := first | rfl | exact NB rfl | omega | (simp only [XL]; omega)) only [XW, undef_eq, Nat.reduceAdd, Nat.reduceSub, ↓reduceIte, basic, cellsL, resOf, setAt, below, belowB, belowA, atomB, Nat.reduceLeDiff, Nat.reduceMul, Int.reduceToNat, Int.reduceLT, Int.reduceLE, Int.reduceAdd, Int.reduceNeg, Int.reduceEq, splice, Nat.reduceEqDiff, Nat.reduceLT, isAtom, Int.reduceSub, Int.reduceMul, implies_true]
  refine (rgetP_spec s0 (by omega) _).mono ?_
  rintro v M1 ⟨_, hv⟩
  obtain ⟨hg0, x, y, l0, hL0, hl80, _, _, _⟩ := dec_path hd0
  rw [if_pos hg0, hL0] at hv
  obtain ⟨sv0, F0, rfl, hs0, _⟩ := hv
  obtain ⟨sa0, rfl, _⟩ := hs0.form
  simp only [List.length_map, List.length_cons] at hs0
  simp only [List.length_map, List.length_cons]
  simp (contextual := true) (implicitDefEqProofs := false) (maxSteps := 2000000) (disch := first | rfl | exact NB rfl | omega | (simp only [XL]; omega)) only [XW, undef_eq, Nat.reduceAdd, Nat.reduceSub, ↓reduceIte, basic, cellsL, resOf, setAt, below, belowB, belowA, atomB, Nat.reduceLeDiff, Nat.reduceMul, Int.reduceToNat, Int.reduceLT, Int.reduceLE, Int.reduceAdd, Int.reduceNeg, Int.reduceEq, splice, Nat.reduceEqDiff, Nat.reduceLT, isAtom, Int.reduceSub, Int.reduceMul, implies_true]
  obtain ⟨M, hM, hMl, hfM, hbP⟩ : ∃ N, M1 ++ [⟨[.slice sa0 (l0.length + 1 + 1) (l0.length + 1 + 1)], 28, 1, 0, .own⟩] = N ∧ N.length = M1.length + 1 ∧ Frm [] M1 N ∧ N[M1.length]? = some ⟨[.slice sa0 (l0.length + 1 + 1) (l0.length + 1 + 1)], 28, 1, 0, .own⟩ := ⟨_, rfl, by simp, Frm.refl.app, by simp⟩
  rw [hM]
  have hPF0 : M1.length ∉ F0 := fun hx => by have := hs0.lt _ hx; omega
  have hsM := hs0.frm0 hfM
  clear hM hs0 hfM
  generalize M1.length = p at hbP hPF0 hMl ⊢
  refine loop_inv (fun n t N => ∃ (i : Nat), n = l0.length - i ∧ i ≤ l0.length ∧ N = M ∧
    Tab 168 [(0, str s0), (3, .pointer (some ⟨p, 0, none⟩)), (6, .int .i64 ((unm (l0.take i) : Nat) : Int)), (7, .int .i64 ((i + 2 : Nat) : Int))] t) (n := l0.length) ?_ ?_
  · exact ⟨0, rfl, Nat.zero_le _, rfl, ⟨rfl, by simp [unm]⟩⟩
  rintro N t M' ⟨i, rfl, hi, rfl, ht⟩
  obtain ⟨f, rfl⟩ : ∃ f' : Nat → Value, t = [str s0, f' 1, f' 2, .pointer (some ⟨p, 0, none⟩), f' 4, f' 5, .int .i64 ((unm (l0.take i) : Nat) : Int), .int .i64 ((i + 2 : Nat) : Int), f' 8, f' 9, f' 10, f' 11, f' 12, f' 13, f' 14, f' 15, f' 16, f' 17, f' 18, f' 19, f' 20, f' 21, f' 22, f' 23, f' 24, f' 25, f' 26, f' 27, f' 28, f' 29, f' 30, f' 31, f' 32, f' 33, f' 34, f' 35, f' 36, f' 37, f' 38, f' 39, f' 40, f' 41, f' 42, f' 43, f' 44, f' 45, f' 46, f' 47, f' 48, f' 49, f' 50, f' 51, f' 52, f' 53, f' 54, f' 55, f' 56, f' 57, f' 58, f' 59, f' 60, f' 61, f' 62, f' 63, f' 64, f' 65, f' 66, f' 67, f' 68, f' 69, f' 70, f' 71, f' 72, f' 73, f' 74, f' 75, f' 76, f' 77, f' 78, f' 79, f' 80, f' 81, f' 82, f' 83, f' 84, f' 85, f' 86, f' 87, f' 88, f' 89, f' 90, f' 91, f' 92, f' 93, f' 94, f' 95, f' 96, f' 97, f' 98, f' 99, f' 100, f' 101, f' 102, f' 103, f' 104, f' 105, f' 106, f' 107, f' 108, f' 109, f' 110, f' 111, f' 112, f' 113, f' 114, f' 115, f' 116, f' 117, f' 118, f' 119, f' 120, f' 121, f' 122, f' 123, f' 124, f' 125, f' 126, f' 127, f' 128, f' 129, f' 130, f' 131, f' 132, f' 133, f' 134, f' 135, f' 136, f' 137, f' 138, f' 139, f' 140, f' 141, f' 142, f' 143, f' 144, f' 145, f' 146, f' 147, f' 148, f' 149, f' 150, f' 151, f' 152, f' 153, f' 154, f' 155, f' 156, f' 157, f' 158, f' 159, f' 160, f' 161, f' 162, f' 163, f' 164, f' 165, f' 166, f' 167] := ht.open fun f' => rfl
  have hi0 : ((0 : Int) ≤ ((i + 2 : Nat) : Int)) = True := eq_true (by omega)
  have hwi : IntKind.i64.wrap (((i + 2 : Nat) : Int) + 1) = ((i + 1 + 2 : Nat) : Int) := by rw [wrap_i64 (by omega) (by omega)]; omega
  have hlP := lt_of_some hbP
  by_cases hil : i < l0.length
  · have hlt' : (((i + 2 : Nat) : Int) < ((l0.length + 1 + 1 : Nat) : Int)) = True := eq_true (by omega)
    obtain ⟨q, hq⟩ : ∃ r, l0[i]? = some r := ⟨l0[i], List.getElem?_eq_getElem hil⟩
    obtain ⟨sa, he, hform⟩ := hsM.form
    simp only [List.length_map, List.length_cons] at he hform
    obtain rfl : sa0 = sa := by simpa using he
    obtain ⟨b, o, cs, rfl, rfl, hb2, hlb2, _, hrow⟩ := hform (by omega)
    have hr : (cs.drop (o + (i + 2) * 3)).take 3 = [str q.b, .int .i64 q.s, .bool q.k] := hrow (i + 2) q.row (by simp [hq])
    have hc2 : cs[o + (i + 2) * 3 + 2]? = some (.bool q.k) := row_cell hr (j := 2) (by omega)
    have hbl := lt_of_some hb2
    have hun := unm_snoc hq
    have hul : unm (l0.take i) ≤ 8 := Nat.le_trans unm_le (by rw [List.length_take]; omega)
    have hwu : IntKind.i64.wrap ((unm (l0.take i) : Int) + 1) = ((unm (l0.take i) + 1 : Nat) : Int) := by rw [wrap_i64 (by omega) (by omega)]; omega
    cases hqk : q.k with
    | true =>
      rw [hqk, if_pos rfl, Nat.add_zero] at hun
      rw [hqk] at hc2
      simp (contextual := true) (implicitDefEqProofs := false) (maxSteps := 2000000) (disch := first | rfl | exact NB rfl | omega | (simp only [XL]; omega)) only [hbP, hb2, hlt', hi0, hc2, cellB_l (k := .own) rfl, Int.toNat_natCast, XW, undef_eq, Nat.reduceAdd, Nat.reduceSub, ↓reduceIte, basic, cellsL, resOf, setAt, below, belowB, belowA, atomB, Nat.reduceLeDiff, Nat.reduceMul, Int.reduceToNat, Int.reduceLT, Int.reduceLE, Int.reduceAdd, Int.reduceNeg, Int.reduceEq, splice, Nat.reduceEqDiff, Nat.reduceLT, isAtom, Int.reduceSub, Int.reduceMul, implies_true]
      exact kInv_go ⟨i + 1, rfl, by omega, rfl, ⟨rfl, by simp [hwi, hun]; omega⟩⟩ (by omega)
    | false =>
      rw [hqk, if_neg (by decide)] at hun
      rw [hqk] at hc2
      simp (contextual := true) (implicitDefEqProofs := false) (maxSteps := 2000000) (disch := first | rfl | exact NB rfl | omega | (simp only [XL]; omega)) only [hbP, hb2, hlt', hi0, hc2, hwu, cellB_l (k := .own) rfl, Int.toNat_natCast, XW, undef_eq, Nat.reduceAdd, Nat.reduceSub, ↓reduceIte, basic, cellsL, resOf, setAt, below, belowB, belowA, atomB, Nat.reduceLeDiff, Nat.reduceMul, Int.reduceToNat, Int.reduceLT, Int.reduceLE, Int.reduceAdd, Int.reduceNeg, Int.reduceEq, splice, Nat.reduceEqDiff, Nat.reduceLT, isAtom, Int.reduceSub, Int.reduceMul, implies_true]
      exact kInv_go ⟨i + 1, rfl, by omega, rfl, ⟨rfl, by simp [hwi, hun]; omega⟩⟩ (by omega)
  have hlt' : (((i + 2 : Nat) : Int) < ((l0.length + 1 + 1 : Nat) : Int)) = False := eq_false (by omega)
  obtain rfl : i = l0.length := by omega
  rw [List.take_length]
  simp (contextual := true) (implicitDefEqProofs := false) (maxSteps := 2000000) (disch := first | rfl | exact NB rfl | omega | (simp only [XL]; omega)) only [hbP, hlt', XW, undef_eq, Nat.reduceAdd, Nat.reduceSub, ↓reduceIte, basic, cellsL, resOf, setAt, below, belowB, belowA, atomB, Nat.reduceLeDiff, Nat.reduceMul, Int.reduceToNat, Int.reduceLT, Int.reduceLE, Int.reduceAdd, Int.reduceNeg, Int.reduceEq, splice, Nat.reduceEqDiff, Nat.reduceLT, isAtom, Int.reduceSub, Int.reduceMul, implies_true]
  have hul0 : unm l0 ≤ 8 := Nat.le_trans unm_le hl80
  refine loop_inv (fun n t N => ∃ (k : Nat) (s : List UInt8) (l : List En) (sa : Option Addr) (F : List Nat), n = unm l ∧ unm l + k = unm l0 ∧ s.length = s0.length ∧ decB s = true ∧ (getP s 11 []).2 = x :: y :: l ∧ N[p]? = some ⟨[.slice sa (l.length + 1 + 1) (l.length + 1 + 1)], 28, 1, 0, .own⟩ ∧ Sl N 34 3 (.slice sa (l.length + 1 + 1) (l.length + 1 + 1)) F ((x :: y :: l).map En.row) ∧ p ∉ F ∧
    Tab 168 [(0, str s), (3, .pointer (some ⟨p, 0, none⟩)), (6, .int .i64 ((unm l0 : Nat) : Int)), (8, .int .i64 (k : Int))] t) (n := unm l0) ?_ ?_
  · exact ⟨0, s0, l0, sa0, F0, rfl, rfl, rfl, hd0, hL0, hbP, hsM, hPF0, ⟨rfl, by simp⟩⟩
  clear hbP hsM hPF0 hlP hlt' hwi hi0 ht hi hMl
  rintro N t M' ⟨k, s, l, sa, F, rfl, hk, hsl, hd, hL, hbP, hs, hPF, ht⟩
  obtain ⟨f, rfl⟩ : ∃ f' : Nat → Value, t = [str s, f' 1, f' 2, .pointer (some ⟨p, 0, none⟩), f' 4, f' 5, .int .i64 ((unm l0 : Nat) : Int), f' 7, .int .i64 (k : Int), f' 9, f' 10, f' 11, f' 12, f' 13, f' 14, f' 15, f' 16, f' 17, f' 18, f' 19, f' 20, f' 21, f' 22, f' 23, f' 24, f' 25, f' 26, f' 27, f' 28, f' 29, f' 30, f' 31, f' 32, f' 33, f' 34, f' 35, f' 36, f' 37, f' 38, f' 39, f' 40, f' 41, f' 42, f' 43, f' 44, f' 45, f' 46, f' 47, f' 48, f' 49, f' 50, f' 51, f' 52, f' 53, f' 54, f' 55, f' 56, f' 57, f' 58, f' 59, f' 60, f' 61, f' 62, f' 63, f' 64, f' 65, f' 66, f' 67, f' 68, f' 69, f' 70, f' 71, f' 72, f' 73, f' 74, f' 75, f' 76, f' 77, f' 78, f' 79, f' 80, f' 81, f' 82, f' 83, f' 84, f' 85, f' 86, f' 87, f' 88, f' 89, f' 90, f' 91, f' 92, f' 93, f' 94, f' 95, f' 96, f' 97, f' 98, f' 99, f' 100, f' 101, f' 102, f' 103, f' 104, f' 105, f' 106, f' 107, f' 108, f' 109, f' 110, f' 111, f' 112, f' 113, f' 114, f' 115, f' 116, f' 117, f' 118, f' 119, f' 120, f' 121, f' 122, f' 123, f' 124, f' 125, f' 126, f' 127, f' 128, f' 129, f' 130, f' 131, f' 132, f' 133, f' 134, f' 135, f' 136, f' 137, f' 138, f' 139, f' 140, f' 141, f' 142, f' 143, f' 144, f' 145, f' 146, f' 147, f' 148, f' 149, f' 150, f' 151, f' 152, f' 153, f' 154, f' 155, f' 156, f' 157, f' 158, f' 159, f' 160, f' 161, f' 162, f' 163, f' 164, f' 165, f' 166, f' 167] := ht.open fun f' => rfl
  obtain ⟨hg, x', y', l', hL', hl8, hls, hok, hord⟩ := dec_path hd
  rw [hL] at hL'
  obtain ⟨rfl, rfl, rfl⟩ : x = x' ∧ y = y' ∧ l = l' := by simpa using hL'
  have hlP := lt_of_some hbP
  obtain ⟨sa', he, hform⟩ := hs.form
  simp only [List.length_map, List.length_cons] at he hform
  obtain rfl : sa = sa' := by simpa using he
  obtain ⟨b, o, cs, rfl, rfl, hb2, hlb2, _, hrow⟩ := hform (by omega)
  have hbl := lt_of_some hb2
  have hr0 : (cs.drop o).take 2 = [str x.b, .int .i64 x.s] := by
    have h0 := en_row2 (hrow 0 x.row (by simp))
    rwa [Nat.zero_mul, Nat.add_zero] at h0
  have hlen0 : o + 2 ≤ cs.length := by omega
  have hlt0 : ((0 : Int) < ((l.length + 1 + 1 : Nat) : Int)) = True := eq_true (by omega)
  by_cases hun : 0 < unm l
  · have hlt' : ((k : Int) < ((unm l0 : Nat) : Int)) = True := eq_true (by omega)
    obtain ⟨j, q, hq, hqk, hx, hall⟩ := unm_some hun
    have hj : j < l.length := (List.getElem?_eq_some_iff.mp hq).1
    have hqok : rightC q.b q.s = true := hok q (by have := List.mem_of_getElem? hq; simp [this])
    have hrq : (cs.drop (o + (j + 2) * 3)).take 2 = [str q.b, .int .i64 q.s] := en_row2 (hrow (j + 2) q.row (by simp [hq]))
    have hlenq : o + (j + 2) * 3 + 2 ≤ cs.length := by omega
    have hj0 : ((0 : Int) ≤ ((j + 2 : Nat) : Int)) = True := eq_true (by omega)
    have hjl : (((j + 2 : Nat) : Int) < ((l.length + 1 + 1 : Nat) : Int)) = True := eq_true (by omega)
    have hwk : IntKind.i64.wrap ((k : Int) + 1) = ((k + 1 : Nat) : Int) := by rw [wrap_i64 (by omega) (by omega)]; omega
    simp (contextual := true) (implicitDefEqProofs := false) (maxSteps := 2000000) (disch := first | rfl | exact NB rfl | omega | (simp only [XL]; omega)) only [hbP, hlt', XW, undef_eq, Nat.reduceAdd, Nat.reduceSub, ↓reduceIte, basic, cellsL, resOf, setAt, below, belowB, belowA, atomB, Nat.reduceLeDiff, Nat.reduceMul, Int.reduceToNat, Int.reduceLT, Int.reduceLE, Int.reduceAdd, Int.reduceNeg, Int.reduceEq, splice, Nat.reduceEqDiff, Nat.reduceLT, isAtom, Int.reduceSub, Int.reduceMul, implies_true]
    refine (rnext_spec (l := l) (Sl.rd hs) (by omega) hq hqk hall).use ?_
    simp (contextual := true) (implicitDefEqProofs := false) (maxSteps := 2000000) (disch := first | rfl | exact NB rfl | omega | (simp only [XL]; omega)) only [hbP, hb2, hrq, hj0, hjl, cellsB_l (k := .own) rfl hlenq, Int.toNat_natCast, XW, undef_eq, Nat.reduceAdd, Nat.reduceSub, ↓reduceIte, basic, cellsL, resOf, setAt, below, belowB, belowA, atomB, Nat.reduceLeDiff, Nat.reduceMul, Int.reduceToNat, Int.reduceLT, Int.reduceLE, Int.reduceAdd, Int.reduceNeg, Int.reduceEq, splice, Nat.reduceEqDiff, Nat.reduceLT, isAtom, Int.reduceSub, Int.reduceMul, implies_true]
    refine (new_spec (c := q.cl) (l := []) (v := .slice none 0 0) rdn_nil (by decide) (one_okW (c := q.cl) hqok)).mono ?_
    rintro u Ma ⟨hfa, hu⟩
    rw [if_pos (made_one (c := q.cl) hqok)] at hu
    obtain ⟨di, dv, G, rfl, hdi, hsd, hdl, hG, hnd⟩ := hu
    have hbPa := hfa.get0 hbP
    have hsa := hs.frm0 hfa
    have hb2a := hfa.get0 hb2
    have hlPa := lt_of_some hbPa
    have hbla := lt_of_some hb2a
    simp (contextual := true) (implicitDefEqProofs := false) (maxSteps := 2000000) (disch := first | rfl | exact NB rfl | omega | (simp only [XL]; omega)) only [hbPa, hb2a, hr0, hlt0, cellsB_l (k := .own) rfl hlen0, XW, undef_eq, Nat.reduceAdd, Nat.reduceSub, ↓reduceIte, basic, cellsL, resOf, setAt, below, belowB, belowA, atomB, Nat.reduceLeDiff, Nat.reduceMul, Int.reduceToNat, Int.reduceLT, Int.reduceLE, Int.reduceAdd, Int.reduceNeg, Int.reduceEq, splice, Nat.reduceEqDiff, Nat.reduceLT, isAtom, Int.reduceSub, Int.reduceMul, implies_true]
    refine (for_spec x.cl s (by omega) _).use ?_
    have hfor : forB x.cl s = false := by
      have : forL x.cl (x :: y :: l) = (x.cl.same x.cl && decide (nx l = -1)) := rfl
      rw [forB, hL, this, hx, show decide (((j : Nat) : Int) = -1) = false from decide_eq_false (by omega), Bool.and_false, Bool.and_false]
    rw [hfor]
    simp (contextual := true) (implicitDefEqProofs := false) (maxSteps := 2000000) (disch := first | rfl | exact NB rfl | omega | (simp only [XL]; omega)) only [XW, undef_eq, Nat.reduceAdd, Nat.reduceSub, ↓reduceIte, basic, cellsL, resOf, setAt, below, belowB, belowA, atomB, Nat.reduceLeDiff, Nat.reduceMul, Int.reduceToNat, Int.reduceLT, Int.reduceLE, Int.reduceAdd, Int.reduceNeg, Int.reduceEq, splice, Nat.reduceEqDiff, Nat.reduceLT, isAtom, Int.reduceSub, Int.reduceMul, implies_true]
    refine (on_spec (cs := [q.cl]) (x := 0) (y := 0) (z := 0) hdi (Sl.rd hsd) (by simp) (by omega) (by decide)).mono ?_
    rintro u Mb ⟨hfb, rfl, _⟩
    rw [on_one hd hL hx hq]
    have SF := sent_facts hd hL hq hqk hall
    generalize putE (x :: y :: sentL l j q) ++ s.drop (7 * (l.length + 2)) = T at SF ⊢
    have hpdi : p ∉ [di] := by simp; omega
    have hbPb := hfb.get hbPa hpdi
    have hlPb := lt_of_some hbPb
    have hTl := SF.len
    simp (contextual := true) (implicitDefEqProofs := false) (maxSteps := 2000000) (disch := first | rfl | exact NB rfl | omega | (simp only [XL]; omega)) only [bin_ladd, str_cut, str_app, str_eq, string_mk_size, string_mk, hTl, XW, undef_eq, Nat.reduceAdd, Nat.reduceSub, ↓reduceIte, basic, cellsL, resOf, setAt, below, belowB, belowA, atomB, Nat.reduceLeDiff, Nat.reduceMul, Int.reduceToNat, Int.reduceLT, Int.reduceLE, Int.reduceAdd, Int.reduceNeg, Int.reduceEq, splice, Nat.reduceEqDiff, Nat.reduceLT, isAtom, Int.reduceSub, Int.reduceMul, implies_true]
    refine (decodes_spec T (by omega) _).use ?_
    rw [SF.dec]
    simp (contextual := true) (implicitDefEqProofs := false) (maxSteps := 2000000) (disch := first | rfl | exact NB rfl | omega | (simp only [XL]; omega)) only [bin_ladd, str_cut, str_app, str_eq, string_mk_size, string_mk, XW, undef_eq, Nat.reduceAdd, Nat.reduceSub, ↓reduceIte, basic, cellsL, resOf, setAt, below, belowB, belowA, atomB, Nat.reduceLeDiff, Nat.reduceMul, Int.reduceToNat, Int.reduceLT, Int.reduceLE, Int.reduceAdd, Int.reduceNeg, Int.reduceEq, splice, Nat.reduceEqDiff, Nat.reduceLT, isAtom, Int.reduceSub, Int.reduceMul, implies_true]
    obtain ⟨u, v, hu, hv, hu1, hv1⟩ := SF.at_
    have hpB : 7 * (j + 2) + 6 < s.length := (List.getElem?_eq_some_iff.mp hu).1
    refine loop_inv (fun n t N' => ∃ (i : Nat), n = s.length - i ∧ i ≤ s.length ∧ N' = Mb ∧
      Tab 168 [(0, str s), (3, .pointer (some ⟨p, 0, none⟩)), (6, .int .i64 ((unm l0 : Nat) : Int)), (8, .int .i64 (k : Int)), (12, str T), (14, .int .i64 (if 7 * (j + 2) + 6 < i then 1 else 0)), (102, .int .i64 (s.length : Int)), (103, .int .i64 (i : Int))] t) (n := s.length) ?_ ?_
    · exact ⟨0, rfl, Nat.zero_le _, rfl, ⟨rfl, by simp⟩⟩
    rintro nn t N' ⟨i, rfl, hi, rfl, ht⟩
    obtain ⟨f, rfl⟩ : ∃ f' : Nat → Value, t = [str s, f' 1, f' 2, .pointer (some ⟨p, 0, none⟩), f' 4, f' 5, .int .i64 ((unm l0 : Nat) : Int), f' 7, .int .i64 (k : Int), f' 9, f' 10, f' 11, str T, f' 13, .int .i64 (if 7 * (j + 2) + 6 < i then 1 else 0), f' 15, f' 16, f' 17, f' 18, f' 19, f' 20, f' 21, f' 22, f' 23, f' 24, f' 25, f' 26, f' 27, f' 28, f' 29, f' 30, f' 31, f' 32, f' 33, f' 34, f' 35, f' 36, f' 37, f' 38, f' 39, f' 40, f' 41, f' 42, f' 43, f' 44, f' 45, f' 46, f' 47, f' 48, f' 49, f' 50, f' 51, f' 52, f' 53, f' 54, f' 55, f' 56, f' 57, f' 58, f' 59, f' 60, f' 61, f' 62, f' 63, f' 64, f' 65, f' 66, f' 67, f' 68, f' 69, f' 70, f' 71, f' 72, f' 73, f' 74, f' 75, f' 76, f' 77, f' 78, f' 79, f' 80, f' 81, f' 82, f' 83, f' 84, f' 85, f' 86, f' 87, f' 88, f' 89, f' 90, f' 91, f' 92, f' 93, f' 94, f' 95, f' 96, f' 97, f' 98, f' 99, f' 100, f' 101, .int .i64 (s.length : Int), .int .i64 (i : Int), f' 104, f' 105, f' 106, f' 107, f' 108, f' 109, f' 110, f' 111, f' 112, f' 113, f' 114, f' 115, f' 116, f' 117, f' 118, f' 119, f' 120, f' 121, f' 122, f' 123, f' 124, f' 125, f' 126, f' 127, f' 128, f' 129, f' 130, f' 131, f' 132, f' 133, f' 134, f' 135, f' 136, f' 137, f' 138, f' 139, f' 140, f' 141, f' 142, f' 143, f' 144, f' 145, f' 146, f' 147, f' 148, f' 149, f' 150, f' 151, f' 152, f' 153, f' 154, f' 155, f' 156, f' 157, f' 158, f' 159, f' 160, f' 161, f' 162, f' 163, f' 164, f' 165, f' 166, f' 167] := ht.open fun f' => rfl
    have h0' : ((0 : Int) ≤ (i : Int)) = True := by simp
    by_cases hlt : i < s.length
    · have hlt1 : ((i : Int) < (s.length : Int)) = True := by simp [hlt]
      have hwi : IntKind.i64.wrap ((i : Int) + 1) = ((i + 1 : Nat) : Int) := by rw [wrap_i64 (by omega) (by omega)]; omega
      by_cases hip : 7 * (j + 2) + 6 = i
      · subst hip
        have hcnt : (if 7 * (j + 2) + 6 < 7 * (j + 2) + 6 then (1 : Int) else 0) = 0 := if_neg (by omega)
        have hcnt1 : (if 7 * (j + 2) + 6 < 7 * (j + 2) + 6 + 1 then (1 : Int) else 0) = 1 := if_pos (by omega)
        have hne : ((u.toNat : Int) = (v.toNat : Int)) = False := eq_false (by omega)
        simp (contextual := true) (implicitDefEqProofs := false) (maxSteps := 2000000) (disch := first | rfl | exact NB rfl | omega | (simp only [XL]; omega)) only [hcnt, hlt1, h0', hTl, bin_ladd, str_cut, str_app, str_eq, string_mk_size, string_mk, hu, hv, hne, xor128 hu1 hv1, Int.toNat_natCast, XX, XA, bin_add, bin_sub, bin_mul, bin_quo, bin_rem, bin_and, bin_or, bin_andNot, bin_eql, bin_neq, bin_lss, bin_leq, bin_gtr, bin_geq, bin_shl, bin_shr, bin_sadd, bin_seql, bin_sneq, lc_block, lc_cond, XZ, undef_eq, Nat.reduceAdd, Nat.reduceSub, ↓reduceIte, basic, cellsL, resOf, setAt, below, belowB, belowA, atomB, Nat.reduceLeDiff, Nat.reduceMul, Int.reduceToNat, Int.reduceLT, Int.reduceLE, Int.reduceAdd, Int.reduceNeg, Int.reduceEq, splice, Nat.reduceEqDiff, Nat.reduceLT, isAtom, Int.reduceSub, Int.reduceMul, implies_true]
        exact kInv_go ⟨7 * (j + 2) + 6 + 1, rfl, by omega, rfl, ⟨rfl, by simp [hwi, hcnt1]⟩⟩ (by omega)
      · obtain ⟨c, hc⟩ : ∃ r, s[i]? = some r := ⟨s[i], List.getElem?_eq_getElem hlt⟩
        have hc' : T[i]? = some c := by rw [SF.other i hip]; exact hc
        have hcnt1 : (if 7 * (j + 2) + 6 < i + 1 then (1 : Int) else 0) = (if 7 * (j + 2) + 6 < i then (1 : Int) else 0) := by
          by_cases h2 : 7 * (j + 2) + 6 < i
          · rw [if_pos h2, if_pos (by omega)]
          · rw [if_neg h2, if_neg (by omega)]
        simp (contextual := true) (implicitDefEqProofs := false) (maxSteps := 2000000) (disch := first | rfl | exact NB rfl | omega | (simp only [XL]; omega)) only [hlt1, h0', hTl, bin_ladd, str_cut, str_app, str_eq, string_mk_size, string_mk, hc, hc', Int.toNat_natCast, XX, XA, bin_add, bin_sub, bin_mul, bin_quo, bin_rem, bin_and, bin_or, bin_andNot, bin_eql, bin_neq, bin_lss, bin_leq, bin_gtr, bin_geq, bin_shl, bin_shr, bin_sadd, bin_seql, bin_sneq, lc_block, lc_cond, XZ, undef_eq, Nat.reduceAdd, Nat.reduceSub, ↓reduceIte, basic, cellsL, resOf, setAt, below, belowB, belowA, atomB, Nat.reduceLeDiff, Nat.reduceMul, Int.reduceToNat, Int.reduceLT, Int.reduceLE, Int.reduceAdd, Int.reduceNeg, Int.reduceEq, splice, Nat.reduceEqDiff, Nat.reduceLT, isAtom, Int.reduceSub, Int.reduceMul, implies_true]
        exact kInv_go ⟨i + 1, rfl, by omega, rfl, ⟨rfl, by simp [hwi, hcnt1]⟩⟩ (by omega)
    have hlt1 : ((i : Int) < (s.length : Int)) = False := by simp; omega
    have hcnt : (if 7 * (j + 2) + 6 < i then (1 : Int) else 0) = 1 := if_pos (by omega)
    simp (contextual := true) (implicitDefEqProofs := false) (maxSteps := 2000000) (disch := first | rfl | exact NB rfl | omega | (simp only [XL]; omega)) only [hlt1, hcnt, XW, undef_eq, Nat.reduceAdd, Nat.reduceSub, ↓reduceIte, basic, cellsL, resOf, setAt, below, belowB, belowA, atomB, Nat.reduceLeDiff, Nat.reduceMul, Int.reduceToNat, Int.reduceLT, Int.reduceLE, Int.reduceAdd, Int.reduceNeg, Int.reduceEq, splice, Nat.reduceEqDiff, Nat.reduceLT, isAtom, Int.reduceSub, Int.reduceMul, implies_true]
    refine (rgetP_spec T (by omega) _).mono ?_
    rintro u Mc ⟨hfc, hu⟩
    rw [if_pos SF.get.1, SF.get.2] at hu
    obtain ⟨sv2, F2, rfl, hs2, hF2⟩ := hu
    obtain ⟨sa2, rfl, _⟩ := hs2.form
    simp only [List.length_map, List.length_cons] at hs2
    simp only [List.length_map, List.length_cons]
    have hbPc := hfc.get0 hbPb
    have hlPc := lt_of_some hbPc
    have hpF2 : p ∉ F2 := fun hx => by have := hF2 _ hx; omega
    have hus := unm_sent hq hqk
    simp (contextual := true) (implicitDefEqProofs := false) (maxSteps := 2000000) (disch := first | rfl | exact NB rfl | omega | (simp only [XL]; omega)) only [hbPc, XW, undef_eq, Nat.reduceAdd, Nat.reduceSub, ↓reduceIte, basic, cellsL, resOf, setAt, below, belowB, belowA, atomB, Nat.reduceLeDiff, Nat.reduceMul, Int.reduceToNat, Int.reduceLT, Int.reduceLE, Int.reduceAdd, Int.reduceNeg, Int.reduceEq, splice, Nat.reduceEqDiff, Nat.reduceLT, isAtom, Int.reduceSub, Int.reduceMul, implies_true]
    exact kInv_go ⟨k + 1, T, sentL l j q, sa2, F2, rfl, by omega, by omega, SF.dec, SF.get.2, by rw [List.getElem?_set_self hlPc], hs2.setb hpF2, hpF2, ⟨rfl, by simp [hwk]⟩⟩ (by omega)
  have hun0 : unm l = 0 := by omega
  have hlt' : ((k : Int) < ((unm l0 : Nat) : Int)) = False := eq_false (by omega)
  have hx := nx_none (unm_zero hun0)
  simp (contextual := true) (implicitDefEqProofs := false) (maxSteps := 2000000) (disch := first | rfl | exact NB rfl | omega | (simp only [XL]; omega)) only [hbP, hlt', XW, undef_eq, Nat.reduceAdd, Nat.reduceSub, ↓reduceIte, basic, cellsL, resOf, setAt, below, belowB, belowA, atomB, Nat.reduceLeDiff, Nat.reduceMul, Int.reduceToNat, Int.reduceLT, Int.reduceLE, Int.reduceAdd, Int.reduceNeg, Int.reduceEq, splice, Nat.reduceEqDiff, Nat.reduceLT, isAtom, Int.reduceSub, Int.reduceMul, implies_true]
  have hll : (x :: y :: l).length = l.length + 1 + 1 := rfl
  obtain ⟨L, hLL⟩ : ∃ L, x :: y :: l = L := ⟨_, rfl⟩
  refine loop_inv (fun n t N => ∃ (i : Nat), n = l.length + 1 + 1 - i ∧ i ≤ l.length + 1 + 1 ∧ Frm [] M' N ∧
    Tab 168 [(0, str s), (3, .pointer (some ⟨p, 0, none⟩)), (135, .int .i64 ((l.length + 1 + 1 : Nat) : Int)), (136, .int .i64 (i : Int))] t) (n := l.length + 1 + 1) ?_ ?_
  · exact ⟨0, rfl, Nat.zero_le _, Frm.refl, ⟨rfl, by simp⟩⟩
  rintro nn t N' ⟨i, rfl, hi, hfN, ht⟩
  obtain ⟨f, rfl⟩ : ∃ f' : Nat → Value, t = [str s, f' 1, f' 2, .pointer (some ⟨p, 0, none⟩), f' 4, f' 5, f' 6, f' 7, f' 8, f' 9, f' 10, f' 11, f' 12, f' 13, f' 14, f' 15, f' 16, f' 17, f' 18, f' 19, f' 20, f' 21, f' 22, f' 23, f' 24, f' 25, f' 26, f' 27, f' 28, f' 29, f' 30, f' 31, f' 32, f' 33, f' 34, f' 35, f' 36, f' 37, f' 38, f' 39, f' 40, f' 41, f' 42, f' 43, f' 44, f' 45, f' 46, f' 47, f' 48, f' 49, f' 50, f' 51, f' 52, f' 53, f' 54, f' 55, f' 56, f' 57, f' 58, f' 59, f' 60, f' 61, f' 62, f' 63, f' 64, f' 65, f' 66, f' 67, f' 68, f' 69, f' 70, f' 71, f' 72, f' 73, f' 74, f' 75, f' 76, f' 77, f' 78, f' 79, f' 80, f' 81, f' 82, f' 83, f' 84, f' 85, f' 86, f' 87, f' 88, f' 89, f' 90, f' 91, f' 92, f' 93, f' 94, f' 95, f' 96, f' 97, f' 98, f' 99, f' 100, f' 101, f' 102, f' 103, f' 104, f' 105, f' 106, f' 107, f' 108, f' 109, f' 110, f' 111, f' 112, f' 113, f' 114, f' 115, f' 116, f' 117, f' 118, f' 119, f' 120, f' 121, f' 122, f' 123, f' 124, f' 125, f' 126, f' 127, f' 128, f' 129, f' 130, f' 131, f' 132, f' 133, f' 134, .int .i64 ((l.length + 1 + 1 : Nat) : Int), .int .i64 (i : Int), f' 137, f' 138, f' 139, f' 140, f' 141, f' 142, f' 143, f' 144, f' 145, f' 146, f' 147, f' 148, f' 149, f' 150, f' 151, f' 152, f' 153, f' 154, f' 155, f' 156, f' 157, f' 158, f' 159, f' 160, f' 161, f' 162, f' 163, f' 164, f' 165, f' 166, f' 167] := ht.open fun f' => rfl
  have h0' : ((0 : Int) ≤ (i : Int)) = True := by simp
  have hbPN := hfN.get0 hbP
  have hlPN := lt_of_some hbPN
  have hb2N := hfN.get0 hb2
  have hblN := lt_of_some hb2N
  by_cases hlt : i < l.length + 1 + 1
  · have hlt1 : ((i : Int) < ((l.length + 1 + 1 : Nat) : Int)) = True := eq_true (by omega)
    have hwi : IntKind.i64.wrap ((i : Int) + 1) = ((i + 1 : Nat) : Int) := by rw [wrap_i64 (by omega) (by omega)]; omega
    obtain ⟨q, hq⟩ : ∃ r, (x :: y :: l)[i]? = some r := ⟨(x :: y :: l)[i]'(by simpa using hlt), List.getElem?_eq_getElem _⟩
    have hqok : rightC q.b q.s = true := hok q (List.mem_of_getElem? hq)
    have hrq : (cs.drop (o + i * 3)).take 2 = [str q.b, .int .i64 q.s] := en_row2 (hrow i q.row (by rw [List.getElem?_map, hq]; rfl))
    have hlenq : o + i * 3 + 2 ≤ cs.length := by omega
    simp (contextual := true) (implicitDefEqProofs := false) (maxSteps := 2000000) (disch := first | rfl | exact NB rfl | omega | (simp only [XL]; omega)) only [hbPN, hb2N, hlt1, h0', hrq, cellsB_l (k := .own) rfl hlenq, Int.toNat_natCast, XW, undef_eq, Nat.reduceAdd, Nat.reduceSub, ↓reduceIte, basic, cellsL, resOf, setAt, below, belowB, belowA, atomB, Nat.reduceLeDiff, Nat.reduceMul, Int.reduceToNat, Int.reduceLT, Int.reduceLE, Int.reduceAdd, Int.reduceNeg, Int.reduceEq, splice, Nat.reduceEqDiff, Nat.reduceLT, isAtom, Int.reduceSub, Int.reduceMul, implies_true]
    refine (new_spec (c := q.cl) (l := []) (v := .slice none 0 0) rdn_nil (by decide) (one_okW (c := q.cl) hqok)).mono ?_
    rintro u Ma ⟨hfa, hu⟩
    rw [if_pos (made_one (c := q.cl) hqok)] at hu
    obtain ⟨di, dv, G, rfl, hdi, hsd, hdl, hG, hnd⟩ := hu
    simp (contextual := true) (implicitDefEqProofs := false) (maxSteps := 2000000) (disch := first | rfl | exact NB rfl | omega | (simp only [XL]; omega)) only [XW, undef_eq, Nat.reduceAdd, Nat.reduceSub, ↓reduceIte, basic, cellsL, resOf, setAt, below, belowB, belowA, atomB, Nat.reduceLeDiff, Nat.reduceMul, Int.reduceToNat, Int.reduceLT, Int.reduceLE, Int.reduceAdd, Int.reduceNeg, Int.reduceEq, splice, Nat.reduceEqDiff, Nat.reduceLT, isAtom, Int.reduceSub, Int.reduceMul, implies_true]
    refine (on_spec (cs := [q.cl]) (x := 0) (y := 0) (z := 0) hdi (Sl.rd hsd) (by simp) (by omega) (by decide)).mono ?_
    rintro u Mb ⟨hfb, rfl, _⟩
    rw [on_none hd hL hx]
    have hNM := hfN.len
    simp (contextual := true) (implicitDefEqProofs := false) (maxSteps := 2000000) (disch := first | rfl | exact NB rfl | omega | (simp only [XL]; omega)) only [XW, undef_eq, Nat.reduceAdd, Nat.reduceSub, ↓reduceIte, basic, cellsL, resOf, setAt, below, belowB, belowA, atomB, Nat.reduceLeDiff, Nat.reduceMul, Int.reduceToNat, Int.reduceLT, Int.reduceLE, Int.reduceAdd, Int.reduceNeg, Int.reduceEq, splice, Nat.reduceEqDiff, Nat.reduceLT, isAtom, Int.reduceSub, Int.reduceMul, implies_true]
    exact kInv_go ⟨i + 1, rfl, by omega, (hfN.nil_trans hfa).trans hfb fun z hz => .inr (by simp at hz; omega), ⟨rfl, by simp [hwi]⟩⟩ (by omega)
  have hlt1 : ((i : Int) < ((l.length + 1 + 1 : Nat) : Int)) = False := eq_false (by omega)
  simp (contextual := true) (implicitDefEqProofs := false) (maxSteps := 2000000) (disch := first | rfl | exact NB rfl | omega | (simp only [XL]; omega)) only [hbPN, hb2N, hlt1, hlt0, hr0, cellsB_l (k := .own) rfl hlen0, XW, undef_eq, Nat.reduceAdd, Nat.reduceSub, ↓reduceIte, basic, cellsL, resOf, setAt, below, belowB, belowA, atomB, Nat.reduceLeDiff, Nat.reduceMul, Int.reduceToNat, Int.reduceLT, Int.reduceLE, Int.reduceAdd, Int.reduceNeg, Int.reduceEq, splice, Nat.reduceEqDiff, Nat.reduceLT, isAtom, Int.reduceSub, Int.reduceMul, implies_true]
  refine (for_spec x.cl s (by omega) _).use ?_
  have hfor : forB x.cl s = true := by
    have : forL x.cl (x :: y :: l) = (x.cl.same x.cl && decide (nx l = -1)) := rfl
    rw [forB, hL, this, hx, hd, Cl.same_iff.2 rfl]; rfl
  rw [hfor]
  simp (contextual := true) (implicitDefEqProofs := false) (maxSteps := 2000000) (disch := first | rfl | exact NB rfl | omega | (simp only [XL]; omega)) only [XW, undef_eq, Nat.reduceAdd, Nat.reduceSub, ↓reduceIte, basic, cellsL, resOf, setAt, below, belowB, belowA, atomB, Nat.reduceLeDiff, Nat.reduceMul, Int.reduceToNat, Int.reduceLT, Int.reduceLE, Int.reduceAdd, Int.reduceNeg, Int.reduceEq, splice, Nat.reduceEqDiff, Nat.reduceLT, isAtom, Int.reduceSub, Int.reduceMul, implies_true]
theorem digionce_all (m : Mem) (vs : List Value) (h : F2 (TyV Tryd.prog m 6) [9] vs) : LCall Tryd.prog 3 vs m fun v _ => v = .bool true := by
  obtain ⟨u, rfl, h1⟩ := h.one_inv
  obtain ⟨t, rfl, _⟩ := h1.string Tryd.underlying9
  obtain ⟨s, rfl⟩ := str_is t
  exact once_law s m
end Go.Proofs.YtadkdihbbngbfaaDoor
