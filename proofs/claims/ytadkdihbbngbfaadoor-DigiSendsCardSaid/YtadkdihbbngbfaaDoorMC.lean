/- The next digipeater; what it sends on: walked. -/
import Derived.Test.YtadkdihbbngbfaaDoorMB
set_option linter.unusedSimpArgs false
set_option linter.unnecessarySimpa false
set_option linter.unusedVariables false
namespace Go.Proofs.YtadkdihbbngbfaaDoor
open Go.Lg
set_option maxRecDepth 8000
set_option maxHeartbeats 8000000
theorem nohas_spec (e : En) (m : Mem) : Ret Tryd.prog 69 [.agg #[str e.b, .int .i64 e.s, .bool e.k]] m (.bool (!e.k)) m := by
  refine LCall_drop (LCall_enter Tryd.func69 c69 ?_)
  simp (contextual := true) (implicitDefEqProofs := false) (maxSteps := 2000000) (disch := first | rfl | exact NB rfl | omega | (simp only [XL]; omega)) only [L69, XW, undef_eq, Nat.reduceAdd, Nat.reduceSub, ↓reduceIte, basic, cellsL, resOf, setAt, below, belowB, belowA, atomB, Nat.reduceLeDiff, Nat.reduceMul, Int.reduceToNat, Int.reduceLT, Int.reduceLE, Int.reduceAdd, Int.reduceNeg, Int.reduceEq, splice, Nat.reduceEqDiff, Nat.reduceLT, isAtom, Int.reduceSub, Int.reduceMul, implies_true]
theorem next_spec {tb : List UInt8} {ts : Int} {fb : List UInt8} {fs : Int} {tm fm : Bool} {dv : Value} {l : List En} {m : Mem} (h : Rd m 3 dv (l.map En.row)) (hn : l.length ≤ 1000000) : Ret Tryd.prog 49 [pathV tb ts fb fs tm fm dv] m (.int .i64 (nx l)) m := by
  have h0 := h
  obtain ⟨a, rfl, _⟩ := h
  refine LCall_drop (LCall_enter Tryd.func49 c49 ?_)
  simp (contextual := true) (implicitDefEqProofs := false) (maxSteps := 2000000) (disch := first | rfl | exact NB rfl | omega | (simp only [XL]; omega)) only [L49, XW, undef_eq, Nat.reduceAdd, Nat.reduceSub, ↓reduceIte, basic, cellsL, resOf, setAt, below, belowB, belowA, atomB, Nat.reduceLeDiff, Nat.reduceMul, Int.reduceToNat, Int.reduceLT, Int.reduceLE, Int.reduceAdd, Int.reduceNeg, Int.reduceEq, splice, Nat.reduceEqDiff, Nat.reduceLT, isAtom, Int.reduceSub, Int.reduceMul, implies_true]
  refine (index_spec (p := fun e => !e.k) (by kernel_rfl) (fun e _ m => nohas_spec e m) h0.app hn).use ?_
  simp (contextual := true) (implicitDefEqProofs := false) (maxSteps := 2000000) (disch := first | rfl | exact NB rfl | omega | (simp only [XL]; omega)) only [nx, XW, undef_eq, Nat.reduceAdd, Nat.reduceSub, ↓reduceIte, basic, cellsL, resOf, setAt, below, belowB, belowA, atomB, Nat.reduceLeDiff, Nat.reduceMul, Int.reduceToNat, Int.reduceLT, Int.reduceLE, Int.reduceAdd, Int.reduceNeg, Int.reduceEq, splice, Nat.reduceEqDiff, Nat.reduceLT, isAtom, Int.reduceSub, Int.reduceMul, implies_true]
theorem pnone_spec {tb : List UInt8} {ts : Int} {fb : List UInt8} {fs : Int} {tm fm : Bool} {dv : Value} {l : List En} {m : Mem} (h : Rd m 3 dv (l.map En.row)) (hn : l.length ≤ 1000000) (hx : nx l = -1) : Ret Tryd.prog 27 [pathV tb ts fb fs tm fm dv] m (.tuple #[.agg #[str [], .int .i64 0], .bool false]) m := by
  have h0 := h
  obtain ⟨a, rfl, _⟩ := h
  refine LCall_drop (LCall_enter Tryd.func27 c27 ?_)
  simp (contextual := true) (implicitDefEqProofs := false) (maxSteps := 2000000) (disch := first | rfl | exact NB rfl | omega | (simp only [XL]; omega)) only [L27, XW, undef_eq, Nat.reduceAdd, Nat.reduceSub, ↓reduceIte, basic, cellsL, resOf, setAt, below, belowB, belowA, atomB, Nat.reduceLeDiff, Nat.reduceMul, Int.reduceToNat, Int.reduceLT, Int.reduceLE, Int.reduceAdd, Int.reduceNeg, Int.reduceEq, splice, Nat.reduceEqDiff, Nat.reduceLT, isAtom, Int.reduceSub, Int.reduceMul, implies_true]
  refine (next_spec h0.app hn).use ?_
  rw [hx]
  simp (contextual := true) (implicitDefEqProofs := false) (maxSteps := 2000000) (disch := first | rfl | exact NB rfl | omega | (simp only [XL]; omega)) only [XW, undef_eq, Nat.reduceAdd, Nat.reduceSub, ↓reduceIte, basic, cellsL, resOf, setAt, below, belowB, belowA, atomB, Nat.reduceLeDiff, Nat.reduceMul, Int.reduceToNat, Int.reduceLT, Int.reduceLE, Int.reduceAdd, Int.reduceNeg, Int.reduceEq, splice, Nat.reduceEqDiff, Nat.reduceLT, isAtom, Int.reduceSub, Int.reduceMul, implies_true]
theorem psome_spec {tb : List UInt8} {ts : Int} {fb : List UInt8} {fs : Int} {tm fm : Bool} {dv : Value} {l : List En} {j : Nat} {e : En} {m : Mem} (h : Rd m 3 dv (l.map En.row)) (hn : l.length ≤ 1000000) (hx : nx l = (j : Int)) (he : l[j]? = some e) : Ret Tryd.prog 27 [pathV tb ts fb fs tm fm dv] m (.tuple #[.agg #[str e.b, .int .i64 e.s], .bool true]) m := by
  have h0 := h
  obtain ⟨a, rfl, hform⟩ := h
  have hj : j < l.length := (List.getElem?_eq_some_iff.mp he).1
  simp only [List.length_map] at hform
  obtain ⟨b, o, cs, T, fz, kd, rfl, hb, hk, hl, hrow⟩ := hform (by omega)
  have hr : (cs.drop (o + j * 3)).take 2 = [str e.b, .int .i64 e.s] := by
    have := congrArg (List.take 2) (hrow j e.row (by simp [he]))
    rwa [List.take_take] at this
  have hlen : o + j * 3 + 2 ≤ cs.length := by omega
  have hbl := lt_of_some hb
  have hneg : ((j : Int) < 0) = False := eq_false (by omega)
  have hlt : ((j : Int) < (l.length : Int)) = True := eq_true (by omega)
  refine LCall_drop (LCall_enter Tryd.func27 c27 ?_)
  simp (contextual := true) (implicitDefEqProofs := false) (maxSteps := 2000000) (disch := first | rfl | exact NB rfl | omega | (simp only [XL]; omega)) only [L27, XW, undef_eq, Nat.reduceAdd, Nat.reduceSub, ↓reduceIte, basic, cellsL, resOf, setAt, below, belowB, belowA, atomB, Nat.reduceLeDiff, Nat.reduceMul, Int.reduceToNat, Int.reduceLT, Int.reduceLE, Int.reduceAdd, Int.reduceNeg, Int.reduceEq, splice, Nat.reduceEqDiff, Nat.reduceLT, isAtom, Int.reduceSub, Int.reduceMul, implies_true]
  refine (next_spec h0.app hn).use ?_
  rw [hx]
  have h0' : ((0 : Int) ≤ (j : Int)) = True := eq_true (by omega)
  simp (contextual := true) (implicitDefEqProofs := false) (maxSteps := 2000000) (disch := first | rfl | exact NB rfl | omega | (simp only [XL]; omega)) only [hneg, hlt, h0', hb, hr, cellsB_l hk hlen, Int.toNat_natCast, List.length_map, XW, undef_eq, Nat.reduceAdd, Nat.reduceSub, ↓reduceIte, basic, cellsL, resOf, setAt, below, belowB, belowA, atomB, Nat.reduceLeDiff, Nat.reduceMul, Int.reduceToNat, Int.reduceLT, Int.reduceLE, Int.reduceAdd, Int.reduceNeg, Int.reduceEq, splice, Nat.reduceEqDiff, Nat.reduceLT, isAtom, Int.reduceSub, Int.reduceMul, implies_true]
theorem clone_spec {dv : Value} {l : List En} {m : Mem} (h : RdN m 3 dv (l.map En.row)) (hn : l.length ≤ 1000000) (h0 : 0 < l.length) : LCall Tryd.prog 50 [dv] m fun v M => Frm [] m M ∧ ∃ F, Sl M 89 3 v F (l.map En.row) ∧ ∀ z ∈ F, m.length ≤ z := by
  have hh := h
  obtain ⟨a, rfl, hform⟩ := h.1
  simp only [List.length_map] at hform
  obtain ⟨b, o, cs, T, fz, kd, rfl, hb, hk, hl, hrow⟩ := hform h0
  refine LCall_enter Tryd.func50 c50 ?_
  simp (contextual := true) (implicitDefEqProofs := false) (maxSteps := 2000000) (disch := first | rfl | exact NB rfl | omega | (simp only [XL]; omega)) only [L50, XX, XB, lc_block, lc_cond, XZ, undef_eq, Nat.reduceAdd, Nat.reduceSub, ↓reduceIte, basic, cellsL, resOf, setAt, below, belowB, belowA, atomB, Nat.reduceLeDiff, Nat.reduceMul, Int.reduceToNat, Int.reduceLT, Int.reduceLE, Int.reduceAdd, Int.reduceNeg, Int.reduceEq, splice, Nat.reduceEqDiff, Nat.reduceLT, isAtom, Int.reduceSub, Int.reduceMul, implies_true]
  obtain ⟨N, hN, hNl, hfN, hb0⟩ : ∃ N, m ++ [⟨[], 89, 3, 0, .own⟩] = N ∧ N.length = m.length + 1 ∧ Frm [] m N ∧ N[m.length]? = some ⟨[], 89, 3, 0, .own⟩ := ⟨_, rfl, by simp, Frm.refl.app, by simp⟩
  rw [hN]
  have hn0 := h.2 N hfN
  rw [new_sl] at hn0
  rw [hn0]
  have hs0 : Sl N 89 3 (.slice (some ⟨m.length, 0, none⟩) 0 0) [m.length] [] := Sl.own (T := 89) (sz := 3) (rows := []) hb0 (by simp) (by simp) (by simp)
  refine app_any hs0 (new := l.map En.row) (by simp) (fun r hr => ?_) rfl (by simp; omega) ?_
  · obtain ⟨e, _, rfl⟩ := List.mem_map.mp hr; rfl
  intro v M G hM hf hs hG
  obtain ⟨va, rfl, _⟩ := hs.form
  simp (contextual := true) (implicitDefEqProofs := false) (maxSteps := 2000000) (disch := first | rfl | exact NB rfl | omega | (simp only [XL]; omega)) only [XW, undef_eq, Nat.reduceAdd, Nat.reduceSub, ↓reduceIte, basic, cellsL, resOf, setAt, below, belowB, belowA, atomB, Nat.reduceLeDiff, Nat.reduceMul, Int.reduceToNat, Int.reduceLT, Int.reduceLE, Int.reduceAdd, Int.reduceNeg, Int.reduceEq, splice, Nat.reduceEqDiff, Nat.reduceLT, isAtom, Int.reduceSub, Int.reduceMul, implies_true]
  refine ⟨hfN.trans hf fun x hx => .inr (by simp at hx; omega), G, by simpa using hs, fun x hx => ?_⟩
  rcases hG x hx with h1 | h1
  · simp at h1; omega
  · omega
theorem set_row {cs : List Value} {k : Nat} {A B C D : Value} (h : (cs.drop k).take 3 = [A, B, C]) : cs.set (k + 2) D = setAt cs k [A, B, D] := by
  have h0 : cs[k]? = some A := by have := row_cell h (j := 0) (by omega); simpa using this
  have h1 : cs[k + 1]? = some B := by have := row_cell h (j := 1) (by omega); simpa using this
  obtain ⟨l0, e0⟩ := List.getElem?_eq_some_iff.mp h0
  obtain ⟨l1, e1⟩ := List.getElem?_eq_some_iff.mp h1
  have s0 : cs.set k A = cs := by rw [← e0, List.set_getElem_self]
  have s1 : cs.set (k + 1) B = cs := by rw [← e1, List.set_getElem_self]
  show _ = ((cs.set k A).set (k + 1) B).set (k + 1 + 1) D
  rw [s0, s1]
theorem sent_spec {tb : List UInt8} {ts : Int} {fb : List UInt8} {fs : Int} {tm fm : Bool} {dv : Value} {l : List En} {j : Nat} {e : En} {m : Mem} (h : RdN m 3 dv (l.map En.row)) (hn : l.length ≤ 1000000) (hx : nx l = (j : Int)) (he : l[j]? = some e) :
    LCall Tryd.prog 28 [pathV tb ts fb fs tm fm dv] m fun v M => Frm [] m M ∧ ∃ sv F, v = .tuple #[pathV tb ts fb fs tm fm sv, .bool true] ∧ Sl M 89 3 sv F ((sentL l j e).map En.row) ∧ ∀ z ∈ F, m.length ≤ z := by
  have h0 := h
  obtain ⟨a, rfl, _⟩ := h.1
  have hj : j < l.length := (List.getElem?_eq_some_iff.mp he).1
  have hneg : ((j : Int) < 0) = False := eq_false (by omega)
  have hlt : ((j : Int) < (l.length : Int)) = True := eq_true (by omega)
  refine LCall_enter Tryd.func28 c28 ?_
  simp (contextual := true) (implicitDefEqProofs := false) (maxSteps := 2000000) (disch := first | rfl | exact NB rfl | omega | (simp only [XL]; omega)) only [L28, XW, undef_eq, Nat.reduceAdd, Nat.reduceSub, ↓reduceIte, basic, cellsL, resOf, setAt, below, belowB, belowA, atomB, Nat.reduceLeDiff, Nat.reduceMul, Int.reduceToNat, Int.reduceLT, Int.reduceLE, Int.reduceAdd, Int.reduceNeg, Int.reduceEq, splice, Nat.reduceEqDiff, Nat.reduceLT, isAtom, Int.reduceSub, Int.reduceMul, implies_true]
  refine (next_spec h0.1.app hn).use ?_
  rw [hx]
  simp (contextual := true) (implicitDefEqProofs := false) (maxSteps := 2000000) (disch := first | rfl | exact NB rfl | omega | (simp only [XL]; omega)) only [XW, undef_eq, Nat.reduceAdd, Nat.reduceSub, ↓reduceIte, basic, cellsL, resOf, setAt, below, belowB, belowA, atomB, Nat.reduceLeDiff, Nat.reduceMul, Int.reduceToNat, Int.reduceLT, Int.reduceLE, Int.reduceAdd, Int.reduceNeg, Int.reduceEq, splice, Nat.reduceEqDiff, Nat.reduceLT, isAtom, Int.reduceSub, Int.reduceMul, implies_true]
  refine (clone_spec h0.app hn (by omega)).mono ?_
  rintro v M ⟨hf, F, hs, hF⟩
  have hb0 := hf.get0 (i := m.length) (b := ⟨[str tb, .int .i64 ts, str fb, .int .i64 fs, .bool tm, .bool fm, .slice a (l.map En.row).length (l.map En.row).length], 55, 1, 0, .own⟩) (by simp)
  have hb1 := hf.get0 (i := m.length + 1) (b := ⟨[.string ⟨#[]⟩, .int .i64 0, .string ⟨#[]⟩, .int .i64 0, .bool false, .bool false, .slice none 0 0], 55, 1, 0, .own⟩) (by rw [List.getElem?_append_right (by omega)]; simp)
  have l0 := lt_of_some hb0
  have l1 := lt_of_some hb1
  have hfm : Frm [] m M := (Frm.refl (F := []) (m := m)).app.nil_trans hf
  have hFm : ∀ z ∈ F, m.length + 2 ≤ z := fun z hz => by have := hF z hz; simp only [List.length_append, List.length_cons, List.length_nil] at this; omega
  obtain ⟨sa, rfl, hform⟩ := hs.form
  simp only [List.length_map] at hform
  obtain ⟨b, o, cs, rfl, rfl, hb, hlb, hflat, hrow⟩ := hform (by omega)
  have hbF := hFm b (by simp)
  have hlb2 : o + j * 3 + 2 < cs.length := by omega
  have hbl := lt_of_some hb
  have hne0 : m.length ≠ b := by omega
  have hne1 : m.length + 1 ≠ b := by omega
  simp (contextual := true) (implicitDefEqProofs := false) (maxSteps := 2000000) (disch := first | rfl | exact NB rfl | omega | (simp only [XL]; omega)) only [hb0, hb1, hneg, hlt, hb, Int.toNat_natCast, List.length_map, XW, undef_eq, Nat.reduceAdd, Nat.reduceSub, ↓reduceIte, basic, cellsL, resOf, setAt, below, belowB, belowA, atomB, Nat.reduceLeDiff, Nat.reduceMul, Int.reduceToNat, Int.reduceLT, Int.reduceLE, Int.reduceAdd, Int.reduceNeg, Int.reduceEq, splice, Nat.reduceEqDiff, Nat.reduceLT, isAtom, Int.reduceSub, Int.reduceMul, implies_true]
  refine ⟨by omega, by omega, ?_, .slice (some ⟨b, o, none⟩) l.length l.length, [b], rfl, ?_, fun z hz => by have := hFm z hz; omega⟩
  · exact ((hfm.set (i := m.length) (.inr (Nat.le_refl _))).set (i := b) (.inr (by omega))).set (i := m.length + 1) (.inr (by omega))
  · have hr := hrow j e.row (by simp [he])
    have hrl : ∀ r ∈ l.map En.row, r.length = 3 := fun r hr => by obtain ⟨e, _, rfl⟩ := List.mem_map.mp hr; rfl
    have hmap : (sentL l j e).map En.row = (l.map En.row).set j [str e.b, .int .i64 e.s, .bool true] := by unfold sentL; rw [List.map_set]; rfl
    have hl' : ((sentL l j e).map En.row).length = l.length := by unfold sentL; simp
    have hst := store_row (cs := cs) (o := o) (sz := 3) (i := j) (rows := l.map En.row) (r := [str e.b, .int .i64 e.s, .bool true]) hrl (by simpa using hflat) (by simpa using hlb) (by simpa using hj) rfl
    rw [← hmap, ← set_row (D := .bool true) hr] at hst
    have := Sl.own (m := ((M.set m.length ⟨[str tb, .int .i64 ts, str fb, .int .i64 fs, .bool tm, .bool fm, .slice (some ⟨b, o, none⟩) l.length l.length], 55, 1, 0, .own⟩).set b ⟨cs.set (o + j * 3 + 2) (.bool true), 89, 3, 0, .own⟩).set (m.length + 1) ⟨[str tb, .int .i64 ts, str fb, .int .i64 fs, .bool tm, .bool fm, .slice (some ⟨b, o, none⟩) l.length l.length], 55, 1, 0, .own⟩) (T := 89) (sz := 3) (b := b) (o := o) (cs := cs.set (o + j * 3 + 2) (.bool true)) (rows := (sentL l j e).map En.row)
      (by rw [List.getElem?_set_ne hne1, List.getElem?_set_self (by simpa using hbl)])
      (fun r hr => by obtain ⟨e, _, rfl⟩ := List.mem_map.mp hr; rfl) hst (by rw [hl', List.length_set]; omega)
    rw [hl'] at this
    exact this
theorem rnext_spec {x y : En} {l : List En} {v : Value} {j : Nat} {e : En} {m : Mem} (h : Rd m 3 v ((x :: y :: l).map En.row)) (hn : l.length ≤ 1000000) (he : l[j]? = some e) (hk : e.k = false) (hall : ∀ j' e', j' < j → l[j']? = some e' → e'.k = true) : Ret Tryd.prog 10 [.agg #[v]] m (.int .i64 ((j + 2 : Nat) : Int)) m := by
  have hj : j < l.length := (List.getElem?_eq_some_iff.mp he).1
  obtain ⟨L, hL⟩ : ∃ L, x :: y :: l = L := ⟨_, rfl⟩
  have hLl : L.length = l.length + 2 := by rw [← hL]; rfl
  have hget : ∀ i, L[i + 2]? = l[i]? := fun i => by rw [← hL]; rfl
  rw [hL] at h
  obtain ⟨a, rfl, hform⟩ := h
  simp only [List.length_map] at hform ⊢
  obtain ⟨b, o, cs, T, fz, kd, rfl, hb, hkd, hl, hrow⟩ := hform (by omega)
  refine LCall_drop (LCall_enter Tryd.func10 c10 ?_)
  simp (contextual := true) (implicitDefEqProofs := false) (maxSteps := 2000000) (disch := first | rfl | exact NB rfl | omega | (simp only [XL]; omega)) only [L10, XW, undef_eq, Nat.reduceAdd, Nat.reduceSub, ↓reduceIte, basic, cellsL, resOf, setAt, below, belowB, belowA, atomB, Nat.reduceLeDiff, Nat.reduceMul, Int.reduceToNat, Int.reduceLT, Int.reduceLE, Int.reduceAdd, Int.reduceNeg, Int.reduceEq, splice, Nat.reduceEqDiff, Nat.reduceLT, isAtom, Int.reduceSub, Int.reduceMul, implies_true]
  obtain ⟨M0, hM, hf0, hb0⟩ : ∃ M0, m ++ [⟨[.slice (some ⟨b, o, none⟩) L.length L.length], 28, 1, 0, .own⟩] = M0 ∧ Frm [] m M0 ∧ M0[m.length]? = some ⟨[.slice (some ⟨b, o, none⟩) L.length L.length], 28, 1, 0, .own⟩ := ⟨_, rfl, Frm.refl.app, by simp⟩
  rw [hM]
  have hext : ext m M0 := ⟨_, hM.symm⟩
  clear hM
  have l0 := lt_of_some hb0
  have hbM := hf0.get0 hb
  have hbl := lt_of_some hbM
  refine loop_inv (fun n t M => ∃ (i : Nat), n = j - i ∧ i ≤ j ∧ M = M0 ∧
    Tab 19 [(1, .pointer (some ⟨m.length, 0, none⟩)), (3, .int .i64 ((i + 2 : Nat) : Int))] t) (n := j) ?_ ?_
  · exact ⟨0, rfl, Nat.zero_le _, rfl, ⟨rfl, by simp⟩⟩
  rintro N t M ⟨i, rfl, hi, rfl, ht⟩
  obtain ⟨f, rfl⟩ : ∃ f' : Nat → Value, t = [f' 0, .pointer (some ⟨m.length, 0, none⟩), f' 2, .int .i64 ((i + 2 : Nat) : Int), f' 4, f' 5, f' 6, f' 7, f' 8, f' 9, f' 10, f' 11, f' 12, f' 13, f' 14, f' 15, f' 16, f' 17, f' 18] := ht.open fun f' => rfl
  have hlt' : (((i + 2 : Nat) : Int) < (L.length : Int)) = True := eq_true (by omega)
  have h0' : ((0 : Int) ≤ ((i + 2 : Nat) : Int)) = True := eq_true (by omega)
  have hwi : IntKind.i64.wrap (((i + 2 : Nat) : Int) + 1) = ((i + 1 + 2 : Nat) : Int) := by rw [wrap_i64 (by omega) (by omega)]; omega
  obtain ⟨q, hq⟩ : ∃ r, l[i]? = some r := ⟨l[i], List.getElem?_eq_getElem (by omega)⟩
  have hr : (cs.drop (o + (i + 2) * 3)).take 3 = [str q.b, .int .i64 q.s, .bool q.k] := hrow (i + 2) q.row (by rw [List.getElem?_map, hget, hq]; rfl)
  have hc2 : cs[o + (i + 2) * 3 + 2]? = some (.bool q.k) := row_cell hr (j := 2) (by omega)
  by_cases hij : i = j
  · subst hij
    rw [he] at hq
    obtain rfl : e = q := by simpa using hq
    simp (contextual := true) (implicitDefEqProofs := false) (maxSteps := 2000000) (disch := first | rfl | exact NB rfl | omega | (simp only [XL]; omega)) only [hb0, hbM, hlt', h0', hc2, hk, cellB_l hkd, Int.toNat_natCast, XW, undef_eq, Nat.reduceAdd, Nat.reduceSub, ↓reduceIte, basic, cellsL, resOf, setAt, below, belowB, belowA, atomB, Nat.reduceLeDiff, Nat.reduceMul, Int.reduceToNat, Int.reduceLT, Int.reduceLE, Int.reduceAdd, Int.reduceNeg, Int.reduceEq, splice, Nat.reduceEqDiff, Nat.reduceLT, isAtom, Int.reduceSub, Int.reduceMul, implies_true]
    exact hext
  · have hqk := hall i q (by omega) hq
    simp (contextual := true) (implicitDefEqProofs := false) (maxSteps := 2000000) (disch := first | rfl | exact NB rfl | omega | (simp only [XL]; omega)) only [hb0, hbM, hlt', h0', hc2, hqk, cellB_l hkd, Int.toNat_natCast, XW, undef_eq, Nat.reduceAdd, Nat.reduceSub, ↓reduceIte, basic, cellsL, resOf, setAt, below, belowB, belowA, atomB, Nat.reduceLeDiff, Nat.reduceMul, Int.reduceToNat, Int.reduceLT, Int.reduceLE, Int.reduceAdd, Int.reduceNeg, Int.reduceEq, splice, Nat.reduceEqDiff, Nat.reduceLT, isAtom, Int.reduceSub, Int.reduceMul, implies_true]
    exact kInv_go ⟨i + 1, rfl, by omega, rfl, ⟨rfl, by simp [hwi]; omega⟩⟩ (by omega)
end Go.Proofs.YtadkdihbbngbfaaDoor
/- What can be decoded; the next digipeater and what it sends on, by the document: walked. -/
namespace Go.Proofs.YtadkdihbbngbfaaDoor
open Go.Lg
set_option maxRecDepth 8000
set_option maxHeartbeats 8000000
theorem _root_.Go.Lg.Frm.ext0 {m M : Mem} (h : Frm [] m M) : ext m M := h.ext (by simp)
def decB (s : List UInt8) : Bool := decide ((decF s false).1 = 0) || decide ((decF s true).1 = 0)
theorem decodes_spec (s : List UInt8) (hl : s.length ≤ 100000) (m : Mem) : Ret Tryd.prog 14 [str s] m (.bool (decB s)) m := by
  refine LCall_drop (LCall_enter Tryd.func14 c14 ?_)
  simp (contextual := true) (implicitDefEqProofs := false) (maxSteps := 2000000) (disch := first | rfl | exact NB rfl | omega | (simp only [XL]; omega)) only [L14, XW, undef_eq, Nat.reduceAdd, Nat.reduceSub, ↓reduceIte, basic, cellsL, resOf, setAt, below, belowB, belowA, atomB, Nat.reduceLeDiff, Nat.reduceMul, Int.reduceToNat, Int.reduceLT, Int.reduceLE, Int.reduceAdd, Int.reduceNeg, Int.reduceEq, splice, Nat.reduceEqDiff, Nat.reduceLT, isAtom, Int.reduceSub, Int.reduceMul, implies_true]
  refine (decode_spec s false hl _).mono ?_
  rintro v M ⟨hf, hv⟩
  by_cases h1 : (decF s false).1 = 0
  · rw [if_pos h1] at hv
    obtain ⟨x, y, l, sv, F, hL, rfl, hs, hF⟩ := hv
    obtain ⟨sa, rfl, _⟩ := hs.form
    have e : decB s = true := by unfold decB; simp [h1]
    rw [e]
    simp (contextual := true) (implicitDefEqProofs := false) (maxSteps := 2000000) (disch := first | rfl | exact NB rfl | omega | (simp only [XL]; omega)) only [XW, undef_eq, Nat.reduceAdd, Nat.reduceSub, ↓reduceIte, basic, cellsL, resOf, setAt, below, belowB, belowA, atomB, Nat.reduceLeDiff, Nat.reduceMul, Int.reduceToNat, Int.reduceLT, Int.reduceLE, Int.reduceAdd, Int.reduceNeg, Int.reduceEq, splice, Nat.reduceEqDiff, Nat.reduceLT, isAtom, Int.reduceSub, Int.reduceMul, implies_true]
    exact hf.app.ext0
  · rw [if_neg h1] at hv
    subst hv
    have h1' : ((decF s false).1 = 0) = False := eq_false h1
    simp (contextual := true) (implicitDefEqProofs := false) (maxSteps := 2000000) (disch := first | rfl | exact NB rfl | omega | (simp only [XL]; omega)) only [h1', zFrame, XW, undef_eq, Nat.reduceAdd, Nat.reduceSub, ↓reduceIte, basic, cellsL, resOf, setAt, below, belowB, belowA, atomB, Nat.reduceLeDiff, Nat.reduceMul, Int.reduceToNat, Int.reduceLT, Int.reduceLE, Int.reduceAdd, Int.reduceNeg, Int.reduceEq, splice, Nat.reduceEqDiff, Nat.reduceLT, isAtom, Int.reduceSub, Int.reduceMul, implies_true]
    refine (decode_spec s true hl _).mono ?_
    rintro v M2 ⟨hf2, hv⟩
    have hf3 : Frm [] m M2 := hf.app.nil_trans hf2
    by_cases h2 : (decF s true).1 = 0
    · rw [if_pos h2] at hv
      obtain ⟨x, y, l, sv, F, hL, rfl, hs, hF⟩ := hv
      obtain ⟨sa, rfl, _⟩ := hs.form
      have e : decB s = true := by unfold decB; simp [h2]
      rw [e]
      simp (contextual := true) (implicitDefEqProofs := false) (maxSteps := 2000000) (disch := first | rfl | exact NB rfl | omega | (simp only [XL]; omega)) only [XW, undef_eq, Nat.reduceAdd, Nat.reduceSub, ↓reduceIte, basic, cellsL, resOf, setAt, below, belowB, belowA, atomB, Nat.reduceLeDiff, Nat.reduceMul, Int.reduceToNat, Int.reduceLT, Int.reduceLE, Int.reduceAdd, Int.reduceNeg, Int.reduceEq, splice, Nat.reduceEqDiff, Nat.reduceLT, isAtom, Int.reduceSub, Int.reduceMul, implies_true]
      exact hf3.app.ext0
    · rw [if_neg h2] at hv
      subst hv
      have h2' : ((decF s true).1 = 0) = False := eq_false h2
      have e : decB s = false := by unfold decB; simp [h1, h2]
      rw [e]
      simp (contextual := true) (implicitDefEqProofs := false) (maxSteps := 2000000) (disch := first | rfl | exact NB rfl | omega | (simp only [XL]; omega)) only [h2', zFrame, XW, undef_eq, Nat.reduceAdd, Nat.reduceSub, ↓reduceIte, basic, cellsL, resOf, setAt, below, belowB, belowA, atomB, Nat.reduceLeDiff, Nat.reduceMul, Int.reduceToNat, Int.reduceLT, Int.reduceLE, Int.reduceAdd, Int.reduceNeg, Int.reduceEq, splice, Nat.reduceEqDiff, Nat.reduceLT, isAtom, Int.reduceSub, Int.reduceMul, implies_true]
      exact hf3.app.ext0
theorem rdecodes_spec (s : List UInt8) (hl : s.length ≤ 100000) (m : Mem) : Ret Tryd.prog 8 [str s] m (.bool (decB s)) m := by
  refine LCall_drop (LCall_enter Tryd.func8 c8 ?_)
  simp (contextual := true) (implicitDefEqProofs := false) (maxSteps := 2000000) (disch := first | rfl | exact NB rfl | omega | (simp only [XL]; omega)) only [L8, XW, undef_eq, Nat.reduceAdd, Nat.reduceSub, ↓reduceIte, basic, cellsL, resOf, setAt, below, belowB, belowA, atomB, Nat.reduceLeDiff, Nat.reduceMul, Int.reduceToNat, Int.reduceLT, Int.reduceLE, Int.reduceAdd, Int.reduceNeg, Int.reduceEq, splice, Nat.reduceEqDiff, Nat.reduceLT, isAtom, Int.reduceSub, Int.reduceMul, implies_true]
  have key : ∀ (w : Bool) (v : Value) (m M : Mem), (if (decF s w).1 = 0 then ∃ sv F, v = .tuple #[rframeV sv (decF s w).2.c (decF s w).2.pid (decF s w).2.info, .int .i64 0] ∧ Sl M 34 3 sv F ((decF s w).2.L.map En.row) ∧ ∀ x ∈ F, m.length ≤ x else v = .tuple #[zRframe, .int .i64 (decF s w).1]) →
      ∃ a1 a2 a3 a4 a5 a6 a7 a8, v = .tuple #[.agg #[.slice a1 a2 a2, .int .i64 a3, .int .i64 a4, .int .i64 a5, .bool a6, .int .i64 a7, str a8], .int .i64 (decF s w).1] := by
    intro w v m M h
    by_cases h1 : (decF s w).1 = 0
    · rw [if_pos h1] at h
      obtain ⟨sv, F, rfl, hs, _⟩ := h
      obtain ⟨sa, rfl, _⟩ := hs.form
      exact ⟨_, _, _, _, _, _, _, _, by rw [h1]⟩
    · rw [if_neg h1] at h
      exact ⟨none, 0, 0, 0, 0, false, 0, [], h⟩
  refine (rdecode_spec s false hl _).mono ?_
  rintro v M ⟨hf, hv⟩
  obtain ⟨a1, a2, a3, a4, a5, a6, a7, a8, rfl⟩ := key _ _ _ _ hv
  simp (contextual := true) (implicitDefEqProofs := false) (maxSteps := 2000000) (disch := first | rfl | exact NB rfl | omega | (simp only [XL]; omega)) only [XW, undef_eq, Nat.reduceAdd, Nat.reduceSub, ↓reduceIte, basic, cellsL, resOf, setAt, below, belowB, belowA, atomB, Nat.reduceLeDiff, Nat.reduceMul, Int.reduceToNat, Int.reduceLT, Int.reduceLE, Int.reduceAdd, Int.reduceNeg, Int.reduceEq, splice, Nat.reduceEqDiff, Nat.reduceLT, isAtom, Int.reduceSub, Int.reduceMul, implies_true]
  refine (rdecode_spec s true hl _).mono ?_
  rintro v M2 ⟨hf2, hv2⟩
  obtain ⟨b1, b2, b3, b4, b5, b6, b7, b8, rfl⟩ := key _ _ _ _ hv2
  have hf3 : Frm [] m M2 := hf.app.nil_trans hf2
  by_cases h1 : (decF s false).1 = 0
  · have h1' : ((decF s false).1 = 0) = True := eq_true h1
    have e : decB s = true := by unfold decB; simp [h1]
    rw [e]
    simp (contextual := true) (implicitDefEqProofs := false) (maxSteps := 2000000) (disch := first | rfl | exact NB rfl | omega | (simp only [XL]; omega)) only [h1', XW, undef_eq, Nat.reduceAdd, Nat.reduceSub, ↓reduceIte, basic, cellsL, resOf, setAt, below, belowB, belowA, atomB, Nat.reduceLeDiff, Nat.reduceMul, Int.reduceToNat, Int.reduceLT, Int.reduceLE, Int.reduceAdd, Int.reduceNeg, Int.reduceEq, splice, Nat.reduceEqDiff, Nat.reduceLT, isAtom, Int.reduceSub, Int.reduceMul, implies_true]
    exact hf3.app.ext0
  · have h1' : ((decF s false).1 = 0) = False := eq_false h1
    by_cases h2 : (decF s true).1 = 0
    · have h2' : ((decF s true).1 = 0) = True := eq_true h2
      have e : decB s = true := by unfold decB; simp [h2]
      rw [e]
      simp (contextual := true) (implicitDefEqProofs := false) (maxSteps := 2000000) (disch := first | rfl | exact NB rfl | omega | (simp only [XL]; omega)) only [h1', h2', XW, undef_eq, Nat.reduceAdd, Nat.reduceSub, ↓reduceIte, basic, cellsL, resOf, setAt, below, belowB, belowA, atomB, Nat.reduceLeDiff, Nat.reduceMul, Int.reduceToNat, Int.reduceLT, Int.reduceLE, Int.reduceAdd, Int.reduceNeg, Int.reduceEq, splice, Nat.reduceEqDiff, Nat.reduceLT, isAtom, Int.reduceSub, Int.reduceMul, implies_true]
      exact hf3.app.ext0
    · have h2' : ((decF s true).1 = 0) = False := eq_false h2
      have e : decB s = false := by unfold decB; simp [h1, h2]
      rw [e]
      simp (contextual := true) (implicitDefEqProofs := false) (maxSteps := 2000000) (disch := first | rfl | exact NB rfl | omega | (simp only [XL]; omega)) only [h1', h2', XW, undef_eq, Nat.reduceAdd, Nat.reduceSub, ↓reduceIte, basic, cellsL, resOf, setAt, below, belowB, belowA, atomB, Nat.reduceLeDiff, Nat.reduceMul, Int.reduceToNat, Int.reduceLT, Int.reduceLE, Int.reduceAdd, Int.reduceNeg, Int.reduceEq, splice, Nat.reduceEqDiff, Nat.reduceLT, isAtom, Int.reduceSub, Int.reduceMul, implies_true]
      exact hf3.app.ext0
theorem rnone_spec {x y : En} {l : List En} {v : Value} {m : Mem} (h : Rd m 3 v ((x :: y :: l).map En.row)) (hn : l.length ≤ 1000000) (hall : ∀ e ∈ l, e.k = true) : Ret Tryd.prog 10 [.agg #[v]] m (.int .i64 (-1)) m := by
  obtain ⟨L, hL⟩ : ∃ L, x :: y :: l = L := ⟨_, rfl⟩
  have hLl : L.length = l.length + 2 := by rw [← hL]; rfl
  have hget : ∀ i, L[i + 2]? = l[i]? := fun i => by rw [← hL]; rfl
  rw [hL] at h
  obtain ⟨a, rfl, hform⟩ := h
  simp only [List.length_map] at hform ⊢
  obtain ⟨b, o, cs, T, fz, kd, rfl, hb, hkd, hl, hrow⟩ := hform (by omega)
  refine LCall_drop (LCall_enter Tryd.func10 c10 ?_)
  simp (contextual := true) (implicitDefEqProofs := false) (maxSteps := 2000000) (disch := first | rfl | exact NB rfl | omega | (simp only [XL]; omega)) only [L10, XW, undef_eq, Nat.reduceAdd, Nat.reduceSub, ↓reduceIte, basic, cellsL, resOf, setAt, below, belowB, belowA, atomB, Nat.reduceLeDiff, Nat.reduceMul, Int.reduceToNat, Int.reduceLT, Int.reduceLE, Int.reduceAdd, Int.reduceNeg, Int.reduceEq, splice, Nat.reduceEqDiff, Nat.reduceLT, isAtom, Int.reduceSub, Int.reduceMul, implies_true]
  obtain ⟨M0, hM, hf0, hb0⟩ : ∃ M0, m ++ [⟨[.slice (some ⟨b, o, none⟩) L.length L.length], 28, 1, 0, .own⟩] = M0 ∧ Frm [] m M0 ∧ M0[m.length]? = some ⟨[.slice (some ⟨b, o, none⟩) L.length L.length], 28, 1, 0, .own⟩ := ⟨_, rfl, Frm.refl.app, by simp⟩
  rw [hM]
  have hext : ext m M0 := ⟨_, hM.symm⟩
  clear hM
  have l0 := lt_of_some hb0
  have hbM := hf0.get0 hb
  have hbl := lt_of_some hbM
  refine loop_inv (fun n t M => ∃ (i : Nat), n = l.length - i ∧ i ≤ l.length ∧ M = M0 ∧
    Tab 19 [(1, .pointer (some ⟨m.length, 0, none⟩)), (3, .int .i64 ((i + 2 : Nat) : Int))] t) (n := l.length) ?_ ?_
  · exact ⟨0, rfl, Nat.zero_le _, rfl, ⟨rfl, by simp⟩⟩
  rintro N t M ⟨i, rfl, hi, rfl, ht⟩
  obtain ⟨f, rfl⟩ : ∃ f' : Nat → Value, t = [f' 0, .pointer (some ⟨m.length, 0, none⟩), f' 2, .int .i64 ((i + 2 : Nat) : Int), f' 4, f' 5, f' 6, f' 7, f' 8, f' 9, f' 10, f' 11, f' 12, f' 13, f' 14, f' 15, f' 16, f' 17, f' 18] := ht.open fun f' => rfl
  have h0' : ((0 : Int) ≤ ((i + 2 : Nat) : Int)) = True := eq_true (by omega)
  have hwi : IntKind.i64.wrap (((i + 2 : Nat) : Int) + 1) = ((i + 1 + 2 : Nat) : Int) := by rw [wrap_i64 (by omega) (by omega)]; omega
  by_cases hij : i < l.length
  · have hlt' : (((i + 2 : Nat) : Int) < (L.length : Int)) = True := eq_true (by omega)
    obtain ⟨q, hq⟩ : ∃ r, l[i]? = some r := ⟨l[i], List.getElem?_eq_getElem (by omega)⟩
    have hr : (cs.drop (o + (i + 2) * 3)).take 3 = [str q.b, .int .i64 q.s, .bool q.k] := hrow (i + 2) q.row (by rw [List.getElem?_map, hget, hq]; rfl)
    have hc2 : cs[o + (i + 2) * 3 + 2]? = some (.bool q.k) := row_cell hr (j := 2) (by omega)
    have hqk := hall q (List.mem_of_getElem? hq)
    simp (contextual := true) (implicitDefEqProofs := false) (maxSteps := 2000000) (disch := first | rfl | exact NB rfl | omega | (simp only [XL]; omega)) only [hb0, hbM, hlt', h0', hc2, hqk, cellB_l hkd, Int.toNat_natCast, XW, undef_eq, Nat.reduceAdd, Nat.reduceSub, ↓reduceIte, basic, cellsL, resOf, setAt, below, belowB, belowA, atomB, Nat.reduceLeDiff, Nat.reduceMul, Int.reduceToNat, Int.reduceLT, Int.reduceLE, Int.reduceAdd, Int.reduceNeg, Int.reduceEq, splice, Nat.reduceEqDiff, Nat.reduceLT, isAtom, Int.reduceSub, Int.reduceMul, implies_true]
    exact kInv_go ⟨i + 1, rfl, by omega, rfl, ⟨rfl, by simp [hwi]; omega⟩⟩ (by omega)
  · have hlt' : (((i + 2 : Nat) : Int) < (L.length : Int)) = False := eq_false (by omega)
    simp (contextual := true) (implicitDefEqProofs := false) (maxSteps := 2000000) (disch := first | rfl | exact NB rfl | omega | (simp only [XL]; omega)) only [hb0, hlt', XW, undef_eq, Nat.reduceAdd, Nat.reduceSub, ↓reduceIte, basic, cellsL, resOf, setAt, below, belowB, belowA, atomB, Nat.reduceLeDiff, Nat.reduceMul, Int.reduceToNat, Int.reduceLT, Int.reduceLE, Int.reduceAdd, Int.reduceNeg, Int.reduceEq, splice, Nat.reduceEqDiff, Nat.reduceLT, isAtom, Int.reduceSub, Int.reduceMul, implies_true]
    exact hext
end Go.Proofs.YtadkdihbbngbfaaDoor
/- What the next digipeater sends on, by the document: walked. -/
namespace Go.Proofs.YtadkdihbbngbfaaDoor
open Go.Lg
set_option maxRecDepth 8000
set_option maxHeartbeats 8000000
theorem rsent_spec {x y : En} {l : List En} {v : Value} {j : Nat} {e : En} {m : Mem} (h : RdN m 3 v ((x :: y :: l).map En.row)) (hn : l.length ≤ 1000000) (he : l[j]? = some e) (hk : e.k = false) (hall : ∀ j' e', j' < j → l[j']? = some e' → e'.k = true) :
    LCall Tryd.prog 32 [.agg #[v]] m fun u M => Frm [] m M ∧ ∃ sv F, u = .tuple #[.agg #[sv], .bool true] ∧ Sl M 34 3 sv F ((x :: y :: sentL l j e).map En.row) ∧ ∀ z ∈ F, m.length ≤ z := by
  have hj : j < l.length := (List.getElem?_eq_some_iff.mp he).1
  have h0 := h
  obtain ⟨a, rfl, hform⟩ := h.1
  have hsen : (x :: y :: sentL l j e) = (x :: y :: l).set (j + 2) ⟨e.b, e.s, true⟩ := rfl
  have heL : (x :: y :: l)[j + 2]? = some e := he
  have hnx : ∀ M, Frm [] m M → Ret Tryd.prog 10 [.agg #[.slice a ((x :: y :: l).map En.row).length ((x :: y :: l).map En.row).length]] M (.int .i64 ((j + 2 : Nat) : Int)) M := fun M hM => rnext_spec (h0.1.frm0 hM) hn he hk hall
  obtain ⟨L, hL⟩ : ∃ L, x :: y :: l = L := ⟨_, rfl⟩
  have hLl : L.length = l.length + 2 := by rw [← hL]; rfl
  rw [hL] at h h0 hform hsen heL hnx ⊢
  simp only [List.length_map] at hform hnx ⊢
  refine LCall_enter Tryd.func32 c32 ?_
  simp (contextual := true) (implicitDefEqProofs := false) (maxSteps := 2000000) (disch := first | rfl | exact NB rfl | omega | (simp only [XL]; omega)) only [L32, XX, XB, lc_block, lc_cond, XZ, undef_eq, Nat.reduceAdd, Nat.reduceSub, ↓reduceIte, basic, cellsL, resOf, setAt, below, belowB, belowA, atomB, Nat.reduceLeDiff, Nat.reduceMul, Int.reduceToNat, Int.reduceLT, Int.reduceLE, Int.reduceAdd, Int.reduceNeg, Int.reduceEq, splice, Nat.reduceEqDiff, Nat.reduceLT, isAtom, Int.reduceSub, Int.reduceMul, implies_true]
  obtain ⟨N0, hN0, hNl0, hfN0, hb0, hb1⟩ : ∃ N, m ++ [⟨[.slice a L.length L.length], 28, 1, 0, .own⟩, ⟨[.slice none 0 0], 28, 1, 0, .own⟩] = N ∧ N.length = m.length + 2 ∧ Frm [] m N ∧ N[m.length]? = some ⟨[.slice a L.length L.length], 28, 1, 0, .own⟩ ∧ N[m.length + 1]? = some ⟨[.slice none 0 0], 28, 1, 0, .own⟩ := ⟨_, rfl, by simp, Frm.refl.app, by simp, by rw [List.getElem?_append_right (by omega)]; simp⟩
  rw [hN0]
  refine (hnx _ hfN0).use ?_
  have l0 := lt_of_some hb0
  simp (contextual := true) (implicitDefEqProofs := false) (maxSteps := 2000000) (disch := first | rfl | exact NB rfl | omega | (simp only [XL]; omega)) only [hb0, XX, XB, lc_block, lc_cond, XZ, undef_eq, Nat.reduceAdd, Nat.reduceSub, ↓reduceIte, basic, cellsL, resOf, setAt, below, belowB, belowA, atomB, Nat.reduceLeDiff, Nat.reduceMul, Int.reduceToNat, Int.reduceLT, Int.reduceLE, Int.reduceAdd, Int.reduceNeg, Int.reduceEq, splice, Nat.reduceEqDiff, Nat.reduceLT, isAtom, Int.reduceSub, Int.reduceMul, implies_true]
  obtain ⟨N, hN, hNl, hfN, hbn⟩ : ∃ N, N0 ++ [⟨[], 34, 3, 0, .own⟩] = N ∧ N.length = m.length + 3 ∧ Frm [] N0 N ∧ N[m.length + 2]? = some ⟨[], 34, 3, 0, .own⟩ := ⟨_, rfl, by simp [hNl0], Frm.refl.app, by rw [List.getElem?_append_right (by omega)]; simp [hNl0]⟩
  rw [← hNl0] at hbn
  rw [hN]
  have hn0 := h0.2 N (hfN0.nil_trans hfN)
  simp only [List.length_map] at hn0
  rw [hn0]
  have hs0 : Sl N 34 3 (.slice (some ⟨N0.length, 0, none⟩) 0 0) [N0.length] [] := Sl.own (T := 34) (sz := 3) (rows := []) hbn (by simp) (by simp) (by simp)
  refine app_any hs0 (new := L.map En.row) (by simp) (fun r hr => ?_) rfl (by simp; omega) ?_
  · obtain ⟨e, _, rfl⟩ := List.mem_map.mp hr; rfl
  intro v M F hM hf hs hF
  obtain ⟨sa, rfl, hform2⟩ := hs.form
  have hs' : Sl M 34 3 (.slice sa L.length L.length) F (L.map En.row) := by simpa using hs
  simp only [List.nil_append, List.length_map] at hform2
  obtain ⟨b, o, cs, rfl, rfl, hb, hlb, hflat, hrow⟩ := hform2 (by omega)
  have hbF : m.length + 2 ≤ b := by
    have h1 := hF b (by simp)
    simp only [List.mem_singleton] at h1
    omega
  have hfm : Frm [] m M := (hfN0.nil_trans hfN).trans hf fun x hx => .inr (by simp at hx; omega)
  have hc0 := hf.get (hfN.get0 hb0) (by simp; omega)
  have hc1 := hf.get (hfN.get0 hb1) (by simp; omega)
  have l2 := lt_of_some hc0
  have l3 := lt_of_some hc1
  have hbl := lt_of_some hb
  have hne0 : m.length ≠ b := by omega
  have hne1 : m.length + 1 ≠ b := by omega
  have hlb2 : o + (j + 2) * 3 + 2 < cs.length := by omega
  have hlt : (((j + 2 : Nat) : Int) < (L.length : Int)) = True := eq_true (by omega)
  have hge : ((0 : Int) ≤ ((j + 2 : Nat) : Int)) = True := eq_true (by omega)
  simp (contextual := true) (implicitDefEqProofs := false) (maxSteps := 2000000) (disch := first | rfl | exact NB rfl | omega | (simp only [XL]; omega)) only [hc0, hc1, hge, hlt, hb, Int.toNat_natCast, List.length_map, XW, undef_eq, Nat.reduceAdd, Nat.reduceSub, ↓reduceIte, basic, cellsL, resOf, setAt, below, belowB, belowA, atomB, Nat.reduceLeDiff, Nat.reduceMul, Int.reduceToNat, Int.reduceLT, Int.reduceLE, Int.reduceAdd, Int.reduceNeg, Int.reduceEq, splice, Nat.reduceEqDiff, Nat.reduceLT, isAtom, Int.reduceSub, Int.reduceMul, implies_true]
  refine ⟨by omega, (hfm.set (i := b) (.inr (by omega))).set (i := m.length + 1) (.inr (by omega)), .slice (some ⟨b, o, none⟩) L.length L.length, [b], rfl, ?_, fun z hz => by simp at hz; omega⟩
  have hrow' : (x.row :: y.row :: List.map En.row (sentL l j e)) = (L.set (j + 2) ⟨e.b, e.s, true⟩).map En.row := by rw [← hsen]; rfl
  rw [hrow']
  have hr := hrow (j + 2) e.row (by simp [heL])
  have hrl : ∀ r ∈ L.map En.row, r.length = 3 := fun r hr => by obtain ⟨e, _, rfl⟩ := List.mem_map.mp hr; rfl
  have hl' : ((L.set (j + 2) ⟨e.b, e.s, true⟩).map En.row).length = L.length := by simp
  have hst := store_row (cs := cs) (o := o) (sz := 3) (i := j + 2) (rows := L.map En.row) (r := [str e.b, .int .i64 e.s, .bool true]) hrl (by simpa using hflat) (by simpa using hlb) (by simp; omega) rfl
  have hmap : (L.set (j + 2) ⟨e.b, e.s, true⟩).map En.row = (L.map En.row).set (j + 2) [str e.b, .int .i64 e.s, .bool true] := by rw [List.map_set]; rfl
  rw [← hmap, ← set_row (D := .bool true) hr] at hst
  have key := Sl.own (m := (M.set b ⟨cs.set (o + (j + 2) * 3 + 2) (.bool true), 34, 3, 0, .own⟩).set (m.length + 1) ⟨[.slice (some ⟨b, o, none⟩) L.length L.length], 28, 1, 0, .own⟩) (T := 34) (sz := 3) (rows := (L.set (j + 2) ⟨e.b, e.s, true⟩).map En.row) (b := b) (o := o) (cs := cs.set (o + (j + 2) * 3 + 2) (.bool true))
    (by rw [List.getElem?_set_ne hne1, List.getElem?_set_self hbl])
    (fun r hr => by obtain ⟨e, _, rfl⟩ := List.mem_map.mp hr; rfl) hst (by rw [hl', List.length_set]; omega)
  rw [hl'] at key
  exact key
end Go.Proofs.YtadkdihbbngbfaaDoor
/- What a digipeater sends on, by the document: walked. -/
namespace Go.Proofs.YtadkdihbbngbfaaDoor
open Go.Lg
set_option maxRecDepth 8000
set_option maxHeartbeats 8000000
def En.cl (e : En) : Cl := ⟨e.b, e.s⟩
def onL (cs : List Cl) (s : List UInt8) (L : List En) : List UInt8 × Nat :=
  if nx (L.drop 2) = -1 then ([], 1) else
  match (L.drop 2)[(nx (L.drop 2)).toNat]? with
  | none => ([], 1)
  | some e => if e.cl ∈ cs then (putE (sentL L ((nx (L.drop 2)).toNat + 2) e) ++ s.drop (7 * L.length), 0) else ([], 1)
def onF (cs : List Cl) (s : List UInt8) : List UInt8 × Nat := if decB s = true then onL cs s (getP s 11 []).2 else ([], 2)
theorem onL_none {cs : List Cl} {s : List UInt8} {x y : En} {l : List En} (h : nx l = -1) : onL cs s (x :: y :: l) = ([], 1) := by
  have h' : nx ((x :: y :: l).drop 2) = -1 := h
  rw [onL, if_pos h']
theorem onL_some {cs : List Cl} {s : List UInt8} {x y : En} {l : List En} {j : Nat} {e : En} (h : nx l = (j : Int)) (he : l[j]? = some e) :
    onL cs s (x :: y :: l) = if e.cl ∈ cs then (putE (x :: y :: sentL l j e) ++ s.drop (7 * (l.length + 2)), 0) else ([], 1) := by
  have h' : nx ((x :: y :: l).drop 2) = (j : Int) := h
  rw [onL, if_neg (by rw [h']; omega), h', Int.toNat_natCast]
  have he' : ((x :: y :: l).drop 2)[j]? = some e := he
  rw [he']
  rfl
theorem dec_path {s : List UInt8} (h : decB s = true) : (getP s 11 []).1 = 0 ∧ ∃ x y l, (getP s 11 []).2 = x :: y :: l ∧ l.length ≤ 8 ∧ 7 * (l.length + 2) ≤ s.length ∧ (∀ e ∈ x :: y :: l, e.ok = true) ∧ ordB l = true := by
  have h1 : (getP s 11 []).1 = 0 := by
    unfold decB at h
    rcases Bool.or_eq_true_iff.1 h with h | h
    · exact (decF_ok (of_decide_eq_true h)).1
    · exact (decF_ok (of_decide_eq_true h)).1
  refine ⟨h1, ?_⟩
  obtain ⟨h2, h3, h4, h5, h6⟩ := getP_shape (s := s) (n := 11) (L := []) rfl (by simp) h1
  match hL : (getP s 11 []).2, h2 with
  | x :: y :: l, _ =>
    rw [hL] at h3 h4 h5 h6
    simp at h3 h4
    exact ⟨x, y, l, rfl, by omega, by omega, h5, h6⟩
theorem ron_spec {cs : List Cl} {s : List UInt8} {v : Value} {m : Mem} (h : Rd m 2 v (cs.map Cl.row)) (hn : cs.length ≤ 1000000) (hl : s.length ≤ 100000) :
    Ret Tryd.prog 16 [v, str s] m (.tuple #[str (onF cs s).1, .int .i64 ((onF cs s).2 : Nat)]) m := by
  obtain ⟨a, rfl, hform⟩ := h
  simp only [List.length_map] at hform ⊢
  refine LCall_drop (LCall_enter Tryd.func16 c16 ?_)
  simp (contextual := true) (implicitDefEqProofs := false) (maxSteps := 2000000) (disch := first | rfl | exact NB rfl | omega | (simp only [XL]; omega)) only [L16, XW, undef_eq, Nat.reduceAdd, Nat.reduceSub, ↓reduceIte, basic, cellsL, resOf, setAt, below, belowB, belowA, atomB, Nat.reduceLeDiff, Nat.reduceMul, Int.reduceToNat, Int.reduceLT, Int.reduceLE, Int.reduceAdd, Int.reduceNeg, Int.reduceEq, splice, Nat.reduceEqDiff, Nat.reduceLT, isAtom, Int.reduceSub, Int.reduceMul, implies_true]
  refine (rdecodes_spec s hl _).use ?_
  cases hd : decB s with
  | false =>
    have e : onF cs s = ([], 2) := by rw [onF, if_neg (by rw [hd]; decide)]
    rw [e]
    simp (contextual := true) (implicitDefEqProofs := false) (maxSteps := 2000000) (disch := first | rfl | exact NB rfl | omega | (simp only [XL]; omega)) only [XW, undef_eq, Nat.reduceAdd, Nat.reduceSub, ↓reduceIte, basic, cellsL, resOf, setAt, below, belowB, belowA, atomB, Nat.reduceLeDiff, Nat.reduceMul, Int.reduceToNat, Int.reduceLT, Int.reduceLE, Int.reduceAdd, Int.reduceNeg, Int.reduceEq, splice, Nat.reduceEqDiff, Nat.reduceLT, isAtom, Int.reduceSub, Int.reduceMul, implies_true]
  | true =>
    obtain ⟨hg, x, y, l, hL, hl8, hls, hok, hord⟩ := dec_path hd
    have e : onF cs s = onL cs s (x :: y :: l) := by rw [onF, if_pos hd, hL]
    rw [e]
    simp (contextual := true) (implicitDefEqProofs := false) (maxSteps := 2000000) (disch := first | rfl | exact NB rfl | omega | (simp only [XL]; omega)) only [XW, undef_eq, Nat.reduceAdd, Nat.reduceSub, ↓reduceIte, basic, cellsL, resOf, setAt, below, belowB, belowA, atomB, Nat.reduceLeDiff, Nat.reduceMul, Int.reduceToNat, Int.reduceLT, Int.reduceLE, Int.reduceAdd, Int.reduceNeg, Int.reduceEq, splice, Nat.reduceEqDiff, Nat.reduceLT, isAtom, Int.reduceSub, Int.reduceMul, implies_true]
    refine (rgetP_spec s hl _).mono ?_
    rintro v M1 ⟨hf1, hv⟩
    rw [if_pos hg, hL] at hv
    obtain ⟨sv, F, rfl, hs, hF⟩ := hv
    obtain ⟨sa, rfl, hform2⟩ := hs.form
    have hs0 := hs
    simp only [List.length_cons, List.length_map] at hs hform2
    simp only [List.length_cons, List.length_map]
    obtain ⟨b2, o2, cc2, rfl, rfl, hb2, hlb2, _, hrow2⟩ := hform2 (by omega)
    have hw7 : ((7 * (l.length + 1 + 1) : Nat) : Int) = ((7 * (l.length + 2) : Nat) : Int) := rfl
    simp (contextual := true) (implicitDefEqProofs := false) (maxSteps := 2000000) (disch := first | rfl | exact NB rfl | omega | (simp only [XL]; omega)) only [XW, undef_eq, Nat.reduceAdd, Nat.reduceSub, ↓reduceIte, basic, cellsL, resOf, setAt, below, belowB, belowA, atomB, Nat.reduceLeDiff, Nat.reduceMul, Int.reduceToNat, Int.reduceLT, Int.reduceLE, Int.reduceAdd, Int.reduceNeg, Int.reduceEq, splice, Nat.reduceEqDiff, Nat.reduceLT, isAtom, Int.reduceSub, Int.reduceMul, implies_true]
    obtain ⟨M, hM, hMl, hf2, hb0⟩ : ∃ N, M1 ++ [⟨[.slice (some ⟨b2, o2, none⟩) (l.length + 1 + 1) (l.length + 1 + 1)], 28, 1, 0, .own⟩] = N ∧ N.length = M1.length + 1 ∧ Frm [] M1 N ∧ N[M1.length]? = some ⟨[.slice (some ⟨b2, o2, none⟩) (l.length + 1 + 1) (l.length + 1 + 1)], 28, 1, 0, .own⟩ := ⟨_, rfl, by simp, Frm.refl.app, by simp⟩
    rw [hM]
    have hsM := hs.frm0 hf2
    have hfm : Frm [] m M := hf1.nil_trans hf2
    have hn1 : l.length ≤ 1000000 := by omega
    have l0 := lt_of_some hb0
    rcases idx_cases (p := fun e => !e.k) (l := l) (i := 0) with ⟨hx, hall⟩ | ⟨j, q, hq, hqk, hx, hall⟩
    · rw [onL_none hx]
      refine (rnone_spec (l := l) (Sl.rd hsM) hn1 fun e he => by simpa using hall e he).use ?_
      simp (contextual := true) (implicitDefEqProofs := false) (maxSteps := 2000000) (disch := first | rfl | exact NB rfl | omega | (simp only [XL]; omega)) only [XW, undef_eq, Nat.reduceAdd, Nat.reduceSub, ↓reduceIte, basic, cellsL, resOf, setAt, below, belowB, belowA, atomB, Nat.reduceLeDiff, Nat.reduceMul, Int.reduceToNat, Int.reduceLT, Int.reduceLE, Int.reduceAdd, Int.reduceNeg, Int.reduceEq, splice, Nat.reduceEqDiff, Nat.reduceLT, isAtom, Int.reduceSub, Int.reduceMul, implies_true]
      exact hfm.ext0
    have hx' : nx l = (j : Int) := by unfold nx; rw [hx]; simp
    have hqk' : q.k = false := by simpa using hqk
    have hall' : ∀ j' e', j' < j → l[j']? = some e' → e'.k = true := fun j' e' h1 h2 => by simpa using hall j' e' h1 h2
    have hjl : j < l.length := (List.getElem?_eq_some_iff.mp hq).1
    rw [onL_some hx' hq]
    refine (rnext_spec (l := l) (Sl.rd hsM) hn1 hq hqk' hall').use ?_
    have hneg : (((j + 2 : Nat) : Int) < 0) = False := eq_false (by omega)
    have hrq : (cc2.drop (o2 + (j + 2) * 3)).take 2 = [str q.b, .int .i64 q.s] := by
      have := congrArg (List.take 2) (hrow2 (j + 2) q.row (by simp [hq]))
      rwa [List.take_take] at this
    have hlenq : o2 + (j + 2) * 3 + 2 ≤ cc2.length := by omega
    have hbq := hf2.get0 hb2
    have hltq : (((j + 2 : Nat) : Int) < ((l.length + 1 + 1 : Nat) : Int)) = True := eq_true (by omega)
    have hgeq : ((0 : Int) ≤ ((j + 2 : Nat) : Int)) = True := eq_true (by omega)
    simp (contextual := true) (implicitDefEqProofs := false) (maxSteps := 2000000) (disch := first | rfl | exact NB rfl | omega | (simp only [XL]; omega)) only [hneg, XW, undef_eq, Nat.reduceAdd, Nat.reduceSub, ↓reduceIte, basic, cellsL, resOf, setAt, below, belowB, belowA, atomB, Nat.reduceLeDiff, Nat.reduceMul, Int.reduceToNat, Int.reduceLT, Int.reduceLE, Int.reduceAdd, Int.reduceNeg, Int.reduceEq, splice, Nat.reduceEqDiff, Nat.reduceLT, isAtom, Int.reduceSub, Int.reduceMul, implies_true]
    refine loop_inv (fun n t N => ∃ (k : Nat), n = cs.length - k ∧ k ≤ cs.length ∧ N = M ∧
      Tab 60 [(0, .slice a cs.length cs.length), (1, str s), (6, .pointer (some ⟨M1.length, 0, none⟩)), (7, .int .i64 ((7 * (l.length + 2) : Nat) : Int)), (9, .int .i64 ((j + 2 : Nat) : Int)), (10, .bool (decide (q.cl ∈ cs.take k))), (11, .int .i64 (k : Int))] t) (n := cs.length) ?_ ?_
    · exact ⟨0, rfl, Nat.zero_le _, rfl, ⟨rfl, by simp; omega⟩⟩
    rintro N' t M' ⟨k, rfl, hk, rfl, ht⟩
    obtain ⟨f, rfl⟩ : ∃ f' : Nat → Value, t = [.slice a cs.length cs.length, str s, f' 2, f' 3, f' 4, f' 5, .pointer (some ⟨M1.length, 0, none⟩), .int .i64 ((7 * (l.length + 2) : Nat) : Int), f' 8, .int .i64 ((j + 2 : Nat) : Int), .bool (decide (q.cl ∈ cs.take k)), .int .i64 (k : Int), f' 12, f' 13, f' 14, f' 15, f' 16, f' 17, f' 18, f' 19, f' 20, f' 21, f' 22, f' 23, f' 24, f' 25, f' 26, f' 27, f' 28, f' 29, f' 30, f' 31, f' 32, f' 33, f' 34, f' 35, f' 36, f' 37, f' 38, f' 39, f' 40, f' 41, f' 42, f' 43, f' 44, f' 45, f' 46, f' 47, f' 48, f' 49, f' 50, f' 51, f' 52, f' 53, f' 54, f' 55, f' 56, f' 57, f' 58, f' 59] := ht.open fun f' => rfl
    by_cases hlt : k < cs.length
    · have hlt' : ((k : Int) < (cs.length : Int)) = True := by simp [hlt]
      have h0' : ((0 : Int) ≤ (k : Int)) = True := by simp
      have hwk : IntKind.i64.wrap ((k : Int) + 1) = ((k + 1 : Nat) : Int) := by rw [wrap_i64 (by omega) (by omega)]; omega
      obtain ⟨b, o, cc, T, fz, kd, rfl, hb, hkd, hlc, hrow⟩ := hform (by omega)
      obtain ⟨e, he⟩ : ∃ r, cs[k]? = some r := ⟨cs[k], List.getElem?_eq_getElem hlt⟩
      have hr : (cc.drop (o + k * 2)).take 2 = [str e.b, .int .i64 e.s] := hrow k e.row (by simp [he])
      have hlen : o + k * 2 + 2 ≤ cc.length := by omega
      have hbM := hfm.get0 hb
      have hbl := lt_of_some hbM
      have hsn := take_has (c := q.cl) he
      cases hm : decide (q.cl ∈ cs.take k) with
      | true =>
        rw [hm, Bool.true_or] at hsn
        simp (contextual := true) (implicitDefEqProofs := false) (maxSteps := 2000000) (disch := first | rfl | exact NB rfl | omega | (simp only [XL]; omega)) only [hb0, hlt', XW, undef_eq, Nat.reduceAdd, Nat.reduceSub, ↓reduceIte, basic, cellsL, resOf, setAt, below, belowB, belowA, atomB, Nat.reduceLeDiff, Nat.reduceMul, Int.reduceToNat, Int.reduceLT, Int.reduceLE, Int.reduceAdd, Int.reduceNeg, Int.reduceEq, splice, Nat.reduceEqDiff, Nat.reduceLT, isAtom, Int.reduceSub, Int.reduceMul, implies_true]
        exact kInv_go ⟨k + 1, rfl, by omega, rfl, ⟨rfl, by simp [hwk, hsn]⟩⟩ (by omega)
      | false =>
        rw [hm, Bool.false_or] at hsn
        have heq : eqN [(0, .string), (1, .int)] (cl e.b e.s) (cl q.b q.s) = some (q.cl.same e) := by
          have h1 := eqN_cl (c := e) (d := q.cl)
          have h2 : e.same q.cl = q.cl.same e := by
            rw [Bool.eq_iff_iff, Cl.same_iff, Cl.same_iff]; exact eq_comm
          rw [h2] at h1
          exact h1
        rw [← hsn] at heq
        simp (contextual := true) (implicitDefEqProofs := false) (maxSteps := 2000000) (disch := first | rfl | exact NB rfl | omega | (simp only [XL]; omega)) only [hb0, hlt', h0', hr, hbM, hbq, hltq, hgeq, hrq, cellsB_l hkd hlen, cellsB_l (k := .own) rfl hlenq, Int.toNat_natCast, heq, XW, undef_eq, Nat.reduceAdd, Nat.reduceSub, ↓reduceIte, basic, cellsL, resOf, setAt, below, belowB, belowA, atomB, Nat.reduceLeDiff, Nat.reduceMul, Int.reduceToNat, Int.reduceLT, Int.reduceLE, Int.reduceAdd, Int.reduceNeg, Int.reduceEq, splice, Nat.reduceEqDiff, Nat.reduceLT, isAtom, Int.reduceSub, Int.reduceMul, implies_true]
        exact kInv_go ⟨k + 1, rfl, by omega, rfl, ⟨rfl, by simp [hwk]⟩⟩ (by omega)
    · have hlt' : ((k : Int) < (cs.length : Int)) = False := by simp; omega
      have hkl : cs.take k = cs := List.take_of_length_le (by omega)
      rw [hkl]
      by_cases hm : q.cl ∈ cs
      · have hmd : decide (q.cl ∈ cs) = true := decide_eq_true hm
        rw [if_pos hm, hmd]
        simp (contextual := true) (implicitDefEqProofs := false) (maxSteps := 2000000) (disch := first | rfl | exact NB rfl | omega | (simp only [XL]; omega)) only [hb0, hlt', XW, undef_eq, Nat.reduceAdd, Nat.reduceSub, ↓reduceIte, basic, cellsL, resOf, setAt, below, belowB, belowA, atomB, Nat.reduceLeDiff, Nat.reduceMul, Int.reduceToNat, Int.reduceLT, Int.reduceLE, Int.reduceAdd, Int.reduceNeg, Int.reduceEq, splice, Nat.reduceEqDiff, Nat.reduceLT, isAtom, Int.reduceSub, Int.reduceMul, implies_true]
        refine (rsent_spec (l := l) (Sl.rdn hsM) hn1 hq hqk' hall').mono ?_
        rintro v M3 ⟨hf3, sv, G, rfl, hs3, hG⟩
        obtain ⟨ta, rfl, _⟩ := hs3.form
        have hc0 : ((0 : Int) ≤ ((7 * (l.length + 2) : Nat) : Int)) = True := eq_true (by omega)
        have hc1 : (((7 * (l.length + 2) : Nat) : Int) ≤ (s.length : Int)) = True := eq_true (by omega)
        have hcut : List.take (s.length - 7 * (l.length + 2)) (List.drop (7 * (l.length + 2)) s) = s.drop (7 * (l.length + 2)) := List.take_of_length_le (by rw [List.length_drop]; exact Nat.le_refl _)
        have hsl : (sentL l j q).length = l.length := by unfold sentL; simp
        have hsok : ∀ e ∈ x :: y :: sentL l j q, e.ok = true := fun e he => by
          simp only [List.mem_cons] at he
          rcases he with rfl | rfl | he
          · exact hok _ (by simp)
          · exact hok _ (by simp)
          · rcases List.mem_or_eq_of_mem_set he with h | h
            · exact hok e (by simp [h])
            · rw [h]; exact hok q (by have := List.mem_of_getElem? hq; simp [this])
        have hadd := bin_ladd (a := putE (x :: y :: sentL l j q)) (b := s.drop (7 * (l.length + 2))) (by rw [putE_len, List.length_drop]; simp only [List.length_cons, hsl]; omega)
        simp (contextual := true) (implicitDefEqProofs := false) (maxSteps := 2000000) (disch := first | rfl | exact NB rfl | omega | (simp only [XL]; omega)) only [bin_ladd, str_cut, str_app, str_eq, string_mk_size, string_mk, hc0, hc1, hcut, Int.toNat_natCast, XW, undef_eq, Nat.reduceAdd, Nat.reduceSub, ↓reduceIte, basic, cellsL, resOf, setAt, below, belowB, belowA, atomB, Nat.reduceLeDiff, Nat.reduceMul, Int.reduceToNat, Int.reduceLT, Int.reduceLE, Int.reduceAdd, Int.reduceNeg, Int.reduceEq, splice, Nat.reduceEqDiff, Nat.reduceLT, isAtom, Int.reduceSub, Int.reduceMul, implies_true]
        refine (refputP_spec (L := x :: y :: sentL l j q) (Sl.rd (hs3.frm0 Frm.refl.app)) (by simp [hsl]; omega) hsok).use ?_
        simp (contextual := true) (implicitDefEqProofs := false) (maxSteps := 2000000) (disch := first | rfl | exact NB rfl | omega | (simp only [XL]; omega)) only [hadd, bin_ladd, str_cut, str_app, str_eq, string_mk_size, string_mk, hc0, hc1, hcut, Int.toNat_natCast, XW, undef_eq, Nat.reduceAdd, Nat.reduceSub, ↓reduceIte, basic, cellsL, resOf, setAt, below, belowB, belowA, atomB, Nat.reduceLeDiff, Nat.reduceMul, Int.reduceToNat, Int.reduceLT, Int.reduceLE, Int.reduceAdd, Int.reduceNeg, Int.reduceEq, splice, Nat.reduceEqDiff, Nat.reduceLT, isAtom, Int.reduceSub, Int.reduceMul, implies_true]
        exact (hfm.nil_trans hf3).app.ext0
      · have hmd : decide (q.cl ∈ cs) = false := decide_eq_false hm
        rw [if_neg hm, hmd]
        simp (contextual := true) (implicitDefEqProofs := false) (maxSteps := 2000000) (disch := first | rfl | exact NB rfl | omega | (simp only [XL]; omega)) only [hb0, hlt', XW, undef_eq, Nat.reduceAdd, Nat.reduceSub, ↓reduceIte, basic, cellsL, resOf, setAt, below, belowB, belowA, atomB, Nat.reduceLeDiff, Nat.reduceMul, Int.reduceToNat, Int.reduceLT, Int.reduceLE, Int.reduceAdd, Int.reduceNeg, Int.reduceEq, splice, Nat.reduceEqDiff, Nat.reduceLT, isAtom, Int.reduceSub, Int.reduceMul, implies_true]
        exact hfm.ext0
end Go.Proofs.YtadkdihbbngbfaaDoor
/- What a digipeater sends on: walked. -/
namespace Go.Proofs.YtadkdihbbngbfaaDoor
open Go.Lg
set_option maxRecDepth 8000
set_option maxHeartbeats 8000000
theorem on_nil (s : List UInt8) (m : Mem) : Ret Tryd.prog 13 [.pointer none, str s] m (.tuple #[str [], .bool false]) m := by
  refine LCall_drop (LCall_enter Tryd.func13 c13 ?_)
  simp (contextual := true) (implicitDefEqProofs := false) (maxSteps := 2000000) (disch := first | rfl | exact NB rfl | omega | (simp only [XL]; omega)) only [L13, XW, undef_eq, Nat.reduceAdd, Nat.reduceSub, ↓reduceIte, basic, cellsL, resOf, setAt, below, belowB, belowA, atomB, Nat.reduceLeDiff, Nat.reduceMul, Int.reduceToNat, Int.reduceLT, Int.reduceLE, Int.reduceAdd, Int.reduceNeg, Int.reduceEq, splice, Nat.reduceEqDiff, Nat.reduceLT, isAtom, Int.reduceSub, Int.reduceMul, implies_true]
def cnt (h k : Nat) (x : Nat) : Int := ((if h = k then x + 1 else x : Nat) : Int)
theorem onL_how {cs : List Cl} {s : List UInt8} {L : List En} : (onL cs s L).2 = 0 ∨ (onL cs s L).2 = 1 := by
  unfold onL
  split
  · exact .inr rfl
  · split
    · exact .inr rfl
    · split
      · exact .inl rfl
      · exact .inr rfl
theorem on_spec {cs : List Cl} {s : List UInt8} {sv : Value} {x y z : Nat} {di : Nat} {m : Mem} (hd : m[di]? = some (dgB sv x y z)) (h : Rd m 2 sv (cs.map Cl.row)) (hn : cs.length ≤ 1000000) (hl : s.length ≤ 100000)
    (hx : x ≤ 1000000 ∧ y ≤ 1000000 ∧ z ≤ 1000000) :
    LCall Tryd.prog 13 [.pointer (some ⟨di, 0, none⟩), str s] m fun u M => Frm [di] m M ∧ u = .tuple #[str (onF cs s).1, .bool (decide ((onF cs s).2 = 0))] ∧ M[di]? = some (dgB sv (cnt (onF cs s).2 0 x) (cnt (onF cs s).2 1 y) (cnt (onF cs s).2 2 z)) := by
  have hd' : m[di]? = some ⟨[sv, .int .i64 x, .int .i64 y, .int .i64 z], 74, 1, 0, .own⟩ := hd
  have l0 := lt_of_some hd
  have w1 : ∀ n : Nat, n ≤ 1000000 → IntKind.i64.wrap ((n : Int) + 1) = ((n + 1 : Nat) : Int) := fun n h => by rw [wrap_i64 (by omega) (by omega)]; omega
  have wx := w1 x hx.1
  have wy := w1 y hx.2.1
  have wz := w1 z hx.2.2
  refine LCall_enter Tryd.func13 c13 ?_
  simp (contextual := true) (implicitDefEqProofs := false) (maxSteps := 2000000) (disch := first | rfl | exact NB rfl | omega | (simp only [XL]; omega)) only [L13, XW, undef_eq, Nat.reduceAdd, Nat.reduceSub, ↓reduceIte, basic, cellsL, resOf, setAt, below, belowB, belowA, atomB, Nat.reduceLeDiff, Nat.reduceMul, Int.reduceToNat, Int.reduceLT, Int.reduceLE, Int.reduceAdd, Int.reduceNeg, Int.reduceEq, splice, Nat.reduceEqDiff, Nat.reduceLT, isAtom, Int.reduceSub, Int.reduceMul, implies_true]
  refine (decodes_spec s hl _).use ?_
  cases hdc : decB s with
  | false =>
    have e : onF cs s = ([], 2) := by rw [onF, if_neg (by rw [hdc]; decide)]
    rw [e]
    simp (contextual := true) (implicitDefEqProofs := false) (maxSteps := 2000000) (disch := first | rfl | exact NB rfl | omega | (simp only [XL]; omega)) only [hd', wz, XW, undef_eq, Nat.reduceAdd, Nat.reduceSub, ↓reduceIte, basic, cellsL, resOf, setAt, below, belowB, belowA, atomB, Nat.reduceLeDiff, Nat.reduceMul, Int.reduceToNat, Int.reduceLT, Int.reduceLE, Int.reduceAdd, Int.reduceNeg, Int.reduceEq, splice, Nat.reduceEqDiff, Nat.reduceLT, isAtom, Int.reduceSub, Int.reduceMul, implies_true]
    exact ⟨Frm.refl.set (.inl (by simp)), by simp [dgB, cnt]⟩
  | true =>
    obtain ⟨hg, px, py, l, hL, hl8, hls, hok, hord⟩ := dec_path hdc
    have e : onF cs s = onL cs s (px :: py :: l) := by rw [onF, if_pos hdc, hL]
    rw [e]
    simp (contextual := true) (implicitDefEqProofs := false) (maxSteps := 2000000) (disch := first | rfl | exact NB rfl | omega | (simp only [XL]; omega)) only [XW, undef_eq, Nat.reduceAdd, Nat.reduceSub, ↓reduceIte, basic, cellsL, resOf, setAt, below, belowB, belowA, atomB, Nat.reduceLeDiff, Nat.reduceMul, Int.reduceToNat, Int.reduceLT, Int.reduceLE, Int.reduceAdd, Int.reduceNeg, Int.reduceEq, splice, Nat.reduceEqDiff, Nat.reduceLT, isAtom, Int.reduceSub, Int.reduceMul, implies_true]
    refine (getP_spec s hl _).mono ?_
    rintro v M1 ⟨hf1, hv⟩
    rw [if_pos hg] at hv
    obtain ⟨px', py', l', pv, F, hL', rfl, hs, hF⟩ := hv
    rw [hL] at hL'
    obtain ⟨rfl, rfl, rfl⟩ : px = px' ∧ py = py' ∧ l = l' := by simpa using hL'
    rw [hL]
    simp only [List.length_cons]
    have hs0 := hs
    obtain ⟨sa, rfl, _⟩ := hs.form
    simp (contextual := true) (implicitDefEqProofs := false) (maxSteps := 2000000) (disch := first | rfl | exact NB rfl | omega | (simp only [XL]; omega)) only [XW, undef_eq, Nat.reduceAdd, Nat.reduceSub, ↓reduceIte, basic, cellsL, resOf, setAt, below, belowB, belowA, atomB, Nat.reduceLeDiff, Nat.reduceMul, Int.reduceToNat, Int.reduceLT, Int.reduceLE, Int.reduceAdd, Int.reduceNeg, Int.reduceEq, splice, Nat.reduceEqDiff, Nat.reduceLT, isAtom, Int.reduceSub, Int.reduceMul, implies_true]
    obtain ⟨M, hM, hMl, hf2, hb0⟩ : ∃ N, M1 ++ [⟨[str px.b, .int .i64 px.s, str py.b, .int .i64 py.s, .bool px.k, .bool py.k, .slice sa (l.map En.row).length (l.map En.row).length], 55, 1, 0, .own⟩] = N ∧ N.length = M1.length + 1 ∧ Frm [] M1 N ∧ N[M1.length]? = some ⟨[str px.b, .int .i64 px.s, str py.b, .int .i64 py.s, .bool px.k, .bool py.k, .slice sa (l.map En.row).length (l.map En.row).length], 55, 1, 0, .own⟩ := ⟨_, rfl, by simp, Frm.refl.app, by simp⟩
    rw [hM]
    have hsM := hs.frm0 hf2
    have hfm : Frm [] m M := hf1.nil_trans hf2
    have hn1 : l.length ≤ 1000000 := by omega
    have hdM := hfm.get0 hd'
    have hlm := hfm.len
    rcases idx_cases (p := fun e => !e.k) (l := l) (i := 0) with ⟨hxi, hall⟩ | ⟨j, q, hq, hqk, hxi, hall⟩
    · rw [onL_none hxi]
      refine (pnone_spec (Sl.rd hsM) hn1 hxi).use ?_
      have l1 := lt_of_some hdM
      simp (contextual := true) (implicitDefEqProofs := false) (maxSteps := 2000000) (disch := first | rfl | exact NB rfl | omega | (simp only [XL]; omega)) only [hdM, wy, XW, undef_eq, Nat.reduceAdd, Nat.reduceSub, ↓reduceIte, basic, cellsL, resOf, setAt, below, belowB, belowA, atomB, Nat.reduceLeDiff, Nat.reduceMul, Int.reduceToNat, Int.reduceLT, Int.reduceLE, Int.reduceAdd, Int.reduceNeg, Int.reduceEq, splice, Nat.reduceEqDiff, Nat.reduceLT, isAtom, Int.reduceSub, Int.reduceMul, implies_true]
      exact ⟨((Frm.of_nil (F := [di]) hfm).set (.inl (by simp))).app, rfl⟩
    have hx' : nx l = (j : Int) := by unfold nx; rw [hxi]; simp
    have hqk' : q.k = false := by simpa using hqk
    have hall' : ∀ j' e', j' < j → l[j']? = some e' → e'.k = true := fun j' e' h1 h2 => by simpa using hall j' e' h1 h2
    have hjl : j < l.length := (List.getElem?_eq_some_iff.mp hq).1
    rw [onL_some hx' hq]
    refine (psome_spec (Sl.rd hsM) hn1 hx' hq).use ?_
    have l1 := lt_of_some hdM
    simp (contextual := true) (implicitDefEqProofs := false) (maxSteps := 2000000) (disch := first | rfl | exact NB rfl | omega | (simp only [XL]; omega)) only [XW, undef_eq, Nat.reduceAdd, Nat.reduceSub, ↓reduceIte, basic, cellsL, resOf, setAt, below, belowB, belowA, atomB, Nat.reduceLeDiff, Nat.reduceMul, Int.reduceToNat, Int.reduceLT, Int.reduceLE, Int.reduceAdd, Int.reduceNeg, Int.reduceEq, splice, Nat.reduceEqDiff, Nat.reduceLT, isAtom, Int.reduceSub, Int.reduceMul, implies_true]
    obtain ⟨N, hN, hNl, hf3, hb1⟩ : ∃ N, M ++ [⟨[str q.b, .int .i64 q.s], 32, 1, 0, .own⟩] = N ∧ N.length = M.length + 1 ∧ Frm [] M N ∧ N[M.length]? = some ⟨[str q.b, .int .i64 q.s], 32, 1, 0, .own⟩ := ⟨_, rfl, by simp, Frm.refl.app, by simp⟩
    rw [hN]
    have hfN : Frm [] m N := hfm.nil_trans hf3
    have hdN := hfN.get0 hd
    have hdN' := hf3.get0 hdM
    have hb0N := hf3.get0 hb0
    have l2 := lt_of_some hdN
    have hsN := hsM.frm0 hf3
    refine (mine_spec (c := q.cl) hdN (h.frm0 hfN) hn).use ?_
    by_cases hm : q.cl ∈ cs
    · have hmd : decide (q.cl ∈ cs) = true := decide_eq_true hm
      rw [if_pos hm, hmd]
      have l3 := lt_of_some hb0N
      simp (contextual := true) (implicitDefEqProofs := false) (maxSteps := 2000000) (disch := first | rfl | exact NB rfl | omega | (simp only [XL]; omega)) only [hb0N, XW, undef_eq, Nat.reduceAdd, Nat.reduceSub, ↓reduceIte, basic, cellsL, resOf, setAt, below, belowB, belowA, atomB, Nat.reduceLeDiff, Nat.reduceMul, Int.reduceToNat, Int.reduceLT, Int.reduceLE, Int.reduceAdd, Int.reduceNeg, Int.reduceEq, splice, Nat.reduceEqDiff, Nat.reduceLT, isAtom, Int.reduceSub, Int.reduceMul, implies_true]
      refine (sent_spec (Sl.rdn hsN) hn1 hx' hq).mono ?_
      rintro v M3 ⟨hf4, tv, G, rfl, hs3, hG⟩
      have hf5 : Frm [] m M3 := hfN.nil_trans hf4
      have hd3 := hf4.get0 hdN'
      have hb3 := hf4.get0 hb0N
      have l4 := lt_of_some hd3
      have l5 := lt_of_some hb3
      have hne : M1.length ≠ di := by have := hf1.len; omega
      obtain ⟨ta, rfl, _⟩ := hs3.form
      simp (contextual := true) (implicitDefEqProofs := false) (maxSteps := 2000000) (disch := first | rfl | exact NB rfl | omega | (simp only [XL]; omega)) only [hb3, XW, undef_eq, Nat.reduceAdd, Nat.reduceSub, ↓reduceIte, basic, cellsL, resOf, setAt, below, belowB, belowA, atomB, Nat.reduceLeDiff, Nat.reduceMul, Int.reduceToNat, Int.reduceLT, Int.reduceLE, Int.reduceAdd, Int.reduceNeg, Int.reduceEq, splice, Nat.reduceEqDiff, Nat.reduceLT, isAtom, Int.reduceSub, Int.reduceMul, implies_true]
      have hrp : rightP px.b px.s py.b py.s (sentL l j q) = true := by
        refine sent_right hq hall ?_
        rw [rightP_all, List.all_eq_true.2 hok, hord]
        simpa using hl8
      have hsl : (sentL l j q).length = l.length := by unfold sentL; simp
      have hc0 : ((0 : Int) ≤ ((7 * (l.length + 1 + 1) : Nat) : Int)) = True := eq_true (by omega)
      have hc1 : (((7 * (l.length + 1 + 1) : Nat) : Int) ≤ (s.length : Int)) = True := eq_true (by omega)
      have hcut : List.take (s.length - 7 * (l.length + 1 + 1)) (List.drop (7 * (l.length + 1 + 1)) s) = s.drop (7 * (l.length + 1 + 1)) := List.take_of_length_le (by rw [List.length_drop]; exact Nat.le_refl _)
      have hadd := bin_ladd (a := putE (px :: py :: sentL l j q)) (b := s.drop (7 * (l.length + 1 + 1))) (by rw [putE_len, List.length_drop]; simp only [List.length_cons, hsl]; omega)
      have hGn : M1.length ∉ G := fun hx => by have := hG _ hx; omega
      refine (putP_spec (tm := px.k) (fm := py.k) (Sl.rdn (hs3.setb hGn)) hrp).use ?_
      simp (contextual := true) (implicitDefEqProofs := false) (maxSteps := 2000000) (disch := first | rfl | exact NB rfl | omega | (simp only [XL]; omega)) only [hb3, hd3, hne, wx, hadd, bin_ladd, str_cut, str_app, str_eq, string_mk_size, string_mk, hc0, hc1, hcut, Int.toNat_natCast, XW, undef_eq, Nat.reduceAdd, Nat.reduceSub, ↓reduceIte, basic, cellsL, resOf, setAt, below, belowB, belowA, atomB, Nat.reduceLeDiff, Nat.reduceMul, Int.reduceToNat, Int.reduceLT, Int.reduceLE, Int.reduceAdd, Int.reduceNeg, Int.reduceEq, splice, Nat.reduceEqDiff, Nat.reduceLT, isAtom, Int.reduceSub, Int.reduceMul, implies_true]
      exact ⟨((Frm.of_nil (F := [di]) hf5).set (i := M1.length) (.inr hf1.len)).set (.inl (by simp)), rfl⟩
    · have hmd : decide (q.cl ∈ cs) = false := decide_eq_false hm
      rw [if_neg hm, hmd]
      simp (contextual := true) (implicitDefEqProofs := false) (maxSteps := 2000000) (disch := first | rfl | exact NB rfl | omega | (simp only [XL]; omega)) only [hdN', wy, XW, undef_eq, Nat.reduceAdd, Nat.reduceSub, ↓reduceIte, basic, cellsL, resOf, setAt, below, belowB, belowA, atomB, Nat.reduceLeDiff, Nat.reduceMul, Int.reduceToNat, Int.reduceLT, Int.reduceLE, Int.reduceAdd, Int.reduceNeg, Int.reduceEq, splice, Nat.reduceEqDiff, Nat.reduceLT, isAtom, Int.reduceSub, Int.reduceMul, implies_true]
      exact ⟨(Frm.of_nil (F := [di]) hfN).set (.inl (by simp)), by simp [dgB, cnt, l2]⟩
end Go.Proofs.YtadkdihbbngbfaaDoor
/- Whether a frame is for somebody, here and now: walked. -/
namespace Go.Proofs.YtadkdihbbngbfaaDoor
open Go.Lg
set_option maxRecDepth 8000
set_option maxHeartbeats 8000000
def forL (c : Cl) : List En → Bool
  | x :: _ :: l => x.cl.same c && decide (nx l = -1)
  | _ => false
def forB (c : Cl) (s : List UInt8) : Bool := decB s && forL c (getP s 11 []).2
theorem eqN_en {e : En} {c : Cl} : eqN [(0, .string), (1, .int)] (cl e.b e.s) (cl c.b c.s) = some (e.cl.same c) := eqN_cl (c := e.cl) (d := c)
theorem rfor_spec (c : Cl) (s : List UInt8) (hl : s.length ≤ 100000) (m : Mem) : Ret Tryd.prog 17 [cl c.b c.s, str s] m (.bool (forB c s)) m := by
  refine LCall_drop (LCall_enter Tryd.func17 c17 ?_)
  simp (contextual := true) (implicitDefEqProofs := false) (maxSteps := 2000000) (disch := first | rfl | exact NB rfl | omega | (simp only [XL]; omega)) only [L17, XW, undef_eq, Nat.reduceAdd, Nat.reduceSub, ↓reduceIte, basic, cellsL, resOf, setAt, below, belowB, belowA, atomB, Nat.reduceLeDiff, Nat.reduceMul, Int.reduceToNat, Int.reduceLT, Int.reduceLE, Int.reduceAdd, Int.reduceNeg, Int.reduceEq, splice, Nat.reduceEqDiff, Nat.reduceLT, isAtom, Int.reduceSub, Int.reduceMul, implies_true]
  refine (rdecodes_spec s hl _).use ?_
  cases hd : decB s with
  | false =>
    have e : forB c s = false := by rw [forB, hd]; rfl
    rw [e]
    simp (contextual := true) (implicitDefEqProofs := false) (maxSteps := 2000000) (disch := first | rfl | exact NB rfl | omega | (simp only [XL]; omega)) only [XW, undef_eq, Nat.reduceAdd, Nat.reduceSub, ↓reduceIte, basic, cellsL, resOf, setAt, below, belowB, belowA, atomB, Nat.reduceLeDiff, Nat.reduceMul, Int.reduceToNat, Int.reduceLT, Int.reduceLE, Int.reduceAdd, Int.reduceNeg, Int.reduceEq, splice, Nat.reduceEqDiff, Nat.reduceLT, isAtom, Int.reduceSub, Int.reduceMul, implies_true]
  | true =>
    obtain ⟨hg, x, y, l, hL, hl8, hls, hok, hord⟩ := dec_path hd
    have e : forB c s = (x.cl.same c && decide (nx l = -1)) := by rw [forB, hd, hL]; rfl
    rw [e]
    simp (contextual := true) (implicitDefEqProofs := false) (maxSteps := 2000000) (disch := first | rfl | exact NB rfl | omega | (simp only [XL]; omega)) only [XW, undef_eq, Nat.reduceAdd, Nat.reduceSub, ↓reduceIte, basic, cellsL, resOf, setAt, below, belowB, belowA, atomB, Nat.reduceLeDiff, Nat.reduceMul, Int.reduceToNat, Int.reduceLT, Int.reduceLE, Int.reduceAdd, Int.reduceNeg, Int.reduceEq, splice, Nat.reduceEqDiff, Nat.reduceLT, isAtom, Int.reduceSub, Int.reduceMul, implies_true]
    obtain ⟨M0, hM0, hf0, hbc⟩ : ∃ N, m ++ [⟨[str c.b, .int .i64 c.s], 32, 1, 0, .own⟩] = N ∧ Frm [] m N ∧ N[m.length]? = some ⟨[str c.b, .int .i64 c.s], 32, 1, 0, .own⟩ := ⟨_, rfl, Frm.refl.app, by simp⟩
    rw [hM0]
    refine (rgetP_spec s hl _).mono ?_
    rintro v M1 ⟨hf1, hv⟩
    rw [if_pos hg, hL] at hv
    obtain ⟨sv, F, rfl, hs, hF⟩ := hv
    obtain ⟨sa, rfl, hform2⟩ := hs.form
    simp only [List.length_cons, List.length_map] at hs hform2
    simp only [List.length_cons, List.length_map]
    obtain ⟨b2, o2, cc2, rfl, rfl, hb2, hlb2, _, hrow2⟩ := hform2 (by omega)
    simp (contextual := true) (implicitDefEqProofs := false) (maxSteps := 2000000) (disch := first | rfl | exact NB rfl | omega | (simp only [XL]; omega)) only [XW, undef_eq, Nat.reduceAdd, Nat.reduceSub, ↓reduceIte, basic, cellsL, resOf, setAt, below, belowB, belowA, atomB, Nat.reduceLeDiff, Nat.reduceMul, Int.reduceToNat, Int.reduceLT, Int.reduceLE, Int.reduceAdd, Int.reduceNeg, Int.reduceEq, splice, Nat.reduceEqDiff, Nat.reduceLT, isAtom, Int.reduceSub, Int.reduceMul, implies_true]
    obtain ⟨M, hM, hMl, hf2, hb0⟩ : ∃ N, M1 ++ [⟨[.slice (some ⟨b2, o2, none⟩) (l.length + 1 + 1) (l.length + 1 + 1)], 28, 1, 0, .own⟩] = N ∧ N.length = M1.length + 1 ∧ Frm [] M1 N ∧ N[M1.length]? = some ⟨[.slice (some ⟨b2, o2, none⟩) (l.length + 1 + 1) (l.length + 1 + 1)], 28, 1, 0, .own⟩ := ⟨_, rfl, by simp, Frm.refl.app, by simp⟩
    rw [hM]
    have hsM := hs.frm0 hf2
    have hfm : Frm [] m M := (hf0.nil_trans hf1).nil_trans hf2
    have hbcM := (hf1.nil_trans hf2).get0 hbc
    have hb2M := hf2.get0 hb2
    have hn1 : l.length ≤ 1000000 := by omega
    have l0 := lt_of_some hb0
    have l1 := lt_of_some hbcM
    have hr0 : (cc2.drop o2).take 2 = [str x.b, .int .i64 x.s] := by
      have h0 := hrow2 0 x.row (by simp)
      rw [Nat.zero_mul, Nat.add_zero] at h0
      have := congrArg (List.take 2) h0
      rwa [List.take_take] at this
    have hlen0 : o2 + 2 ≤ cc2.length := by omega
    have hlt0 : ((0 : Int) < ((l.length + 1 + 1 : Nat) : Int)) = True := eq_true (by omega)
    cases hsm : x.cl.same c with
    | false =>
      simp (contextual := true) (implicitDefEqProofs := false) (maxSteps := 2000000) (disch := first | rfl | exact NB rfl | omega | (simp only [XL]; omega)) only [hb0, hbcM, hb2M, hr0, hlt0, cellsB_l (k := .own) rfl hlen0, eqN_en, hsm, XW, undef_eq, Nat.reduceAdd, Nat.reduceSub, ↓reduceIte, basic, cellsL, resOf, setAt, below, belowB, belowA, atomB, Nat.reduceLeDiff, Nat.reduceMul, Int.reduceToNat, Int.reduceLT, Int.reduceLE, Int.reduceAdd, Int.reduceNeg, Int.reduceEq, splice, Nat.reduceEqDiff, Nat.reduceLT, isAtom, Int.reduceSub, Int.reduceMul, implies_true]
      exact ⟨hfm.ext0, rfl⟩
    | true =>
      simp (contextual := true) (implicitDefEqProofs := false) (maxSteps := 2000000) (disch := first | rfl | exact NB rfl | omega | (simp only [XL]; omega)) only [hb0, hbcM, hb2M, hr0, hlt0, cellsB_l (k := .own) rfl hlen0, eqN_en, hsm, XW, undef_eq, Nat.reduceAdd, Nat.reduceSub, ↓reduceIte, basic, cellsL, resOf, setAt, below, belowB, belowA, atomB, Nat.reduceLeDiff, Nat.reduceMul, Int.reduceToNat, Int.reduceLT, Int.reduceLE, Int.reduceAdd, Int.reduceNeg, Int.reduceEq, splice, Nat.reduceEqDiff, Nat.reduceLT, isAtom, Int.reduceSub, Int.reduceMul, implies_true]
      rcases idx_cases (p := fun e => !e.k) (l := l) (i := 0) with ⟨hx, hall⟩ | ⟨j, q, hq, hqk, hx, hall⟩
      · have hx' : nx l = -1 := hx
        refine (rnone_spec (l := l) (Sl.rd hsM) hn1 fun e he => by simpa using hall e he).use ?_
        rw [hx']
        simp (contextual := true) (implicitDefEqProofs := false) (maxSteps := 2000000) (disch := first | rfl | exact NB rfl | omega | (simp only [XL]; omega)) only [XW, undef_eq, Nat.reduceAdd, Nat.reduceSub, ↓reduceIte, basic, cellsL, resOf, setAt, below, belowB, belowA, atomB, Nat.reduceLeDiff, Nat.reduceMul, Int.reduceToNat, Int.reduceLT, Int.reduceLE, Int.reduceAdd, Int.reduceNeg, Int.reduceEq, splice, Nat.reduceEqDiff, Nat.reduceLT, isAtom, Int.reduceSub, Int.reduceMul, implies_true]
        exact hfm.ext0
      · have hx' : nx l = (j : Int) := by unfold nx; rw [hx]; simp
        refine (rnext_spec (l := l) (Sl.rd hsM) hn1 hq (by simpa using hqk) fun j' e' h1 h2 => by simpa using hall j' e' h1 h2).use ?_
        have hneg : (((j + 2 : Nat) : Int) < 0) = False := eq_false (by omega)
        have hd1 : decide (nx l = -1) = false := decide_eq_false (by rw [hx']; omega)
        rw [hd1]
        simp (contextual := true) (implicitDefEqProofs := false) (maxSteps := 2000000) (disch := first | rfl | exact NB rfl | omega | (simp only [XL]; omega)) only [hneg, XW, undef_eq, Nat.reduceAdd, Nat.reduceSub, ↓reduceIte, basic, cellsL, resOf, setAt, below, belowB, belowA, atomB, Nat.reduceLeDiff, Nat.reduceMul, Int.reduceToNat, Int.reduceLT, Int.reduceLE, Int.reduceAdd, Int.reduceNeg, Int.reduceEq, splice, Nat.reduceEqDiff, Nat.reduceLT, isAtom, Int.reduceSub, Int.reduceMul, implies_true]
        exact ⟨hfm.ext0, rfl⟩
theorem for_spec (c : Cl) (s : List UInt8) (hl : s.length ≤ 100000) (m : Mem) : Ret Tryd.prog 12 [cl c.b c.s, str s] m (.bool (forB c s)) m := by
  refine LCall_drop (LCall_enter Tryd.func12 c12 ?_)
  simp (contextual := true) (implicitDefEqProofs := false) (maxSteps := 2000000) (disch := first | rfl | exact NB rfl | omega | (simp only [XL]; omega)) only [L12, XW, undef_eq, Nat.reduceAdd, Nat.reduceSub, ↓reduceIte, basic, cellsL, resOf, setAt, below, belowB, belowA, atomB, Nat.reduceLeDiff, Nat.reduceMul, Int.reduceToNat, Int.reduceLT, Int.reduceLE, Int.reduceAdd, Int.reduceNeg, Int.reduceEq, splice, Nat.reduceEqDiff, Nat.reduceLT, isAtom, Int.reduceSub, Int.reduceMul, implies_true]
  obtain ⟨M0, hM0, hf0, hbc⟩ : ∃ N, m ++ [⟨[str c.b, .int .i64 c.s], 32, 1, 0, .own⟩] = N ∧ Frm [] m N ∧ N[m.length]? = some ⟨[str c.b, .int .i64 c.s], 32, 1, 0, .own⟩ := ⟨_, rfl, Frm.refl.app, by simp⟩
  rw [hM0]
  refine (getP_spec s hl _).mono ?_
  rintro v M1 ⟨hf1, hv⟩
  by_cases hg : (getP s 11 []).1 = 0
  · rw [if_pos hg] at hv
    obtain ⟨px, py, l, pv, F, hL, rfl, hs, hF⟩ := hv
    obtain ⟨sa, rfl, _⟩ := hs.form
    have hsh := getP_shape (s := s) (n := 11) (L := []) rfl (by simp) hg
    rw [hL] at hsh
    have hn1 : l.length ≤ 1000000 := by have := hsh.2.1; simp at this; omega
    have e : forB c s = (decB s && (px.cl.same c && decide (nx l = -1))) := by rw [forB, hL]; rfl
    rw [e, hL]
    simp (contextual := true) (implicitDefEqProofs := false) (maxSteps := 2000000) (disch := first | rfl | exact NB rfl | omega | (simp only [XL]; omega)) only [XW, undef_eq, Nat.reduceAdd, Nat.reduceSub, ↓reduceIte, basic, cellsL, resOf, setAt, below, belowB, belowA, atomB, Nat.reduceLeDiff, Nat.reduceMul, Int.reduceToNat, Int.reduceLT, Int.reduceLE, Int.reduceAdd, Int.reduceNeg, Int.reduceEq, splice, Nat.reduceEqDiff, Nat.reduceLT, isAtom, Int.reduceSub, Int.reduceMul, implies_true]
    obtain ⟨M, hM, hMl, hf2, hb0⟩ : ∃ N, M1 ++ [⟨[str px.b, .int .i64 px.s, str py.b, .int .i64 py.s, .bool px.k, .bool py.k, .slice sa (l.map En.row).length (l.map En.row).length], 55, 1, 0, .own⟩] = N ∧ N.length = M1.length + 1 ∧ Frm [] M1 N ∧ N[M1.length]? = some ⟨[str px.b, .int .i64 px.s, str py.b, .int .i64 py.s, .bool px.k, .bool py.k, .slice sa (l.map En.row).length (l.map En.row).length], 55, 1, 0, .own⟩ := ⟨_, rfl, by simp, Frm.refl.app, by simp⟩
    rw [hM]
    have hsM := hs.frm0 hf2
    have hfm : Frm [] m M := (hf0.nil_trans hf1).nil_trans hf2
    have hbcM := (hf1.nil_trans hf2).get0 hbc
    have l0 := lt_of_some hb0
    have l1 := lt_of_some hbcM
    cases hsm : px.cl.same c with
    | false =>
      simp (contextual := true) (implicitDefEqProofs := false) (maxSteps := 2000000) (disch := first | rfl | exact NB rfl | omega | (simp only [XL]; omega)) only [hb0, hbcM, eqN_en, hsm, XW, undef_eq, Nat.reduceAdd, Nat.reduceSub, ↓reduceIte, basic, cellsL, resOf, setAt, below, belowB, belowA, atomB, Nat.reduceLeDiff, Nat.reduceMul, Int.reduceToNat, Int.reduceLT, Int.reduceLE, Int.reduceAdd, Int.reduceNeg, Int.reduceEq, splice, Nat.reduceEqDiff, Nat.reduceLT, isAtom, Int.reduceSub, Int.reduceMul, implies_true]
      exact ⟨hfm.ext0, by simp⟩
    | true =>
      simp (contextual := true) (implicitDefEqProofs := false) (maxSteps := 2000000) (disch := first | rfl | exact NB rfl | omega | (simp only [XL]; omega)) only [hb0, hbcM, eqN_en, hsm, XW, undef_eq, Nat.reduceAdd, Nat.reduceSub, ↓reduceIte, basic, cellsL, resOf, setAt, below, belowB, belowA, atomB, Nat.reduceLeDiff, Nat.reduceMul, Int.reduceToNat, Int.reduceLT, Int.reduceLE, Int.reduceAdd, Int.reduceNeg, Int.reduceEq, splice, Nat.reduceEqDiff, Nat.reduceLT, isAtom, Int.reduceSub, Int.reduceMul, implies_true]
      rcases idx_cases (p := fun e => !e.k) (l := l) (i := 0) with ⟨hx, hall⟩ | ⟨j, q, hq, hqk, hx, hall⟩
      · have hx' : nx l = -1 := hx
        refine (pnone_spec (Sl.rd hsM) hn1 hx').use ?_
        rw [hx']
        simp (contextual := true) (implicitDefEqProofs := false) (maxSteps := 2000000) (disch := first | rfl | exact NB rfl | omega | (simp only [XL]; omega)) only [XW, undef_eq, Nat.reduceAdd, Nat.reduceSub, ↓reduceIte, basic, cellsL, resOf, setAt, below, belowB, belowA, atomB, Nat.reduceLeDiff, Nat.reduceMul, Int.reduceToNat, Int.reduceLT, Int.reduceLE, Int.reduceAdd, Int.reduceNeg, Int.reduceEq, splice, Nat.reduceEqDiff, Nat.reduceLT, isAtom, Int.reduceSub, Int.reduceMul, implies_true]
        refine (decodes_spec s hl _).use ?_
        simp (contextual := true) (implicitDefEqProofs := false) (maxSteps := 2000000) (disch := first | rfl | exact NB rfl | omega | (simp only [XL]; omega)) only [Bool.and_true, Bool.true_and, XW, undef_eq, Nat.reduceAdd, Nat.reduceSub, ↓reduceIte, basic, cellsL, resOf, setAt, below, belowB, belowA, atomB, Nat.reduceLeDiff, Nat.reduceMul, Int.reduceToNat, Int.reduceLT, Int.reduceLE, Int.reduceAdd, Int.reduceNeg, Int.reduceEq, splice, Nat.reduceEqDiff, Nat.reduceLT, isAtom, Int.reduceSub, Int.reduceMul, implies_true]
        exact hfm.app.ext0
      · have hx' : nx l = (j : Int) := by unfold nx; rw [hx]; simp
        refine (psome_spec (Sl.rd hsM) hn1 hx' hq).use ?_
        have hd1 : decide (nx l = -1) = false := decide_eq_false (by rw [hx']; omega)
        rw [hd1]
        simp (contextual := true) (implicitDefEqProofs := false) (maxSteps := 2000000) (disch := first | rfl | exact NB rfl | omega | (simp only [XL]; omega)) only [Bool.and_false, XW, undef_eq, Nat.reduceAdd, Nat.reduceSub, ↓reduceIte, basic, cellsL, resOf, setAt, below, belowB, belowA, atomB, Nat.reduceLeDiff, Nat.reduceMul, Int.reduceToNat, Int.reduceLT, Int.reduceLE, Int.reduceAdd, Int.reduceNeg, Int.reduceEq, splice, Nat.reduceEqDiff, Nat.reduceLT, isAtom, Int.reduceSub, Int.reduceMul, implies_true]
        exact hfm.app.ext0
  · rw [if_neg hg] at hv
    subst hv
    have hg' : ((getP s 11 []).1 = 0) = False := eq_false hg
    have hd : decB s = false := by
      cases hd : decB s with
      | false => rfl
      | true => exact absurd (dec_path hd).1 hg
    have e : forB c s = false := by rw [forB, hd]; rfl
    rw [e]
    simp (contextual := true) (implicitDefEqProofs := false) (maxSteps := 2000000) (disch := first | rfl | exact NB rfl | omega | (simp only [XL]; omega)) only [hg', XW, undef_eq, Nat.reduceAdd, Nat.reduceSub, ↓reduceIte, basic, cellsL, resOf, setAt, below, belowB, belowA, atomB, Nat.reduceLeDiff, Nat.reduceMul, Int.reduceToNat, Int.reduceLT, Int.reduceLE, Int.reduceAdd, Int.reduceNeg, Int.reduceEq, splice, Nat.reduceEqDiff, Nat.reduceLT, isAtom, Int.reduceSub, Int.reduceMul, implies_true]
    exact (hf0.nil_trans hf1).app.ext0
end Go.Proofs.YtadkdihbbngbfaaDoor
/- Great inputs; the document's example: walked. -/
namespace Go.Proofs.YtadkdihbbngbfaaDoor
open Go.Lg
set_option maxRecDepth 8000
set_option maxHeartbeats 8000000
def gB (l : List (List UInt8)) : Bool := decide (40 < l.length) || l.any fun s => decide (1000 < s.length)
theorem great_spec {l : List (List UInt8)} {v : Value} {m : Mem} (h : Rd m 1 v (l.map fun s => [str s])) : Ret Tryd.prog 7 [v] m (.bool (gB l)) m := by
  obtain ⟨a, rfl, hform⟩ := h
  simp only [List.length_map] at hform ⊢
  refine LCall_drop (LCall_enter Tryd.func7 c7 ?_)
  by_cases h40 : 40 < l.length
  · have h40' : ((40 : Int) < (l.length : Int)) = True := eq_true (by omega)
    have e : gB l = true := by unfold gB; simp [h40]
    rw [e]
    simp (contextual := true) (implicitDefEqProofs := false) (maxSteps := 2000000) (disch := first | rfl | exact NB rfl | omega | (simp only [XL]; omega)) only [L7, h40', XW, undef_eq, Nat.reduceAdd, Nat.reduceSub, ↓reduceIte, basic, cellsL, resOf, setAt, below, belowB, belowA, atomB, Nat.reduceLeDiff, Nat.reduceMul, Int.reduceToNat, Int.reduceLT, Int.reduceLE, Int.reduceAdd, Int.reduceNeg, Int.reduceEq, splice, Nat.reduceEqDiff, Nat.reduceLT, isAtom, Int.reduceSub, Int.reduceMul, implies_true]
  have h40' : ((40 : Int) < (l.length : Int)) = False := eq_false (by omega)
  simp (contextual := true) (implicitDefEqProofs := false) (maxSteps := 2000000) (disch := first | rfl | exact NB rfl | omega | (simp only [XL]; omega)) only [L7, h40', XW, undef_eq, Nat.reduceAdd, Nat.reduceSub, ↓reduceIte, basic, cellsL, resOf, setAt, below, belowB, belowA, atomB, Nat.reduceLeDiff, Nat.reduceMul, Int.reduceToNat, Int.reduceLT, Int.reduceLE, Int.reduceAdd, Int.reduceNeg, Int.reduceEq, splice, Nat.reduceEqDiff, Nat.reduceLT, isAtom, Int.reduceSub, Int.reduceMul, implies_true]
  refine loop_inv (fun n t M => ∃ (j : Nat), n = l.length - j ∧ j ≤ l.length ∧ (l.take j).any (fun s => decide (1000 < s.length)) = false ∧ M = m ∧
    Tab 18 [(8, .slice a l.length l.length), (9, .int .i64 (l.length : Int)), (10, .int .i64 (j : Int))] t) (n := l.length) ?_ ?_
  · exact ⟨0, rfl, Nat.zero_le _, by simp, rfl, ⟨rfl, by simp⟩⟩
  rintro N t m ⟨j, rfl, hj, hx, rfl, ht⟩
  obtain ⟨f, rfl⟩ : ∃ f' : Nat → Value, t = [f' 0, f' 1, f' 2, f' 3, f' 4, f' 5, f' 6, f' 7, .slice a l.length l.length, .int .i64 (l.length : Int), .int .i64 (j : Int), f' 11, f' 12, f' 13, f' 14, f' 15, f' 16, f' 17] := ht.open fun f' => rfl
  by_cases hlt : j < l.length
  · have hlt' : ((j : Int) < (l.length : Int)) = True := by simp [hlt]
    have h0' : ((0 : Int) ≤ (j : Int)) = True := by simp
    have hwj : IntKind.i64.wrap ((j : Int) + 1) = ((j + 1 : Nat) : Int) := by rw [wrap_i64 (by omega) (by omega)]; omega
    obtain ⟨b, o, cs, T, fz, kd, rfl, hb, hk, hl, hrow⟩ := hform (by omega)
    obtain ⟨s, hs⟩ : ∃ r, l[j]? = some r := ⟨l[j], List.getElem?_eq_getElem hlt⟩
    have hr : (cs.drop (o + j * 1)).take 1 = [str s] := hrow j [str s] (by simp [hs])
    have hc : cs[o + j]? = some (str s) := by have := row_cell hr (j := 0) (by omega); simpa using this
    have hbl := lt_of_some hb
    have hsn : (l.take (j + 1)).any (fun s => decide (1000 < s.length)) = ((l.take j).any (fun s => decide (1000 < s.length)) || decide (1000 < s.length)) := by rw [take_snoc hs, List.any_append]; simp
    have e1 : ((1000 : Int) < (s.length : Int)) = (1000 < s.length) := by apply propext; omega
    by_cases hbig : 1000 < s.length
    · have e : gB l = true := by
        unfold gB
        rw [Bool.or_eq_true_iff]; right
        rw [List.any_eq_true]
        exact ⟨s, List.mem_of_getElem? hs, by simpa using hbig⟩
      rw [e]
      simp (contextual := true) (implicitDefEqProofs := false) (maxSteps := 2000000) (disch := first | rfl | exact NB rfl | omega | (simp only [XL]; omega)) only [hb, hlt', h0', hc, cellB_l hk, Int.toNat_natCast, Nat.mul_one, bin_ladd, str_cut, str_app, str_eq, string_mk_size, string_mk, e1, hbig, XW, undef_eq, Nat.reduceAdd, Nat.reduceSub, ↓reduceIte, basic, cellsL, resOf, setAt, below, belowB, belowA, atomB, Nat.reduceLeDiff, Nat.reduceMul, Int.reduceToNat, Int.reduceLT, Int.reduceLE, Int.reduceAdd, Int.reduceNeg, Int.reduceEq, splice, Nat.reduceEqDiff, Nat.reduceLT, isAtom, Int.reduceSub, Int.reduceMul, implies_true]
    · simp (contextual := true) (implicitDefEqProofs := false) (maxSteps := 2000000) (disch := first | rfl | exact NB rfl | omega | (simp only [XL]; omega)) only [hb, hlt', h0', hc, cellB_l hk, Int.toNat_natCast, Nat.mul_one, bin_ladd, str_cut, str_app, str_eq, string_mk_size, string_mk, e1, hbig, XW, undef_eq, Nat.reduceAdd, Nat.reduceSub, ↓reduceIte, basic, cellsL, resOf, setAt, below, belowB, belowA, atomB, Nat.reduceLeDiff, Nat.reduceMul, Int.reduceToNat, Int.reduceLT, Int.reduceLE, Int.reduceAdd, Int.reduceNeg, Int.reduceEq, splice, Nat.reduceEqDiff, Nat.reduceLT, isAtom, Int.reduceSub, Int.reduceMul, implies_true]
      exact kInv_go ⟨j + 1, rfl, by omega, by rw [hsn, hx]; simpa using hbig, rfl, ⟨rfl, by simp [hwj]⟩⟩ (by omega)
  · have hlt' : ((j : Int) < (l.length : Int)) = False := by simp; omega
    have e : gB l = false := by
      rw [List.take_of_length_le (by omega)] at hx
      unfold gB; rw [hx]; simpa using h40
    rw [e]
    simp (contextual := true) (implicitDefEqProofs := false) (maxSteps := 2000000) (disch := first | rfl | exact NB rfl | omega | (simp only [XL]; omega)) only [hlt', XW, undef_eq, Nat.reduceAdd, Nat.reduceSub, ↓reduceIte, basic, cellsL, resOf, setAt, below, belowB, belowA, atomB, Nat.reduceLeDiff, Nat.reduceMul, Int.reduceToNat, Int.reduceLT, Int.reduceLE, Int.reduceAdd, Int.reduceNeg, Int.reduceEq, splice, Nat.reduceEqDiff, Nat.reduceLT, isAtom, Int.reduceSub, Int.reduceMul, implies_true]
end Go.Proofs.YtadkdihbbngbfaaDoor
/- The document's example: walked. -/
namespace Go.Proofs.YtadkdihbbngbfaaDoor
open Go.Lg
set_option maxRecDepth 8000
set_option maxHeartbeats 8000000
def cA : Cl := ⟨[65], 0⟩
def cB : Cl := ⟨[66], 0⟩
def cC : Cl := ⟨[67], 0⟩
def ctU : Ct := ⟨12, 0, 0, false⟩
def exS : List UInt8 := encF [⟨[66], 0, true⟩, ⟨[65], 0, false⟩, ⟨[67], 0, false⟩] (ctU.bytes false) (K.pidB 12) 240 [120]
def exT : List UInt8 := (onF [cC] exS).1
theorem ex_len : exS.length = 24 := by decide +kernel
theorem ex_lenT : exT.length = 24 := by decide +kernel
theorem ex_how : (onF [cC] exS).2 = 0 := by decide +kernel
theorem ex_for : forB cB exS = false := by decide +kernel
theorem ex_forT : forB cB exT = true := by decide +kernel
theorem ex_made : madeE [cC] = 0 := by decide +kernel
theorem ex_right : rightP [66] 0 [65] 0 [⟨[67], 0, false⟩] = true := by decide +kernel
theorem ex_ctl : K.rightC 12 0 0 false = true := by decide +kernel
theorem ex_wrong : wrongE (rightP [66] 0 [65] 0 [⟨[67], 0, false⟩]) (K.rightC 12 0 0 false) (K.pidB 12) (K.infoB 12) 240 [120] = 0 := by decide +kernel
theorem bytes_len (c : Ct) (w : Bool) : (c.bytes w).length ≤ 2 := by
  unfold Ct.bytes; rw [K.strL_len]; unfold K.putL8; split
  · simp
  · split <;> simp
theorem ctl_put {c : Ct} {w : Bool} (hc : c.right w = true) (m : Mem) : Ret Tryd.prog 37 [c.val, .bool w] m (.tuple #[str (c.bytes w), .int .i64 0]) m := by
  have := K.ctlput_spec c.k c.ns c.nr c.pf w m
  have hc' : K.rightC c.k c.ns c.nr w = true := hc
  rw [hc'] at this
  exact this
theorem rdn_nil {sz : Nat} {m : Mem} : RdN m sz (.slice none 0 0) [] := ⟨⟨none, rfl, fun h => by simp at h⟩, fun M _ => rfl⟩
theorem awake_spec (m : Mem) : Ret Tryd.prog 6 [] m (.bool true) m := by
  refine LCall_drop (LCall_enter Tryd.func6 c6 ?_)
  simp (contextual := true) (implicitDefEqProofs := false) (maxSteps := 2000000) (disch := first | rfl | exact NB rfl | omega | (simp only [XL]; omega)) only [L6, XW, undef_eq, Nat.reduceAdd, Nat.reduceSub, ↓reduceIte, basic, cellsL, resOf, setAt, below, belowB, belowA, atomB, Nat.reduceLeDiff, Nat.reduceMul, Int.reduceToNat, Int.reduceLT, Int.reduceLE, Int.reduceAdd, Int.reduceNeg, Int.reduceEq, splice, Nat.reduceEqDiff, Nat.reduceLT, isAtom, Int.reduceSub, Int.reduceMul, implies_true]
  obtain ⟨M0, hM0, hM0l, hf0, hb1, hb2, hb3⟩ : ∃ N, m ++ [⟨[str [65], .int .i64 0], 32, 1, 0, .own⟩, ⟨[str [66], .int .i64 0], 32, 1, 0, .own⟩, ⟨[str [67], .int .i64 0], 32, 1, 0, .own⟩, ⟨[str [67], .int .i64 0], 32, 2, 0, .own⟩] = N ∧ N.length = m.length + 4 ∧ Frm [] m N ∧
      N[m.length + 1]? = some ⟨[str [66], .int .i64 0], 32, 1, 0, .own⟩ ∧ N[m.length + 2]? = some ⟨[str [67], .int .i64 0], 32, 1, 0, .own⟩ ∧ N[m.length + 3]? = some ⟨[str [67], .int .i64 0], 32, 2, 0, .own⟩ :=
    ⟨_, rfl, by simp, Frm.refl.app, by rw [List.getElem?_append_right (by omega)]; simp, by rw [List.getElem?_append_right (by omega)]; simp, by rw [List.getElem?_append_right (by omega)]; simp⟩
  rw [hM0]
  have hs0 : Sl M0 32 2 (.slice (some ⟨m.length + 3, 0, none⟩) 1 1) [m.length + 3] ([cC].map Cl.row) := Sl.own (T := 32) (sz := 2) (rows := [cC].map Cl.row) hb3 (by simp [Cl.row]) (by simp [Cl.row, cC]) (by simp)
  refine (via_spec (fb := [65]) (fs := 0) (tb := [66]) (ts := 0) (cm := true) (cs := [cC]) (by decide) (by decide) (by decide) (Sl.rd hs0) (by decide)).mono ?_
  rintro v M1 ⟨hf1, hv⟩
  have hri : rightP [66] 0 [65] 0 ([cC].map Cl.en) = true := ex_right
  rw [if_pos hri] at hv
  obtain ⟨sv, F, rfl, hs1, hF⟩ := hv
  have hs1' := hs1
  obtain ⟨sa, rfl, _⟩ := hs1.form
  simp (contextual := true) (implicitDefEqProofs := false) (maxSteps := 2000000) (disch := first | rfl | exact NB rfl | omega | (simp only [XL]; omega)) only [XW, undef_eq, Nat.reduceAdd, Nat.reduceSub, ↓reduceIte, basic, cellsL, resOf, setAt, below, belowB, belowA, atomB, Nat.reduceLeDiff, Nat.reduceMul, Int.reduceToNat, Int.reduceLT, Int.reduceLE, Int.reduceAdd, Int.reduceNeg, Int.reduceEq, splice, Nat.reduceEqDiff, Nat.reduceLT, isAtom, Int.reduceSub, Int.reduceMul, implies_true]
  obtain ⟨M2, hM2, hM2l, hf2, hb4⟩ : ∃ N, M1 ++ [⟨[str [66], .int .i64 0, str [65], .int .i64 0, .bool true, .bool false, .slice sa 1 1], 55, 1, 0, .own⟩] = N ∧ N.length = M1.length + 1 ∧ Frm [] M1 N ∧ N[M1.length]? = some ⟨[str [66], .int .i64 0, str [65], .int .i64 0, .bool true, .bool false, .slice sa 1 1], 55, 1, 0, .own⟩ := ⟨_, rfl, by simp, Frm.refl.app, by simp⟩
  rw [hM2]
  have hs2 := hs1.frm0 hf2
  have henc := encode_spec (tb := [66]) (ts := 0) (fb := [65]) (fs := 0) (tm := true) (fm := false) (l := [cC].map Cl.en) (c := ctU) (pid := 240) (info := [120]) (wide := false) (m := M2) (Sl.rdn hs2)
    (fun m => K.ctlright_spec 12 0 0 false false m) (fun m => K.pid_spec 12 m) (fun m => K.info_spec 12 m) (fun m => ctl_put (c := ctU) (w := false) ex_ctl m) (Nat.le_trans (bytes_len _ _) (by decide)) ex_wrong
  have henc' : Ret Tryd.prog 21 [frameV [66] 0 [65] 0 true false (.slice sa 1 1) ctU 240 [120], .bool false] M2 (.tuple #[str exS, .int .i64 0]) M2 := henc
  refine henc'.use ?_
  have hf3 : Frm [] M0 M2 := hf1.nil_trans hf2
  have hb2' := hf3.get0 hb2
  have hb1' := hf3.get0 hb1
  have l2 := lt_of_some hb2'
  simp (contextual := true) (implicitDefEqProofs := false) (maxSteps := 2000000) (disch := first | rfl | exact NB rfl | omega | (simp only [XL]; omega)) only [hb2', XW, undef_eq, Nat.reduceAdd, Nat.reduceSub, ↓reduceIte, basic, cellsL, resOf, setAt, below, belowB, belowA, atomB, Nat.reduceLeDiff, Nat.reduceMul, Int.reduceToNat, Int.reduceLT, Int.reduceLE, Int.reduceAdd, Int.reduceNeg, Int.reduceEq, splice, Nat.reduceEqDiff, Nat.reduceLT, isAtom, Int.reduceSub, Int.reduceMul, implies_true]
  refine (new_spec (c := cC) (l := []) (v := .slice none 0 0) rdn_nil (by decide) (fun e he => by rw [show e = cC from (by simpa using he)]; exact ⟨by decide, by decide⟩)).mono ?_
  rintro v M3 ⟨hf4, hv⟩
  rw [if_pos ex_made] at hv
  obtain ⟨di, dv, G, rfl, hd, hs3, hdi, hG, hnd⟩ := hv
  simp (contextual := true) (implicitDefEqProofs := false) (maxSteps := 2000000) (disch := first | rfl | exact NB rfl | omega | (simp only [XL]; omega)) only [XW, undef_eq, Nat.reduceAdd, Nat.reduceSub, ↓reduceIte, basic, cellsL, resOf, setAt, below, belowB, belowA, atomB, Nat.reduceLeDiff, Nat.reduceMul, Int.reduceToNat, Int.reduceLT, Int.reduceLE, Int.reduceAdd, Int.reduceNeg, Int.reduceEq, splice, Nat.reduceEqDiff, Nat.reduceLT, isAtom, Int.reduceSub, Int.reduceMul, implies_true]
  refine (on_spec (cs := [cC]) (x := 0) (y := 0) (z := 0) hd (Sl.rd hs3) (by decide) (by rw [ex_len]; decide) (by decide)).mono ?_
  rintro v M4 ⟨hf5, rfl, hd4⟩
  rw [ex_how]
  have ht : (onF [cC] exS).1 = exT := rfl
  rw [ht]
  have hb1'' := hf5.get (hf4.get0 hb1') (by simp; have := lt_of_some hb1'; omega)
  have l1 := lt_of_some hb1''
  have hfm : Frm [] m M4 := by
    have h1 : Frm [] m M3 := (hf0.nil_trans hf3).nil_trans hf4
    exact h1.trans hf5 fun x hx => .inr (by simp at hx; have := (hf0.nil_trans hf3).len; omega)
  simp (contextual := true) (implicitDefEqProofs := false) (maxSteps := 2000000) (disch := first | rfl | exact NB rfl | omega | (simp only [XL]; omega)) only [hb1'', XW, undef_eq, Nat.reduceAdd, Nat.reduceSub, ↓reduceIte, basic, cellsL, resOf, setAt, below, belowB, belowA, atomB, Nat.reduceLeDiff, Nat.reduceMul, Int.reduceToNat, Int.reduceLT, Int.reduceLE, Int.reduceAdd, Int.reduceNeg, Int.reduceEq, splice, Nat.reduceEqDiff, Nat.reduceLT, isAtom, Int.reduceSub, Int.reduceMul, implies_true]
  refine (for_spec cB exS (by rw [ex_len]; decide) M4).use ?_
  rw [ex_for]
  simp (contextual := true) (implicitDefEqProofs := false) (maxSteps := 2000000) (disch := first | rfl | exact NB rfl | omega | (simp only [XL]; omega)) only [hb1'', XW, undef_eq, Nat.reduceAdd, Nat.reduceSub, ↓reduceIte, basic, cellsL, resOf, setAt, below, belowB, belowA, atomB, Nat.reduceLeDiff, Nat.reduceMul, Int.reduceToNat, Int.reduceLT, Int.reduceLE, Int.reduceAdd, Int.reduceNeg, Int.reduceEq, splice, Nat.reduceEqDiff, Nat.reduceLT, isAtom, Int.reduceSub, Int.reduceMul, implies_true]
  refine (for_spec cB exT (by rw [ex_lenT]; decide) M4).use ?_
  rw [ex_forT]
  simp (contextual := true) (implicitDefEqProofs := false) (maxSteps := 2000000) (disch := first | rfl | exact NB rfl | omega | (simp only [XL]; omega)) only [bin_ladd, str_cut, str_app, str_eq, string_mk_size, string_mk, ex_len, ex_lenT, XW, undef_eq, Nat.reduceAdd, Nat.reduceSub, ↓reduceIte, basic, cellsL, resOf, setAt, below, belowB, belowA, atomB, Nat.reduceLeDiff, Nat.reduceMul, Int.reduceToNat, Int.reduceLT, Int.reduceLE, Int.reduceAdd, Int.reduceNeg, Int.reduceEq, splice, Nat.reduceEqDiff, Nat.reduceLT, isAtom, Int.reduceSub, Int.reduceMul, implies_true]
  exact hfm.ext0
end Go.Proofs.YtadkdihbbngbfaaDoor
/- The law of a digipeater that is not there: walked. -/
namespace Go.Proofs.YtadkdihbbngbfaaDoor
open Go.Lg
set_option maxRecDepth 8000
set_option maxHeartbeats 8000000
theorem gB_one (s : List UInt8) : gB [s] = decide (1000 < s.length) := by simp [gB]
theorem one_rd {m : Mem} {b : Nat} {s : List UInt8} (hb : m[b]? = some ⟨[str s], 9, 1, 0, .own⟩) : Rd m 1 (.slice (some ⟨b, 0, none⟩) 1 1) ([s].map fun s => [str s]) :=
  Sl.rd (T := 9) (F := [b]) (Sl.own (T := 9) (sz := 1) (rows := [s].map fun s => [str s]) hb (by simp) (by simp) (by simp))
theorem none_law (s : List UInt8) (c : Cl) (m : Mem) : LCall Tryd.prog 5 [str s, cl c.b c.s] m fun v _ => v = .bool true := by
  refine LCall_enter Tryd.func5 c5 ?_
  simp (contextual := true) (implicitDefEqProofs := false) (maxSteps := 2000000) (disch := first | rfl | exact NB rfl | omega | (simp only [XL]; omega)) only [L5, XW, undef_eq, Nat.reduceAdd, Nat.reduceSub, ↓reduceIte, basic, cellsL, resOf, setAt, below, belowB, belowA, atomB, Nat.reduceLeDiff, Nat.reduceMul, Int.reduceToNat, Int.reduceLT, Int.reduceLE, Int.reduceAdd, Int.reduceNeg, Int.reduceEq, splice, Nat.reduceEqDiff, Nat.reduceLT, isAtom, Int.reduceSub, Int.reduceMul, implies_true]
  refine (awake_spec _).use ?_
  simp (contextual := true) (implicitDefEqProofs := false) (maxSteps := 2000000) (disch := first | rfl | exact NB rfl | omega | (simp only [XL]; omega)) only [XW, undef_eq, Nat.reduceAdd, Nat.reduceSub, ↓reduceIte, basic, cellsL, resOf, setAt, below, belowB, belowA, atomB, Nat.reduceLeDiff, Nat.reduceMul, Int.reduceToNat, Int.reduceLT, Int.reduceLE, Int.reduceAdd, Int.reduceNeg, Int.reduceEq, splice, Nat.reduceEqDiff, Nat.reduceLT, isAtom, Int.reduceSub, Int.reduceMul, implies_true]
  have hb : (m ++ [⟨[str c.b, .int .i64 c.s], 32, 1, 0, .own⟩, ⟨[str s], 9, 1, 0, .own⟩] : Mem)[m.length + 1]? = some ⟨[str s], 9, 1, 0, .own⟩ := by rw [List.getElem?_append_right (by omega)]; simp
  refine (great_spec (one_rd hb)).use ?_
  rw [gB_one]
  by_cases h1 : 1000 < s.length
  · have h1' : decide (1000 < s.length) = true := decide_eq_true h1
    rw [h1']
    simp (contextual := true) (implicitDefEqProofs := false) (maxSteps := 2000000) (disch := first | rfl | exact NB rfl | omega | (simp only [XL]; omega)) only [XW, undef_eq, Nat.reduceAdd, Nat.reduceSub, ↓reduceIte, basic, cellsL, resOf, setAt, below, belowB, belowA, atomB, Nat.reduceLeDiff, Nat.reduceMul, Int.reduceToNat, Int.reduceLT, Int.reduceLE, Int.reduceAdd, Int.reduceNeg, Int.reduceEq, splice, Nat.reduceEqDiff, Nat.reduceLT, isAtom, Int.reduceSub, Int.reduceMul, implies_true]
  · have h1' : decide (1000 < s.length) = false := decide_eq_false h1
    rw [h1']
    simp (contextual := true) (implicitDefEqProofs := false) (maxSteps := 2000000) (disch := first | rfl | exact NB rfl | omega | (simp only [XL]; omega)) only [XW, undef_eq, Nat.reduceAdd, Nat.reduceSub, ↓reduceIte, basic, cellsL, resOf, setAt, below, belowB, belowA, atomB, Nat.reduceLeDiff, Nat.reduceMul, Int.reduceToNat, Int.reduceLT, Int.reduceLE, Int.reduceAdd, Int.reduceNeg, Int.reduceEq, splice, Nat.reduceEqDiff, Nat.reduceLT, isAtom, Int.reduceSub, Int.reduceMul, implies_true]
    refine (on_nil s _).use ?_
    simp (contextual := true) (implicitDefEqProofs := false) (maxSteps := 2000000) (disch := first | rfl | exact NB rfl | omega | (simp only [XL]; omega)) only [XW, undef_eq, Nat.reduceAdd, Nat.reduceSub, ↓reduceIte, basic, cellsL, resOf, setAt, below, belowB, belowA, atomB, Nat.reduceLeDiff, Nat.reduceMul, Int.reduceToNat, Int.reduceLT, Int.reduceLE, Int.reduceAdd, Int.reduceNeg, Int.reduceEq, splice, Nat.reduceEqDiff, Nat.reduceLT, isAtom, Int.reduceSub, Int.reduceMul, implies_true]
    refine (counts_nil _).use ?_
    simp (contextual := true) (implicitDefEqProofs := false) (maxSteps := 2000000) (disch := first | rfl | exact NB rfl | omega | (simp only [XL]; omega)) only [XW, undef_eq, Nat.reduceAdd, Nat.reduceSub, ↓reduceIte, basic, cellsL, resOf, setAt, below, belowB, belowA, atomB, Nat.reduceLeDiff, Nat.reduceMul, Int.reduceToNat, Int.reduceLT, Int.reduceLE, Int.reduceAdd, Int.reduceNeg, Int.reduceEq, splice, Nat.reduceEqDiff, Nat.reduceLT, isAtom, Int.reduceSub, Int.reduceMul, implies_true]
    refine (mine_nil c _).use ?_
    simp (contextual := true) (implicitDefEqProofs := false) (maxSteps := 2000000) (disch := first | rfl | exact NB rfl | omega | (simp only [XL]; omega)) only [XW, undef_eq, Nat.reduceAdd, Nat.reduceSub, ↓reduceIte, basic, cellsL, resOf, setAt, below, belowB, belowA, atomB, Nat.reduceLeDiff, Nat.reduceMul, Int.reduceToNat, Int.reduceLT, Int.reduceLE, Int.reduceAdd, Int.reduceNeg, Int.reduceEq, splice, Nat.reduceEqDiff, Nat.reduceLT, isAtom, Int.reduceSub, Int.reduceMul, implies_true]
theorem cl_of {m : Mem} {n : Nat} {v : Value} (h : TyV Tryd.prog m (n + 2) 32 v) : ∃ c : Cl, v = cl c.b c.s ∧ c.okW := by
  obtain ⟨_, rfl, x1, _, rfl, h1, x2, _, rfl, h2, rfl⟩ := h.struct Tryd.underlying32 rfl
  obtain ⟨s, rfl, hs⟩ := h1.text Tryd.underlying9
  obtain ⟨a, rfl, ha⟩ := h2.int Tryd.underlying3
  obtain ⟨l, rfl⟩ := str_is s
  rw [string_mk_size] at hs
  exact ⟨⟨l, a⟩, rfl, Nat.le_trans hs (by decide), by simpa [Lit.wf] using ha⟩
theorem diginone_all (m : Mem) (vs : List Value) (h : F2 (TyV Tryd.prog m 6) [9, 32] vs) : LCall Tryd.prog 5 vs m fun v _ => v = .bool true := by
  obtain ⟨u, v, rfl, h1, h2⟩ := h.two_inv
  obtain ⟨t, rfl, _⟩ := h1.string Tryd.underlying9
  obtain ⟨s, rfl⟩ := str_is t
  obtain ⟨c, rfl, _⟩ := cl_of h2
  exact none_law s c m
end Go.Proofs.YtadkdihbbngbfaaDoor
/- The law of what is sent on: walked. -/
namespace Go.Proofs.YtadkdihbbngbfaaDoor
open Go.Lg
set_option maxRecDepth 8000
set_option maxHeartbeats 8000000
def cntL (cs : List Cl) (l : List (List UInt8)) (k : Nat) : Nat := (l.map fun s => if (onF cs s).2 = k then 1 else 0).sum
theorem cntL_succ {cs : List Cl} {l : List (List UInt8)} {j : Nat} {s : List UInt8} (h : l[j]? = some s) (k : Nat) : (cntL cs (l.take (j + 1)) k : Int) = cnt (onF cs s).2 k (cntL cs (l.take j) k) := by
  unfold cntL cnt
  rw [take_snoc h, List.map_append, List.sum_append]
  simp only [List.map_cons, List.map_nil, List.sum_cons, List.sum_nil, Nat.add_zero]
  split <;> rfl
theorem cntL_le {cs : List Cl} {l : List (List UInt8)} {k : Nat} : cntL cs l k ≤ l.length := by
  unfold cntL
  induction l with
  | nil => simp
  | cons s l ih =>
    simp only [List.map_cons, List.sum_cons, List.length_cons]
    split <;> omega
theorem onF_how {cs : List Cl} {s : List UInt8} : (onF cs s).2 = 0 ∨ (onF cs s).2 = 1 ∨ (onF cs s).2 = 2 := by
  unfold onF
  split
  · rcases onL_how (cs := cs) (s := s) (L := (getP s 11 []).2) with h | h
    · exact .inl h
    · exact .inr (.inl h)
  · exact .inr (.inr rfl)
theorem dec_how {cs : List Cl} {s : List UInt8} : decB s = !decide ((onF cs s).2 = 2) := by
  cases hd : decB s with
  | true =>
    have : (onF cs s).2 ≠ 2 := by
      rw [onF, if_pos hd]
      rcases onL_how (cs := cs) (s := s) (L := (getP s 11 []).2) with h | h <;> rw [h] <;> decide
    simp [this]
  | false =>
    have : (onF cs s).2 = 2 := by rw [onF, if_neg (by rw [hd]; decide)]
    simp [this]
theorem made_cases {cs : List Cl} : madeE cs = 12 ∨ madeE cs = 6 ∨ madeE cs = 0 := by
  unfold madeE
  split
  · exact .inl rfl
  · split
    · exact .inr (.inl rfl)
    · exact .inr (.inr rfl)
theorem sends_law {c : Cl} {al : List Cl} {l : List (List UInt8)} {v w : Value} {m : Mem} (h : RdN m 2 v (al.map Cl.row)) (hw : ∀ e ∈ c :: al, e.okW) (hl : Rd m 1 w (l.map fun s => [str s])) :
    LCall Tryd.prog 4 [cl c.b c.s, v, w] m fun v _ => v = .bool true := by
  have h0 := h
  have hl0 := hl
  obtain ⟨a, rfl, _⟩ := h.1
  obtain ⟨a2, rfl, hform⟩ := hl
  simp only [List.length_map] at hform hl0 h0
  simp only [List.length_map]
  refine LCall_enter Tryd.func4 c4 ?_
  simp (contextual := true) (implicitDefEqProofs := false) (maxSteps := 2000000) (disch := first | rfl | exact NB rfl | omega | (simp only [XL]; omega)) only [L4, XW, undef_eq, Nat.reduceAdd, Nat.reduceSub, ↓reduceIte, basic, cellsL, resOf, setAt, below, belowB, belowA, atomB, Nat.reduceLeDiff, Nat.reduceMul, Int.reduceToNat, Int.reduceLT, Int.reduceLE, Int.reduceAdd, Int.reduceNeg, Int.reduceEq, splice, Nat.reduceEqDiff, Nat.reduceLT, isAtom, Int.reduceSub, Int.reduceMul, implies_true]
  obtain ⟨M0, hM0, hM0l, hf0, hb0⟩ : ∃ N, m ++ [⟨[str c.b, .int .i64 c.s], 32, 1, 0, .own⟩] = N ∧ N.length = m.length + 1 ∧ Frm [] m N ∧ N[m.length]? = some ⟨[str c.b, .int .i64 c.s], 32, 1, 0, .own⟩ := ⟨_, rfl, by simp, Frm.refl.app, by simp⟩
  rw [hM0]
  refine (awake_spec _).use ?_
  have hgt : ((40 : Int) < (al.length : Int)) = (40 < al.length) := by apply propext; omega
  by_cases h40 : 40 < al.length
  · simp (contextual := true) (implicitDefEqProofs := false) (maxSteps := 2000000) (disch := first | rfl | exact NB rfl | omega | (simp only [XL]; omega)) only [hgt, h40, XW, undef_eq, Nat.reduceAdd, Nat.reduceSub, ↓reduceIte, basic, cellsL, resOf, setAt, below, belowB, belowA, atomB, Nat.reduceLeDiff, Nat.reduceMul, Int.reduceToNat, Int.reduceLT, Int.reduceLE, Int.reduceAdd, Int.reduceNeg, Int.reduceEq, splice, Nat.reduceEqDiff, Nat.reduceLT, isAtom, Int.reduceSub, Int.reduceMul, implies_true]
  simp (contextual := true) (implicitDefEqProofs := false) (maxSteps := 2000000) (disch := first | rfl | exact NB rfl | omega | (simp only [XL]; omega)) only [hgt, h40, XW, undef_eq, Nat.reduceAdd, Nat.reduceSub, ↓reduceIte, basic, cellsL, resOf, setAt, below, belowB, belowA, atomB, Nat.reduceLeDiff, Nat.reduceMul, Int.reduceToNat, Int.reduceLT, Int.reduceLE, Int.reduceAdd, Int.reduceNeg, Int.reduceEq, splice, Nat.reduceEqDiff, Nat.reduceLT, isAtom, Int.reduceSub, Int.reduceMul, implies_true]
  refine (great_spec (hl0.frm0 hf0)).use ?_
  by_cases hg : gB l = true
  · rw [hg]
    simp (contextual := true) (implicitDefEqProofs := false) (maxSteps := 2000000) (disch := first | rfl | exact NB rfl | omega | (simp only [XL]; omega)) only [XW, undef_eq, Nat.reduceAdd, Nat.reduceSub, ↓reduceIte, basic, cellsL, resOf, setAt, below, belowB, belowA, atomB, Nat.reduceLeDiff, Nat.reduceMul, Int.reduceToNat, Int.reduceLT, Int.reduceLE, Int.reduceAdd, Int.reduceNeg, Int.reduceEq, splice, Nat.reduceEqDiff, Nat.reduceLT, isAtom, Int.reduceSub, Int.reduceMul, implies_true]
  have hg' : gB l = false := by simpa using hg
  have hl40 : l.length ≤ 40 := by
    unfold gB at hg'
    rw [Bool.or_eq_false_iff] at hg'
    have := of_decide_eq_false hg'.1
    omega
  have hlen : ∀ s ∈ l, s.length ≤ 1000 := fun s hs => by
    unfold gB at hg'
    rw [Bool.or_eq_false_iff, List.any_eq_false] at hg'
    have := hg'.2 s hs
    simpa using this
  rw [hg']
  have l0 := lt_of_some hb0
  simp (contextual := true) (implicitDefEqProofs := false) (maxSteps := 2000000) (disch := first | rfl | exact NB rfl | omega | (simp only [XL]; omega)) only [hb0, XX, XB, lc_block, lc_cond, XZ, undef_eq, Nat.reduceAdd, Nat.reduceSub, ↓reduceIte, basic, cellsL, resOf, setAt, below, belowB, belowA, atomB, Nat.reduceLeDiff, Nat.reduceMul, Int.reduceToNat, Int.reduceLT, Int.reduceLE, Int.reduceAdd, Int.reduceNeg, Int.reduceEq, splice, Nat.reduceEqDiff, Nat.reduceLT, isAtom, Int.reduceSub, Int.reduceMul, implies_true]
  obtain ⟨N, hN, hNl, hfN, hbn⟩ : ∃ N, M0 ++ [⟨[str c.b, .int .i64 c.s], 32, 2, 0, .own⟩] = N ∧ N.length = M0.length + 1 ∧ Frm [] M0 N ∧ N[M0.length]? = some ⟨[str c.b, .int .i64 c.s], 32, 2, 0, .own⟩ := ⟨_, rfl, by simp, Frm.refl.app, by simp⟩
  rw [hN]
  have hn0 := h0.2 N (hf0.nil_trans hfN)
  rw [hn0]
  have hs0 : Sl N 32 2 (.slice (some ⟨M0.length, 0, none⟩) 1 1) [M0.length] [[str c.b, .int .i64 c.s]] := Sl.own (T := 32) (sz := 2) (rows := [[str c.b, .int .i64 c.s]]) hbn (by simp) (by simp) (by simp)
  refine app_any hs0 (new := al.map Cl.row) (by simp) (fun r hr => ?_) rfl (by simp; omega) ?_
  · obtain ⟨e, _, rfl⟩ := List.mem_map.mp hr; rfl
  intro v M G hM hf hs hG
  have hs1 : Sl M 32 2 v G ((c :: al).map Cl.row) := by simpa [Cl.row] using hs
  have hfm : Frm [] M0 M := hfN.trans hf fun x hx => .inr (by simp at hx; omega)
  have hGm : ∀ x ∈ G, M0.length ≤ x := fun x hx => by
    rcases hG x hx with h1 | h1
    · simp at h1; omega
    · omega
  clear hN hbn hs0 hn0
  have hs2 := hs1
  obtain ⟨va, rfl, _⟩ := hs1.form
  simp only [List.length_map, List.length_cons] at hs2
  simp only [List.length_map, List.length_cons]
  have hb1 := hfm.get0 hb0
  have l1 := lt_of_some hb1
  simp (contextual := true) (implicitDefEqProofs := false) (maxSteps := 2000000) (disch := first | rfl | exact NB rfl | omega | (simp only [XL]; omega)) only [hb1, XW, undef_eq, Nat.reduceAdd, Nat.reduceSub, ↓reduceIte, basic, cellsL, resOf, setAt, below, belowB, belowA, atomB, Nat.reduceLeDiff, Nat.reduceMul, Int.reduceToNat, Int.reduceLT, Int.reduceLE, Int.reduceAdd, Int.reduceNeg, Int.reduceEq, splice, Nat.reduceEqDiff, Nat.reduceLT, isAtom, Int.reduceSub, Int.reduceMul, implies_true]
  refine (new_spec (c := c) (l := al) (h0.frm0 (hf0.nil_trans hfm)) (by omega) hw).mono ?_
  rintro u M1 ⟨hf1, hu⟩
  have hs3 := hs2.frm0 hf1
  have hfm1 := hfm.nil_trans hf1
  rcases made_cases (cs := c :: al) with hmd | hmd | hmd
  · rw [hmd] at hu
    rw [if_neg (by decide)] at hu
    subst hu
    simp (contextual := true) (implicitDefEqProofs := false) (maxSteps := 2000000) (disch := first | rfl | exact NB rfl | omega | (simp only [XL]; omega)) only [XW, undef_eq, Nat.reduceAdd, Nat.reduceSub, ↓reduceIte, basic, cellsL, resOf, setAt, below, belowB, belowA, atomB, Nat.reduceLeDiff, Nat.reduceMul, Int.reduceToNat, Int.reduceLT, Int.reduceLE, Int.reduceAdd, Int.reduceNeg, Int.reduceEq, splice, Nat.reduceEqDiff, Nat.reduceLT, isAtom, Int.reduceSub, Int.reduceMul, implies_true]
    refine (made_spec (cs := c :: al) (by simpa using Sl.rd hs3) (by simp; omega)).use ?_
    rw [hmd]
    simp (contextual := true) (implicitDefEqProofs := false) (maxSteps := 2000000) (disch := first | rfl | exact NB rfl | omega | (simp only [XL]; omega)) only [XW, undef_eq, Nat.reduceAdd, Nat.reduceSub, ↓reduceIte, basic, cellsL, resOf, setAt, below, belowB, belowA, atomB, Nat.reduceLeDiff, Nat.reduceMul, Int.reduceToNat, Int.reduceLT, Int.reduceLE, Int.reduceAdd, Int.reduceNeg, Int.reduceEq, splice, Nat.reduceEqDiff, Nat.reduceLT, isAtom, Int.reduceSub, Int.reduceMul, implies_true]
  · rw [hmd] at hu
    rw [if_neg (by decide)] at hu
    subst hu
    simp (contextual := true) (implicitDefEqProofs := false) (maxSteps := 2000000) (disch := first | rfl | exact NB rfl | omega | (simp only [XL]; omega)) only [XW, undef_eq, Nat.reduceAdd, Nat.reduceSub, ↓reduceIte, basic, cellsL, resOf, setAt, below, belowB, belowA, atomB, Nat.reduceLeDiff, Nat.reduceMul, Int.reduceToNat, Int.reduceLT, Int.reduceLE, Int.reduceAdd, Int.reduceNeg, Int.reduceEq, splice, Nat.reduceEqDiff, Nat.reduceLT, isAtom, Int.reduceSub, Int.reduceMul, implies_true]
    refine (made_spec (cs := c :: al) (by simpa using Sl.rd hs3) (by simp; omega)).use ?_
    rw [hmd]
    simp (contextual := true) (implicitDefEqProofs := false) (maxSteps := 2000000) (disch := first | rfl | exact NB rfl | omega | (simp only [XL]; omega)) only [XW, undef_eq, Nat.reduceAdd, Nat.reduceSub, ↓reduceIte, basic, cellsL, resOf, setAt, below, belowB, belowA, atomB, Nat.reduceLeDiff, Nat.reduceMul, Int.reduceToNat, Int.reduceLT, Int.reduceLE, Int.reduceAdd, Int.reduceNeg, Int.reduceEq, splice, Nat.reduceEqDiff, Nat.reduceLT, isAtom, Int.reduceSub, Int.reduceMul, implies_true]
  rw [if_pos hmd] at hu
  obtain ⟨di, sv, F, rfl, hd, hs4, hdi, hF, hnd⟩ := hu
  simp (contextual := true) (implicitDefEqProofs := false) (maxSteps := 2000000) (disch := first | rfl | exact NB rfl | omega | (simp only [XL]; omega)) only [XW, undef_eq, Nat.reduceAdd, Nat.reduceSub, ↓reduceIte, basic, cellsL, resOf, setAt, below, belowB, belowA, atomB, Nat.reduceLeDiff, Nat.reduceMul, Int.reduceToNat, Int.reduceLT, Int.reduceLE, Int.reduceAdd, Int.reduceNeg, Int.reduceEq, splice, Nat.reduceEqDiff, Nat.reduceLT, isAtom, Int.reduceSub, Int.reduceMul, implies_true]
  refine (made_spec (cs := c :: al) (by simpa using Sl.rd hs3) (by simp; omega)).use ?_
  rw [hmd]
  simp (contextual := true) (implicitDefEqProofs := false) (maxSteps := 2000000) (disch := first | rfl | exact NB rfl | omega | (simp only [XL]; omega)) only [XW, undef_eq, Nat.reduceAdd, Nat.reduceSub, ↓reduceIte, basic, cellsL, resOf, setAt, below, belowB, belowA, atomB, Nat.reduceLeDiff, Nat.reduceMul, Int.reduceToNat, Int.reduceLT, Int.reduceLE, Int.reduceAdd, Int.reduceNeg, Int.reduceEq, splice, Nat.reduceEqDiff, Nat.reduceLT, isAtom, Int.reduceSub, Int.reduceMul, implies_true]
  obtain ⟨N0, hN0, hN0l, hf2, ha0⟩ : ∃ N, M1 ++ [⟨[.int .i64 0, .int .i64 0, .int .i64 0], 45, 1, 0, .own⟩] = N ∧ N.length = M1.length + 1 ∧ Frm [] M1 N ∧ N[M1.length]? = some ⟨[.int .i64 0, .int .i64 0, .int .i64 0], 45, 1, 0, .own⟩ := ⟨_, rfl, by simp, Frm.refl.app, by simp⟩
  rw [hN0]
  have hMN : Frm [] M N0 := hf1.nil_trans hf2
  have hdiM1 : di < M1.length := lt_of_some hd
  have hM1 : M.length ≤ M1.length := hf1.len
  have hFlt : ∀ x ∈ F, x < M1.length := hs4.lt
  have hcs : ((c :: al).map Cl.row).length = al.length + 1 := by simp
  refine loop_inv (fun n t M' => ∃ (j : Nat), n = l.length - j ∧ j ≤ l.length ∧ Frm [di, M1.length] N0 M' ∧
    M'[di]? = some (dgB sv (cntL (c :: al) (l.take j) 0 : Nat) (cntL (c :: al) (l.take j) 1 : Nat) (cntL (c :: al) (l.take j) 2 : Nat)) ∧
    M'[M1.length]? = some ⟨[.int .i64 (cntL (c :: al) (l.take j) 0 : Nat), .int .i64 (cntL (c :: al) (l.take j) 1 : Nat), .int .i64 (cntL (c :: al) (l.take j) 2 : Nat)], 45, 1, 0, .own⟩ ∧
    Tab 130 [(3, .pointer (some ⟨m.length, 0, none⟩)), (7, .slice va (al.length + 1) (al.length + 1)), (8, .pointer (some ⟨di, 0, none⟩)), (11, .pointer (some ⟨M1.length, 0, none⟩)), (54, .slice a2 l.length l.length), (55, .int .i64 (l.length : Int)), (56, .int .i64 (j : Int))] t) (n := l.length) ?_ ?_
  · exact ⟨0, rfl, Nat.zero_le _, Frm.refl, hf2.get0 hd, ha0, ⟨rfl, by simp⟩⟩
  rintro K' t M' ⟨j, rfl, hj, hfr, hdj, haj, ht⟩
  obtain ⟨f, rfl⟩ : ∃ f' : Nat → Value, t = [f' 0, f' 1, f' 2, .pointer (some ⟨m.length, 0, none⟩), f' 4, f' 5, f' 6, .slice va (al.length + 1) (al.length + 1), .pointer (some ⟨di, 0, none⟩), f' 9, f' 10, .pointer (some ⟨M1.length, 0, none⟩), f' 12, f' 13, f' 14, f' 15, f' 16, f' 17, f' 18, f' 19, f' 20, f' 21, f' 22, f' 23, f' 24, f' 25, f' 26, f' 27, f' 28, f' 29, f' 30, f' 31, f' 32, f' 33, f' 34, f' 35, f' 36, f' 37, f' 38, f' 39, f' 40, f' 41, f' 42, f' 43, f' 44, f' 45, f' 46, f' 47, f' 48, f' 49, f' 50, f' 51, f' 52, f' 53, .slice a2 l.length l.length, .int .i64 (l.length : Int), .int .i64 (j : Int), f' 57, f' 58, f' 59, f' 60, f' 61, f' 62, f' 63, f' 64, f' 65, f' 66, f' 67, f' 68, f' 69, f' 70, f' 71, f' 72, f' 73, f' 74, f' 75, f' 76, f' 77, f' 78, f' 79, f' 80, f' 81, f' 82, f' 83, f' 84, f' 85, f' 86, f' 87, f' 88, f' 89, f' 90, f' 91, f' 92, f' 93, f' 94, f' 95, f' 96, f' 97, f' 98, f' 99, f' 100, f' 101, f' 102, f' 103, f' 104, f' 105, f' 106, f' 107, f' 108, f' 109, f' 110, f' 111, f' 112, f' 113, f' 114, f' 115, f' 116, f' 117, f' 118, f' 119, f' 120, f' 121, f' 122, f' 123, f' 124, f' 125, f' 126, f' 127, f' 128, f' 129] := ht.open fun f' => rfl
  have hfM : Frm [] M M' := hMN.trans hfr fun x hx => .inr (by simp at hx; rcases hx with rfl | rfl <;> omega)
  have hsvj : Sl M' 32 2 sv F ((c :: al).map Cl.row) := (hs4.frm0 hf2).frm hfr fun x hx => by
    have := hFlt x hx
    simp
    exact ⟨fun h => hnd (h ▸ hx), by omega⟩
  have lmM : m.length < M.length := lt_of_some hb1
  have hb1j := hfM.get0 hb1
  have l2 := lt_of_some hdj
  have l3 := lt_of_some haj
  have l4 := lt_of_some hb1j
  by_cases hlt : j < l.length
  · have hlt' : ((j : Int) < (l.length : Int)) = True := by simp [hlt]
    have h0' : ((0 : Int) ≤ (j : Int)) = True := by simp
    have hwj : IntKind.i64.wrap ((j : Int) + 1) = ((j + 1 : Nat) : Int) := by rw [wrap_i64 (by omega) (by omega)]; omega
    obtain ⟨b, o, cs, T, fz, kd, rfl, hb, hk, hlb, hrow⟩ := hform (by omega)
    obtain ⟨s, hs⟩ : ∃ r, l[j]? = some r := ⟨l[j], List.getElem?_eq_getElem hlt⟩
    have hr : (cs.drop (o + j * 1)).take 1 = [str s] := hrow j [str s] (by simp [hs])
    have hcj : cs[o + j]? = some (str s) := by have := row_cell hr (j := 0) (by omega); simpa using this
    have hbj := ((hf0.nil_trans hfm).nil_trans hfM).get0 hb
    have hbl := lt_of_some hbj
    have hsl : s.length ≤ 100000 := Nat.le_trans (hlen s (List.mem_of_getElem? hs)) (by decide)
    have c0 := cntL_le (cs := c :: al) (l := l.take j) (k := 0)
    have c1 := cntL_le (cs := c :: al) (l := l.take j) (k := 1)
    have c2 := cntL_le (cs := c :: al) (l := l.take j) (k := 2)
    have ctk : (l.take j).length ≤ 40 := by rw [List.length_take]; omega
    simp (contextual := true) (implicitDefEqProofs := false) (maxSteps := 2000000) (disch := first | rfl | exact NB rfl | omega | (simp only [XL]; omega)) only [hlt', h0', hbj, hcj, cellB_l hk, Int.toNat_natCast, Nat.mul_one, XW, undef_eq, Nat.reduceAdd, Nat.reduceSub, ↓reduceIte, basic, cellsL, resOf, setAt, below, belowB, belowA, atomB, Nat.reduceLeDiff, Nat.reduceMul, Int.reduceToNat, Int.reduceLT, Int.reduceLE, Int.reduceAdd, Int.reduceNeg, Int.reduceEq, splice, Nat.reduceEqDiff, Nat.reduceLT, isAtom, Int.reduceSub, Int.reduceMul, implies_true]
    refine (on_spec (cs := c :: al) (s := s) hdj (Sl.rd hsvj) (by simp; omega) hsl ⟨by omega, by omega, by omega⟩).mono ?_
    rintro u M2 ⟨hf3, rfl, hd2⟩
    have hfM2 : Frm [] M M2 := hfM.trans hf3 fun x hx => .inr (by simp at hx; omega)
    have haj2 := hf3.get haj (by simp; omega)
    have hb12 := hfM2.get0 hb1
    have l5 := lt_of_some haj2
    have l6 := lt_of_some hb12
    have hne : m.length ≠ M1.length := by omega
    simp (contextual := true) (implicitDefEqProofs := false) (maxSteps := 2000000) (disch := first | rfl | exact NB rfl | omega | (simp only [XL]; omega)) only [XW, undef_eq, Nat.reduceAdd, Nat.reduceSub, ↓reduceIte, basic, cellsL, resOf, setAt, below, belowB, belowA, atomB, Nat.reduceLeDiff, Nat.reduceMul, Int.reduceToNat, Int.reduceLT, Int.reduceLE, Int.reduceAdd, Int.reduceNeg, Int.reduceEq, splice, Nat.reduceEqDiff, Nat.reduceLT, isAtom, Int.reduceSub, Int.reduceMul, implies_true]
    refine (ron_spec (cs := c :: al) (s := s) (Sl.rd (by simpa using hs2.frm0 hfM2)) (by simp; omega) hsl).use ?_
    have hx0 := cntL_succ (cs := c :: al) hs 0
    have hx1 := cntL_succ (cs := c :: al) hs 1
    have hx2 := cntL_succ (cs := c :: al) hs 2
    have hdh := dec_how (cs := c :: al) (s := s)
    have hwp : ∀ n : Nat, n ≤ 1000 → IntKind.i64.wrap ((n : Int) + 1) = ((n + 1 : Nat) : Int) := fun n h => by rw [wrap_i64 (by omega) (by omega)]; omega
    have w0 := hwp _ (show cntL (c :: al) (l.take j) 0 ≤ 1000 by omega)
    have w1 := hwp _ (show cntL (c :: al) (l.take j) 1 ≤ 1000 by omega)
    have w2 := hwp _ (show cntL (c :: al) (l.take j) 2 ≤ 1000 by omega)
    have hnd1 : M1.length ≠ di := by omega
    rcases onF_how (cs := c :: al) (s := s) with hw3 | hw3 | hw3
    · rw [hw3] at hd2 hx0 hx1 hx2 hdh ⊢
      have hdt : decB s = true := by rw [hdh]; rfl
      simp (contextual := true) (implicitDefEqProofs := false) (maxSteps := 2000000) (disch := first | rfl | exact NB rfl | omega | (simp only [XL]; omega)) only [haj2, w0, bin_ladd, str_cut, str_app, str_eq, string_mk_size, string_mk, hb12, hne, XW, undef_eq, Nat.reduceAdd, Nat.reduceSub, ↓reduceIte, basic, cellsL, resOf, setAt, below, belowB, belowA, atomB, Nat.reduceLeDiff, Nat.reduceMul, Int.reduceToNat, Int.reduceLT, Int.reduceLE, Int.reduceAdd, Int.reduceNeg, Int.reduceEq, splice, Nat.reduceEqDiff, Nat.reduceLT, isAtom, Int.reduceSub, Int.reduceMul, implies_true]
      refine (decodes_spec s hsl _).use ?_
      rw [hdt]
      simp (contextual := true) (implicitDefEqProofs := false) (maxSteps := 2000000) (disch := first | rfl | exact NB rfl | omega | (simp only [XL]; omega)) only [haj2, bin_ladd, str_cut, str_app, str_eq, string_mk_size, string_mk, hb12, hne, XW, undef_eq, Nat.reduceAdd, Nat.reduceSub, ↓reduceIte, basic, cellsL, resOf, setAt, below, belowB, belowA, atomB, Nat.reduceLeDiff, Nat.reduceMul, Int.reduceToNat, Int.reduceLT, Int.reduceLE, Int.reduceAdd, Int.reduceNeg, Int.reduceEq, splice, Nat.reduceEqDiff, Nat.reduceLT, isAtom, Int.reduceSub, Int.reduceMul, implies_true]
      refine (for_spec c s hsl _).use ?_
      simp (contextual := true) (implicitDefEqProofs := false) (maxSteps := 2000000) (disch := first | rfl | exact NB rfl | omega | (simp only [XL]; omega)) only [haj2, bin_ladd, str_cut, str_app, str_eq, string_mk_size, string_mk, hb12, hne, XW, undef_eq, Nat.reduceAdd, Nat.reduceSub, ↓reduceIte, basic, cellsL, resOf, setAt, below, belowB, belowA, atomB, Nat.reduceLeDiff, Nat.reduceMul, Int.reduceToNat, Int.reduceLT, Int.reduceLE, Int.reduceAdd, Int.reduceNeg, Int.reduceEq, splice, Nat.reduceEqDiff, Nat.reduceLT, isAtom, Int.reduceSub, Int.reduceMul, implies_true]
      refine (rfor_spec c s hsl _).use ?_
      cases hfb : forB c s with
      | false =>
        simp (contextual := true) (implicitDefEqProofs := false) (maxSteps := 2000000) (disch := first | rfl | exact NB rfl | omega | (simp only [XL]; omega)) only [haj2, bin_ladd, str_cut, str_app, str_eq, string_mk_size, string_mk, hb12, hne, XW, undef_eq, Nat.reduceAdd, Nat.reduceSub, ↓reduceIte, basic, cellsL, resOf, setAt, below, belowB, belowA, atomB, Nat.reduceLeDiff, Nat.reduceMul, Int.reduceToNat, Int.reduceLT, Int.reduceLE, Int.reduceAdd, Int.reduceNeg, Int.reduceEq, splice, Nat.reduceEqDiff, Nat.reduceLT, isAtom, Int.reduceSub, Int.reduceMul, implies_true]
        exact kInv_go ⟨j + 1, rfl, by omega, (hfr.trans hf3 fun x hx => .inl (by simp at hx; simp [hx])).set (.inl (by simp)), by rw [List.getElem?_set_ne hnd1, hx0, hx1, hx2]; exact hd2, by rw [List.getElem?_set_self l5, hx0, hx1, hx2]; rfl, ⟨rfl, by simp [hwj]⟩⟩ (by omega)
      | true =>
        simp (contextual := true) (implicitDefEqProofs := false) (maxSteps := 2000000) (disch := first | rfl | exact NB rfl | omega | (simp only [XL]; omega)) only [haj2, bin_ladd, str_cut, str_app, str_eq, string_mk_size, string_mk, hb12, hne, XW, undef_eq, Nat.reduceAdd, Nat.reduceSub, ↓reduceIte, basic, cellsL, resOf, setAt, below, belowB, belowA, atomB, Nat.reduceLeDiff, Nat.reduceMul, Int.reduceToNat, Int.reduceLT, Int.reduceLE, Int.reduceAdd, Int.reduceNeg, Int.reduceEq, splice, Nat.reduceEqDiff, Nat.reduceLT, isAtom, Int.reduceSub, Int.reduceMul, implies_true]
        exact kInv_go ⟨j + 1, rfl, by omega, (hfr.trans hf3 fun x hx => .inl (by simp at hx; simp [hx])).set (.inl (by simp)), by rw [List.getElem?_set_ne hnd1, hx0, hx1, hx2]; exact hd2, by rw [List.getElem?_set_self l5, hx0, hx1, hx2]; rfl, ⟨rfl, by simp [hwj]⟩⟩ (by omega)
    · rw [hw3] at hd2 hx0 hx1 hx2 hdh ⊢
      have hdt : decB s = true := by rw [hdh]; rfl
      simp (contextual := true) (implicitDefEqProofs := false) (maxSteps := 2000000) (disch := first | rfl | exact NB rfl | omega | (simp only [XL]; omega)) only [haj2, w1, bin_ladd, str_cut, str_app, str_eq, string_mk_size, string_mk, hb12, hne, XW, undef_eq, Nat.reduceAdd, Nat.reduceSub, ↓reduceIte, basic, cellsL, resOf, setAt, below, belowB, belowA, atomB, Nat.reduceLeDiff, Nat.reduceMul, Int.reduceToNat, Int.reduceLT, Int.reduceLE, Int.reduceAdd, Int.reduceNeg, Int.reduceEq, splice, Nat.reduceEqDiff, Nat.reduceLT, isAtom, Int.reduceSub, Int.reduceMul, implies_true]
      refine (decodes_spec s hsl _).use ?_
      rw [hdt]
      simp (contextual := true) (implicitDefEqProofs := false) (maxSteps := 2000000) (disch := first | rfl | exact NB rfl | omega | (simp only [XL]; omega)) only [haj2, bin_ladd, str_cut, str_app, str_eq, string_mk_size, string_mk, hb12, hne, XW, undef_eq, Nat.reduceAdd, Nat.reduceSub, ↓reduceIte, basic, cellsL, resOf, setAt, below, belowB, belowA, atomB, Nat.reduceLeDiff, Nat.reduceMul, Int.reduceToNat, Int.reduceLT, Int.reduceLE, Int.reduceAdd, Int.reduceNeg, Int.reduceEq, splice, Nat.reduceEqDiff, Nat.reduceLT, isAtom, Int.reduceSub, Int.reduceMul, implies_true]
      refine (for_spec c s hsl _).use ?_
      simp (contextual := true) (implicitDefEqProofs := false) (maxSteps := 2000000) (disch := first | rfl | exact NB rfl | omega | (simp only [XL]; omega)) only [haj2, bin_ladd, str_cut, str_app, str_eq, string_mk_size, string_mk, hb12, hne, XW, undef_eq, Nat.reduceAdd, Nat.reduceSub, ↓reduceIte, basic, cellsL, resOf, setAt, below, belowB, belowA, atomB, Nat.reduceLeDiff, Nat.reduceMul, Int.reduceToNat, Int.reduceLT, Int.reduceLE, Int.reduceAdd, Int.reduceNeg, Int.reduceEq, splice, Nat.reduceEqDiff, Nat.reduceLT, isAtom, Int.reduceSub, Int.reduceMul, implies_true]
      refine (rfor_spec c s hsl _).use ?_
      cases hfb : forB c s with
      | false =>
        simp (contextual := true) (implicitDefEqProofs := false) (maxSteps := 2000000) (disch := first | rfl | exact NB rfl | omega | (simp only [XL]; omega)) only [haj2, bin_ladd, str_cut, str_app, str_eq, string_mk_size, string_mk, hb12, hne, XW, undef_eq, Nat.reduceAdd, Nat.reduceSub, ↓reduceIte, basic, cellsL, resOf, setAt, below, belowB, belowA, atomB, Nat.reduceLeDiff, Nat.reduceMul, Int.reduceToNat, Int.reduceLT, Int.reduceLE, Int.reduceAdd, Int.reduceNeg, Int.reduceEq, splice, Nat.reduceEqDiff, Nat.reduceLT, isAtom, Int.reduceSub, Int.reduceMul, implies_true]
        exact kInv_go ⟨j + 1, rfl, by omega, (hfr.trans hf3 fun x hx => .inl (by simp at hx; simp [hx])).set (.inl (by simp)), by rw [List.getElem?_set_ne hnd1, hx0, hx1, hx2]; exact hd2, by rw [List.getElem?_set_self l5, hx0, hx1, hx2]; rfl, ⟨rfl, by simp [hwj]⟩⟩ (by omega)
      | true =>
        simp (contextual := true) (implicitDefEqProofs := false) (maxSteps := 2000000) (disch := first | rfl | exact NB rfl | omega | (simp only [XL]; omega)) only [haj2, bin_ladd, str_cut, str_app, str_eq, string_mk_size, string_mk, hb12, hne, XW, undef_eq, Nat.reduceAdd, Nat.reduceSub, ↓reduceIte, basic, cellsL, resOf, setAt, below, belowB, belowA, atomB, Nat.reduceLeDiff, Nat.reduceMul, Int.reduceToNat, Int.reduceLT, Int.reduceLE, Int.reduceAdd, Int.reduceNeg, Int.reduceEq, splice, Nat.reduceEqDiff, Nat.reduceLT, isAtom, Int.reduceSub, Int.reduceMul, implies_true]
        exact kInv_go ⟨j + 1, rfl, by omega, (hfr.trans hf3 fun x hx => .inl (by simp at hx; simp [hx])).set (.inl (by simp)), by rw [List.getElem?_set_ne hnd1, hx0, hx1, hx2]; exact hd2, by rw [List.getElem?_set_self l5, hx0, hx1, hx2]; rfl, ⟨rfl, by simp [hwj]⟩⟩ (by omega)
    · rw [hw3] at hd2 hx0 hx1 hx2 hdh ⊢
      have hdt : decB s = false := by rw [hdh]; rfl
      simp (contextual := true) (implicitDefEqProofs := false) (maxSteps := 2000000) (disch := first | rfl | exact NB rfl | omega | (simp only [XL]; omega)) only [haj2, w2, bin_ladd, str_cut, str_app, str_eq, string_mk_size, string_mk, hb12, hne, XW, undef_eq, Nat.reduceAdd, Nat.reduceSub, ↓reduceIte, basic, cellsL, resOf, setAt, below, belowB, belowA, atomB, Nat.reduceLeDiff, Nat.reduceMul, Int.reduceToNat, Int.reduceLT, Int.reduceLE, Int.reduceAdd, Int.reduceNeg, Int.reduceEq, splice, Nat.reduceEqDiff, Nat.reduceLT, isAtom, Int.reduceSub, Int.reduceMul, implies_true]
      refine (decodes_spec s hsl _).use ?_
      rw [hdt]
      simp (contextual := true) (implicitDefEqProofs := false) (maxSteps := 2000000) (disch := first | rfl | exact NB rfl | omega | (simp only [XL]; omega)) only [haj2, bin_ladd, str_cut, str_app, str_eq, string_mk_size, string_mk, hb12, hne, XW, undef_eq, Nat.reduceAdd, Nat.reduceSub, ↓reduceIte, basic, cellsL, resOf, setAt, below, belowB, belowA, atomB, Nat.reduceLeDiff, Nat.reduceMul, Int.reduceToNat, Int.reduceLT, Int.reduceLE, Int.reduceAdd, Int.reduceNeg, Int.reduceEq, splice, Nat.reduceEqDiff, Nat.reduceLT, isAtom, Int.reduceSub, Int.reduceMul, implies_true]
      refine (for_spec c s hsl _).use ?_
      simp (contextual := true) (implicitDefEqProofs := false) (maxSteps := 2000000) (disch := first | rfl | exact NB rfl | omega | (simp only [XL]; omega)) only [haj2, bin_ladd, str_cut, str_app, str_eq, string_mk_size, string_mk, hb12, hne, XW, undef_eq, Nat.reduceAdd, Nat.reduceSub, ↓reduceIte, basic, cellsL, resOf, setAt, below, belowB, belowA, atomB, Nat.reduceLeDiff, Nat.reduceMul, Int.reduceToNat, Int.reduceLT, Int.reduceLE, Int.reduceAdd, Int.reduceNeg, Int.reduceEq, splice, Nat.reduceEqDiff, Nat.reduceLT, isAtom, Int.reduceSub, Int.reduceMul, implies_true]
      refine (rfor_spec c s hsl _).use ?_
      cases hfb : forB c s with
      | false =>
        simp (contextual := true) (implicitDefEqProofs := false) (maxSteps := 2000000) (disch := first | rfl | exact NB rfl | omega | (simp only [XL]; omega)) only [haj2, bin_ladd, str_cut, str_app, str_eq, string_mk_size, string_mk, hb12, hne, XW, undef_eq, Nat.reduceAdd, Nat.reduceSub, ↓reduceIte, basic, cellsL, resOf, setAt, below, belowB, belowA, atomB, Nat.reduceLeDiff, Nat.reduceMul, Int.reduceToNat, Int.reduceLT, Int.reduceLE, Int.reduceAdd, Int.reduceNeg, Int.reduceEq, splice, Nat.reduceEqDiff, Nat.reduceLT, isAtom, Int.reduceSub, Int.reduceMul, implies_true]
        exact kInv_go ⟨j + 1, rfl, by omega, (hfr.trans hf3 fun x hx => .inl (by simp at hx; simp [hx])).set (.inl (by simp)), by rw [List.getElem?_set_ne hnd1, hx0, hx1, hx2]; exact hd2, by rw [List.getElem?_set_self l5, hx0, hx1, hx2]; rfl, ⟨rfl, by simp [hwj]⟩⟩ (by omega)
      | true =>
        simp (contextual := true) (implicitDefEqProofs := false) (maxSteps := 2000000) (disch := first | rfl | exact NB rfl | omega | (simp only [XL]; omega)) only [haj2, bin_ladd, str_cut, str_app, str_eq, string_mk_size, string_mk, hb12, hne, XW, undef_eq, Nat.reduceAdd, Nat.reduceSub, ↓reduceIte, basic, cellsL, resOf, setAt, below, belowB, belowA, atomB, Nat.reduceLeDiff, Nat.reduceMul, Int.reduceToNat, Int.reduceLT, Int.reduceLE, Int.reduceAdd, Int.reduceNeg, Int.reduceEq, splice, Nat.reduceEqDiff, Nat.reduceLT, isAtom, Int.reduceSub, Int.reduceMul, implies_true]
        exact kInv_go ⟨j + 1, rfl, by omega, (hfr.trans hf3 fun x hx => .inl (by simp at hx; simp [hx])).set (.inl (by simp)), by rw [List.getElem?_set_ne hnd1, hx0, hx1, hx2]; exact hd2, by rw [List.getElem?_set_self l5, hx0, hx1, hx2]; rfl, ⟨rfl, by simp [hwj]⟩⟩ (by omega)
  · have hlt' : ((j : Int) < (l.length : Int)) = False := by simp; omega
    simp (contextual := true) (implicitDefEqProofs := false) (maxSteps := 2000000) (disch := first | rfl | exact NB rfl | omega | (simp only [XL]; omega)) only [hlt', XW, undef_eq, Nat.reduceAdd, Nat.reduceSub, ↓reduceIte, basic, cellsL, resOf, setAt, below, belowB, belowA, atomB, Nat.reduceLeDiff, Nat.reduceMul, Int.reduceToNat, Int.reduceLT, Int.reduceLE, Int.reduceAdd, Int.reduceNeg, Int.reduceEq, splice, Nat.reduceEqDiff, Nat.reduceLT, isAtom, Int.reduceSub, Int.reduceMul, implies_true]
    refine (counts_spec hdj).use ?_
    simp (contextual := true) (implicitDefEqProofs := false) (maxSteps := 2000000) (disch := first | rfl | exact NB rfl | omega | (simp only [XL]; omega)) only [haj, hb1j, XW, undef_eq, Nat.reduceAdd, Nat.reduceSub, ↓reduceIte, basic, cellsL, resOf, setAt, below, belowB, belowA, atomB, Nat.reduceLeDiff, Nat.reduceMul, Int.reduceToNat, Int.reduceLT, Int.reduceLE, Int.reduceAdd, Int.reduceNeg, Int.reduceEq, splice, Nat.reduceEqDiff, Nat.reduceLT, isAtom, Int.reduceSub, Int.reduceMul, implies_true]
    refine (mine_spec (c := c) hdj (Sl.rd hsvj) (by simp; omega)).use ?_
    rw [decide_eq_true (show c ∈ c :: al by simp)]
    simp (contextual := true) (implicitDefEqProofs := false) (maxSteps := 2000000) (disch := first | rfl | exact NB rfl | omega | (simp only [XL]; omega)) only [XW, undef_eq, Nat.reduceAdd, Nat.reduceSub, ↓reduceIte, basic, cellsL, resOf, setAt, below, belowB, belowA, atomB, Nat.reduceLeDiff, Nat.reduceMul, Int.reduceToNat, Int.reduceLT, Int.reduceLE, Int.reduceAdd, Int.reduceNeg, Int.reduceEq, splice, Nat.reduceEqDiff, Nat.reduceLT, isAtom, Int.reduceSub, Int.reduceMul, implies_true]
theorem cl_ofL {m : Mem} {n : Nat} {xs : List Value} (h : TyL Tryd.prog m (n + 2) 32 xs) : ∃ c : Cl, xs = c.row ∧ c.okW := by
  obtain ⟨x1, _, rfl, h1, x2, _, rfl, h2, rfl⟩ := h.struct Tryd.underlying32 rfl
  obtain ⟨s, rfl, hs⟩ := h1.text Tryd.underlying9
  obtain ⟨a, rfl, ha⟩ := h2.int Tryd.underlying3
  obtain ⟨l, rfl⟩ := str_is s
  rw [string_mk_size] at hs
  exact ⟨⟨l, a⟩, rfl, Nat.le_trans hs (by decide), by simpa [Lit.wf] using ha⟩
theorem str_ofL {m : Mem} {n : Nat} {xs : List Value} (h : TyL Tryd.prog m (n + 1) 9 xs) : ∃ s : List UInt8, xs = [str s] ∧ True := by
  obtain ⟨s, rfl, hs⟩ := h.text Tryd.underlying9
  obtain ⟨l, rfl⟩ := str_is s
  exact ⟨l, rfl, trivial⟩
theorem in_rdn {α : Type} {f : α → List Value} {sz : Nat} (hfl : ∀ x, (f x).length = sz) {m : Mem} {v : Value} {cells : List Value} {k : Nat} (h : SlIn m sz cells k v) {l : List α} (hk : l.length = k) (hc : cells = (l.map f).flatten) : RdN m sz v (l.map f) := by
  subst hk hc
  have hl := flatten_length (f := f) (s := sz) hfl l
  constructor
  · obtain ⟨a, rfl, _, hf⟩ := h.form
    refine ⟨a, by simp, fun hp => ?_⟩
    simp only [List.length_map] at hp
    obtain ⟨i, T, rfl, hm, hi⟩ := hf hp
    refine ⟨i, 0, _, T, 0, .ro, rfl, hm, rfl, by simp only [List.length_map]; omega, fun j r hr => ?_⟩
    rw [List.getElem?_map] at hr
    obtain ⟨c, hc, rfl⟩ := Option.map_eq_some_iff.mp hr
    rw [Nat.zero_add]
    exact flatten_part (f := f) (s := sz) hfl l j c hc
  · intro M hM
    rcases h with ⟨rfl, h1, _⟩ | ⟨i, T, k, h | h⟩
    · rw [h1]; rfl
    · obtain ⟨rfl, hm, rfl, _⟩ := h
      rw [new_sl, hM.get0 hm, cellsB_l rfl (by omega), List.drop_zero, List.take_of_length_le (by omega)]
      rfl
    · obtain ⟨rfl, hm, h1, _⟩ := h
      rw [h1, new_sl, hM.get0 hm, Nat.zero_mul]
      simp [cellsB, Kind.live, orNil]
theorem digisends_all (m : Mem) (vs : List Value) (h : F2 (TyV Tryd.prog m 6) [32, 43, 24] vs) : LCall Tryd.prog 4 vs m fun v _ => v = .bool true := by
  obtain ⟨x1, x2, x3, rfl, h1, h2, h3⟩ := h.three_inv
  obtain ⟨c, rfl, hc⟩ := cl_of h1
  obtain ⟨cells, q, hs, hty⟩ := h2.slice Tryd.underlying43 (sz := 2) (by kernel_rfl)
  obtain ⟨al, hq, hcells, hcb⟩ := hty.map (f := Cl.row) fun xs hx => cl_ofL hx
  obtain ⟨cells2, q2, hs2, hty2⟩ := h3.slice Tryd.underlying24 (sz := 1) (by kernel_rfl)
  obtain ⟨l, hq2, hcells2, _⟩ := hty2.map (f := fun s : List UInt8 => [str s]) fun xs hx => str_ofL hx
  exact sends_law (in_rdn (f := Cl.row) (sz := 2) (fun _ => rfl) hs hq hcells) (fun e he => by
    rcases List.mem_cons.mp he with rfl | he
    · exact hc
    · exact hcb e he) (in_rdn (f := fun s : List UInt8 => [str s]) (sz := 1) (fun _ => rfl) hs2 hq2 hcells2).1
end Go.Proofs.YtadkdihbbngbfaaDoor
