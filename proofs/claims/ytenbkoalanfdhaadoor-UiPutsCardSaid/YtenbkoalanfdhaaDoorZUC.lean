/- What is wrong with a frame; its bytes: walked. -/
import Derived.Test.YtenbkoalanfdhaaDoorZUB
namespace Go.Proofs.YtenbkoalanfdhaaDoor
open Go.Lg
set_option maxRecDepth 8000
set_option maxHeartbeats 8000000
set_option linter.unusedSimpArgs false
set_option linter.unnecessarySimpa false
set_option linter.unusedVariables false

theorem wrong_spec {tb : List UInt8} {ts : Int} {fb : List UInt8} {fs : Int} {tm fm : Bool} {dv : Value} {l : List En} {c : Ct} {pid : Int} {info : List UInt8} {wide rb pb ib : Bool} {m : Mem}
    (htb : tb.length ≤ 140737488355328) (hfb : fb.length ≤ 140737488355328) (hb : ∀ e ∈ l, e.b.length ≤ 140737488355328) (h : Rd m 3 dv (l.map En.row)) (hn : l.length ≤ 1000000)
    (hR : ∀ m, Ret Tryd.prog 103 [c.val, .bool wide] m (.bool rb) m) (hP : ∀ m, Ret Tryd.prog 74 [.int .i64 c.k] m (.bool pb) m) (hI : ∀ m, Ret Tryd.prog 120 [.int .i64 c.k] m (.bool ib) m) (hl : info.length ≤ 140737488355328) :
    Ret Tryd.prog 71 [frameV tb ts fb fs tm fm dv c pid info, .bool wide] m (.int .i64 (wrongE (rightP tb ts fb fs l) rb pb ib pid info)) m := by
  have h0 := h
  obtain ⟨a, rfl, _⟩ := h
  refine LCall_drop (LCall_enter Tryd.func71 c71 ?_)
  simp (contextual := true) (implicitDefEqProofs := false) (maxSteps := 2000000) (disch := first | rfl | exact Nat.le_of_ble_eq_true rfl | omega | (simp only [List.length_append, List.length_cons, List.length_nil, List.length_set]; omega)) only [L71, X1, X2, X3, X4, XA, XB, lc_block, lc_cond, XZ, undef_eq, Nat.reduceAdd, Nat.reduceSub, ↓reduceIte, basic, cellsL, resOf, setAt, below, belowB, belowA, atomB, Nat.reduceLeDiff, Nat.reduceMul, Int.reduceToNat, Int.reduceLT, Int.reduceLE, Int.reduceAdd, Int.reduceNeg, Int.reduceEq, splice, Nat.reduceEqDiff, Nat.reduceLT, isAtom, Int.reduceSub, Int.reduceMul, implies_true]
  refine (rightP_spec htb hfb hb h0.app hn).use ?_
  cases hr : rightP tb ts fb fs l with
  | false => simp (contextual := true) (implicitDefEqProofs := false) (maxSteps := 2000000) (disch := first | rfl | exact Nat.le_of_ble_eq_true rfl | omega | (simp only [List.length_append, List.length_cons, List.length_nil, List.length_set]; omega)) only [wrongE, X1, X2, X3, X4, XA, XB, lc_block, lc_cond, XZ, undef_eq, Nat.reduceAdd, Nat.reduceSub, ↓reduceIte, basic, cellsL, resOf, setAt, below, belowB, belowA, atomB, Nat.reduceLeDiff, Nat.reduceMul, Int.reduceToNat, Int.reduceLT, Int.reduceLE, Int.reduceAdd, Int.reduceNeg, Int.reduceEq, splice, Nat.reduceEqDiff, Nat.reduceLT, isAtom, Int.reduceSub, Int.reduceMul, implies_true]
  | true =>
    simp (contextual := true) (implicitDefEqProofs := false) (maxSteps := 2000000) (disch := first | rfl | exact Nat.le_of_ble_eq_true rfl | omega | (simp only [List.length_append, List.length_cons, List.length_nil, List.length_set]; omega)) only [X1, X2, X3, X4, XA, XB, lc_block, lc_cond, XZ, undef_eq, Nat.reduceAdd, Nat.reduceSub, ↓reduceIte, basic, cellsL, resOf, setAt, below, belowB, belowA, atomB, Nat.reduceLeDiff, Nat.reduceMul, Int.reduceToNat, Int.reduceLT, Int.reduceLE, Int.reduceAdd, Int.reduceNeg, Int.reduceEq, splice, Nat.reduceEqDiff, Nat.reduceLT, isAtom, Int.reduceSub, Int.reduceMul, implies_true]
    refine (hR _).use ?_
    cases rb with
    | false =>
      simp (contextual := true) (implicitDefEqProofs := false) (maxSteps := 2000000) (disch := first | rfl | exact Nat.le_of_ble_eq_true rfl | omega | (simp only [List.length_append, List.length_cons, List.length_nil, List.length_set]; omega)) only [X1, X2, X3, X4, XA, XB, lc_block, lc_cond, XZ, undef_eq, Nat.reduceAdd, Nat.reduceSub, ↓reduceIte, basic, cellsL, resOf, setAt, below, belowB, belowA, atomB, Nat.reduceLeDiff, Nat.reduceMul, Int.reduceToNat, Int.reduceLT, Int.reduceLE, Int.reduceAdd, Int.reduceNeg, Int.reduceEq, splice, Nat.reduceEqDiff, Nat.reduceLT, isAtom, Int.reduceSub, Int.reduceMul, implies_true]
      simp [wrongE]
    | true =>
      by_cases h1 : pid < 0
      · have h1' : (pid < 0) = True := eq_true h1
        simp (contextual := true) (implicitDefEqProofs := false) (maxSteps := 2000000) (disch := first | rfl | exact Nat.le_of_ble_eq_true rfl | omega | (simp only [List.length_append, List.length_cons, List.length_nil, List.length_set]; omega)) only [h1', X1, X2, X3, X4, XA, XB, lc_block, lc_cond, XZ, undef_eq, Nat.reduceAdd, Nat.reduceSub, ↓reduceIte, basic, cellsL, resOf, setAt, below, belowB, belowA, atomB, Nat.reduceLeDiff, Nat.reduceMul, Int.reduceToNat, Int.reduceLT, Int.reduceLE, Int.reduceAdd, Int.reduceNeg, Int.reduceEq, splice, Nat.reduceEqDiff, Nat.reduceLT, isAtom, Int.reduceSub, Int.reduceMul, implies_true]
        simp [wrongE, h1]
      have h1' : (pid < 0) = False := eq_false h1
      by_cases h2 : 255 < pid
      · have h2' : (255 < pid) = True := eq_true h2
        simp (contextual := true) (implicitDefEqProofs := false) (maxSteps := 2000000) (disch := first | rfl | exact Nat.le_of_ble_eq_true rfl | omega | (simp only [List.length_append, List.length_cons, List.length_nil, List.length_set]; omega)) only [h1', h2', X1, X2, X3, X4, XA, XB, lc_block, lc_cond, XZ, undef_eq, Nat.reduceAdd, Nat.reduceSub, ↓reduceIte, basic, cellsL, resOf, setAt, below, belowB, belowA, atomB, Nat.reduceLeDiff, Nat.reduceMul, Int.reduceToNat, Int.reduceLT, Int.reduceLE, Int.reduceAdd, Int.reduceNeg, Int.reduceEq, splice, Nat.reduceEqDiff, Nat.reduceLT, isAtom, Int.reduceSub, Int.reduceMul, implies_true]
        simp [wrongE, h2]
      have h2' : (255 < pid) = False := eq_false h2
      by_cases h3 : pid = 0
      · have e : wrongE true true pb ib pid info = infoE ib info := by simp [wrongE, h1, h2, h3]
        subst h3
        simp (contextual := true) (implicitDefEqProofs := false) (maxSteps := 2000000) (disch := first | rfl | exact Nat.le_of_ble_eq_true rfl | omega | (simp only [List.length_append, List.length_cons, List.length_nil, List.length_set]; omega)) only [X1, X2, X3, X4, XA, XB, lc_block, lc_cond, XZ, undef_eq, Nat.reduceAdd, Nat.reduceSub, ↓reduceIte, basic, cellsL, resOf, setAt, below, belowB, belowA, atomB, Nat.reduceLeDiff, Nat.reduceMul, Int.reduceToNat, Int.reduceLT, Int.reduceLE, Int.reduceAdd, Int.reduceNeg, Int.reduceEq, splice, Nat.reduceEqDiff, Nat.reduceLT, isAtom, Int.reduceSub, Int.reduceMul, implies_true]
        refine (info_spec hI hl).use ?_
        simp (contextual := true) (implicitDefEqProofs := false) (maxSteps := 2000000) (disch := first | rfl | exact Nat.le_of_ble_eq_true rfl | omega | (simp only [List.length_append, List.length_cons, List.length_nil, List.length_set]; omega)) only [X1, X2, X3, X4, XA, XB, lc_block, lc_cond, XZ, undef_eq, Nat.reduceAdd, Nat.reduceSub, ↓reduceIte, basic, cellsL, resOf, setAt, below, belowB, belowA, atomB, Nat.reduceLeDiff, Nat.reduceMul, Int.reduceToNat, Int.reduceLT, Int.reduceLE, Int.reduceAdd, Int.reduceNeg, Int.reduceEq, splice, Nat.reduceEqDiff, Nat.reduceLT, isAtom, Int.reduceSub, Int.reduceMul, implies_true]
        rw [e]
      · have h3' : (pid = 0) = False := eq_false h3
        simp (contextual := true) (implicitDefEqProofs := false) (maxSteps := 2000000) (disch := first | rfl | exact Nat.le_of_ble_eq_true rfl | omega | (simp only [List.length_append, List.length_cons, List.length_nil, List.length_set]; omega)) only [h1', h2', h3', X1, X2, X3, X4, XA, XB, lc_block, lc_cond, XZ, undef_eq, Nat.reduceAdd, Nat.reduceSub, ↓reduceIte, basic, cellsL, resOf, setAt, below, belowB, belowA, atomB, Nat.reduceLeDiff, Nat.reduceMul, Int.reduceToNat, Int.reduceLT, Int.reduceLE, Int.reduceAdd, Int.reduceNeg, Int.reduceEq, splice, Nat.reduceEqDiff, Nat.reduceLT, isAtom, Int.reduceSub, Int.reduceMul, implies_true]
        refine (hP _).use ?_
        cases pb with
        | false =>
          simp (contextual := true) (implicitDefEqProofs := false) (maxSteps := 2000000) (disch := first | rfl | exact Nat.le_of_ble_eq_true rfl | omega | (simp only [List.length_append, List.length_cons, List.length_nil, List.length_set]; omega)) only [X1, X2, X3, X4, XA, XB, lc_block, lc_cond, XZ, undef_eq, Nat.reduceAdd, Nat.reduceSub, ↓reduceIte, basic, cellsL, resOf, setAt, below, belowB, belowA, atomB, Nat.reduceLeDiff, Nat.reduceMul, Int.reduceToNat, Int.reduceLT, Int.reduceLE, Int.reduceAdd, Int.reduceNeg, Int.reduceEq, splice, Nat.reduceEqDiff, Nat.reduceLT, isAtom, Int.reduceSub, Int.reduceMul, implies_true]
          simp [wrongE, h3]
        | true =>
          have e : wrongE true true true ib pid info = infoE ib info := by simp [wrongE, h1, h2]
          simp (contextual := true) (implicitDefEqProofs := false) (maxSteps := 2000000) (disch := first | rfl | exact Nat.le_of_ble_eq_true rfl | omega | (simp only [List.length_append, List.length_cons, List.length_nil, List.length_set]; omega)) only [X1, X2, X3, X4, XA, XB, lc_block, lc_cond, XZ, undef_eq, Nat.reduceAdd, Nat.reduceSub, ↓reduceIte, basic, cellsL, resOf, setAt, below, belowB, belowA, atomB, Nat.reduceLeDiff, Nat.reduceMul, Int.reduceToNat, Int.reduceLT, Int.reduceLE, Int.reduceAdd, Int.reduceNeg, Int.reduceEq, splice, Nat.reduceEqDiff, Nat.reduceLT, isAtom, Int.reduceSub, Int.reduceMul, implies_true]
          refine (info_spec hI hl).use ?_
          simp (contextual := true) (implicitDefEqProofs := false) (maxSteps := 2000000) (disch := first | rfl | exact Nat.le_of_ble_eq_true rfl | omega | (simp only [List.length_append, List.length_cons, List.length_nil, List.length_set]; omega)) only [X1, X2, X3, X4, XA, XB, lc_block, lc_cond, XZ, undef_eq, Nat.reduceAdd, Nat.reduceSub, ↓reduceIte, basic, cellsL, resOf, setAt, below, belowB, belowA, atomB, Nat.reduceLeDiff, Nat.reduceMul, Int.reduceToNat, Int.reduceLT, Int.reduceLE, Int.reduceAdd, Int.reduceNeg, Int.reduceEq, splice, Nat.reduceEqDiff, Nat.reduceLT, isAtom, Int.reduceSub, Int.reduceMul, implies_true]
          rw [e]

theorem encode_wrong {tb : List UInt8} {ts : Int} {fb : List UInt8} {fs : Int} {tm fm : Bool} {dv : Value} {l : List En} {c : Ct} {pid : Int} {info : List UInt8} {wide rb pb ib : Bool} {m : Mem}
    (htb : tb.length ≤ 140737488355328) (hfb : fb.length ≤ 140737488355328) (hb : ∀ e ∈ l, e.b.length ≤ 140737488355328) (h : Rd m 3 dv (l.map En.row)) (hn : l.length ≤ 1000000)
    (hR : ∀ m, Ret Tryd.prog 103 [c.val, .bool wide] m (.bool rb) m) (hP : ∀ m, Ret Tryd.prog 74 [.int .i64 c.k] m (.bool pb) m) (hI : ∀ m, Ret Tryd.prog 120 [.int .i64 c.k] m (.bool ib) m) (hl : info.length ≤ 140737488355328)
    (hw : wrongE (rightP tb ts fb fs l) rb pb ib pid info ≠ 0) :
    Ret Tryd.prog 44 [frameV tb ts fb fs tm fm dv c pid info, .bool wide] m (.tuple #[.string ⟨#[]⟩, .int .i64 (wrongE (rightP tb ts fb fs l) rb pb ib pid info)]) m := by
  have h0 := h
  obtain ⟨a, rfl, _⟩ := h
  refine LCall_drop (LCall_enter Tryd.func44 c44 ?_)
  simp (contextual := true) (implicitDefEqProofs := false) (maxSteps := 2000000) (disch := first | rfl | exact Nat.le_of_ble_eq_true rfl | omega | (simp only [List.length_append, List.length_cons, List.length_nil, List.length_set]; omega)) only [L44, X1, X2, X3, X4, XA, XB, lc_block, lc_cond, XZ, undef_eq, Nat.reduceAdd, Nat.reduceSub, ↓reduceIte, basic, cellsL, resOf, setAt, below, belowB, belowA, atomB, Nat.reduceLeDiff, Nat.reduceMul, Int.reduceToNat, Int.reduceLT, Int.reduceLE, Int.reduceAdd, Int.reduceNeg, Int.reduceEq, splice, Nat.reduceEqDiff, Nat.reduceLT, isAtom, Int.reduceSub, Int.reduceMul, implies_true]
  refine (wrong_spec htb hfb hb h0.app hn hR hP hI hl).use ?_
  have hw' : (wrongE (rightP tb ts fb fs l) rb pb ib pid info = 0) = False := eq_false hw
  simp (contextual := true) (implicitDefEqProofs := false) (maxSteps := 2000000) (disch := first | rfl | exact Nat.le_of_ble_eq_true rfl | omega | (simp only [List.length_append, List.length_cons, List.length_nil, List.length_set]; omega)) only [hw', X1, X2, X3, X4, XA, XB, lc_block, lc_cond, XZ, undef_eq, Nat.reduceAdd, Nat.reduceSub, ↓reduceIte, basic, cellsL, resOf, setAt, below, belowB, belowA, atomB, Nat.reduceLeDiff, Nat.reduceMul, Int.reduceToNat, Int.reduceLT, Int.reduceLE, Int.reduceAdd, Int.reduceNeg, Int.reduceEq, splice, Nat.reduceEqDiff, Nat.reduceLT, isAtom, Int.reduceSub, Int.reduceMul, implies_true]
theorem encode_spec {tb : List UInt8} {ts : Int} {fb : List UInt8} {fs : Int} {tm fm : Bool} {dv : Value} {F : List Nat} {l : List En} {c : Ct} {pid : Int} {info ct : List UInt8} {wide rb pb ib : Bool} {m : Mem}
    (h : Sl m 118 3 dv F (l.map En.row))
    (hR : ∀ m, Ret Tryd.prog 103 [c.val, .bool wide] m (.bool rb) m) (hP : ∀ m, Ret Tryd.prog 74 [.int .i64 c.k] m (.bool pb) m) (hI : ∀ m, Ret Tryd.prog 120 [.int .i64 c.k] m (.bool ib) m)
    (hC : ∀ m, Ret Tryd.prog 72 [c.val, .bool wide] m (.tuple #[str ct, .int .i64 0]) m) (hct : ct.length ≤ 1000)
    (hw : wrongE (rightP tb ts fb fs l) rb pb ib pid info = 0) :
    Ret Tryd.prog 44 [frameV tb ts fb fs tm fm dv c pid info, .bool wide] m (.tuple #[str (encF (⟨tb, ts, tm⟩ :: ⟨fb, fs, fm⟩ :: l) ct pb pid info), .int .i64 0]) m := by
  have hrp : rightP tb ts fb fs l = true := by
    cases hr : rightP tb ts fb fs l with
    | true => rfl
    | false => rw [wrongE, if_pos hr] at hw; cases hw
  have hw0 := hw
  rw [hrp, wrongE, if_neg (by simp)] at hw
  split at hw
  · cases hw
  rename_i hw1
  have hil : info.length ≤ 256 := by
    unfold infoE at hw
    split at hw
    · cases hw
    split at hw
    · cases hw
    · omega
  obtain ⟨hl8, _, hok⟩ := rightP_le (tm := tm) (fm := fm) hrp
  have hlet : ∀ e ∈ (⟨tb, ts, tm⟩ :: ⟨fb, fs, fm⟩ :: l : List En), e.b.length ≤ 6 := fun e he => (right_le (hok e he)).2.1.2
  have htb := hlet ⟨tb, ts, tm⟩ (by simp)
  have hfb := hlet ⟨fb, fs, fm⟩ (by simp)
  simp only at htb hfb
  have h0 := h
  obtain ⟨a, rfl, _⟩ := h.form
  refine LCall_drop (LCall_enter Tryd.func44 c44 ?_)
  simp (contextual := true) (implicitDefEqProofs := false) (maxSteps := 2000000) (disch := first | rfl | exact Nat.le_of_ble_eq_true rfl | omega | (simp only [List.length_append, List.length_cons, List.length_nil, List.length_set]; omega)) only [L44, X1, X2, X3, X4, XA, XB, lc_block, lc_cond, XZ, undef_eq, Nat.reduceAdd, Nat.reduceSub, ↓reduceIte, basic, cellsL, resOf, setAt, below, belowB, belowA, atomB, Nat.reduceLeDiff, Nat.reduceMul, Int.reduceToNat, Int.reduceLT, Int.reduceLE, Int.reduceAdd, Int.reduceNeg, Int.reduceEq, splice, Nat.reduceEqDiff, Nat.reduceLT, isAtom, Int.reduceSub, Int.reduceMul, implies_true]
  refine (wrong_spec (l := l) (by omega) (by omega) (fun e he => by have := hlet e (by simp [he]); omega) (Sl.rd h0).app (by omega) hR hP hI (by omega)).use ?_
  rw [hw0]
  simp (contextual := true) (implicitDefEqProofs := false) (maxSteps := 2000000) (disch := first | rfl | exact Nat.le_of_ble_eq_true rfl | omega | (simp only [List.length_append, List.length_cons, List.length_nil, List.length_set]; omega)) only [X1, X2, X3, X4, XA, XB, lc_block, lc_cond, XZ, undef_eq, Nat.reduceAdd, Nat.reduceSub, ↓reduceIte, basic, cellsL, resOf, setAt, below, belowB, belowA, atomB, Nat.reduceLeDiff, Nat.reduceMul, Int.reduceToNat, Int.reduceLT, Int.reduceLE, Int.reduceAdd, Int.reduceNeg, Int.reduceEq, splice, Nat.reduceEqDiff, Nat.reduceLT, isAtom, Int.reduceSub, Int.reduceMul, implies_true]
  have hpid : 0 ≤ pid ∧ pid ≤ 255 := by
    constructor
    · exact Int.not_lt.mp fun h => hw1 (.inr (.inl h))
    · exact Int.not_lt.mp fun h => hw1 (.inr (.inr (.inl h)))
  obtain ⟨x, hx⟩ : ∃ x : UInt8, IntKind.u8.wrap pid = (x.toNat : Int) ∧ UInt8.ofNat pid.toNat = x := by
    refine ⟨UInt8.ofNat pid.toNat, ?_, rfl⟩
    obtain ⟨n, rfl⟩ : ∃ n : Nat, pid = (n : Int) := ⟨pid.toNat, by omega⟩
    rw [Int.toNat_natCast, u8_of (by omega), wrap_u8n (by omega)]
  obtain ⟨hx, hx2⟩ := hx
  obtain ⟨M0, hM, hf0, hb0, hb1⟩ : ∃ M0, m ++ [⟨[str tb, .int .i64 ts, str fb, .int .i64 fs, .bool tm, .bool fm, .slice a (l.map En.row).length (l.map En.row).length, .int .i64 c.k, .int .i64 c.ns, .int .i64 c.nr, .bool c.pf, .int .i64 pid, str info], 90, 1, 0, .own⟩, ⟨[.pointer none, .slice none 0 0], 142, 0, 0, .own⟩] = M0 ∧ Frm [] m M0 ∧ M0[m.length]? = some ⟨[str tb, .int .i64 ts, str fb, .int .i64 fs, .bool tm, .bool fm, .slice a (l.map En.row).length (l.map En.row).length, .int .i64 c.k, .int .i64 c.ns, .int .i64 c.nr, .bool c.pf, .int .i64 pid, str info], 90, 1, 0, .own⟩ ∧ Bd 142 5 M0 (m.length + 1) [m.length + 1] [] := by
    refine ⟨_, rfl, Frm.refl.app, by simp, ?_⟩
    have := Bd.new (TB := 142) (T := 5) (m := m ++ [⟨[str tb, .int .i64 ts, str fb, .int .i64 fs, .bool tm, .bool fm, .slice a (l.map En.row).length (l.map En.row).length, .int .i64 c.k, .int .i64 c.ns, .int .i64 c.nr, .bool c.pf, .int .i64 pid, str info], 90, 1, 0, .own⟩])
    simpa using this
  rw [hM]
  clear hM
  have l0 := lt_of_some hb0
  refine (putP_spec (tm := tm) (fm := fm) (h0.frm0 hf0) hrp).use ?_
  have hLl : (putE (⟨tb, ts, tm⟩ :: ⟨fb, fs, fm⟩ :: l)).length ≤ 70 ∧ 0 < (putE (⟨tb, ts, tm⟩ :: ⟨fb, fs, fm⟩ :: l)).length := by
    unfold putE; rw [putTo_len (Nat.le_refl _)]; simp only [List.length_cons]; omega
  obtain ⟨hLl, hpos⟩ := hLl
  unfold encF
  generalize putE (⟨tb, ts, tm⟩ :: ⟨fb, fs, fm⟩ :: l) = pb0 at hLl hpos ⊢
  simp (contextual := true) (implicitDefEqProofs := false) (maxSteps := 2000000) (disch := first | rfl | exact Nat.le_of_ble_eq_true rfl | omega | (simp only [List.length_append, List.length_cons, List.length_nil, List.length_set]; omega)) only [hb0, X1, X2, X3, X4, XA, XB, lc_block, lc_cond, XZ, undef_eq, Nat.reduceAdd, Nat.reduceSub, ↓reduceIte, basic, cellsL, resOf, setAt, below, belowB, belowA, atomB, Nat.reduceLeDiff, Nat.reduceMul, Int.reduceToNat, Int.reduceLT, Int.reduceLE, Int.reduceAdd, Int.reduceNeg, Int.reduceEq, splice, Nat.reduceEqDiff, Nat.reduceLT, isAtom, Int.reduceSub, Int.reduceMul, implies_true]
  refine (hC _).use ?_
  simp (contextual := true) (implicitDefEqProofs := false) (maxSteps := 2000000) (disch := first | rfl | exact Nat.le_of_ble_eq_true rfl | omega | (simp only [List.length_append, List.length_cons, List.length_nil, List.length_set]; omega)) only [hb0, bin_ladd, str_cut, str_app, str_eq, string_mk_size, string_mk, X1, X2, X3, X4, XA, XB, lc_block, lc_cond, XZ, undef_eq, Nat.reduceAdd, Nat.reduceSub, ↓reduceIte, basic, cellsL, resOf, setAt, below, belowB, belowA, atomB, Nat.reduceLeDiff, Nat.reduceMul, Int.reduceToNat, Int.reduceLT, Int.reduceLE, Int.reduceAdd, Int.reduceNeg, Int.reduceEq, splice, Nat.reduceEqDiff, Nat.reduceLT, isAtom, Int.reduceSub, Int.reduceMul, implies_true]
  refine (wString_spec ⟨(pb0 ++ ct).toArray⟩ hb1 (by rw [string_mk_size]; simp only [List.length_nil, List.length_append]; omega)).mono ?_
  rintro _ M1 ⟨hf1, B1, hb2, hn1⟩
  rw [string_mk, List.nil_append] at hb2
  have hb01 := hf1.get hb0 (by simp)
  have l1 := lt_of_some hb01
  have hB1 : ∀ x ∈ B1, m.length < x := fun x hx => by
    rcases hn1 x hx with h1 | h1
    · simp at h1; omega
    · omega
  have hfm1 : Frm [] m M1 := hf0.trans hf1 fun x hx => .inr (by simp at hx; omega)
  simp (contextual := true) (implicitDefEqProofs := false) (maxSteps := 2000000) (disch := first | rfl | exact Nat.le_of_ble_eq_true rfl | omega | (simp only [List.length_append, List.length_cons, List.length_nil, List.length_set]; omega)) only [hb01, X1, X2, X3, X4, XA, XB, lc_block, lc_cond, XZ, undef_eq, Nat.reduceAdd, Nat.reduceSub, ↓reduceIte, basic, cellsL, resOf, setAt, below, belowB, belowA, atomB, Nat.reduceLeDiff, Nat.reduceMul, Int.reduceToNat, Int.reduceLT, Int.reduceLE, Int.reduceAdd, Int.reduceNeg, Int.reduceEq, splice, Nat.reduceEqDiff, Nat.reduceLT, isAtom, Int.reduceSub, Int.reduceMul, implies_true]
  refine (hP _).use ?_
  -- what follows when the bytes ahead of the information stand
  have last : ∀ (M2 : Mem) (B2 : List Nat) (q : List UInt8), q.length ≤ 2000 → Frm [] m M2 → m.length < M2.length → Bd 142 5 M2 (m.length + 1) B2 q → (∀ x ∈ B2, m.length < x) → 0 < q.length →
      LCall Tryd.prog 73 [.pointer (some ⟨m.length + 1, 0, none⟩), str info] M2 fun v M => Frm [] m M ∧ ∃ B3, Bd 142 5 M (m.length + 1) B3 (q ++ info) ∧ (∀ x ∈ B3, m.length < x) := by
    intro M2 B2 q hq hfm2 hml hbd hB2 _
    refine (wString_spec ⟨info.toArray⟩ hbd (by rw [string_mk_size]; omega)).mono ?_
    rintro _ M3 ⟨hf3, B3, hb3, hn3⟩
    rw [string_mk] at hb3
    refine ⟨hfm2.trans hf3 fun x hx => .inr (by have := hB2 x hx; omega), B3, hb3, fun x hx => ?_⟩
    rcases hn3 x hx with h1 | h1
    · exact hB2 x h1
    · omega
  have fin : ∀ (M3 : Mem) (B3 : List Nat) (q : List UInt8), q.length ≤ 3000 → 0 < q.length → Frm [] m M3 → Bd 142 5 M3 (m.length + 1) B3 q → (∀ x ∈ B3, m.length < x) →
      LCall Tryd.prog 76 [.pointer (some ⟨m.length + 1, 0, none⟩)] M3 fun v M => v = str q ∧ Frm [] m M := by
    intro M3 B3 q hq hq0 hf3 hb3 hB3
    refine (bString_spec hb3 (by omega) hq0).mono ?_
    rintro _ M4 ⟨rfl, hf4⟩
    exact ⟨rfl, hf3.trans hf4 fun x hx => .inr (by have := hB3 x hx; omega)⟩
  have hp0 : 0 < pb0.length := hpos
  cases pb with
  | false =>
    simp (contextual := true) (implicitDefEqProofs := false) (maxSteps := 2000000) (disch := first | rfl | exact Nat.le_of_ble_eq_true rfl | omega | (simp only [List.length_append, List.length_cons, List.length_nil, List.length_set]; omega)) only [hb01, bin_ladd, str_cut, str_app, str_eq, string_mk_size, string_mk, X1, X2, X3, X4, XA, XB, lc_block, lc_cond, XZ, undef_eq, Nat.reduceAdd, Nat.reduceSub, ↓reduceIte, basic, cellsL, resOf, setAt, below, belowB, belowA, atomB, Nat.reduceLeDiff, Nat.reduceMul, Int.reduceToNat, Int.reduceLT, Int.reduceLE, Int.reduceAdd, Int.reduceNeg, Int.reduceEq, splice, Nat.reduceEqDiff, Nat.reduceLT, isAtom, Int.reduceSub, Int.reduceMul, implies_true]
    refine (last M1 B1 (pb0 ++ ct) (by simp only [List.length_append]; omega) hfm1 l1 hb2 hB1 (by simp only [List.length_append]; omega)).mono ?_
    rintro _ M3 ⟨hf3, B3, hb3, hB3⟩
    simp (contextual := true) (implicitDefEqProofs := false) (maxSteps := 2000000) (disch := first | rfl | exact Nat.le_of_ble_eq_true rfl | omega | (simp only [List.length_append, List.length_cons, List.length_nil, List.length_set]; omega)) only [X1, X2, X3, X4, XA, XB, lc_block, lc_cond, XZ, undef_eq, Nat.reduceAdd, Nat.reduceSub, ↓reduceIte, basic, cellsL, resOf, setAt, below, belowB, belowA, atomB, Nat.reduceLeDiff, Nat.reduceMul, Int.reduceToNat, Int.reduceLT, Int.reduceLE, Int.reduceAdd, Int.reduceNeg, Int.reduceEq, splice, Nat.reduceEqDiff, Nat.reduceLT, isAtom, Int.reduceSub, Int.reduceMul, implies_true]
    refine (fin M3 B3 _ (by simp only [List.length_append]; omega) (by simp only [List.length_append]; omega) hf3 hb3 hB3).mono ?_
    rintro _ M4 ⟨rfl, hf4⟩
    simp (contextual := true) (implicitDefEqProofs := false) (maxSteps := 2000000) (disch := first | rfl | exact Nat.le_of_ble_eq_true rfl | omega | (simp only [List.length_append, List.length_cons, List.length_nil, List.length_set]; omega)) only [List.append_assoc, X1, X2, X3, X4, XA, XB, lc_block, lc_cond, XZ, undef_eq, Nat.reduceAdd, Nat.reduceSub, ↓reduceIte, basic, cellsL, resOf, setAt, below, belowB, belowA, atomB, Nat.reduceLeDiff, Nat.reduceMul, Int.reduceToNat, Int.reduceLT, Int.reduceLE, Int.reduceAdd, Int.reduceNeg, Int.reduceEq, splice, Nat.reduceEqDiff, Nat.reduceLT, isAtom, Int.reduceSub, Int.reduceMul, implies_true]
    exact hf4.ext (by simp)
  | true =>
    simp (contextual := true) (implicitDefEqProofs := false) (maxSteps := 2000000) (disch := first | rfl | exact Nat.le_of_ble_eq_true rfl | omega | (simp only [List.length_append, List.length_cons, List.length_nil, List.length_set]; omega)) only [hb01, hx, X1, X2, X3, X4, XA, XB, lc_block, lc_cond, XZ, undef_eq, Nat.reduceAdd, Nat.reduceSub, ↓reduceIte, basic, cellsL, resOf, setAt, below, belowB, belowA, atomB, Nat.reduceLeDiff, Nat.reduceMul, Int.reduceToNat, Int.reduceLT, Int.reduceLE, Int.reduceAdd, Int.reduceNeg, Int.reduceEq, splice, Nat.reduceEqDiff, Nat.reduceLT, isAtom, Int.reduceSub, Int.reduceMul, implies_true]
    refine (wByte_spec x hb2 (by simp only [List.length_append]; omega)).mono ?_
    rintro _ M2 ⟨hf2, B2, hb3, hn2⟩
    have hb02 := hf2.get hb01 (fun hx => by have := hB1 _ hx; omega)
    have l2 := lt_of_some hb02
    have hB2 : ∀ x ∈ B2, m.length < x := fun x hx => by
      rcases hn2 x hx with h1 | h1
      · exact hB1 x h1
      · omega
    have hfm2 : Frm [] m M2 := hfm1.trans hf2 fun x hx => .inr (by have := hB1 x hx; omega)
    simp (contextual := true) (implicitDefEqProofs := false) (maxSteps := 2000000) (disch := first | rfl | exact Nat.le_of_ble_eq_true rfl | omega | (simp only [List.length_append, List.length_cons, List.length_nil, List.length_set]; omega)) only [hb02, X1, X2, X3, X4, XA, XB, lc_block, lc_cond, XZ, undef_eq, Nat.reduceAdd, Nat.reduceSub, ↓reduceIte, basic, cellsL, resOf, setAt, below, belowB, belowA, atomB, Nat.reduceLeDiff, Nat.reduceMul, Int.reduceToNat, Int.reduceLT, Int.reduceLE, Int.reduceAdd, Int.reduceNeg, Int.reduceEq, splice, Nat.reduceEqDiff, Nat.reduceLT, isAtom, Int.reduceSub, Int.reduceMul, implies_true]
    refine (last M2 B2 (pb0 ++ ct ++ [x]) (by simp only [List.length_append, List.length_cons, List.length_nil]; omega) hfm2 l2 hb3 hB2 (by simp only [List.length_append]; omega)).mono ?_
    rintro _ M3 ⟨hf3, B3, hb4, hB3⟩
    simp (contextual := true) (implicitDefEqProofs := false) (maxSteps := 2000000) (disch := first | rfl | exact Nat.le_of_ble_eq_true rfl | omega | (simp only [List.length_append, List.length_cons, List.length_nil, List.length_set]; omega)) only [X1, X2, X3, X4, XA, XB, lc_block, lc_cond, XZ, undef_eq, Nat.reduceAdd, Nat.reduceSub, ↓reduceIte, basic, cellsL, resOf, setAt, below, belowB, belowA, atomB, Nat.reduceLeDiff, Nat.reduceMul, Int.reduceToNat, Int.reduceLT, Int.reduceLE, Int.reduceAdd, Int.reduceNeg, Int.reduceEq, splice, Nat.reduceEqDiff, Nat.reduceLT, isAtom, Int.reduceSub, Int.reduceMul, implies_true]
    refine (fin M3 B3 _ (by simp only [List.length_append, List.length_cons, List.length_nil]; omega) (by simp only [List.length_append]; omega) hf3 hb4 hB3).mono ?_
    rintro _ M4 ⟨rfl, hf4⟩
    simp (contextual := true) (implicitDefEqProofs := false) (maxSteps := 2000000) (disch := first | rfl | exact Nat.le_of_ble_eq_true rfl | omega | (simp only [List.length_append, List.length_cons, List.length_nil, List.length_set]; omega)) only [List.append_assoc, hx2, X1, X2, X3, X4, XA, XB, lc_block, lc_cond, XZ, undef_eq, Nat.reduceAdd, Nat.reduceSub, ↓reduceIte, basic, cellsL, resOf, setAt, below, belowB, belowA, atomB, Nat.reduceLeDiff, Nat.reduceMul, Int.reduceToNat, Int.reduceLT, Int.reduceLE, Int.reduceAdd, Int.reduceNeg, Int.reduceEq, splice, Nat.reduceEqDiff, Nat.reduceLT, isAtom, Int.reduceSub, Int.reduceMul, implies_true]
    exact hf4.ext (by simp)
end Go.Proofs.YtenbkoalanfdhaaDoor
/- A datagram's bytes, walked. -/
namespace Go.Proofs.YtenbkoalanfdhaaDoor
open Go.Lg
set_option maxRecDepth 8000
set_option maxHeartbeats 8000000
set_option linter.unusedSimpArgs false
set_option linter.unnecessarySimpa false
set_option linter.unusedVariables false

def cUI : Ct := ⟨12, 0, 0, false⟩
theorem ui_right (m : Mem) : Ret Tryd.prog 103 [cUI.val, .bool false] m (.bool true) m := run_alone tab_ok (n := 200) (d := 20) (by kernel_rfl) rfl rfl m
theorem ui_pid (m : Mem) : Ret Tryd.prog 74 [.int .i64 cUI.k] m (.bool true) m := run_alone tab_ok (n := 200) (d := 20) (by kernel_rfl) rfl rfl m
theorem ui_info (m : Mem) : Ret Tryd.prog 120 [.int .i64 cUI.k] m (.bool true) m := run_alone tab_ok (n := 200) (d := 20) (by kernel_rfl) rfl rfl m
theorem bases_spec (m : Mem) : Ret Tryd.prog 104 [] m (.agg #[.int .i64 47, .int .i64 111, .int .i64 67, .int .i64 15, .int .i64 99, .int .i64 135, .int .i64 3, .int .i64 175, .int .i64 227]) m := by
  refine LCall_drop (LCall_enter Tryd.func104 c104 ?_)
  simp (contextual := true) (implicitDefEqProofs := false) (maxSteps := 2000000) (disch := first | rfl | exact Nat.le_of_ble_eq_true rfl | omega | (simp only [List.length_append, List.length_cons, List.length_nil, List.length_set]; omega)) only [L104, X1, X2, X3, X4, XA, XB, lc_block, lc_cond, XZ, undef_eq, Nat.reduceAdd, Nat.reduceSub, ↓reduceIte, basic, cellsL, resOf, setAt, below, belowB, belowA, atomB, Nat.reduceLeDiff, Nat.reduceMul, Int.reduceToNat, Int.reduceLT, Int.reduceLE, Int.reduceAdd, Int.reduceNeg, Int.reduceEq, splice, Nat.reduceEqDiff, Nat.reduceLT, isAtom, Int.reduceSub, Int.reduceMul, implies_true]
theorem mark_spec (v : Int) (m : Mem) : Ret Tryd.prog 105 [.bool false, .int .i64 v] m (.int .i64 0) m := by
  refine LCall_drop (LCall_enter Tryd.func105 c105 ?_)
  simp (contextual := true) (implicitDefEqProofs := false) (maxSteps := 2000000) (disch := first | rfl | exact Nat.le_of_ble_eq_true rfl | omega | (simp only [List.length_append, List.length_cons, List.length_nil, List.length_set]; omega)) only [L105, X1, X2, X3, X4, XA, XB, lc_block, lc_cond, XZ, undef_eq, Nat.reduceAdd, Nat.reduceSub, ↓reduceIte, basic, cellsL, resOf, setAt, below, belowB, belowA, atomB, Nat.reduceLeDiff, Nat.reduceMul, Int.reduceToNat, Int.reduceLT, Int.reduceLE, Int.reduceAdd, Int.reduceNeg, Int.reduceEq, splice, Nat.reduceEqDiff, Nat.reduceLT, isAtom, Int.reduceSub, Int.reduceMul, implies_true]
theorem or30 : binV .or (.int .i64 3) (.int .i64 0) = some (.int .i64 3) := by rw [bin_or]; rfl
theorem ui_put (m : Mem) : Ret Tryd.prog 72 [cUI.val, .bool false] m (.tuple #[str [3], .int .i64 0]) m := by
  refine LCall_drop (LCall_enter Tryd.func72 c72 ?_)
  simp (contextual := true) (implicitDefEqProofs := false) (maxSteps := 2000000) (disch := first | rfl | exact Nat.le_of_ble_eq_true rfl | omega | (simp only [List.length_append, List.length_cons, List.length_nil, List.length_set]; omega)) only [L72, Ct.val, cUI, X1, X2, X3, X4, XA, XB, lc_block, lc_cond, XZ, undef_eq, Nat.reduceAdd, Nat.reduceSub, ↓reduceIte, basic, cellsL, resOf, setAt, below, belowB, belowA, atomB, Nat.reduceLeDiff, Nat.reduceMul, Int.reduceToNat, Int.reduceLT, Int.reduceLE, Int.reduceAdd, Int.reduceNeg, Int.reduceEq, splice, Nat.reduceEqDiff, Nat.reduceLT, isAtom, Int.reduceSub, Int.reduceMul, implies_true]
  refine (ui_right _).use ?_
  simp (contextual := true) (implicitDefEqProofs := false) (maxSteps := 2000000) (disch := first | rfl | exact Nat.le_of_ble_eq_true rfl | omega | (simp only [List.length_append, List.length_cons, List.length_nil, List.length_set]; omega)) only [L72, X1, X2, X3, X4, XA, XB, lc_block, lc_cond, XZ, undef_eq, Nat.reduceAdd, Nat.reduceSub, ↓reduceIte, basic, cellsL, resOf, setAt, below, belowB, belowA, atomB, Nat.reduceLeDiff, Nat.reduceMul, Int.reduceToNat, Int.reduceLT, Int.reduceLE, Int.reduceAdd, Int.reduceNeg, Int.reduceEq, splice, Nat.reduceEqDiff, Nat.reduceLT, isAtom, Int.reduceSub, Int.reduceMul, implies_true]
  refine (bases_spec _).use ?_
  simp (contextual := true) (implicitDefEqProofs := false) (maxSteps := 2000000) (disch := first | rfl | exact Nat.le_of_ble_eq_true rfl | omega | (simp only [List.length_append, List.length_cons, List.length_nil, List.length_set]; omega)) only [X1, X2, X3, X4, XA, XB, lc_block, lc_cond, XZ, undef_eq, Nat.reduceAdd, Nat.reduceSub, ↓reduceIte, basic, cellsL, resOf, setAt, below, belowB, belowA, atomB, Nat.reduceLeDiff, Nat.reduceMul, Int.reduceToNat, Int.reduceLT, Int.reduceLE, Int.reduceAdd, Int.reduceNeg, Int.reduceEq, splice, Nat.reduceEqDiff, Nat.reduceLT, isAtom, Int.reduceSub, Int.reduceMul, implies_true]
  refine (mark_spec 16 _).use ?_
  have h3 : IntKind.u8.wrap 3 = 3 := by decide
  have hb : bytesL [.int .u8 3] = some [3] := rfl
  simp (contextual := true) (implicitDefEqProofs := false) (maxSteps := 2000000) (disch := first | rfl | exact Nat.le_of_ble_eq_true rfl | omega | (simp only [List.length_append, List.length_cons, List.length_nil, List.length_set]; omega)) only [or30, h3, hb, X1, X2, X3, X4, XA, bin_add, bin_sub, bin_mul, bin_quo, bin_rem, bin_and, bin_xor, bin_andNot, bin_eql, bin_neq, bin_lss, bin_leq, bin_gtr, bin_geq, bin_shl, bin_shr, bin_sadd, bin_seql, bin_sneq, lc_block, lc_cond, XZ, undef_eq, Nat.reduceAdd, Nat.reduceSub, ↓reduceIte, basic, cellsL, resOf, setAt, below, belowB, belowA, atomB, Nat.reduceLeDiff, Nat.reduceMul, Int.reduceToNat, Int.reduceLT, Int.reduceLE, Int.reduceAdd, Int.reduceNeg, Int.reduceEq, splice, Nat.reduceEqDiff, Nat.reduceLT, isAtom, Int.reduceSub, Int.reduceMul, implies_true]

abbrev gv (fb : List UInt8) (fs : Int) (tb : List UInt8) (ts : Int) (dv : Value) (pid : Int) (text : List UInt8) : Value := .agg #[str fb, .int .i64 fs, str tb, .int .i64 ts, dv, .int .i64 pid, str text]
def gramE (fb : List UInt8) (fs : Int) (tb : List UInt8) (ts : Int) (cs : List Cl) (pid : Int) (text : List UInt8) : Int := wrongE (rightP tb ts fb fs (cs.map Cl.en)) true true true pid text
def gramB (fb : List UInt8) (fs : Int) (tb : List UInt8) (ts : Int) (cs : List Cl) (pid : Int) (text : List UInt8) : List UInt8 :=
  if gramE fb fs tb ts cs pid text = 0 then encF (⟨tb, ts, true⟩ :: ⟨fb, fs, false⟩ :: cs.map Cl.en) [3] true pid text else []
theorem uiput_spec {fb : List UInt8} {fs : Int} {tb : List UInt8} {ts : Int} {dv : Value} {cs : List Cl} {pid : Int} {text : List UInt8} {m : Mem} (htb : tb.length ≤ 140737488355328) (hfb : fb.length ≤ 140737488355328) (hb : ∀ c ∈ cs, c.b.length ≤ 140737488355328) (h : Rd m 2 dv (cs.map Cl.row)) (hn : cs.length ≤ 1000000) (hl : text.length ≤ 140737488355328) :
    Ret Tryd.prog 15 [gv fb fs tb ts dv pid text] m (.tuple #[str (gramB fb fs tb ts cs pid text), .int .i64 (gramE fb fs tb ts cs pid text)]) m := by
  have h0 := h
  obtain ⟨a, rfl, _⟩ := h
  have hbE : ∀ e ∈ cs.map Cl.en, e.b.length ≤ 140737488355328 := fun e he => by obtain ⟨c, hc, rfl⟩ := List.mem_map.mp he; exact hb c hc
  refine LCall_drop (LCall_enter Tryd.func15 c15 ?_)
  simp (contextual := true) (implicitDefEqProofs := false) (maxSteps := 2000000) (disch := first | rfl | exact Nat.le_of_ble_eq_true rfl | omega | (simp only [List.length_append, List.length_cons, List.length_nil, List.length_set]; omega)) only [L15, X1, X2, X3, X4, XA, XB, lc_block, lc_cond, XZ, undef_eq, Nat.reduceAdd, Nat.reduceSub, ↓reduceIte, basic, cellsL, resOf, setAt, below, belowB, belowA, atomB, Nat.reduceLeDiff, Nat.reduceMul, Int.reduceToNat, Int.reduceLT, Int.reduceLE, Int.reduceAdd, Int.reduceNeg, Int.reduceEq, splice, Nat.reduceEqDiff, Nat.reduceLT, isAtom, Int.reduceSub, Int.reduceMul, implies_true]
  refine (via_spec htb hfb hb h0.app hn).mono ?_
  rintro v M ⟨hf, hv⟩
  have hfm := (Frm.refl (F := []) (m := m)).app.nil_trans hf
  have hb0 := hf.get0 (i := m.length) (b := ⟨[str fb, .int .i64 fs, str tb, .int .i64 ts, .slice a (cs.map Cl.row).length (cs.map Cl.row).length, .int .i64 pid, str text], 26, 1, 0, .own⟩) (by simp)
  have l0 := lt_of_some hb0
  cases hr : rightP tb ts fb fs (cs.map Cl.en) with
  | false =>
    rw [hr, if_neg (by simp)] at hv
    subst hv
    have e : gramE fb fs tb ts cs pid text = 11 := by rw [gramE, hr]; rfl
    simp (contextual := true) (implicitDefEqProofs := false) (maxSteps := 2000000) (disch := first | rfl | exact Nat.le_of_ble_eq_true rfl | omega | (simp only [List.length_append, List.length_cons, List.length_nil, List.length_set]; omega)) only [X1, X2, X3, X4, XA, XB, lc_block, lc_cond, XZ, undef_eq, Nat.reduceAdd, Nat.reduceSub, ↓reduceIte, basic, cellsL, resOf, setAt, below, belowB, belowA, atomB, Nat.reduceLeDiff, Nat.reduceMul, Int.reduceToNat, Int.reduceLT, Int.reduceLE, Int.reduceAdd, Int.reduceNeg, Int.reduceEq, splice, Nat.reduceEqDiff, Nat.reduceLT, isAtom, Int.reduceSub, Int.reduceMul, implies_true]
    rw [gramB, e, if_neg (by decide)]
    exact ⟨hfm.app.ext (by simp), rfl⟩
  | true =>
    rw [hr, if_pos rfl] at hv
    obtain ⟨sv, F, rfl, hs, hF⟩ := hv
    obtain ⟨sa, rfl, _⟩ := hs.form
    simp (contextual := true) (implicitDefEqProofs := false) (maxSteps := 2000000) (disch := first | rfl | exact Nat.le_of_ble_eq_true rfl | omega | (simp only [List.length_append, List.length_cons, List.length_nil, List.length_set]; omega)) only [hb0, X1, X2, X3, X4, XA, XB, lc_block, lc_cond, XZ, undef_eq, Nat.reduceAdd, Nat.reduceSub, ↓reduceIte, basic, cellsL, resOf, setAt, below, belowB, belowA, atomB, Nat.reduceLeDiff, Nat.reduceMul, Int.reduceToNat, Int.reduceLT, Int.reduceLE, Int.reduceAdd, Int.reduceNeg, Int.reduceEq, splice, Nat.reduceEqDiff, Nat.reduceLT, isAtom, Int.reduceSub, Int.reduceMul, implies_true]
    have hsM := hs.frm0 (m' := M ++ [⟨[str tb, .int .i64 ts, str fb, .int .i64 fs, .bool true, .bool false, .slice sa ((cs.map Cl.en).map En.row).length ((cs.map Cl.en).map En.row).length], 83, 1, 0, .own⟩]) Frm.refl.app
    have hfin := (hfm.nil_trans (Frm.refl.app (g := [(⟨[str tb, .int .i64 ts, str fb, .int .i64 fs, .bool true, .bool false, .slice sa ((cs.map Cl.en).map En.row).length ((cs.map Cl.en).map En.row).length], 83, 1, 0, .own⟩ : Blk)]))).ext (by simp)
    by_cases he : gramE fb fs tb ts cs pid text = 0
    · have := encode_spec (c := cUI) (pid := pid) (info := text) (ct := [3]) (tm := true) (fm := false) (wide := false) hsM ui_right ui_pid ui_info ui_put (by simp) he
      refine this.use ?_
      simp (contextual := true) (implicitDefEqProofs := false) (maxSteps := 2000000) (disch := first | rfl | exact Nat.le_of_ble_eq_true rfl | omega | (simp only [List.length_append, List.length_cons, List.length_nil, List.length_set]; omega)) only [X1, X2, X3, X4, XA, XB, lc_block, lc_cond, XZ, undef_eq, Nat.reduceAdd, Nat.reduceSub, ↓reduceIte, basic, cellsL, resOf, setAt, below, belowB, belowA, atomB, Nat.reduceLeDiff, Nat.reduceMul, Int.reduceToNat, Int.reduceLT, Int.reduceLE, Int.reduceAdd, Int.reduceNeg, Int.reduceEq, splice, Nat.reduceEqDiff, Nat.reduceLT, isAtom, Int.reduceSub, Int.reduceMul, implies_true]
      rw [gramB, if_pos he, he]
      exact ⟨hfin, rfl⟩
    · have := encode_wrong (c := cUI) (pid := pid) (info := text) (tm := true) (fm := false) (wide := false) htb hfb hbE (Sl.rd hsM) (by simpa using hn) ui_right ui_pid ui_info hl he
      refine this.use ?_
      simp (contextual := true) (implicitDefEqProofs := false) (maxSteps := 2000000) (disch := first | rfl | exact Nat.le_of_ble_eq_true rfl | omega | (simp only [List.length_append, List.length_cons, List.length_nil, List.length_set]; omega)) only [X1, X2, X3, X4, XA, XB, lc_block, lc_cond, XZ, undef_eq, Nat.reduceAdd, Nat.reduceSub, ↓reduceIte, basic, cellsL, resOf, setAt, below, belowB, belowA, atomB, Nat.reduceLeDiff, Nat.reduceMul, Int.reduceToNat, Int.reduceLT, Int.reduceLE, Int.reduceAdd, Int.reduceNeg, Int.reduceEq, splice, Nat.reduceEqDiff, Nat.reduceLT, isAtom, Int.reduceSub, Int.reduceMul, implies_true]
      rw [gramB, if_neg he]
      exact ⟨hfin, rfl⟩
end Go.Proofs.YtenbkoalanfdhaaDoor
/- Frames and datagrams by the document: walked. -/
namespace Go.Proofs.YtenbkoalanfdhaaDoor
open Go.Lg
set_option maxRecDepth 8000
set_option maxHeartbeats 8000000
set_option linter.unusedSimpArgs false
set_option linter.unnecessarySimpa false
set_option linter.unusedVariables false

theorem rwrong_spec {x y : En} {l : List En} {v : Value} {c : Ct} {pid : Int} {info : List UInt8} {wide rb pb ib : Bool} {m : Mem}
    (h : Rd m 3 v ((x :: y :: l).map En.row)) (hn : l.length ≤ 1000000)
    (hR : ∀ m, Ret Tryd.prog 90 [c.val, .bool wide] m (.bool rb) m) (hP : ∀ m, Ret Tryd.prog 85 [.int .i64 c.k] m (.bool pb) m) (hI : ∀ m, Ret Tryd.prog 117 [.int .i64 c.k] m (.bool ib) m) (hl : info.length ≤ 140737488355328) :
    Ret Tryd.prog 58 [rframeV v c pid info, .bool wide] m (.int .i64 (wrongE (rightP x.b x.s y.b y.s l) rb pb ib pid info)) m := by
  have h0 := h
  obtain ⟨a, rfl, _⟩ := h
  refine LCall_drop (LCall_enter Tryd.func58 c58 ?_)
  simp (contextual := true) (implicitDefEqProofs := false) (maxSteps := 2000000) (disch := first | rfl | exact Nat.le_of_ble_eq_true rfl | omega | (simp only [List.length_append, List.length_cons, List.length_nil, List.length_set]; omega)) only [L58, X1, X2, X3, X4, XA, XB, lc_block, lc_cond, XZ, undef_eq, Nat.reduceAdd, Nat.reduceSub, ↓reduceIte, basic, cellsL, resOf, setAt, below, belowB, belowA, atomB, Nat.reduceLeDiff, Nat.reduceMul, Int.reduceToNat, Int.reduceLT, Int.reduceLE, Int.reduceAdd, Int.reduceNeg, Int.reduceEq, splice, Nat.reduceEqDiff, Nat.reduceLT, isAtom, Int.reduceSub, Int.reduceMul, implies_true]
  refine (refrightP_spec h0.app hn).use ?_
  cases hr : rightP x.b x.s y.b y.s l with
  | false => simp (contextual := true) (implicitDefEqProofs := false) (maxSteps := 2000000) (disch := first | rfl | exact Nat.le_of_ble_eq_true rfl | omega | (simp only [List.length_append, List.length_cons, List.length_nil, List.length_set]; omega)) only [wrongE, X1, X2, X3, X4, XA, XB, lc_block, lc_cond, XZ, undef_eq, Nat.reduceAdd, Nat.reduceSub, ↓reduceIte, basic, cellsL, resOf, setAt, below, belowB, belowA, atomB, Nat.reduceLeDiff, Nat.reduceMul, Int.reduceToNat, Int.reduceLT, Int.reduceLE, Int.reduceAdd, Int.reduceNeg, Int.reduceEq, splice, Nat.reduceEqDiff, Nat.reduceLT, isAtom, Int.reduceSub, Int.reduceMul, implies_true]
  | true =>
    simp (contextual := true) (implicitDefEqProofs := false) (maxSteps := 2000000) (disch := first | rfl | exact Nat.le_of_ble_eq_true rfl | omega | (simp only [List.length_append, List.length_cons, List.length_nil, List.length_set]; omega)) only [X1, X2, X3, X4, XA, XB, lc_block, lc_cond, XZ, undef_eq, Nat.reduceAdd, Nat.reduceSub, ↓reduceIte, basic, cellsL, resOf, setAt, below, belowB, belowA, atomB, Nat.reduceLeDiff, Nat.reduceMul, Int.reduceToNat, Int.reduceLT, Int.reduceLE, Int.reduceAdd, Int.reduceNeg, Int.reduceEq, splice, Nat.reduceEqDiff, Nat.reduceLT, isAtom, Int.reduceSub, Int.reduceMul, implies_true]
    refine (hR _).use ?_
    cases rb with
    | false =>
      simp (contextual := true) (implicitDefEqProofs := false) (maxSteps := 2000000) (disch := first | rfl | exact Nat.le_of_ble_eq_true rfl | omega | (simp only [List.length_append, List.length_cons, List.length_nil, List.length_set]; omega)) only [X1, X2, X3, X4, XA, XB, lc_block, lc_cond, XZ, undef_eq, Nat.reduceAdd, Nat.reduceSub, ↓reduceIte, basic, cellsL, resOf, setAt, below, belowB, belowA, atomB, Nat.reduceLeDiff, Nat.reduceMul, Int.reduceToNat, Int.reduceLT, Int.reduceLE, Int.reduceAdd, Int.reduceNeg, Int.reduceEq, splice, Nat.reduceEqDiff, Nat.reduceLT, isAtom, Int.reduceSub, Int.reduceMul, implies_true]
      simp [wrongE]
    | true =>
      by_cases h1 : pid < 0
      · have h1' : (pid < 0) = True := eq_true h1
        simp (contextual := true) (implicitDefEqProofs := false) (maxSteps := 2000000) (disch := first | rfl | exact Nat.le_of_ble_eq_true rfl | omega | (simp only [List.length_append, List.length_cons, List.length_nil, List.length_set]; omega)) only [h1', X1, X2, X3, X4, XA, XB, lc_block, lc_cond, XZ, undef_eq, Nat.reduceAdd, Nat.reduceSub, ↓reduceIte, basic, cellsL, resOf, setAt, below, belowB, belowA, atomB, Nat.reduceLeDiff, Nat.reduceMul, Int.reduceToNat, Int.reduceLT, Int.reduceLE, Int.reduceAdd, Int.reduceNeg, Int.reduceEq, splice, Nat.reduceEqDiff, Nat.reduceLT, isAtom, Int.reduceSub, Int.reduceMul, implies_true]
        simp [wrongE, h1]
      have h1' : (pid < 0) = False := eq_false h1
      by_cases h2 : 255 < pid
      · have h2' : (255 < pid) = True := eq_true h2
        simp (contextual := true) (implicitDefEqProofs := false) (maxSteps := 2000000) (disch := first | rfl | exact Nat.le_of_ble_eq_true rfl | omega | (simp only [List.length_append, List.length_cons, List.length_nil, List.length_set]; omega)) only [h1', h2', X1, X2, X3, X4, XA, XB, lc_block, lc_cond, XZ, undef_eq, Nat.reduceAdd, Nat.reduceSub, ↓reduceIte, basic, cellsL, resOf, setAt, below, belowB, belowA, atomB, Nat.reduceLeDiff, Nat.reduceMul, Int.reduceToNat, Int.reduceLT, Int.reduceLE, Int.reduceAdd, Int.reduceNeg, Int.reduceEq, splice, Nat.reduceEqDiff, Nat.reduceLT, isAtom, Int.reduceSub, Int.reduceMul, implies_true]
        simp [wrongE, h2]
      have h2' : (255 < pid) = False := eq_false h2
      by_cases h3 : 0 < pid
      · have h3' : (0 < pid) = True := eq_true h3
        simp (contextual := true) (implicitDefEqProofs := false) (maxSteps := 2000000) (disch := first | rfl | exact Nat.le_of_ble_eq_true rfl | omega | (simp only [List.length_append, List.length_cons, List.length_nil, List.length_set]; omega)) only [h1', h2', h3', X1, X2, X3, X4, XA, XB, lc_block, lc_cond, XZ, undef_eq, Nat.reduceAdd, Nat.reduceSub, ↓reduceIte, basic, cellsL, resOf, setAt, below, belowB, belowA, atomB, Nat.reduceLeDiff, Nat.reduceMul, Int.reduceToNat, Int.reduceLT, Int.reduceLE, Int.reduceAdd, Int.reduceNeg, Int.reduceEq, splice, Nat.reduceEqDiff, Nat.reduceLT, isAtom, Int.reduceSub, Int.reduceMul, implies_true]
        refine (hP _).use ?_
        cases pb with
        | false =>
          simp (contextual := true) (implicitDefEqProofs := false) (maxSteps := 2000000) (disch := first | rfl | exact Nat.le_of_ble_eq_true rfl | omega | (simp only [List.length_append, List.length_cons, List.length_nil, List.length_set]; omega)) only [X1, X2, X3, X4, XA, XB, lc_block, lc_cond, XZ, undef_eq, Nat.reduceAdd, Nat.reduceSub, ↓reduceIte, basic, cellsL, resOf, setAt, below, belowB, belowA, atomB, Nat.reduceLeDiff, Nat.reduceMul, Int.reduceToNat, Int.reduceLT, Int.reduceLE, Int.reduceAdd, Int.reduceNeg, Int.reduceEq, splice, Nat.reduceEqDiff, Nat.reduceLT, isAtom, Int.reduceSub, Int.reduceMul, implies_true]
          have h3n : pid ≠ 0 := by omega
          simp [wrongE, h3n]
        | true =>
          have e : wrongE true true true ib pid info = infoE ib info := by simp [wrongE, h1, h2]
          simp (contextual := true) (implicitDefEqProofs := false) (maxSteps := 2000000) (disch := first | rfl | exact Nat.le_of_ble_eq_true rfl | omega | (simp only [List.length_append, List.length_cons, List.length_nil, List.length_set]; omega)) only [X1, X2, X3, X4, XA, XB, lc_block, lc_cond, XZ, undef_eq, Nat.reduceAdd, Nat.reduceSub, ↓reduceIte, basic, cellsL, resOf, setAt, below, belowB, belowA, atomB, Nat.reduceLeDiff, Nat.reduceMul, Int.reduceToNat, Int.reduceLT, Int.reduceLE, Int.reduceAdd, Int.reduceNeg, Int.reduceEq, splice, Nat.reduceEqDiff, Nat.reduceLT, isAtom, Int.reduceSub, Int.reduceMul, implies_true]
          refine (rinfo_spec hI hl).use ?_
          simp (contextual := true) (implicitDefEqProofs := false) (maxSteps := 2000000) (disch := first | rfl | exact Nat.le_of_ble_eq_true rfl | omega | (simp only [List.length_append, List.length_cons, List.length_nil, List.length_set]; omega)) only [X1, X2, X3, X4, XA, XB, lc_block, lc_cond, XZ, undef_eq, Nat.reduceAdd, Nat.reduceSub, ↓reduceIte, basic, cellsL, resOf, setAt, below, belowB, belowA, atomB, Nat.reduceLeDiff, Nat.reduceMul, Int.reduceToNat, Int.reduceLT, Int.reduceLE, Int.reduceAdd, Int.reduceNeg, Int.reduceEq, splice, Nat.reduceEqDiff, Nat.reduceLT, isAtom, Int.reduceSub, Int.reduceMul, implies_true]
          rw [e]
      · have h3' : (0 < pid) = False := eq_false h3
        have e0 : pid = 0 := by omega
        have e : wrongE true true pb ib pid info = infoE ib info := by simp [wrongE, e0]
        simp (contextual := true) (implicitDefEqProofs := false) (maxSteps := 2000000) (disch := first | rfl | exact Nat.le_of_ble_eq_true rfl | omega | (simp only [List.length_append, List.length_cons, List.length_nil, List.length_set]; omega)) only [h1', h2', h3', X1, X2, X3, X4, XA, XB, lc_block, lc_cond, XZ, undef_eq, Nat.reduceAdd, Nat.reduceSub, ↓reduceIte, basic, cellsL, resOf, setAt, below, belowB, belowA, atomB, Nat.reduceLeDiff, Nat.reduceMul, Int.reduceToNat, Int.reduceLT, Int.reduceLE, Int.reduceAdd, Int.reduceNeg, Int.reduceEq, splice, Nat.reduceEqDiff, Nat.reduceLT, isAtom, Int.reduceSub, Int.reduceMul, implies_true]
        refine (rinfo_spec hI hl).use ?_
        simp (contextual := true) (implicitDefEqProofs := false) (maxSteps := 2000000) (disch := first | rfl | exact Nat.le_of_ble_eq_true rfl | omega | (simp only [List.length_append, List.length_cons, List.length_nil, List.length_set]; omega)) only [X1, X2, X3, X4, XA, XB, lc_block, lc_cond, XZ, undef_eq, Nat.reduceAdd, Nat.reduceSub, ↓reduceIte, basic, cellsL, resOf, setAt, below, belowB, belowA, atomB, Nat.reduceLeDiff, Nat.reduceMul, Int.reduceToNat, Int.reduceLT, Int.reduceLE, Int.reduceAdd, Int.reduceNeg, Int.reduceEq, splice, Nat.reduceEqDiff, Nat.reduceLT, isAtom, Int.reduceSub, Int.reduceMul, implies_true]
        rw [e]

theorem rui_right (m : Mem) : Ret Tryd.prog 90 [cUI.val, .bool false] m (.bool true) m := run_alone tab_ok (n := 200) (d := 20) (by kernel_rfl) rfl rfl m
theorem rui_pid (m : Mem) : Ret Tryd.prog 85 [.int .i64 cUI.k] m (.bool true) m := run_alone tab_ok (n := 200) (d := 20) (by kernel_rfl) rfl rfl m
theorem rui_info (m : Mem) : Ret Tryd.prog 117 [.int .i64 cUI.k] m (.bool true) m := run_alone tab_ok (n := 200) (d := 20) (by kernel_rfl) rfl rfl m
theorem rui_put (m : Mem) : LCall Tryd.prog 92 [cUI.val, .bool false] m fun v M => ∃ b, v = .slice (some ⟨b, 0, none⟩) 1 1 ∧ Frm [] m M ∧ M[b]? = some ⟨[.int .i64 3], 3, 1, 0, .own⟩ := by
  refine LCall_enter Tryd.func92 c92 ?_
  simp (contextual := true) (implicitDefEqProofs := false) (maxSteps := 2000000) (disch := first | rfl | exact Nat.le_of_ble_eq_true rfl | omega | (simp only [List.length_append, List.length_cons, List.length_nil, List.length_set]; omega)) only [L92, Ct.val, cUI, X1, X2, X3, X4, XA, XB, lc_block, lc_cond, XZ, undef_eq, Nat.reduceAdd, Nat.reduceSub, ↓reduceIte, basic, cellsL, resOf, setAt, below, belowB, belowA, atomB, Nat.reduceLeDiff, Nat.reduceMul, Int.reduceToNat, Int.reduceLT, Int.reduceLE, Int.reduceAdd, Int.reduceNeg, Int.reduceEq, splice, Nat.reduceEqDiff, Nat.reduceLT, isAtom, Int.reduceSub, Int.reduceMul, implies_true]
  exact ⟨m.length + 2, rfl, Frm.refl.app, by rw [List.getElem?_append_right (by omega)]; simp⟩
theorem rui_text {b : Nat} {m : Mem} (h : m[b]? = some ⟨[.int .i64 3], 3, 1, 0, .own⟩) : Ret Tryd.prog 91 [.slice (some ⟨b, 0, none⟩) 1 1] m (str [3]) m := by
  have l0 := lt_of_some h
  have hb : bytesL [.int .u8 3] = some [3] := rfl
  have h3 : IntKind.u8.wrap 3 = 3 := by decide
  refine LCall_drop (LCall_enter Tryd.func91 c91 ?_)
  simp (contextual := true) (implicitDefEqProofs := false) (maxSteps := 2000000) (disch := first | rfl | exact Nat.le_of_ble_eq_true rfl | omega | (simp only [List.length_append, List.length_cons, List.length_nil, List.length_set]; omega)) only [L91, X1, X2, X3, X4, XA, XB, lc_block, lc_cond, XZ, undef_eq, Nat.reduceAdd, Nat.reduceSub, ↓reduceIte, basic, cellsL, resOf, setAt, below, belowB, belowA, atomB, Nat.reduceLeDiff, Nat.reduceMul, Int.reduceToNat, Int.reduceLT, Int.reduceLE, Int.reduceAdd, Int.reduceNeg, Int.reduceEq, splice, Nat.reduceEqDiff, Nat.reduceLT, isAtom, Int.reduceSub, Int.reduceMul, implies_true]
  refine LC_loop ?_
  have hadd : binV .add (.string ⟨#[]⟩) (.string ⟨#[3]⟩) = some (.string ⟨#[3]⟩) := by
    rw [bin_sadd (by decide)]; rfl
  simp (contextual := true) (implicitDefEqProofs := false) (maxSteps := 2000000) (disch := first | rfl | exact Nat.le_of_ble_eq_true rfl | omega | (simp only [List.length_append, List.length_cons, List.length_nil, List.length_set]; omega)) only [h, hb, h3, hadd, X1, X2, X3, X4, XA, XB, lc_block, lc_cond, XZ, undef_eq, Nat.reduceAdd, Nat.reduceSub, ↓reduceIte, basic, cellsL, resOf, setAt, below, belowB, belowA, atomB, Nat.reduceLeDiff, Nat.reduceMul, Int.reduceToNat, Int.reduceLT, Int.reduceLE, Int.reduceAdd, Int.reduceNeg, Int.reduceEq, splice, Nat.reduceEqDiff, Nat.reduceLT, isAtom, Int.reduceSub, Int.reduceMul, implies_true]
  refine LC_loop ?_
  simp (contextual := true) (implicitDefEqProofs := false) (maxSteps := 2000000) (disch := first | rfl | exact Nat.le_of_ble_eq_true rfl | omega | (simp only [List.length_append, List.length_cons, List.length_nil, List.length_set]; omega)) only [h, bin_ladd, str_cut, str_app, str_eq, string_mk_size, string_mk, X1, X2, X3, X4, XA, XB, lc_block, lc_cond, XZ, undef_eq, Nat.reduceAdd, Nat.reduceSub, ↓reduceIte, basic, cellsL, resOf, setAt, below, belowB, belowA, atomB, Nat.reduceLeDiff, Nat.reduceMul, Int.reduceToNat, Int.reduceLT, Int.reduceLE, Int.reduceAdd, Int.reduceNeg, Int.reduceEq, splice, Nat.reduceEqDiff, Nat.reduceLT, isAtom, Int.reduceSub, Int.reduceMul, implies_true]

theorem renc_spec {L : List En} {v : Value} {pid : Int} {info : List UInt8} {m : Mem} (h : Rd m 3 v (L.map En.row)) (hn : L.length ≤ 10) (hok : ∀ e ∈ L, e.ok = true) (hpid : 0 ≤ pid ∧ pid ≤ 255) (hl : info.length ≤ 256) :
    Ret Tryd.prog 59 [rframeV v cUI pid info, .bool false] m (str (encF L [3] true pid info)) m := by
  have h0 := h
  obtain ⟨a, rfl, _⟩ := h
  obtain ⟨x, hx, hx2⟩ : ∃ x : UInt8, IntKind.u8.wrap pid = (x.toNat : Int) ∧ UInt8.ofNat pid.toNat = x := by
    refine ⟨UInt8.ofNat pid.toNat, ?_, rfl⟩
    obtain ⟨n, rfl⟩ : ∃ n : Nat, pid = (n : Int) := ⟨pid.toNat, by omega⟩
    rw [Int.toNat_natCast, u8_of (by omega), wrap_u8n (by omega)]
  have hb : bytesL [.int .u8 (x.toNat : Int)] = some [x] := bytesL_cells [x]
  refine LCall_drop (LCall_enter Tryd.func59 c59 ?_)
  simp (contextual := true) (implicitDefEqProofs := false) (maxSteps := 2000000) (disch := first | rfl | exact Nat.le_of_ble_eq_true rfl | omega | (simp only [List.length_append, List.length_cons, List.length_nil, List.length_set]; omega)) only [L59, X1, X2, X3, X4, XA, XB, lc_block, lc_cond, XZ, undef_eq, Nat.reduceAdd, Nat.reduceSub, ↓reduceIte, basic, cellsL, resOf, setAt, below, belowB, belowA, atomB, Nat.reduceLeDiff, Nat.reduceMul, Int.reduceToNat, Int.reduceLT, Int.reduceLE, Int.reduceAdd, Int.reduceNeg, Int.reduceEq, splice, Nat.reduceEqDiff, Nat.reduceLT, isAtom, Int.reduceSub, Int.reduceMul, implies_true]
  have hpl : (putE L).length ≤ 70 := by unfold putE; rw [putTo_len (Nat.le_refl _)]; omega
  refine (refputP_spec h0.app hn hok).use ?_
  obtain ⟨N, hN, hfN, hbN⟩ : ∃ N, m ++ [⟨[.slice a (L.map En.row).length (L.map En.row).length, .int .i64 cUI.k, .int .i64 cUI.ns, .int .i64 cUI.nr, .bool cUI.pf, .int .i64 pid, str info], 103, 1, 0, .own⟩] = N ∧ Frm [] m N ∧ N[m.length]? = some ⟨[.slice a (L.map En.row).length (L.map En.row).length, .int .i64 cUI.k, .int .i64 cUI.ns, .int .i64 cUI.nr, .bool cUI.pf, .int .i64 pid, str info], 103, 1, 0, .own⟩ := ⟨_, rfl, Frm.refl.app, by simp⟩
  rw [hN]
  clear hN
  have lN := lt_of_some hbN
  unfold encF
  generalize putE L = pb at hpl ⊢
  simp (contextual := true) (implicitDefEqProofs := false) (maxSteps := 2000000) (disch := first | rfl | exact Nat.le_of_ble_eq_true rfl | omega | (simp only [List.length_append, List.length_cons, List.length_nil, List.length_set]; omega)) only [hbN, X1, X2, X3, X4, XA, XB, lc_block, lc_cond, XZ, undef_eq, Nat.reduceAdd, Nat.reduceSub, ↓reduceIte, basic, cellsL, resOf, setAt, below, belowB, belowA, atomB, Nat.reduceLeDiff, Nat.reduceMul, Int.reduceToNat, Int.reduceLT, Int.reduceLE, Int.reduceAdd, Int.reduceNeg, Int.reduceEq, splice, Nat.reduceEqDiff, Nat.reduceLT, isAtom, Int.reduceSub, Int.reduceMul, implies_true]
  refine (rui_put _).mono ?_
  rintro v M ⟨b, rfl, hf, hb3⟩
  have hbM := hf.get0 hbN
  have lM := lt_of_some hbM
  simp (contextual := true) (implicitDefEqProofs := false) (maxSteps := 2000000) (disch := first | rfl | exact Nat.le_of_ble_eq_true rfl | omega | (simp only [List.length_append, List.length_cons, List.length_nil, List.length_set]; omega)) only [hbM, X1, X2, X3, X4, XA, XB, lc_block, lc_cond, XZ, undef_eq, Nat.reduceAdd, Nat.reduceSub, ↓reduceIte, basic, cellsL, resOf, setAt, below, belowB, belowA, atomB, Nat.reduceLeDiff, Nat.reduceMul, Int.reduceToNat, Int.reduceLT, Int.reduceLE, Int.reduceAdd, Int.reduceNeg, Int.reduceEq, splice, Nat.reduceEqDiff, Nat.reduceLT, isAtom, Int.reduceSub, Int.reduceMul, implies_true]
  refine (rui_text hb3).use ?_
  simp (contextual := true) (implicitDefEqProofs := false) (maxSteps := 2000000) (disch := first | rfl | exact Nat.le_of_ble_eq_true rfl | omega | (simp only [List.length_append, List.length_cons, List.length_nil, List.length_set]; omega)) only [hbM, bin_ladd, str_cut, str_app, str_eq, string_mk_size, string_mk, X1, X2, X3, X4, XA, XB, lc_block, lc_cond, XZ, undef_eq, Nat.reduceAdd, Nat.reduceSub, ↓reduceIte, basic, cellsL, resOf, setAt, below, belowB, belowA, atomB, Nat.reduceLeDiff, Nat.reduceMul, Int.reduceToNat, Int.reduceLT, Int.reduceLE, Int.reduceAdd, Int.reduceNeg, Int.reduceEq, splice, Nat.reduceEqDiff, Nat.reduceLT, isAtom, Int.reduceSub, Int.reduceMul, implies_true]
  refine (rui_pid _).use ?_
  simp (contextual := true) (implicitDefEqProofs := false) (maxSteps := 2000000) (disch := first | rfl | exact Nat.le_of_ble_eq_true rfl | omega | (simp only [List.length_append, List.length_cons, List.length_nil, List.length_set]; omega)) only [hbM, hx, hb, bin_ladd, str_cut, str_app, str_eq, string_mk_size, string_mk, X1, X2, X3, X4, XA, XB, lc_block, lc_cond, XZ, undef_eq, Nat.reduceAdd, Nat.reduceSub, ↓reduceIte, basic, cellsL, resOf, setAt, below, belowB, belowA, atomB, Nat.reduceLeDiff, Nat.reduceMul, Int.reduceToNat, Int.reduceLT, Int.reduceLE, Int.reduceAdd, Int.reduceNeg, Int.reduceEq, splice, Nat.reduceEqDiff, Nat.reduceLT, isAtom, Int.reduceSub, Int.reduceMul, implies_true]
  have hfm := hfN.nil_trans hf
  rw [hx2]
  simp only [List.append_assoc, List.cons_append, List.nil_append, if_true]
  first
  | exact ⟨(hfm.nil_trans Frm.refl.app).ext (by simp), rfl⟩
  | exact ⟨(hfm.nil_trans Frm.refl.app).ext (by simp), trivial⟩
/-- A datagram's bytes, by the document. -/
theorem rput_spec {fb : List UInt8} {fs : Int} {tb : List UInt8} {ts : Int} {dv : Value} {cs : List Cl} {pid : Int} {text : List UInt8} {m : Mem} (h : Rd m 2 dv (cs.map Cl.row)) (hn : cs.length ≤ 1000000) (hl : text.length ≤ 140737488355328) :
    Ret Tryd.prog 16 [gv fb fs tb ts dv pid text] m (.tuple #[str (gramB fb fs tb ts cs pid text), .int .i64 (gramE fb fs tb ts cs pid text)]) m := by
  obtain ⟨a, rfl, hform⟩ := h
  simp only [List.length_map] at hform ⊢
  refine LCall_drop (LCall_enter Tryd.func16 c16 ?_)
  simp (contextual := true) (implicitDefEqProofs := false) (maxSteps := 2000000) (disch := first | rfl | exact Nat.le_of_ble_eq_true rfl | omega | (simp only [List.length_append, List.length_cons, List.length_nil, List.length_set]; omega)) only [L16, X1, X2, X3, X4, XA, XB, lc_block, lc_cond, XZ, undef_eq, Nat.reduceAdd, Nat.reduceSub, ↓reduceIte, basic, cellsL, resOf, setAt, below, belowB, belowA, atomB, Nat.reduceLeDiff, Nat.reduceMul, Int.reduceToNat, Int.reduceLT, Int.reduceLE, Int.reduceAdd, Int.reduceNeg, Int.reduceEq, splice, Nat.reduceEqDiff, Nat.reduceLT, isAtom, Int.reduceSub, Int.reduceMul, implies_true]
  obtain ⟨M0, hM, hMl, hf0, hb0, hb1, hb2⟩ : ∃ M0, m ++ [⟨[str fb, .int .i64 fs, str tb, .int .i64 ts, .slice a cs.length cs.length, .int .i64 pid, str text], 34, 1, 0, .own⟩, ⟨[str tb, .int .i64 ts, .bool true, str fb, .int .i64 fs, .bool false], 65, 3, 0, .own⟩, ⟨[.slice (some ⟨m.length + 1, 0, none⟩) 2 2], 61, 1, 0, .own⟩] = M0 ∧ M0.length = m.length + 3 ∧ Frm [] m M0 ∧ M0[m.length]? = some ⟨[str fb, .int .i64 fs, str tb, .int .i64 ts, .slice a cs.length cs.length, .int .i64 pid, str text], 34, 1, 0, .own⟩ ∧ M0[m.length + 1]? = some ⟨[str tb, .int .i64 ts, .bool true, str fb, .int .i64 fs, .bool false], 65, 3, 0, .own⟩ ∧ M0[m.length + 2]? = some ⟨[.slice (some ⟨m.length + 1, 0, none⟩) 2 2], 61, 1, 0, .own⟩ := by
    refine ⟨_, rfl, by simp, Frm.refl.app, by simp, ?_, ?_⟩
    all_goals (rw [List.getElem?_append_right (by omega)]; simp)
  rw [hM]
  clear hM
  have hs0 : Sl M0 65 3 (.slice (some ⟨m.length + 1, 0, none⟩) 2 2) [m.length + 1] (((⟨tb, ts, true⟩ : En) :: ⟨fb, fs, false⟩ :: (cs.take 0).map Cl.en).map En.row) :=
    Sl.own (T := 65) (sz := 3) (rows := [[str tb, .int .i64 ts, .bool true], [str fb, .int .i64 fs, .bool false]]) hb1 (by simp) (by simp) (by simp)
  refine loop_inv (fun n t M => ∃ (j : Nat) (sv : Value) (G : List Nat), n = cs.length - j ∧ j ≤ cs.length ∧ Frm [] m M ∧ M[m.length]? = some ⟨[str fb, .int .i64 fs, str tb, .int .i64 ts, .slice a cs.length cs.length, .int .i64 pid, str text], 34, 1, 0, .own⟩ ∧ M[m.length + 2]? = some ⟨[sv], 61, 1, 0, .own⟩ ∧ Sl M 65 3 sv G (((⟨tb, ts, true⟩ : En) :: ⟨fb, fs, false⟩ :: (cs.take j).map Cl.en).map En.row) ∧ (∀ x ∈ G, m.length + 1 ≤ x ∧ x ≠ m.length + 2) ∧
    Tab 48 [(1, .pointer (some ⟨m.length, 0, none⟩)), (4, .pointer (some ⟨m.length + 2, 0, none⟩)), (5, .int .i64 (j : Int))] t) (n := cs.length) ?_ ?_
  · exact ⟨0, _, _, rfl, Nat.zero_le _, hf0, hb0, hb2, hs0, by simp, ⟨rfl, by simp⟩⟩
  clear hb0 hb1 hb2 hs0 hf0
  rintro N t M ⟨j, sv, G, rfl, hj, hfm, hb0, hb2, hs, hG, ht⟩
  obtain ⟨f, rfl⟩ : ∃ f' : Nat → Value, t = [f' 0, .pointer (some ⟨m.length, 0, none⟩), f' 2, f' 3, .pointer (some ⟨m.length + 2, 0, none⟩), .int .i64 (j : Int), f' 6, f' 7, f' 8, f' 9, f' 10, f' 11, f' 12, f' 13, f' 14, f' 15, f' 16, f' 17, f' 18, f' 19, f' 20, f' 21, f' 22, f' 23, f' 24, f' 25, f' 26, f' 27, f' 28, f' 29, f' 30, f' 31, f' 32, f' 33, f' 34, f' 35, f' 36, f' 37, f' 38, f' 39, f' 40, f' 41, f' 42, f' 43, f' 44, f' 45, f' 46, f' 47] := ht.open fun f' => rfl
  have l0 := lt_of_some hb0
  have l2 := lt_of_some hb2
  have htl : (cs.take j).length = j := by rw [List.length_take]; omega
  have hg0 : m.length ∉ G := fun hx => by have := (hG _ hx).1; omega
  have hg2 : m.length + 2 ∉ G := fun hx => (hG _ hx).2 rfl
  by_cases hlt : j < cs.length
  · have hlt' : ((j : Int) < (cs.length : Int)) = True := by simp [hlt]
    have h0' : ((0 : Int) ≤ (j : Int)) = True := by simp
    have hwj : IntKind.i64.wrap ((j : Int) + 1) = ((j + 1 : Nat) : Int) := by rw [wrap_i64 (by omega) (by omega)]; omega
    obtain ⟨b, o, cc, T, fz, kd, rfl, hb', hk, hl', hrow⟩ := hform (by omega)
    obtain ⟨c, hc⟩ : ∃ r, cs[j]? = some r := ⟨cs[j], List.getElem?_eq_getElem hlt⟩
    have hr : (cc.drop (o + j * 2)).take 2 = [str c.b, .int .i64 c.s] := hrow j c.row (by simp [hc])
    have hlen : o + j * 2 + 2 ≤ cc.length := by omega
    have hbM := hfm.get0 hb'
    have hbl := lt_of_some hbM
    simp (contextual := true) (implicitDefEqProofs := false) (maxSteps := 2000000) (disch := first | rfl | exact Nat.le_of_ble_eq_true rfl | omega | (simp only [List.length_append, List.length_cons, List.length_nil, List.length_set]; omega)) only [hb0, hb2, hbM, hlt', h0', hr, cellsB_l hk hlen, Int.toNat_natCast, X1, X2, X3, X4, XB, lc_block, lc_cond, XZ, undef_eq, Nat.reduceAdd, Nat.reduceSub, ↓reduceIte, basic, cellsL, resOf, setAt, below, belowB, belowA, atomB, Nat.reduceLeDiff, Nat.reduceMul, Int.reduceToNat, Int.reduceLT, Int.reduceLE, Int.reduceAdd, Int.reduceNeg, Int.reduceEq, splice, Nat.reduceEqDiff, Nat.reduceLT, isAtom, Int.reduceSub, Int.reduceMul, implies_true]
    refine app_row (bytes := 32) (hs.frm0 Frm.refl.app) rfl (by simp only [List.length_map, List.length_cons, htl]; omega) ?_
    intro v2 M2 G2 hM2 hf2 hs2 hG2
    simp only [List.length_append, List.length_cons, List.length_nil] at hM2 hG2
    have hf3 : Frm G M M2 := hf2.app_of
    have hb02 := hf3.get hb0 hg0
    have hb22 := hf3.get hb2 hg2
    have l22 := lt_of_some hb22
    have l02 := lt_of_some hb02
    have hs3 : Sl M2 65 3 v2 G2 (((⟨tb, ts, true⟩ : En) :: ⟨fb, fs, false⟩ :: (cs.take (j + 1)).map Cl.en).map En.row) := by
      rw [take_snoc hc, List.map_append]
      have h2 := hs2
      simp only [List.map_append, List.map_cons, List.map_nil, List.cons_append] at h2 ⊢
      exact h2
    obtain ⟨v2a, hv2, _⟩ := hs3.form
    subst hv2
    simp (contextual := true) (implicitDefEqProofs := false) (maxSteps := 2000000) (disch := first | rfl | exact Nat.le_of_ble_eq_true rfl | omega | (simp only [List.length_append, List.length_cons, List.length_nil, List.length_set]; omega)) only [hb02, hb22, X1, X2, X3, X4, XA, XB, lc_block, lc_cond, XZ, undef_eq, Nat.reduceAdd, Nat.reduceSub, ↓reduceIte, basic, cellsL, resOf, setAt, below, belowB, belowA, atomB, Nat.reduceLeDiff, Nat.reduceMul, Int.reduceToNat, Int.reduceLT, Int.reduceLE, Int.reduceAdd, Int.reduceNeg, Int.reduceEq, splice, Nat.reduceEqDiff, Nat.reduceLT, isAtom, Int.reduceSub, Int.reduceMul, implies_true]
    refine kInv_go ⟨j + 1, _, G2, rfl, by omega, ?_, ?_, by rw [List.getElem?_set_self l22]; rfl, hs3.setb fun hx => by have := hG2 _ hx; omega, fun x hx => by have := hG2 x hx; omega, ⟨rfl, by simp [hwj]⟩⟩ (by omega)
    · exact (hfm.trans hf3 fun x hx => .inr (by have := (hG x hx).1; omega)).set (i := m.length + 2) (.inr (by omega))
    · rw [List.getElem?_set_ne (show m.length + 2 ≠ m.length by omega)]; exact hb02
  · have hlt' : ((j : Int) < (cs.length : Int)) = False := by simp; omega
    have hjl : j = cs.length := by omega
    subst hjl
    rw [List.take_of_length_le (Nat.le_refl _)] at hs
    obtain ⟨sa, rfl, _⟩ := hs.form
    simp (contextual := true) (implicitDefEqProofs := false) (maxSteps := 2000000) (disch := first | rfl | exact Nat.le_of_ble_eq_true rfl | omega | (simp only [List.length_append, List.length_cons, List.length_nil, List.length_set]; omega)) only [hlt', hb0, hb2, X1, X2, X3, X4, XA, XB, lc_block, lc_cond, XZ, undef_eq, Nat.reduceAdd, Nat.reduceSub, ↓reduceIte, basic, cellsL, resOf, setAt, below, belowB, belowA, atomB, Nat.reduceLeDiff, Nat.reduceMul, Int.reduceToNat, Int.reduceLT, Int.reduceLE, Int.reduceAdd, Int.reduceNeg, Int.reduceEq, splice, Nat.reduceEqDiff, Nat.reduceLT, isAtom, Int.reduceSub, Int.reduceMul, implies_true]
    refine (rwrong_spec (x := ⟨tb, ts, true⟩) (y := ⟨fb, fs, false⟩) (l := cs.map Cl.en) (c := cUI) (pid := pid) (info := text) (wide := false) (Sl.rd (hs.frm0 Frm.refl.app)) (by simpa using hn) rui_right rui_pid rui_info hl).use ?_
    have hfin : ∀ g, ext m (M ++ g) := fun g => (hfm.nil_trans Frm.refl.app).ext (by simp)
    by_cases he : gramE fb fs tb ts cs pid text = 0
    · have hw : wrongE (rightP tb ts fb fs (cs.map Cl.en)) true true true pid text = 0 := he
      have hrp : rightP tb ts fb fs (cs.map Cl.en) = true := by
        cases hr : rightP tb ts fb fs (cs.map Cl.en) with
        | true => rfl
        | false => rw [hr] at hw; cases hw
      have hw2 := hw
      rw [hrp, wrongE, if_neg (by simp)] at hw2
      split at hw2
      · cases hw2
      rename_i hw1
      have hpid : 0 ≤ pid ∧ pid ≤ 255 := ⟨Int.not_lt.mp fun h => hw1 (.inr (.inl h)), Int.not_lt.mp fun h => hw1 (.inr (.inr (.inl h)))⟩
      have hil : text.length ≤ 256 := by
        unfold infoE at hw2
        split at hw2
        · cases hw2
        split at hw2
        · cases hw2
        · omega
      obtain ⟨hl8, _, hok⟩ := rightP_le (tm := true) (fm := false) hrp
      rw [hw]
      simp (contextual := true) (implicitDefEqProofs := false) (maxSteps := 2000000) (disch := first | rfl | exact Nat.le_of_ble_eq_true rfl | omega | (simp only [List.length_append, List.length_cons, List.length_nil, List.length_set]; omega)) only [X1, X2, X3, X4, XA, XB, lc_block, lc_cond, XZ, undef_eq, Nat.reduceAdd, Nat.reduceSub, ↓reduceIte, basic, cellsL, resOf, setAt, below, belowB, belowA, atomB, Nat.reduceLeDiff, Nat.reduceMul, Int.reduceToNat, Int.reduceLT, Int.reduceLE, Int.reduceAdd, Int.reduceNeg, Int.reduceEq, splice, Nat.reduceEqDiff, Nat.reduceLT, isAtom, Int.reduceSub, Int.reduceMul, implies_true]
      refine (renc_spec (Sl.rd (hs.frm0 Frm.refl.app)) (by simp only [List.length_cons]; omega) hok hpid hil).use ?_
      simp (contextual := true) (implicitDefEqProofs := false) (maxSteps := 2000000) (disch := first | rfl | exact Nat.le_of_ble_eq_true rfl | omega | (simp only [List.length_append, List.length_cons, List.length_nil, List.length_set]; omega)) only [X1, X2, X3, X4, XA, XB, lc_block, lc_cond, XZ, undef_eq, Nat.reduceAdd, Nat.reduceSub, ↓reduceIte, basic, cellsL, resOf, setAt, below, belowB, belowA, atomB, Nat.reduceLeDiff, Nat.reduceMul, Int.reduceToNat, Int.reduceLT, Int.reduceLE, Int.reduceAdd, Int.reduceNeg, Int.reduceEq, splice, Nat.reduceEqDiff, Nat.reduceLT, isAtom, Int.reduceSub, Int.reduceMul, implies_true]
      rw [gramB, if_pos he, he]
      exact ⟨hfin _, rfl⟩
    · have hw : (wrongE (rightP tb ts fb fs (cs.map Cl.en)) true true true pid text = 0) = False := eq_false he
      simp (contextual := true) (implicitDefEqProofs := false) (maxSteps := 2000000) (disch := first | rfl | exact Nat.le_of_ble_eq_true rfl | omega | (simp only [List.length_append, List.length_cons, List.length_nil, List.length_set]; omega)) only [hw, X1, X2, X3, X4, XA, XB, lc_block, lc_cond, XZ, undef_eq, Nat.reduceAdd, Nat.reduceSub, ↓reduceIte, basic, cellsL, resOf, setAt, below, belowB, belowA, atomB, Nat.reduceLeDiff, Nat.reduceMul, Int.reduceToNat, Int.reduceLT, Int.reduceLE, Int.reduceAdd, Int.reduceNeg, Int.reduceEq, splice, Nat.reduceEqDiff, Nat.reduceLT, isAtom, Int.reduceSub, Int.reduceMul, implies_true]
      rw [gramB, if_neg he]
      exact ⟨hfin _, rfl⟩
end Go.Proofs.YtenbkoalanfdhaaDoor
/- Datagrams read: walked. -/
namespace Go.Proofs.YtenbkoalanfdhaaDoor
open Go.Lg
set_option maxRecDepth 8000
set_option maxHeartbeats 8000000
set_option linter.unusedSimpArgs false
set_option linter.unnecessarySimpa false
set_option linter.unusedVariables false

def En.cl (e : En) : Cl := ⟨e.b, e.s⟩
/-- The error's number of a datagram of bytes. -/
def gErr (s : List UInt8) : Int := if (decF s false).1 = 0 then (if (decF s false).2.c.k = 12 then 0 else 2) else (decF s false).1
def zGram : Value := .agg #[str [], .int .i64 0, str [], .int .i64 0, .slice none 0 0, .int .i64 0, str []]
theorem decF_len {s : List UInt8} {w : Bool} (h : (decF s w).1 = 0) : 2 ≤ (decF s w).2.L.length ∧ (decF s w).2.L.length ≤ 10 := by
  obtain ⟨h1, h2, _⟩ := decF_ok h
  have hsh := getP_shape (s := s) (n := 11) (L := []) rfl (by simp) h1
  rw [h2]
  exact ⟨hsh.1, hsh.2.1⟩
theorem uget_spec (s : List UInt8) (hl : s.length ≤ 100000) (m : Mem) : LCall Tryd.prog 17 [str s] m fun v M => Frm [] m M ∧
    if gErr s = 0 then ∃ x y l sv, (decF s false).2.L = x :: y :: l ∧ v = .tuple #[gv y.b y.s x.b x.s sv (decF s false).2.pid (decF s false).2.info, .int .i64 0] ∧ Rd M 2 sv ((l.map En.cl).map Cl.row)
    else v = .tuple #[zGram, .int .i64 (gErr s)] := by
  refine LCall_enter Tryd.func17 c17 ?_
  simp (contextual := true) (implicitDefEqProofs := false) (maxSteps := 2000000) (disch := first | rfl | exact Nat.le_of_ble_eq_true rfl | omega | (simp only [List.length_append, List.length_cons, List.length_nil, List.length_set]; omega)) only [L17, X1, X2, X3, X4, XA, XB, lc_block, lc_cond, XZ, undef_eq, Nat.reduceAdd, Nat.reduceSub, ↓reduceIte, basic, cellsL, resOf, setAt, below, belowB, belowA, atomB, Nat.reduceLeDiff, Nat.reduceMul, Int.reduceToNat, Int.reduceLT, Int.reduceLE, Int.reduceAdd, Int.reduceNeg, Int.reduceEq, splice, Nat.reduceEqDiff, Nat.reduceLT, isAtom, Int.reduceSub, Int.reduceMul, implies_true]
  refine (decode_spec s false hl _).mono ?_
  rintro v M ⟨hf, hv⟩
  have hdl := decF_len (s := s) (w := false)
  have hb0 := hf.get0 (i := m.length) (b := ⟨[.string ⟨#[]⟩, .int .i64 0, .string ⟨#[]⟩, .int .i64 0, .slice none 0 0, .int .i64 0, .string ⟨#[]⟩], 26, 1, 0, .own⟩) (by simp)
  have l0 := lt_of_some hb0
  have hfm : Frm [] m M := (Frm.refl (F := []) (m := m)).app.nil_trans hf
  unfold gErr
  generalize decF s false = D at hv hdl ⊢
  obtain ⟨de, f⟩ := D
  obtain ⟨L, c, pid, info⟩ := f
  simp only at hv hdl ⊢
  by_cases h1 : de = 0
  · subst h1
    rw [if_pos rfl] at hv
    obtain ⟨x, y, l, sv, F, rfl, rfl, hs, hF⟩ := hv
    have hl8 := (hdl rfl).2
    simp only [List.length_cons] at hl8
    obtain ⟨sa, rfl, hform⟩ := hs.form
    simp only [List.length_map] at hs hform
    have hFm : ∀ z ∈ F, m.length + 1 ≤ z := fun z hz => by have := hF z hz; simp only [List.length_append, List.length_cons, List.length_nil] at this; omega
    by_cases h2 : c.k = 12
    · have h2' : (c.k = 12) = True := eq_true h2
      have hge : (if (0 : Int) = 0 then (if c.k = 12 then (0 : Int) else 2) else 0) = 0 := by simp [h2]
      rw [hge]
      simp (contextual := true) (implicitDefEqProofs := false) (maxSteps := 2000000) (disch := first | rfl | exact Nat.le_of_ble_eq_true rfl | omega | (simp only [List.length_append, List.length_cons, List.length_nil, List.length_set]; omega)) only [hb0, h2', List.length_map, X1, X2, X3, X4, XA, XB, lc_block, lc_cond, XZ, undef_eq, Nat.reduceAdd, Nat.reduceSub, ↓reduceIte, basic, cellsL, resOf, setAt, below, belowB, belowA, atomB, Nat.reduceLeDiff, Nat.reduceMul, Int.reduceToNat, Int.reduceLT, Int.reduceLE, Int.reduceAdd, Int.reduceNeg, Int.reduceEq, splice, Nat.reduceEqDiff, Nat.reduceLT, isAtom, Int.reduceSub, Int.reduceMul, implies_true]
      obtain ⟨M0, hM, hMl, hf0, hb1, hb6, hsM⟩ : ∃ M0, M ++ [⟨[str x.b, .int .i64 x.s, str y.b, .int .i64 y.s, .bool x.k, .bool y.k, .slice sa l.length l.length, .int .i64 c.k, .int .i64 c.ns, .int .i64 c.nr, .bool c.pf, .int .i64 pid, str info], 90, 1, 0, .own⟩, ⟨[str y.b, .int .i64 y.s, str x.b, .int .i64 x.s, .slice none 0 0, .int .i64 pid, str info], 26, 1, 0, .own⟩] = M0 ∧ M0.length = M.length + 2 ∧ Frm [] m M0 ∧ M0[m.length]? = some ⟨[.string ⟨#[]⟩, .int .i64 0, .string ⟨#[]⟩, .int .i64 0, .slice none 0 0, .int .i64 0, .string ⟨#[]⟩], 26, 1, 0, .own⟩ ∧ M0[M.length + 1]? = some ⟨[str y.b, .int .i64 y.s, str x.b, .int .i64 x.s, .slice none 0 0, .int .i64 pid, str info], 26, 1, 0, .own⟩ ∧ Sl M0 118 3 (.slice sa l.length l.length) F (l.map En.row) := by
        refine ⟨_, rfl, by simp, hfm.app, ?_, ?_, hs.frm0 Frm.refl.app⟩
        · rw [List.getElem?_append_left l0]; exact hb0
        · rw [List.getElem?_append_right (by omega)]; simp
      have hFlt := hs.lt
      rw [hM]
      clear hM
      have lM := hfm.len
      refine loop_inv (fun n t M' => ∃ (j : Nat) (gv' : Value) (G : List Nat), n = l.length - j ∧ j ≤ l.length ∧ Frm [M.length + 1] M0 M' ∧ M'[M.length + 1]? = some ⟨[str y.b, .int .i64 y.s, str x.b, .int .i64 x.s, gv', .int .i64 pid, str info], 26, 1, 0, .own⟩ ∧ Sl M' 23 2 gv' G (((l.take j).map En.cl).map Cl.row) ∧ (∀ z ∈ G, M.length + 2 ≤ z) ∧
        Tab 53 [(2, .pointer (some ⟨m.length, 0, none⟩)), (6, .pointer (some ⟨M.length + 1, 0, none⟩)), (38, .slice sa l.length l.length), (39, .int .i64 (l.length : Int)), (40, .int .i64 (j : Int))] t) (n := l.length) ?_ ?_
      · exact ⟨0, _, [], rfl, Nat.zero_le _, Frm.refl, hb6, .nil, by simp, ⟨rfl, by simp⟩⟩
      rintro N t M' ⟨j, gv', G, rfl, hj, hf', hp, hsG, hG, ht⟩
      obtain ⟨f, rfl⟩ : ∃ f' : Nat → Value, t = [f' 0, f' 1, .pointer (some ⟨m.length, 0, none⟩), f' 3, f' 4, f' 5, .pointer (some ⟨M.length + 1, 0, none⟩), f' 7, f' 8, f' 9, f' 10, f' 11, f' 12, f' 13, f' 14, f' 15, f' 16, f' 17, f' 18, f' 19, f' 20, f' 21, f' 22, f' 23, f' 24, f' 25, f' 26, f' 27, f' 28, f' 29, f' 30, f' 31, f' 32, f' 33, f' 34, f' 35, f' 36, f' 37, .slice sa l.length l.length, .int .i64 (l.length : Int), .int .i64 (j : Int), f' 41, f' 42, f' 43, f' 44, f' 45, f' 46, f' 47, f' 48, f' 49, f' 50, f' 51, f' 52] := ht.open fun f' => rfl
      have hpl := lt_of_some hp
      have hfl := hf'.len
      obtain ⟨ga, rfl, _⟩ := hsG.form
      simp only [List.length_map] at hp
      by_cases hlt : j < l.length
      · have hlt' : ((j : Int) < (l.length : Int)) = True := by simp [hlt]
        have h0' : ((0 : Int) ≤ (j : Int)) = True := by simp
        have hwj : IntKind.i64.wrap ((j : Int) + 1) = ((j + 1 : Nat) : Int) := by rw [wrap_i64 (by omega) (by omega)]; omega
        obtain ⟨_, hsa, hform2⟩ := hsM.form
        simp only [List.length_map, Value.slice.injEq, and_true] at hsa hform2
        subst hsa
        obtain ⟨b, o, cs, rfl, rfl, hbk, hlb, _, hrow⟩ := hform2 (by omega)
        obtain ⟨e, he⟩ : ∃ r, l[j]? = some r := ⟨l[j], List.getElem?_eq_getElem hlt⟩
        have hr : (cs.drop (o + j * 3)).take 3 = [str e.b, .int .i64 e.s, .bool e.k] := hrow j e.row (by simp [he])
        have hlen : o + j * 3 + 3 ≤ cs.length := by omega
        have hbM := hf'.get hbk (by have := hFlt b (by simp); simp; omega)
        have hbl := lt_of_some hbM
        have htl : (l.take j).length = j := by rw [List.length_take]; omega
        simp (contextual := true) (implicitDefEqProofs := false) (maxSteps := 2000000) (disch := first | rfl | exact Nat.le_of_ble_eq_true rfl | omega | (simp only [List.length_append, List.length_cons, List.length_nil, List.length_set]; omega)) only [hbM, hp, hlt', h0', hr, Int.toNat_natCast, X1, X2, X3, X4, XB, lc_block, lc_cond, XZ, undef_eq, Nat.reduceAdd, Nat.reduceSub, ↓reduceIte, basic, cellsL, resOf, setAt, below, belowB, belowA, atomB, Nat.reduceLeDiff, Nat.reduceMul, Int.reduceToNat, Int.reduceLT, Int.reduceLE, Int.reduceAdd, Int.reduceNeg, Int.reduceEq, splice, Nat.reduceEqDiff, Nat.reduceLT, isAtom, Int.reduceSub, Int.reduceMul, implies_true]
        have hsG' := hsG
        simp only [List.length_map] at hsG'
        refine app_row (bytes := 24) (hsG'.frm0 Frm.refl.app) rfl (by simp only [List.length_map, htl]; omega) ?_
        intro v2 M2 G2 hM2 hf2 hs2 hG2
        simp only [List.length_append, List.length_cons, List.length_nil] at hM2 hG2
        have hf3 : Frm G M' M2 := hf2.app_of
        have hp2 := hf3.get hp fun hx => by have := hG _ hx; omega
        have hp2l := lt_of_some hp2
        have hG3 : ∀ z ∈ G2, M.length + 2 ≤ z := fun z hz => by have := hG2 z hz; omega
        have hs3 : Sl M2 23 2 v2 G2 (((l.take (j + 1)).map En.cl).map Cl.row) := by
          rw [take_snoc he, List.map_append, List.map_append]; exact hs2
        obtain ⟨v2a, hv2, _⟩ := hs3.form
        subst hv2
        simp (contextual := true) (implicitDefEqProofs := false) (maxSteps := 2000000) (disch := first | rfl | exact Nat.le_of_ble_eq_true rfl | omega | (simp only [List.length_append, List.length_cons, List.length_nil, List.length_set]; omega)) only [hp2, X1, X2, X3, X4, XA, XB, lc_block, lc_cond, XZ, undef_eq, Nat.reduceAdd, Nat.reduceSub, ↓reduceIte, basic, cellsL, resOf, setAt, below, belowB, belowA, atomB, Nat.reduceLeDiff, Nat.reduceMul, Int.reduceToNat, Int.reduceLT, Int.reduceLE, Int.reduceAdd, Int.reduceNeg, Int.reduceEq, splice, Nat.reduceEqDiff, Nat.reduceLT, isAtom, Int.reduceSub, Int.reduceMul, implies_true]
        refine kInv_go ⟨j + 1, _, G2, rfl, by omega, ?_, by rw [List.getElem?_set_self hp2l], hs3.setb fun hx => by have := hG3 _ hx; omega, hG3, ⟨rfl, by simp [hwj]⟩⟩ (by omega)
        exact (hf'.trans hf3 fun z hz => .inr (by have := hG z hz; omega)).set (by simp)
      · have hlt' : ((j : Int) < (l.length : Int)) = False := by simp; omega
        have hjl : j = l.length := by omega
        subst hjl
        rw [List.take_of_length_le (Nat.le_refl _)] at hsG hp
        have hr1 := hf'.get hb1 (by simp; omega)
        have hr1l := lt_of_some hr1
        have hfin : Frm [] m M' := hf0.trans hf' fun z hz => .inr (by simp at hz; omega)
        simp (contextual := true) (implicitDefEqProofs := false) (maxSteps := 2000000) (disch := first | rfl | exact Nat.le_of_ble_eq_true rfl | omega | (simp only [List.length_append, List.length_cons, List.length_nil, List.length_set]; omega)) only [hlt', hp, hr1, X1, X2, X3, X4, XA, XB, lc_block, lc_cond, XZ, undef_eq, Nat.reduceAdd, Nat.reduceSub, ↓reduceIte, basic, cellsL, resOf, setAt, below, belowB, belowA, atomB, Nat.reduceLeDiff, Nat.reduceMul, Int.reduceToNat, Int.reduceLT, Int.reduceLE, Int.reduceAdd, Int.reduceNeg, Int.reduceEq, splice, Nat.reduceEqDiff, Nat.reduceLT, isAtom, Int.reduceSub, Int.reduceMul, implies_true]
        refine ⟨hfin.set (i := m.length) (.inr (Nat.le_refl _)), x, y, l, .slice ga l.length l.length, rfl, rfl, ?_⟩
        have := Sl.rd (hsG.setb (c := m.length) (B := ⟨[str y.b, .int .i64 y.s, str x.b, .int .i64 x.s, .slice ga l.length l.length, .int .i64 pid, str info], 26, 1, 0, .own⟩) fun hx => by have := hG _ hx; omega)
        simpa only [List.length_map] using this
    · have h2' : (c.k = 12) = False := eq_false h2
      have hge : (if (0 : Int) = 0 then (if c.k = 12 then (0 : Int) else 2) else 0) = 2 := by simp [h2]
      rw [hge]
      simp (contextual := true) (implicitDefEqProofs := false) (maxSteps := 2000000) (disch := first | rfl | exact Nat.le_of_ble_eq_true rfl | omega | (simp only [List.length_append, List.length_cons, List.length_nil, List.length_set]; omega)) only [hb0, h2', zGram, X1, X2, X3, X4, XA, XB, lc_block, lc_cond, XZ, undef_eq, Nat.reduceAdd, Nat.reduceSub, ↓reduceIte, basic, cellsL, resOf, setAt, below, belowB, belowA, atomB, Nat.reduceLeDiff, Nat.reduceMul, Int.reduceToNat, Int.reduceLT, Int.reduceLE, Int.reduceAdd, Int.reduceNeg, Int.reduceEq, splice, Nat.reduceEqDiff, Nat.reduceLT, isAtom, Int.reduceSub, Int.reduceMul, implies_true]
      exact (hfm.set (i := m.length) (.inr (Nat.le_refl _))).app
  · have h1' : (de = 0) = False := eq_false h1
    rw [if_neg h1] at hv
    subst hv
    have hge : (if de = 0 then (if c.k = 12 then (0 : Int) else 2) else de) = de := by simp [h1]
    rw [hge]
    simp (contextual := true) (implicitDefEqProofs := false) (maxSteps := 2000000) (disch := first | rfl | exact Nat.le_of_ble_eq_true rfl | omega | (simp only [List.length_append, List.length_cons, List.length_nil, List.length_set]; omega)) only [hb0, h1', zFrame, zGram, X1, X2, X3, X4, XA, XB, lc_block, lc_cond, XZ, undef_eq, Nat.reduceAdd, Nat.reduceSub, ↓reduceIte, basic, cellsL, resOf, setAt, below, belowB, belowA, atomB, Nat.reduceLeDiff, Nat.reduceMul, Int.reduceToNat, Int.reduceLT, Int.reduceLE, Int.reduceAdd, Int.reduceNeg, Int.reduceEq, splice, Nat.reduceEqDiff, Nat.reduceLT, isAtom, Int.reduceSub, Int.reduceMul, implies_true]
    exact (hfm.set (i := m.length) (.inr (Nat.le_refl _))).app
end Go.Proofs.YtenbkoalanfdhaaDoor
/- Datagrams read, by the document; the law of datagrams: walked. -/
namespace Go.Proofs.YtenbkoalanfdhaaDoor
open Go.Lg
set_option maxRecDepth 8000
set_option maxHeartbeats 8000000
set_option linter.unusedSimpArgs false
set_option linter.unnecessarySimpa false
set_option linter.unusedVariables false

theorem ruget_spec (s : List UInt8) (hl : s.length ≤ 100000) (m : Mem) : LCall Tryd.prog 19 [str s] m fun v M => Frm [] m M ∧
    if gErr s = 0 then ∃ x y l sv, (decF s false).2.L = x :: y :: l ∧ v = .tuple #[gv y.b y.s x.b x.s sv (decF s false).2.pid (decF s false).2.info, .int .i64 0] ∧ Rd M 2 sv ((l.map En.cl).map Cl.row)
    else v = .tuple #[zGram, .int .i64 (gErr s)] := by
  refine LCall_enter Tryd.func19 c19 ?_
  simp (contextual := true) (implicitDefEqProofs := false) (maxSteps := 2000000) (disch := first | rfl | exact Nat.le_of_ble_eq_true rfl | omega | (simp only [List.length_append, List.length_cons, List.length_nil, List.length_set]; omega)) only [L19, X1, X2, X3, X4, XA, XB, lc_block, lc_cond, XZ, undef_eq, Nat.reduceAdd, Nat.reduceSub, ↓reduceIte, basic, cellsL, resOf, setAt, below, belowB, belowA, atomB, Nat.reduceLeDiff, Nat.reduceMul, Int.reduceToNat, Int.reduceLT, Int.reduceLE, Int.reduceAdd, Int.reduceNeg, Int.reduceEq, splice, Nat.reduceEqDiff, Nat.reduceLT, isAtom, Int.reduceSub, Int.reduceMul, implies_true]
  refine (rdecode_spec s false hl _).mono ?_
  rintro v M ⟨hf, hv⟩
  have hdl := decF_len (s := s) (w := false)
  have hb0 := hf.get0 (i := m.length) (b := ⟨[.string ⟨#[]⟩, .int .i64 0, .string ⟨#[]⟩, .int .i64 0, .slice none 0 0, .int .i64 0, .string ⟨#[]⟩], 34, 1, 0, .own⟩) (by simp)
  have l0 := lt_of_some hb0
  have hfm : Frm [] m M := (Frm.refl (F := []) (m := m)).app.nil_trans hf
  unfold gErr
  generalize decF s false = D at hv hdl ⊢
  obtain ⟨de, f⟩ := D
  obtain ⟨L, c, pid, info⟩ := f
  simp only at hv hdl ⊢
  by_cases h1 : de = 0
  · subst h1
    rw [if_pos rfl] at hv
    obtain ⟨sv, F, rfl, hs, hF⟩ := hv
    have hl2 := hdl rfl
    obtain ⟨x, y, l, rfl⟩ : ∃ x y l, L = x :: y :: l := by
      match L, hl2 with
      | x :: y :: l, _ => exact ⟨x, y, l, rfl⟩
      | [_], h => simp at h
      | [], h => simp at h
    have hl8 := hl2.2
    simp only [List.length_cons] at hl8
    obtain ⟨sa, rfl, hform⟩ := hs.form
    have hFm : ∀ z ∈ F, m.length + 1 ≤ z := fun z hz => by have := hF z hz; simp only [List.length_append, List.length_cons, List.length_nil] at this; omega
    by_cases h2 : c.k = 12
    · have h2' : (c.k = 12) = True := eq_true h2
      have hge : (if (0 : Int) = 0 then (if c.k = 12 then (0 : Int) else 2) else 0) = 0 := by simp [h2]
      rw [hge]
      obtain ⟨b, o, cs, rfl, rfl, hbk, hlb, hflat, hrow⟩ := hform (by simp)
      have hr0 := hrow 0 x.row rfl
      have hr1 := hrow 1 y.row rfl
      have hbl := lt_of_some hbk
      have hq : ((x :: y :: l).map En.row).length = l.length + 2 := by simp
      rw [hq] at hlb hs
      have hz0 : o + 0 * 3 = o := by omega
      rw [hz0] at hr0
      have g0 : (cs.drop o).take 2 = [str x.b, .int .i64 x.s] := by
        have := congrArg (List.take 2) hr0
        rwa [List.take_take] at this
      have g1 : (cs.drop (o + 3)).take 2 = [str y.b, .int .i64 y.s] := by
        have := congrArg (List.take 2) hr1
        rwa [List.take_take] at this
      have i0 : ((0 : Int) < ((l.length + 1 + 1 : Nat) : Int)) = True := eq_true (by omega)
      have i1 : ((1 : Int) < ((l.length + 1 + 1 : Nat) : Int)) = True := eq_true (by omega)
      have hlb6 : o + 6 ≤ cs.length := by omega
      simp (contextual := true) (implicitDefEqProofs := false) (maxSteps := 2000000) (disch := first | rfl | exact Nat.le_of_ble_eq_true rfl | omega | (simp only [List.length_append, List.length_cons, List.length_nil, List.length_set]; omega)) only [hb0, h2', hbk, g0, g1, i0, i1, Int.toNat_natCast, List.length_map, X1, X2, X3, X4, XA, XB, lc_block, lc_cond, XZ, undef_eq, Nat.reduceAdd, Nat.reduceSub, ↓reduceIte, basic, cellsL, resOf, setAt, below, belowB, belowA, atomB, Nat.reduceLeDiff, Nat.reduceMul, Int.reduceToNat, Int.reduceLT, Int.reduceLE, Int.reduceAdd, Int.reduceNeg, Int.reduceEq, splice, Nat.reduceEqDiff, Nat.reduceLT, isAtom, Int.reduceSub, Int.reduceMul, implies_true]
      obtain ⟨M0, hM, hMl, hf0, hb1, hb4, hb6, hsM⟩ : ∃ M0, M ++ [⟨[.slice (some ⟨b, o, none⟩) (l.length + 1 + 1) (l.length + 1 + 1), .int .i64 c.k, .int .i64 c.ns, .int .i64 c.nr, .bool c.pf, .int .i64 pid, str info], 103, 1, 0, .own⟩, ⟨[str y.b, .int .i64 y.s, str x.b, .int .i64 x.s, .slice none 0 0, .int .i64 pid, str info], 34, 1, 0, .own⟩] = M0 ∧ M0.length = M.length + 2 ∧ Frm [] m M0 ∧ M0[m.length]? = some ⟨[.string ⟨#[]⟩, .int .i64 0, .string ⟨#[]⟩, .int .i64 0, .slice none 0 0, .int .i64 0, .string ⟨#[]⟩], 34, 1, 0, .own⟩ ∧ M0[M.length]? = some ⟨[.slice (some ⟨b, o, none⟩) (l.length + 1 + 1) (l.length + 1 + 1), .int .i64 c.k, .int .i64 c.ns, .int .i64 c.nr, .bool c.pf, .int .i64 pid, str info], 103, 1, 0, .own⟩ ∧ M0[M.length + 1]? = some ⟨[str y.b, .int .i64 y.s, str x.b, .int .i64 x.s, .slice none 0 0, .int .i64 pid, str info], 34, 1, 0, .own⟩ ∧ M0[b]? = some ⟨cs, 65, 3, 0, .own⟩ := by
        refine ⟨_, rfl, by simp, hfm.app, ?_, ?_, ?_, ?_⟩
        · rw [List.getElem?_append_left l0]; exact hb0
        · rw [List.getElem?_append_right (by omega)]; simp
        · rw [List.getElem?_append_right (by omega)]; simp
        · rw [List.getElem?_append_left hbl]; exact hbk
      rw [hM]
      clear hM
      have lM := hfm.len
      refine loop_inv (fun n t M' => ∃ (j : Nat) (gv' : Value) (G : List Nat), n = l.length - j ∧ j ≤ l.length ∧ Frm [M.length + 1] M0 M' ∧ M'[M.length + 1]? = some ⟨[str y.b, .int .i64 y.s, str x.b, .int .i64 x.s, gv', .int .i64 pid, str info], 34, 1, 0, .own⟩ ∧ Sl M' 23 2 gv' G (((l.take j).map En.cl).map Cl.row) ∧ (∀ z ∈ G, M.length + 2 ≤ z) ∧
        Tab 60 [(2, .pointer (some ⟨m.length, 0, none⟩)), (4, .pointer (some ⟨M.length, 0, none⟩)), (6, .pointer (some ⟨M.length + 1, 0, none⟩)), (7, .int .i64 ((j + 2 : Nat) : Int))] t) (n := l.length) ?_ ?_
      · exact ⟨0, _, [], rfl, Nat.zero_le _, Frm.refl, hb6, .nil, by simp, ⟨rfl, by simp⟩⟩
      rintro N t M' ⟨j, gv', G, rfl, hj, hf', hp, hsG, hG, ht⟩
      obtain ⟨f, rfl⟩ : ∃ f' : Nat → Value, t = [f' 0, f' 1, .pointer (some ⟨m.length, 0, none⟩), f' 3, .pointer (some ⟨M.length, 0, none⟩), f' 5, .pointer (some ⟨M.length + 1, 0, none⟩), .int .i64 ((j + 2 : Nat) : Int), f' 8, f' 9, f' 10, f' 11, f' 12, f' 13, f' 14, f' 15, f' 16, f' 17, f' 18, f' 19, f' 20, f' 21, f' 22, f' 23, f' 24, f' 25, f' 26, f' 27, f' 28, f' 29, f' 30, f' 31, f' 32, f' 33, f' 34, f' 35, f' 36, f' 37, f' 38, f' 39, f' 40, f' 41, f' 42, f' 43, f' 44, f' 45, f' 46, f' 47, f' 48, f' 49, f' 50, f' 51, f' 52, f' 53, f' 54, f' 55, f' 56, f' 57, f' 58, f' 59] := ht.open fun f' => rfl
      have hpl := lt_of_some hp
      have hfl := hf'.len
      have hp4 := hf'.get hb4 (by simp)
      have hp4l := lt_of_some hp4
      obtain ⟨ga, rfl, _⟩ := hsG.form
      simp only [List.length_map] at hp
      by_cases hlt : j < l.length
      · have hlt' : (((j + 2 : Nat) : Int) < ((l.length + 1 + 1 : Nat) : Int)) = True := eq_true (by omega)
        have h0' : ((0 : Int) ≤ ((j + 2 : Nat) : Int)) = True := eq_true (by omega)
        have hwj : IntKind.i64.wrap (((j + 2 : Nat) : Int) + 1) = ((j + 1 + 2 : Nat) : Int) := by rw [wrap_i64 (by omega) (by omega)]; omega
        obtain ⟨e, he⟩ : ∃ r, l[j]? = some r := ⟨l[j], List.getElem?_eq_getElem hlt⟩
        have hr : (cs.drop (o + (j + 2) * 3)).take 2 = [str e.b, .int .i64 e.s] := by
          have := congrArg (List.take 2) (hrow (j + 2) e.row (by simp [he]))
          rwa [List.take_take] at this
        have hlen : o + (j + 2) * 3 + 2 ≤ cs.length := by omega
        have hbM := hf'.get hsM (by simp; omega)
        have hbl' := lt_of_some hbM
        have htl : (l.take j).length = j := by rw [List.length_take]; omega
        simp (contextual := true) (implicitDefEqProofs := false) (maxSteps := 2000000) (disch := first | rfl | exact Nat.le_of_ble_eq_true rfl | omega | (simp only [List.length_append, List.length_cons, List.length_nil, List.length_set]; omega)) only [hbM, hp, hp4, hlt', h0', hr, Int.toNat_natCast, X1, X2, X3, X4, XB, lc_block, lc_cond, XZ, undef_eq, Nat.reduceAdd, Nat.reduceSub, ↓reduceIte, basic, cellsL, resOf, setAt, below, belowB, belowA, atomB, Nat.reduceLeDiff, Nat.reduceMul, Int.reduceToNat, Int.reduceLT, Int.reduceLE, Int.reduceAdd, Int.reduceNeg, Int.reduceEq, splice, Nat.reduceEqDiff, Nat.reduceLT, isAtom, Int.reduceSub, Int.reduceMul, implies_true]
        have hsG' := hsG
        simp only [List.length_map] at hsG'
        refine app_row (bytes := 24) (hsG'.frm0 Frm.refl.app) rfl (by simp only [List.length_map, htl]; omega) ?_
        intro v2 M2 G2 hM2 hf2 hs2 hG2
        simp only [List.length_append, List.length_cons, List.length_nil] at hM2 hG2
        have hf3 : Frm G M' M2 := hf2.app_of
        have hp2 := hf3.get hp fun hx => by have := hG _ hx; omega
        have hp2l := lt_of_some hp2
        have hG3 : ∀ z ∈ G2, M.length + 2 ≤ z := fun z hz => by have := hG2 z hz; omega
        have hs3 : Sl M2 23 2 v2 G2 (((l.take (j + 1)).map En.cl).map Cl.row) := by
          rw [take_snoc he, List.map_append, List.map_append]; exact hs2
        obtain ⟨v2a, hv2, _⟩ := hs3.form
        subst hv2
        simp (contextual := true) (implicitDefEqProofs := false) (maxSteps := 2000000) (disch := first | rfl | exact Nat.le_of_ble_eq_true rfl | omega | (simp only [List.length_append, List.length_cons, List.length_nil, List.length_set]; omega)) only [hp2, X1, X2, X3, X4, XA, XB, lc_block, lc_cond, XZ, undef_eq, Nat.reduceAdd, Nat.reduceSub, ↓reduceIte, basic, cellsL, resOf, setAt, below, belowB, belowA, atomB, Nat.reduceLeDiff, Nat.reduceMul, Int.reduceToNat, Int.reduceLT, Int.reduceLE, Int.reduceAdd, Int.reduceNeg, Int.reduceEq, splice, Nat.reduceEqDiff, Nat.reduceLT, isAtom, Int.reduceSub, Int.reduceMul, implies_true]
        refine kInv_go ⟨j + 1, _, G2, rfl, by omega, ?_, by rw [List.getElem?_set_self hp2l], hs3.setb fun hx => by have := hG3 _ hx; omega, hG3, ⟨rfl, by simp [hwj]; omega⟩⟩ (by omega)
        exact (hf'.trans hf3 fun z hz => .inr (by have := hG z hz; omega)).set (by simp)
      · have hlt' : (((j + 2 : Nat) : Int) < ((l.length + 1 + 1 : Nat) : Int)) = False := eq_false (by omega)
        have hjl : j = l.length := by omega
        subst hjl
        rw [List.take_of_length_le (Nat.le_refl _)] at hsG hp
        have hr1 := hf'.get hb1 (by simp; omega)
        have hr1l := lt_of_some hr1
        have hfin : Frm [] m M' := hf0.trans hf' fun z hz => .inr (by simp at hz; omega)
        simp (contextual := true) (implicitDefEqProofs := false) (maxSteps := 2000000) (disch := first | rfl | exact Nat.le_of_ble_eq_true rfl | omega | (simp only [List.length_append, List.length_cons, List.length_nil, List.length_set]; omega)) only [hlt', hp, hp4, hr1, X1, X2, X3, X4, XA, XB, lc_block, lc_cond, XZ, undef_eq, Nat.reduceAdd, Nat.reduceSub, ↓reduceIte, basic, cellsL, resOf, setAt, below, belowB, belowA, atomB, Nat.reduceLeDiff, Nat.reduceMul, Int.reduceToNat, Int.reduceLT, Int.reduceLE, Int.reduceAdd, Int.reduceNeg, Int.reduceEq, splice, Nat.reduceEqDiff, Nat.reduceLT, isAtom, Int.reduceSub, Int.reduceMul, implies_true]
        refine ⟨hfin.set (i := m.length) (.inr (Nat.le_refl _)), x, y, l, .slice ga l.length l.length, rfl, rfl, ?_⟩
        have := Sl.rd (hsG.setb (c := m.length) (B := ⟨[str y.b, .int .i64 y.s, str x.b, .int .i64 x.s, .slice ga l.length l.length, .int .i64 pid, str info], 34, 1, 0, .own⟩) fun hx => by have := hG _ hx; omega)
        simpa only [List.length_map] using this
    · have h2' : (c.k = 12) = False := eq_false h2
      have hge : (if (0 : Int) = 0 then (if c.k = 12 then (0 : Int) else 2) else 0) = 2 := by simp [h2]
      rw [hge]
      simp (contextual := true) (implicitDefEqProofs := false) (maxSteps := 2000000) (disch := first | rfl | exact Nat.le_of_ble_eq_true rfl | omega | (simp only [List.length_append, List.length_cons, List.length_nil, List.length_set]; omega)) only [hb0, h2', zGram, X1, X2, X3, X4, XA, XB, lc_block, lc_cond, XZ, undef_eq, Nat.reduceAdd, Nat.reduceSub, ↓reduceIte, basic, cellsL, resOf, setAt, below, belowB, belowA, atomB, Nat.reduceLeDiff, Nat.reduceMul, Int.reduceToNat, Int.reduceLT, Int.reduceLE, Int.reduceAdd, Int.reduceNeg, Int.reduceEq, splice, Nat.reduceEqDiff, Nat.reduceLT, isAtom, Int.reduceSub, Int.reduceMul, implies_true]
      exact (hfm.set (i := m.length) (.inr (Nat.le_refl _))).app
  · have h1' : (de = 0) = False := eq_false h1
    rw [if_neg h1] at hv
    subst hv
    have hge : (if de = 0 then (if c.k = 12 then (0 : Int) else 2) else de) = de := by simp [h1]
    rw [hge]
    simp (contextual := true) (implicitDefEqProofs := false) (maxSteps := 2000000) (disch := first | rfl | exact Nat.le_of_ble_eq_true rfl | omega | (simp only [List.length_append, List.length_cons, List.length_nil, List.length_set]; omega)) only [hb0, h1', zRframe, zGram, X1, X2, X3, X4, XA, XB, lc_block, lc_cond, XZ, undef_eq, Nat.reduceAdd, Nat.reduceSub, ↓reduceIte, basic, cellsL, resOf, setAt, below, belowB, belowA, atomB, Nat.reduceLeDiff, Nat.reduceMul, Int.reduceToNat, Int.reduceLT, Int.reduceLE, Int.reduceAdd, Int.reduceNeg, Int.reduceEq, splice, Nat.reduceEqDiff, Nat.reduceLT, isAtom, Int.reduceSub, Int.reduceMul, implies_true]
    exact (hfm.set (i := m.length) (.inr (Nat.le_refl _))).app
/-- Two datagrams with the same parts are alike. -/
theorem same_spec {fb : List UInt8} {fs : Int} {tb : List UInt8} {ts : Int} {dv dv' : Value} {cs : List Cl} {pid : Int} {text : List UInt8} {m : Mem} (h : Rd m 2 dv (cs.map Cl.row)) (h' : Rd m 2 dv' (cs.map Cl.row)) (hn : cs.length ≤ 1000000) :
    Ret Tryd.prog 18 [gv fb fs tb ts dv pid text, gv fb fs tb ts dv' pid text] m (.bool true) m := by
  obtain ⟨a, rfl, hform⟩ := h
  obtain ⟨a', rfl, hform'⟩ := h'
  simp only [List.length_map] at hform hform' ⊢
  refine LCall_drop (LCall_enter Tryd.func18 c18 ?_)
  simp (contextual := true) (implicitDefEqProofs := false) (maxSteps := 2000000) (disch := first | rfl | exact Nat.le_of_ble_eq_true rfl | omega | (simp only [List.length_append, List.length_cons, List.length_nil, List.length_set]; omega)) only [L18, eqN, eqLeaves, X1, X2, X3, X4, XA, XB, lc_block, lc_cond, XZ, undef_eq, Nat.reduceAdd, Nat.reduceSub, ↓reduceIte, basic, cellsL, resOf, setAt, below, belowB, belowA, atomB, Nat.reduceLeDiff, Nat.reduceMul, Int.reduceToNat, Int.reduceLT, Int.reduceLE, Int.reduceAdd, Int.reduceNeg, Int.reduceEq, splice, Nat.reduceEqDiff, Nat.reduceLT, isAtom, Int.reduceSub, Int.reduceMul, implies_true]
  obtain ⟨M0, hM, hf0, hb0, hb1⟩ : ∃ M0, m ++ [⟨[str fb, .int .i64 fs, str tb, .int .i64 ts, .slice a cs.length cs.length, .int .i64 pid, str text], 34, 1, 0, .own⟩, ⟨[str fb, .int .i64 fs, str tb, .int .i64 ts, .slice a' cs.length cs.length, .int .i64 pid, str text], 34, 1, 0, .own⟩] = M0 ∧ Frm [] m M0 ∧ M0[m.length]? = some ⟨[str fb, .int .i64 fs, str tb, .int .i64 ts, .slice a cs.length cs.length, .int .i64 pid, str text], 34, 1, 0, .own⟩ ∧ M0[m.length + 1]? = some ⟨[str fb, .int .i64 fs, str tb, .int .i64 ts, .slice a' cs.length cs.length, .int .i64 pid, str text], 34, 1, 0, .own⟩ := ⟨_, rfl, Frm.refl.app, by simp, by rw [List.getElem?_append_right (by omega)]; simp⟩
  rw [hM]
  have hext : ext m M0 := ⟨_, hM.symm⟩
  clear hM
  have l0 := lt_of_some hb0
  have l1 := lt_of_some hb1
  refine loop_inv (fun n t M => ∃ (j : Nat), n = cs.length - j ∧ j ≤ cs.length ∧ M = M0 ∧
    Tab 59 [(2, .pointer (some ⟨m.length, 0, none⟩)), (3, .pointer (some ⟨m.length + 1, 0, none⟩)), (5, .int .i64 (j : Int))] t) (n := cs.length) ?_ ?_
  · exact ⟨0, rfl, Nat.zero_le _, rfl, ⟨rfl, by simp⟩⟩
  rintro N t M ⟨j, rfl, hj, rfl, ht⟩
  obtain ⟨f, rfl⟩ : ∃ f' : Nat → Value, t = [f' 0, f' 1, .pointer (some ⟨m.length, 0, none⟩), .pointer (some ⟨m.length + 1, 0, none⟩), f' 4, .int .i64 (j : Int), f' 6, f' 7, f' 8, f' 9, f' 10, f' 11, f' 12, f' 13, f' 14, f' 15, f' 16, f' 17, f' 18, f' 19, f' 20, f' 21, f' 22, f' 23, f' 24, f' 25, f' 26, f' 27, f' 28, f' 29, f' 30, f' 31, f' 32, f' 33, f' 34, f' 35, f' 36, f' 37, f' 38, f' 39, f' 40, f' 41, f' 42, f' 43, f' 44, f' 45, f' 46, f' 47, f' 48, f' 49, f' 50, f' 51, f' 52, f' 53, f' 54, f' 55, f' 56, f' 57, f' 58] := ht.open fun f' => rfl
  by_cases hlt : j < cs.length
  · have hlt' : ((j : Int) < (cs.length : Int)) = True := by simp [hlt]
    have h0' : ((0 : Int) ≤ (j : Int)) = True := by simp
    have hwj : IntKind.i64.wrap ((j : Int) + 1) = ((j + 1 : Nat) : Int) := by rw [wrap_i64 (by omega) (by omega)]; omega
    obtain ⟨b, o, cc, T, fz, kd, rfl, hb, hk, hl, hrow⟩ := hform (by omega)
    obtain ⟨b', o', cc', T', fz', kd', rfl, hb', hk', hl', hrow'⟩ := hform' (by omega)
    obtain ⟨e, he⟩ : ∃ r, cs[j]? = some r := ⟨cs[j], List.getElem?_eq_getElem hlt⟩
    have hr : (cc.drop (o + j * 2)).take 2 = [str e.b, .int .i64 e.s] := hrow j e.row (by simp [he])
    have hr' : (cc'.drop (o' + j * 2)).take 2 = [str e.b, .int .i64 e.s] := hrow' j e.row (by simp [he])
    have hlen : o + j * 2 + 2 ≤ cc.length := by omega
    have hlen' : o' + j * 2 + 2 ≤ cc'.length := by omega
    have hbM := hf0.get0 hb
    have hbM' := hf0.get0 hb'
    have hbl := lt_of_some hbM
    have hbl' := lt_of_some hbM'
    simp (contextual := true) (implicitDefEqProofs := false) (maxSteps := 2000000) (disch := first | rfl | exact Nat.le_of_ble_eq_true rfl | omega | (simp only [List.length_append, List.length_cons, List.length_nil, List.length_set]; omega)) only [hb0, hb1, hbM, hbM', hlt', h0', hr, hr', cellsB_l hk hlen, cellsB_l hk' hlen', eqN, eqLeaves, Int.toNat_natCast, X1, X2, X3, X4, XA, XB, lc_block, lc_cond, XZ, undef_eq, Nat.reduceAdd, Nat.reduceSub, ↓reduceIte, basic, cellsL, resOf, setAt, below, belowB, belowA, atomB, Nat.reduceLeDiff, Nat.reduceMul, Int.reduceToNat, Int.reduceLT, Int.reduceLE, Int.reduceAdd, Int.reduceNeg, Int.reduceEq, splice, Nat.reduceEqDiff, Nat.reduceLT, isAtom, Int.reduceSub, Int.reduceMul, implies_true]
    exact kInv_go ⟨j + 1, rfl, by omega, rfl, ⟨rfl, by simp [hwj]⟩⟩ (by omega)
  · have hlt' : ((j : Int) < (cs.length : Int)) = False := by simp; omega
    simp (contextual := true) (implicitDefEqProofs := false) (maxSteps := 2000000) (disch := first | rfl | exact Nat.le_of_ble_eq_true rfl | omega | (simp only [List.length_append, List.length_cons, List.length_nil, List.length_set]; omega)) only [hb0, hb1, hlt', X1, X2, X3, X4, XA, XB, lc_block, lc_cond, XZ, undef_eq, Nat.reduceAdd, Nat.reduceSub, ↓reduceIte, basic, cellsL, resOf, setAt, below, belowB, belowA, atomB, Nat.reduceLeDiff, Nat.reduceMul, Int.reduceToNat, Int.reduceLT, Int.reduceLE, Int.reduceAdd, Int.reduceNeg, Int.reduceEq, splice, Nat.reduceEqDiff, Nat.reduceLT, isAtom, Int.reduceSub, Int.reduceMul, implies_true]
    exact hext
end Go.Proofs.YtenbkoalanfdhaaDoor
/- The law of datagrams, walked. -/
namespace Go.Proofs.YtenbkoalanfdhaaDoor
open Go.Lg
set_option maxRecDepth 8000
set_option maxHeartbeats 8000000
set_option linter.unusedSimpArgs false
set_option linter.unnecessarySimpa false
set_option linter.unusedVariables false

/-- A datagram. -/
structure Gm where
  fb : List UInt8
  fs : Int
  tb : List UInt8
  ts : Int
  cs : List Cl
  pid : Int
  text : List UInt8
abbrev Gm.val (g : Gm) (sv : Value) : Value := gv g.fb g.fs g.tb g.ts sv g.pid g.text
def gmOf (pid : Int) (text : List UInt8) : List En → Gm
  | x :: y :: l => ⟨y.b, y.s, x.b, x.s, l.map En.cl, pid, text⟩
  | _ => ⟨[], 0, [], 0, [], 0, []⟩
/-- The datagram of bytes. -/
def gmR (s : List UInt8) : Gm := if gErr s = 0 then gmOf (decF s false).2.pid (decF s false).2.info (decF s false).2.L else ⟨[], 0, [], 0, [], 0, []⟩
theorem uget_any (s : List UInt8) (hl : s.length ≤ 100000) (m : Mem) : LCall Tryd.prog 17 [str s] m fun v M => Frm [] m M ∧ ∃ sa n, v = .tuple #[(gmR s).val (.slice sa n n), .int .i64 (gErr s)] ∧ Rd M 2 (.slice sa n n) ((gmR s).cs.map Cl.row) := by
  refine (uget_spec s hl m).mono ?_
  rintro v M ⟨hf, hv⟩
  refine ⟨hf, ?_⟩
  by_cases h : gErr s = 0
  · rw [if_pos h] at hv
    obtain ⟨x, y, l, sv, hL, rfl, hr⟩ := hv
    have e : gmR s = ⟨y.b, y.s, x.b, x.s, l.map En.cl, (decF s false).2.pid, (decF s false).2.info⟩ := by rw [gmR, if_pos h, hL]; rfl
    rw [e, h]
    have hr0 := hr
    obtain ⟨a, rfl, _⟩ := hr
    exact ⟨a, _, rfl, hr0⟩
  · rw [if_neg h] at hv
    subst hv
    have e : gmR s = ⟨[], 0, [], 0, [], 0, []⟩ := by rw [gmR, if_neg h]
    rw [e]
    exact ⟨none, 0, rfl, none, rfl, fun hp => by simp at hp⟩
theorem ruget_any (s : List UInt8) (hl : s.length ≤ 100000) (m : Mem) : LCall Tryd.prog 19 [str s] m fun v M => Frm [] m M ∧ ∃ sa n, v = .tuple #[(gmR s).val (.slice sa n n), .int .i64 (gErr s)] ∧ Rd M 2 (.slice sa n n) ((gmR s).cs.map Cl.row) := by
  refine (ruget_spec s hl m).mono ?_
  rintro v M ⟨hf, hv⟩
  refine ⟨hf, ?_⟩
  by_cases h : gErr s = 0
  · rw [if_pos h] at hv
    obtain ⟨x, y, l, sv, hL, rfl, hr⟩ := hv
    have e : gmR s = ⟨y.b, y.s, x.b, x.s, l.map En.cl, (decF s false).2.pid, (decF s false).2.info⟩ := by rw [gmR, if_pos h, hL]; rfl
    rw [e, h]
    have hr0 := hr
    obtain ⟨a, rfl, _⟩ := hr
    exact ⟨a, _, rfl, hr0⟩
  · rw [if_neg h] at hv
    subst hv
    have e : gmR s = ⟨[], 0, [], 0, [], 0, []⟩ := by rw [gmR, if_neg h]
    rw [e]
    exact ⟨none, 0, rfl, none, rfl, fun hp => by simp at hp⟩
theorem gmR_len (s : List UInt8) : (gmR s).cs.length ≤ 10 := by
  unfold gmR
  by_cases h : gErr s = 0
  · rw [if_pos h]
    have hd : (decF s false).1 = 0 := by
      unfold gErr at h
      by_cases h1 : (decF s false).1 = 0
      · exact h1
      · rw [if_neg h1] at h; exact absurd h h1
    have := (decF_len hd).2
    match hL : (decF s false).2.L with
    | [] => simp [gmOf]
    | [_] => simp [gmOf]
    | x :: y :: l =>
      rw [hL] at this
      simp only [gmOf, List.length_map]
      simp only [List.length_cons] at this
      omega
  · rw [if_neg h]; simp
theorem map_en_cl : ∀ cs : List Cl, (cs.map Cl.en).map En.cl = cs
  | [] => rfl
  | c :: cs => by rw [List.map_cons, List.map_cons, map_en_cl cs]; rfl
/-- What was put comes back. -/
theorem gm_put {fb : List UInt8} {fs : Int} {tb : List UInt8} {ts : Int} {cs : List Cl} {pid : Int} {text : List UInt8} (h : gramE fb fs tb ts cs pid text = 0) :
    gErr (gramB fb fs tb ts cs pid text) = 0 ∧ gmR (gramB fb fs tb ts cs pid text) = ⟨fb, fs, tb, ts, cs, pid, text⟩ ∧ (gramB fb fs tb ts cs pid text).length ≤ 100000 := by
  have hw := h
  unfold gramE at hw
  have hrp : rightP tb ts fb fs (cs.map Cl.en) = true := by
    cases hr : rightP tb ts fb fs (cs.map Cl.en) with
    | true => rfl
    | false => rw [hr] at hw; cases hw
  rw [hrp, wrongE, if_neg (by simp)] at hw
  split at hw
  · cases hw
  rename_i hw1
  obtain ⟨hl8, hB, hok⟩ := rightP_le (tm := true) (fm := false) hrp
  have hp : 0 ≤ pid ∧ pid ≤ 255 := by
    constructor
    · exact Int.not_lt.mp fun h => hw1 (.inr (.inl h))
    · exact Int.not_lt.mp fun h => hw1 (.inr (.inr (.inl h)))
  have hi : infoE (K.infoB cUI.k) text = 0 := hw
  have hb : gramB fb fs tb ts cs pid text = encF (⟨tb, ts, true⟩ :: ⟨fb, fs, false⟩ :: cs.map Cl.en) (cUI.bytes false) (K.pidB cUI.k) pid text := by rw [gramB, if_pos h]; rfl
  have hd := decF_enc (L := ⟨tb, ts, true⟩ :: ⟨fb, fs, false⟩ :: cs.map Cl.en) (c := cUI) (w := false) hok (by simp) (by simp only [List.length_cons]; omega) hB (by decide) hp (fun _ => rfl) hi
  rw [← hb] at hd
  have hil : text.length ≤ 256 := by
    unfold infoE at hi
    split at hi
    · cases hi
    split at hi
    · cases hi
    · omega
  have hge : gErr (gramB fb fs tb ts cs pid text) = 0 := by rw [gErr, hd]; rfl
  refine ⟨hge, ?_, ?_⟩
  · rw [gmR, if_pos hge, hd]
    show (⟨fb, fs, tb, ts, (cs.map Cl.en).map En.cl, pid, text⟩ : Gm) = _
    rw [map_en_cl]
  · rw [hb]; unfold encF
    rw [List.length_append, List.length_append, List.length_append, putE_len]
    have h1 : (cUI.bytes false).length = 1 := rfl
    rw [h1]
    simp only [List.length_cons]
    split
    · simp only [List.length_cons, List.length_nil]; omega
    · simp only [List.length_nil]; omega
theorem awake22 (m : Mem) : Ret Tryd.prog 13 [] m (.bool true) m := run_alone tab_ok (n := 400) (d := 40) (by kernel_rfl) rfl rfl m
theorem great_gv {fb : List UInt8} {fs : Int} {tb : List UInt8} {ts : Int} {a : Option Addr} {n : Nat} {pid : Int} {text : List UInt8} {m : Mem} : Ret Tryd.prog 14 [gv fb fs tb ts (.slice a n n) pid text] m (.bool (decide (30 < n) || decide (2000 < text.length))) m := by
  refine LCall_drop (LCall_enter Tryd.func14 c14 ?_)
  by_cases h1 : 30 < n
  · have h1' : ((30 : Int) < (n : Int)) = True := eq_true (by omega)
    simp (contextual := true) (implicitDefEqProofs := false) (maxSteps := 2000000) (disch := first | rfl | exact Nat.le_of_ble_eq_true rfl | omega | (simp only [List.length_append, List.length_cons, List.length_nil, List.length_set]; omega)) only [L14, bin_ladd, str_cut, str_app, str_eq, string_mk_size, string_mk, h1', X1, X2, X3, X4, XA, XB, lc_block, lc_cond, XZ, undef_eq, Nat.reduceAdd, Nat.reduceSub, ↓reduceIte, basic, cellsL, resOf, setAt, below, belowB, belowA, atomB, Nat.reduceLeDiff, Nat.reduceMul, Int.reduceToNat, Int.reduceLT, Int.reduceLE, Int.reduceAdd, Int.reduceNeg, Int.reduceEq, splice, Nat.reduceEqDiff, Nat.reduceLT, isAtom, Int.reduceSub, Int.reduceMul, implies_true]
    simp [h1]
  · have h1' : ((30 : Int) < (n : Int)) = False := eq_false (by omega)
    have e : ((2000 : Int) < (text.length : Int)) = (2000 < text.length) := by apply propext; omega
    simp (contextual := true) (implicitDefEqProofs := false) (maxSteps := 2000000) (disch := first | rfl | exact Nat.le_of_ble_eq_true rfl | omega | (simp only [List.length_append, List.length_cons, List.length_nil, List.length_set]; omega)) only [L14, bin_ladd, str_cut, str_app, str_eq, string_mk_size, string_mk, h1', e, X1, X2, X3, X4, XA, XB, lc_block, lc_cond, XZ, undef_eq, Nat.reduceAdd, Nat.reduceSub, ↓reduceIte, basic, cellsL, resOf, setAt, below, belowB, belowA, atomB, Nat.reduceLeDiff, Nat.reduceMul, Int.reduceToNat, Int.reduceLT, Int.reduceLE, Int.reduceAdd, Int.reduceNeg, Int.reduceEq, splice, Nat.reduceEqDiff, Nat.reduceLT, isAtom, Int.reduceSub, Int.reduceMul, implies_true]
    simp [h1]
theorem uiputs_law (fb : List UInt8) (fs : Int) (tb : List UInt8) (ts : Int) (dv : Value) (cs : List Cl) (pid : Int) (text s : List UInt8) (m : Mem)
    (htb : tb.length ≤ 140737488355328) (hfb : fb.length ≤ 140737488355328) (hb : ∀ c ∈ cs, c.b.length ≤ 140737488355328) (h : Rd m 2 dv (cs.map Cl.row)) (hl : text.length ≤ 140737488355328) : LCall Tryd.prog 3 [gv fb fs tb ts dv pid text, str s] m fun v _ => v = .bool true := by
  have h0 := h
  obtain ⟨a, rfl, _⟩ := h
  refine LCall_enter Tryd.func3 c3 ?_
  simp (contextual := true) (implicitDefEqProofs := false) (maxSteps := 2000000) (disch := first | rfl | exact Nat.le_of_ble_eq_true rfl | omega | (simp only [List.length_append, List.length_cons, List.length_nil, List.length_set]; omega)) only [L3, X1, X2, X3, X4, XA, XB, lc_block, lc_cond, XZ, undef_eq, Nat.reduceAdd, Nat.reduceSub, ↓reduceIte, basic, cellsL, resOf, setAt, below, belowB, belowA, atomB, Nat.reduceLeDiff, Nat.reduceMul, Int.reduceToNat, Int.reduceLT, Int.reduceLE, Int.reduceAdd, Int.reduceNeg, Int.reduceEq, splice, Nat.reduceEqDiff, Nat.reduceLT, isAtom, Int.reduceSub, Int.reduceMul, implies_true]
  refine (awake22 _).use ?_
  simp (contextual := true) (implicitDefEqProofs := false) (maxSteps := 2000000) (disch := first | rfl | exact Nat.le_of_ble_eq_true rfl | omega | (simp only [List.length_append, List.length_cons, List.length_nil, List.length_set]; omega)) only [X1, X2, X3, X4, XA, XB, lc_block, lc_cond, XZ, undef_eq, Nat.reduceAdd, Nat.reduceSub, ↓reduceIte, basic, cellsL, resOf, setAt, below, belowB, belowA, atomB, Nat.reduceLeDiff, Nat.reduceMul, Int.reduceToNat, Int.reduceLT, Int.reduceLE, Int.reduceAdd, Int.reduceNeg, Int.reduceEq, splice, Nat.reduceEqDiff, Nat.reduceLT, isAtom, Int.reduceSub, Int.reduceMul, implies_true]
  refine great_gv.use ?_
  by_cases hg : 30 < (cs.map Cl.row).length ∨ 2000 < text.length
  · have hg' : (decide (30 < (cs.map Cl.row).length) || decide (2000 < text.length)) = true := by simpa using hg
    rw [hg']
    simp (contextual := true) (implicitDefEqProofs := false) (maxSteps := 2000000) (disch := first | rfl | exact Nat.le_of_ble_eq_true rfl | omega | (simp only [List.length_append, List.length_cons, List.length_nil, List.length_set]; omega)) only [X1, X2, X3, X4, XA, XB, lc_block, lc_cond, XZ, undef_eq, Nat.reduceAdd, Nat.reduceSub, ↓reduceIte, basic, cellsL, resOf, setAt, below, belowB, belowA, atomB, Nat.reduceLeDiff, Nat.reduceMul, Int.reduceToNat, Int.reduceLT, Int.reduceLE, Int.reduceAdd, Int.reduceNeg, Int.reduceEq, splice, Nat.reduceEqDiff, Nat.reduceLT, isAtom, Int.reduceSub, Int.reduceMul, implies_true]
  have hg' : (decide (30 < (cs.map Cl.row).length) || decide (2000 < text.length)) = false := by simpa using hg
  rw [hg']
  by_cases hs : 2000 < s.length
  · have hs' : ((2000 : Int) < (s.length : Int)) = True := eq_true (by omega)
    simp (contextual := true) (implicitDefEqProofs := false) (maxSteps := 2000000) (disch := first | rfl | exact Nat.le_of_ble_eq_true rfl | omega | (simp only [List.length_append, List.length_cons, List.length_nil, List.length_set]; omega)) only [bin_ladd, str_cut, str_app, str_eq, string_mk_size, string_mk, hs', X1, X2, X3, X4, XA, XB, lc_block, lc_cond, XZ, undef_eq, Nat.reduceAdd, Nat.reduceSub, ↓reduceIte, basic, cellsL, resOf, setAt, below, belowB, belowA, atomB, Nat.reduceLeDiff, Nat.reduceMul, Int.reduceToNat, Int.reduceLT, Int.reduceLE, Int.reduceAdd, Int.reduceNeg, Int.reduceEq, splice, Nat.reduceEqDiff, Nat.reduceLT, isAtom, Int.reduceSub, Int.reduceMul, implies_true]
  have hs' : ((2000 : Int) < (s.length : Int)) = False := eq_false (by omega)
  have hcn : cs.length ≤ 30 := by
    have : ¬ 30 < (cs.map Cl.row).length := fun h => hg (.inl h)
    rw [List.length_map] at this; omega
  simp (contextual := true) (implicitDefEqProofs := false) (maxSteps := 2000000) (disch := first | rfl | exact Nat.le_of_ble_eq_true rfl | omega | (simp only [List.length_append, List.length_cons, List.length_nil, List.length_set]; omega)) only [bin_ladd, str_cut, str_app, str_eq, string_mk_size, string_mk, hs', X1, X2, X3, X4, XA, XB, lc_block, lc_cond, XZ, undef_eq, Nat.reduceAdd, Nat.reduceSub, ↓reduceIte, basic, cellsL, resOf, setAt, below, belowB, belowA, atomB, Nat.reduceLeDiff, Nat.reduceMul, Int.reduceToNat, Int.reduceLT, Int.reduceLE, Int.reduceAdd, Int.reduceNeg, Int.reduceEq, splice, Nat.reduceEqDiff, Nat.reduceLT, isAtom, Int.reduceSub, Int.reduceMul, implies_true]
  refine (uiput_spec (cs := cs) htb hfb hb h0.app (by omega) hl).use ?_
  simp (contextual := true) (implicitDefEqProofs := false) (maxSteps := 2000000) (disch := first | rfl | exact Nat.le_of_ble_eq_true rfl | omega | (simp only [List.length_append, List.length_cons, List.length_nil, List.length_set]; omega)) only [X1, X2, X3, X4, XA, XB, lc_block, lc_cond, XZ, undef_eq, Nat.reduceAdd, Nat.reduceSub, ↓reduceIte, basic, cellsL, resOf, setAt, below, belowB, belowA, atomB, Nat.reduceLeDiff, Nat.reduceMul, Int.reduceToNat, Int.reduceLT, Int.reduceLE, Int.reduceAdd, Int.reduceNeg, Int.reduceEq, splice, Nat.reduceEqDiff, Nat.reduceLT, isAtom, Int.reduceSub, Int.reduceMul, implies_true]
  refine (rput_spec (cs := cs) h0.app (by omega) hl).use ?_
  by_cases he : gramE fb fs tb ts cs pid text = 0
  · obtain ⟨p1, p2, p3⟩ := gm_put he
    have he' := eq_true he
    simp (contextual := true) (implicitDefEqProofs := false) (maxSteps := 2000000) (disch := first | rfl | exact Nat.le_of_ble_eq_true rfl | omega | (simp only [List.length_append, List.length_cons, List.length_nil, List.length_set]; omega)) only [bin_ladd, str_cut, str_app, str_eq, string_mk_size, string_mk, he', X1, X2, X3, X4, XA, XB, lc_block, lc_cond, XZ, undef_eq, Nat.reduceAdd, Nat.reduceSub, ↓reduceIte, basic, cellsL, resOf, setAt, below, belowB, belowA, atomB, Nat.reduceLeDiff, Nat.reduceMul, Int.reduceToNat, Int.reduceLT, Int.reduceLE, Int.reduceAdd, Int.reduceNeg, Int.reduceEq, splice, Nat.reduceEqDiff, Nat.reduceLT, isAtom, Int.reduceSub, Int.reduceMul, implies_true]
    refine (uget_any _ p3 _).mono ?_
    rintro v M0 ⟨hf0, sa0, n0, rfl, hr0⟩
    rw [p2, p1] at *
    simp only [Gm.val] at hr0 ⊢
    have hbg := hf0.get0 (i := m.length) (b := ⟨[str fb, .int .i64 fs, str tb, .int .i64 ts, .slice a (cs.map Cl.row).length (cs.map Cl.row).length, .int .i64 pid, str text], 26, 1, 0, .own⟩) (by simp)
    have lbg := lt_of_some hbg
    have hr00 := h0.frm0 ((Frm.refl (F := []) (m := m)).app.nil_trans hf0)
    simp (contextual := true) (implicitDefEqProofs := false) (maxSteps := 2000000) (disch := first | rfl | exact Nat.le_of_ble_eq_true rfl | omega | (simp only [List.length_append, List.length_cons, List.length_nil, List.length_set]; omega)) only [hbg, X1, X2, X3, X4, XA, XB, lc_block, lc_cond, XZ, undef_eq, Nat.reduceAdd, Nat.reduceSub, ↓reduceIte, basic, cellsL, resOf, setAt, below, belowB, belowA, atomB, Nat.reduceLeDiff, Nat.reduceMul, Int.reduceToNat, Int.reduceLT, Int.reduceLE, Int.reduceAdd, Int.reduceNeg, Int.reduceEq, splice, Nat.reduceEqDiff, Nat.reduceLT, isAtom, Int.reduceSub, Int.reduceMul, implies_true]
    refine (same_spec hr0.app hr00.app (by omega)).use ?_
    simp (contextual := true) (implicitDefEqProofs := false) (maxSteps := 2000000) (disch := first | rfl | exact Nat.le_of_ble_eq_true rfl | omega | (simp only [List.length_append, List.length_cons, List.length_nil, List.length_set]; omega)) only [X1, X2, X3, X4, XA, XB, lc_block, lc_cond, XZ, undef_eq, Nat.reduceAdd, Nat.reduceSub, ↓reduceIte, basic, cellsL, resOf, setAt, below, belowB, belowA, atomB, Nat.reduceLeDiff, Nat.reduceMul, Int.reduceToNat, Int.reduceLT, Int.reduceLE, Int.reduceAdd, Int.reduceNeg, Int.reduceEq, splice, Nat.reduceEqDiff, Nat.reduceLT, isAtom, Int.reduceSub, Int.reduceMul, implies_true]
    refine (uget_any s (by omega) _).mono ?_
    rintro v M ⟨hf, sa, n, rfl, hr⟩
    simp (contextual := true) (implicitDefEqProofs := false) (maxSteps := 2000000) (disch := first | rfl | exact Nat.le_of_ble_eq_true rfl | omega | (simp only [List.length_append, List.length_cons, List.length_nil, List.length_set]; omega)) only [X1, X2, X3, X4, XA, XB, lc_block, lc_cond, XZ, undef_eq, Nat.reduceAdd, Nat.reduceSub, ↓reduceIte, basic, cellsL, resOf, setAt, below, belowB, belowA, atomB, Nat.reduceLeDiff, Nat.reduceMul, Int.reduceToNat, Int.reduceLT, Int.reduceLE, Int.reduceAdd, Int.reduceNeg, Int.reduceEq, splice, Nat.reduceEqDiff, Nat.reduceLT, isAtom, Int.reduceSub, Int.reduceMul, implies_true]
    refine (ruget_any s (by omega) _).mono ?_
    rintro v M2 ⟨hf2, sa2, n2, rfl, hr2⟩
    have hbx := hf2.get0 (i := M.length) (b := ⟨[str (gmR s).fb, .int .i64 (gmR s).fs, str (gmR s).tb, .int .i64 (gmR s).ts, .slice sa n n, .int .i64 (gmR s).pid, str (gmR s).text], 26, 1, 0, .own⟩) (by simp)
    have lbx := lt_of_some hbx
    have hrx := (hr.app (g := [⟨[str (gmR s).fb, .int .i64 (gmR s).fs, str (gmR s).tb, .int .i64 (gmR s).ts, .slice sa n n, .int .i64 (gmR s).pid, str (gmR s).text], 26, 1, 0, .own⟩])).frm0 hf2
    simp (contextual := true) (implicitDefEqProofs := false) (maxSteps := 2000000) (disch := first | rfl | exact Nat.le_of_ble_eq_true rfl | omega | (simp only [List.length_append, List.length_cons, List.length_nil, List.length_set]; omega)) only [hbx, X1, X2, X3, X4, XA, XB, lc_block, lc_cond, XZ, undef_eq, Nat.reduceAdd, Nat.reduceSub, ↓reduceIte, basic, cellsL, resOf, setAt, below, belowB, belowA, atomB, Nat.reduceLeDiff, Nat.reduceMul, Int.reduceToNat, Int.reduceLT, Int.reduceLE, Int.reduceAdd, Int.reduceNeg, Int.reduceEq, splice, Nat.reduceEqDiff, Nat.reduceLT, isAtom, Int.reduceSub, Int.reduceMul, implies_true]
    refine (same_spec (hrx.app) (hr2.app) (by have := gmR_len s; omega)).use ?_
    simp (contextual := true) (implicitDefEqProofs := false) (maxSteps := 2000000) (disch := first | rfl | exact Nat.le_of_ble_eq_true rfl | omega | (simp only [List.length_append, List.length_cons, List.length_nil, List.length_set]; omega)) only [X1, X2, X3, X4, XA, XB, lc_block, lc_cond, XZ, undef_eq, Nat.reduceAdd, Nat.reduceSub, ↓reduceIte, basic, cellsL, resOf, setAt, below, belowB, belowA, atomB, Nat.reduceLeDiff, Nat.reduceMul, Int.reduceToNat, Int.reduceLT, Int.reduceLE, Int.reduceAdd, Int.reduceNeg, Int.reduceEq, splice, Nat.reduceEqDiff, Nat.reduceLT, isAtom, Int.reduceSub, Int.reduceMul, implies_true]
  · have he' := eq_false he
    simp (contextual := true) (implicitDefEqProofs := false) (maxSteps := 2000000) (disch := first | rfl | exact Nat.le_of_ble_eq_true rfl | omega | (simp only [List.length_append, List.length_cons, List.length_nil, List.length_set]; omega)) only [bin_ladd, str_cut, str_app, str_eq, string_mk_size, string_mk, he', X1, X2, X3, X4, XA, XB, lc_block, lc_cond, XZ, undef_eq, Nat.reduceAdd, Nat.reduceSub, ↓reduceIte, basic, cellsL, resOf, setAt, below, belowB, belowA, atomB, Nat.reduceLeDiff, Nat.reduceMul, Int.reduceToNat, Int.reduceLT, Int.reduceLE, Int.reduceAdd, Int.reduceNeg, Int.reduceEq, splice, Nat.reduceEqDiff, Nat.reduceLT, isAtom, Int.reduceSub, Int.reduceMul, implies_true]
    refine (uget_any s (by omega) _).mono ?_
    rintro v M ⟨hf, sa, n, rfl, hr⟩
    simp (contextual := true) (implicitDefEqProofs := false) (maxSteps := 2000000) (disch := first | rfl | exact Nat.le_of_ble_eq_true rfl | omega | (simp only [List.length_append, List.length_cons, List.length_nil, List.length_set]; omega)) only [X1, X2, X3, X4, XA, XB, lc_block, lc_cond, XZ, undef_eq, Nat.reduceAdd, Nat.reduceSub, ↓reduceIte, basic, cellsL, resOf, setAt, below, belowB, belowA, atomB, Nat.reduceLeDiff, Nat.reduceMul, Int.reduceToNat, Int.reduceLT, Int.reduceLE, Int.reduceAdd, Int.reduceNeg, Int.reduceEq, splice, Nat.reduceEqDiff, Nat.reduceLT, isAtom, Int.reduceSub, Int.reduceMul, implies_true]
    refine (ruget_any s (by omega) _).mono ?_
    rintro v M2 ⟨hf2, sa2, n2, rfl, hr2⟩
    have hbx := hf2.get0 (i := M.length) (b := ⟨[str (gmR s).fb, .int .i64 (gmR s).fs, str (gmR s).tb, .int .i64 (gmR s).ts, .slice sa n n, .int .i64 (gmR s).pid, str (gmR s).text], 26, 1, 0, .own⟩) (by simp)
    have lbx := lt_of_some hbx
    have hrx := (hr.app (g := [⟨[str (gmR s).fb, .int .i64 (gmR s).fs, str (gmR s).tb, .int .i64 (gmR s).ts, .slice sa n n, .int .i64 (gmR s).pid, str (gmR s).text], 26, 1, 0, .own⟩])).frm0 hf2
    simp (contextual := true) (implicitDefEqProofs := false) (maxSteps := 2000000) (disch := first | rfl | exact Nat.le_of_ble_eq_true rfl | omega | (simp only [List.length_append, List.length_cons, List.length_nil, List.length_set]; omega)) only [hbx, X1, X2, X3, X4, XA, XB, lc_block, lc_cond, XZ, undef_eq, Nat.reduceAdd, Nat.reduceSub, ↓reduceIte, basic, cellsL, resOf, setAt, below, belowB, belowA, atomB, Nat.reduceLeDiff, Nat.reduceMul, Int.reduceToNat, Int.reduceLT, Int.reduceLE, Int.reduceAdd, Int.reduceNeg, Int.reduceEq, splice, Nat.reduceEqDiff, Nat.reduceLT, isAtom, Int.reduceSub, Int.reduceMul, implies_true]
    refine (same_spec (hrx.app) (hr2.app) (by have := gmR_len s; omega)).use ?_
    simp (contextual := true) (implicitDefEqProofs := false) (maxSteps := 2000000) (disch := first | rfl | exact Nat.le_of_ble_eq_true rfl | omega | (simp only [List.length_append, List.length_cons, List.length_nil, List.length_set]; omega)) only [X1, X2, X3, X4, XA, XB, lc_block, lc_cond, XZ, undef_eq, Nat.reduceAdd, Nat.reduceSub, ↓reduceIte, basic, cellsL, resOf, setAt, below, belowB, belowA, atomB, Nat.reduceLeDiff, Nat.reduceMul, Int.reduceToNat, Int.reduceLT, Int.reduceLE, Int.reduceAdd, Int.reduceNeg, Int.reduceEq, splice, Nat.reduceEqDiff, Nat.reduceLT, isAtom, Int.reduceSub, Int.reduceMul, implies_true]

theorem cl_of {m : Mem} {n : Nat} {xs : List Value} (h : TyL Tryd.prog m (n + 2) 23 xs) : ∃ c : Cl, xs = c.row ∧ c.b.length ≤ 140737488355328 := by
  obtain ⟨x1, _, rfl, h1, x2, _, rfl, h2, rfl⟩ := h.struct Tryd.underlying23 rfl
  obtain ⟨s, rfl, hs⟩ := h1.text Tryd.underlying9
  obtain ⟨a, rfl, _⟩ := h2.int Tryd.underlying3
  obtain ⟨l, rfl⟩ := str_is s
  exact ⟨⟨l, a⟩, rfl, by rw [string_mk_size] at hs; exact Nat.le_trans hs (by decide)⟩
theorem cls_rd {m : Mem} {n : Nat} {v : Value} {cells : List Value} {k : Nat} (h : SlIn m 2 cells k v) {cs : List Cl} (hk : cs.length = k) (hc : cells = (cs.map Cl.row).flatten) : Rd m 2 v (cs.map Cl.row) := by
  subst hk hc
  obtain ⟨a, rfl, _, hf⟩ := h.form
  refine ⟨a, by simp, fun hp => ?_⟩
  simp only [List.length_map] at hp
  obtain ⟨i, T, rfl, hm, hi⟩ := hf hp
  have hl := flatten_length (f := Cl.row) (s := 2) (fun _ => rfl) cs
  refine ⟨i, 0, _, T, 0, .ro, rfl, hm, rfl, by simp only [List.length_map]; omega, fun j r hr => ?_⟩
  rw [List.getElem?_map] at hr
  obtain ⟨c, hc, rfl⟩ := Option.map_eq_some_iff.mp hr
  rw [Nat.zero_add]
  exact flatten_part (f := Cl.row) (s := 2) (fun _ => rfl) cs j c hc
theorem uiputs_all (m : Mem) (vs : List Value) (h : F2 (TyV Tryd.prog m 6) [26, 9] vs) : LCall Tryd.prog 3 vs m fun v _ => v = .bool true := by
  obtain ⟨u, v, rfl, h1, h2⟩ := h.two_inv
  obtain ⟨_, rfl, y1, _, rfl, k1, y2, _, rfl, k2, y3, _, rfl, k3, y4, _, rfl, k4, y5, _, rfl, k5, rfl⟩ := h1.struct Tryd.underlying26 rfl
  obtain ⟨c1, rfl, b1⟩ := cl_of k1
  obtain ⟨c2, rfl, b2⟩ := cl_of k2
  obtain ⟨dv, cells, q, rfl, hs, hty⟩ := k3.slice Tryd.underlying24 (sz := 2) (by kernel_rfl)
  obtain ⟨cs, hq, hcells, hcb⟩ := hty.map (f := Cl.row) fun xs hx => cl_of hx
  obtain ⟨pid, rfl, _⟩ := k4.int Tryd.underlying3
  obtain ⟨x, rfl, hsz⟩ := k5.text Tryd.underlying9
  obtain ⟨l, rfl⟩ := str_is x
  rw [string_mk_size] at hsz
  obtain ⟨t, rfl, _⟩ := h2.string Tryd.underlying9
  obtain ⟨s, rfl⟩ := str_is t
  exact uiputs_law c1.b c1.s c2.b c2.s dv cs pid l s m b2 b1 hcb (cls_rd (n := 0) hs hq hcells) (Nat.le_trans hsz (by decide))
end Go.Proofs.YtenbkoalanfdhaaDoor
