/- The law of what is sent on, walked. -/
import Derived.Test.YtlkecehaajndcaaDoorZSA
namespace Go.Proofs.YtlkecehaajndcaaDoor
open Go.Lg
set_option maxRecDepth 8000
set_option maxHeartbeats 8000000
set_option linter.unusedSimpArgs false
set_option linter.unnecessarySimpa false
set_option linter.unusedVariables false

theorem awake07 (m : Mem) : Ret Tryd.prog 4 [] m (.bool true) m := run_alone tab_ok (n := 400) (d := 60) (by kernel_rfl) rfl rfl m
theorem great_spec {tb : List UInt8} {ts : Int} {fb : List UInt8} {fs : Int} {tm fm : Bool} {a : Option Addr} {n : Nat} {c : Ct} {pid : Int} {info : List UInt8} {m : Mem} : Ret Tryd.prog 5 [frameV tb ts fb fs tm fm (.slice a n n) c pid info] m (.bool (decide (30 < n) || decide (2000 < info.length))) m := by
  refine LCall_drop (LCall_enter Tryd.func5 c5 ?_)
  by_cases h1 : 30 < n
  · have h1' : ((30 : Int) < (n : Int)) = True := eq_true (by omega)
    simp (contextual := true) (implicitDefEqProofs := false) (maxSteps := 2000000) (disch := first | rfl | exact Nat.le_of_ble_eq_true rfl | omega | (simp only [List.length_append, List.length_cons, List.length_nil, List.length_set]; omega)) only [L5, bin_ladd, str_cut, str_app, str_eq, string_mk_size, string_mk, h1', X1, X2, X3, X4, XA, XB, lc_block, lc_cond, XZ, undef_eq, Nat.reduceAdd, Nat.reduceSub, ↓reduceIte, basic, cellsL, resOf, setAt, below, belowB, belowA, atomB, Nat.reduceLeDiff, Nat.reduceMul, Int.reduceToNat, Int.reduceLT, Int.reduceLE, Int.reduceAdd, Int.reduceNeg, Int.reduceEq, splice, Nat.reduceEqDiff, Nat.reduceLT, isAtom, Int.reduceSub, Int.reduceMul, implies_true]
    simp [h1]
  · have h1' : ((30 : Int) < (n : Int)) = False := eq_false (by omega)
    have e : ((2000 : Int) < (info.length : Int)) = (2000 < info.length) := by apply propext; omega
    simp (contextual := true) (implicitDefEqProofs := false) (maxSteps := 2000000) (disch := first | rfl | exact Nat.le_of_ble_eq_true rfl | omega | (simp only [List.length_append, List.length_cons, List.length_nil, List.length_set]; omega)) only [L5, bin_ladd, str_cut, str_app, str_eq, string_mk_size, string_mk, h1', e, X1, X2, X3, X4, XA, XB, lc_block, lc_cond, XZ, undef_eq, Nat.reduceAdd, Nat.reduceSub, ↓reduceIte, basic, cellsL, resOf, setAt, below, belowB, belowA, atomB, Nat.reduceLeDiff, Nat.reduceMul, Int.reduceToNat, Int.reduceLT, Int.reduceLE, Int.reduceAdd, Int.reduceNeg, Int.reduceEq, splice, Nat.reduceEqDiff, Nat.reduceLT, isAtom, Int.reduceSub, Int.reduceMul, implies_true]
    simp [h1]
def Ct.bytes (c : Ct) (w : Bool) : List UInt8 := K.strL (K.putL8 c.k c.ns c.nr c.pf w)
def Ct.right (c : Ct) (w : Bool) : Bool := K.rightC c.k c.ns c.nr w
theorem wrong_zero {tb : List UInt8} {ts : Int} {fb : List UInt8} {fs : Int} {tm fm : Bool} {l : List En} {rb pb ib : Bool} {pid : Int} {info : List UInt8} (h : wrongE (rightP tb ts fb fs l) rb pb ib pid info = 0) :
    (l.length ≤ 8 ∧ ordB l = true ∧ ∀ e ∈ (⟨tb, ts, tm⟩ :: ⟨fb, fs, fm⟩ :: l : List En), e.ok = true) ∧ rb = true ∧ (0 ≤ pid ∧ pid ≤ 255) ∧ (pid ≠ 0 → pb = true) ∧ infoE ib info = 0 ∧ info.length ≤ 256 := by
  have hrp : rightP tb ts fb fs l = true := by
    cases hr : rightP tb ts fb fs l with
    | true => rfl
    | false => rw [wrongE, if_pos hr] at h; cases h
  rw [hrp, wrongE, if_neg (by simp)] at h
  split at h
  · cases h
  rename_i hw1
  have hil : info.length ≤ 256 := by
    unfold infoE at h
    split at h
    · cases h
    split at h
    · cases h
    · omega
  refine ⟨rightP_le hrp, ?_, ⟨Int.not_lt.mp fun h => hw1 (.inr (.inl h)), Int.not_lt.mp fun h => hw1 (.inr (.inr (.inl h)))⟩, fun h0 => ?_, h, hil⟩
  · cases rb with
    | true => rfl
    | false => exact absurd (.inl rfl) hw1
  · cases pb with
    | true => rfl
    | false => exact absurd (.inr (.inr (.inr ⟨h0, rfl⟩))) hw1
theorem bytes_len (c : Ct) (w : Bool) : (c.bytes w).length ≤ 2 := by
  unfold Ct.bytes; rw [K.strL_len]; unfold K.putL8; split
  · simp
  · split <;> simp
theorem ctl_put {c : Ct} {w : Bool} (hc : c.right w = true) (m : Mem) : Ret Tryd.prog 20 [c.val, .bool w] m (.tuple #[str (c.bytes w), .int .i64 0]) m := by
  have := K.ctlput_spec c.k c.ns c.nr c.pf w m
  have hc' : K.rightC c.k c.ns c.nr w = true := hc
  rw [hc'] at this
  exact this
theorem en_of {m : Mem} {n : Nat} {xs : List Value} (h : TyL Tryd.prog m (n + 3) 53 xs) : ∃ e : En, xs = e.row ∧ e.b.length ≤ 140737488355328 := by
  obtain ⟨x1, _, rfl, h1, x2, _, rfl, h2, rfl⟩ := h.struct Tryd.underlying53 rfl
  obtain ⟨y1, _, rfl, k1, y2, _, rfl, k2, rfl⟩ := h1.struct Tryd.underlying23 rfl
  obtain ⟨s, rfl, hs⟩ := k1.text Tryd.underlying9
  obtain ⟨a, rfl, _⟩ := k2.int Tryd.underlying3
  obtain ⟨b, rfl⟩ := h2.bool Tryd.underlying4
  obtain ⟨l, rfl⟩ := str_is s
  exact ⟨⟨l, a, b⟩, rfl, by rw [string_mk_size] at hs; exact Nat.le_trans hs (by decide)⟩
theorem ens_rdn {m : Mem} {v : Value} {cells : List Value} {k : Nat} (h : SlIn m 3 cells k v) {l : List En} (hk : l.length = k) (hc : cells = (l.map En.row).flatten) : RdN m 3 v (l.map En.row) := by
  subst hk hc
  have hl := flatten_length (f := En.row) (s := 3) (fun _ => rfl) l
  constructor
  · obtain ⟨a, rfl, _, hf⟩ := h.form
    refine ⟨a, by simp, fun hp => ?_⟩
    simp only [List.length_map] at hp
    obtain ⟨i, T, rfl, hm, hi⟩ := hf hp
    refine ⟨i, 0, _, T, 0, .ro, rfl, hm, rfl, by simp only [List.length_map]; omega, fun j r hr => ?_⟩
    rw [List.getElem?_map] at hr
    obtain ⟨c, hc, rfl⟩ := Option.map_eq_some_iff.mp hr
    rw [Nat.zero_add]
    exact flatten_part (f := En.row) (s := 3) (fun _ => rfl) l j c hc
  · intro M hM
    rcases h with ⟨rfl, h1, _⟩ | ⟨i, T, k, h | h⟩
    · rw [h1]; rfl
    · obtain ⟨rfl, hm, rfl, _⟩ := h
      rw [new_sl, hM.get0 hm, cellsB_l rfl (by omega), List.drop_zero, List.take_of_length_le (by omega)]
      rfl
    · obtain ⟨rfl, hm, h1, _⟩ := h
      rw [h1, new_sl, hM.get0 hm, Nat.zero_mul]
      simp [cellsB, Kind.live, orNil]
theorem right_frame {tb : List UInt8} {ts : Int} {fb : List UInt8} {fs : Int} {tm fm : Bool} {dv : Value} {l : List En} {c : Ct} {pid : Int} {info : List UInt8} {wide rb pb ib : Bool} {m : Mem}
    (htb : tb.length ≤ 140737488355328) (hfb : fb.length ≤ 140737488355328) (hb : ∀ e ∈ l, e.b.length ≤ 140737488355328) (h : Rd m 3 dv (l.map En.row)) (hn : l.length ≤ 1000000)
    (hR : ∀ m, Ret Tryd.prog 32 [c.val, .bool wide] m (.bool rb) m) (hP : ∀ m, Ret Tryd.prog 22 [.int .i64 c.k] m (.bool pb) m) (hI : ∀ m, Ret Tryd.prog 53 [.int .i64 c.k] m (.bool ib) m) (hl : info.length ≤ 140737488355328) :
    Ret Tryd.prog 6 [frameV tb ts fb fs tm fm dv c pid info, .bool wide] m (.bool (decide (wrongE (rightP tb ts fb fs l) rb pb ib pid info = 0))) m := by
  have h0 := h
  obtain ⟨a, rfl, _⟩ := h
  refine LCall_drop (LCall_enter Tryd.func6 c6 ?_)
  simp (contextual := true) (implicitDefEqProofs := false) (maxSteps := 2000000) (disch := first | rfl | exact Nat.le_of_ble_eq_true rfl | omega | (simp only [List.length_append, List.length_cons, List.length_nil, List.length_set]; omega)) only [L6, X1, X2, X3, X4, XA, XB, lc_block, lc_cond, XZ, undef_eq, Nat.reduceAdd, Nat.reduceSub, ↓reduceIte, basic, cellsL, resOf, setAt, below, belowB, belowA, atomB, Nat.reduceLeDiff, Nat.reduceMul, Int.reduceToNat, Int.reduceLT, Int.reduceLE, Int.reduceAdd, Int.reduceNeg, Int.reduceEq, splice, Nat.reduceEqDiff, Nat.reduceLT, isAtom, Int.reduceSub, Int.reduceMul, implies_true]
  refine (wrong_spec htb hfb hb h0.app hn hR hP hI hl).use ?_
  simp (contextual := true) (implicitDefEqProofs := false) (maxSteps := 2000000) (disch := first | rfl | exact Nat.le_of_ble_eq_true rfl | omega | (simp only [List.length_append, List.length_cons, List.length_nil, List.length_set]; omega)) only [X1, X2, X3, X4, XA, XB, lc_block, lc_cond, XZ, undef_eq, Nat.reduceAdd, Nat.reduceSub, ↓reduceIte, basic, cellsL, resOf, setAt, below, belowB, belowA, atomB, Nat.reduceLeDiff, Nat.reduceMul, Int.reduceToNat, Int.reduceLT, Int.reduceLE, Int.reduceAdd, Int.reduceNeg, Int.reduceEq, splice, Nat.reduceEqDiff, Nat.reduceLT, isAtom, Int.reduceSub, Int.reduceMul, implies_true]
theorem rem7 (n : Nat) : binV .rem (.int .i64 (n : Int)) (.int .i64 7) = some (.int .i64 ((n % 7 : Nat) : Int)) := by
  rw [bin_rem (by decide)]; rfl
theorem quo7 {n : Nat} (h : n < 1000000) : binV .quo (.int .i64 (n : Int)) (.int .i64 7) = some (.int .i64 ((n / 7 : Nat) : Int)) := by
  rw [bin_quo (by decide), show (n : Int).tdiv 7 = ((n / 7 : Nat) : Int) from rfl, wrap_i64 (by omega) (by omega)]
theorem xor128 {u v : UInt8} (hu : u.toNat < 128) (hv : v.toNat = u.toNat + 128) : binV .xor (.int .u8 (u.toNat : Int)) (.int .u8 (v.toNat : Int)) = some (.int .u8 128) := by
  have key : ∀ n : Fin 128, IntKind.u8.wrap ((BitVec.ofInt IntKind.u8.bits ((n.1 : Nat) : Int) ^^^ BitVec.ofInt IntKind.u8.bits ((n.1 + 128 : Nat) : Int)).toNat : Int) = 128 := by decide +kernel
  rw [bin_xor, hv]
  exact congrArg (fun y => some (Value.int .u8 y)) (key ⟨u.toNat, hu⟩)
theorem rightP_of {tb : List UInt8} {ts : Int} {fb : List UInt8} {fs : Int} {l : List En} {rb pb ib : Bool} {pid : Int} {info : List UInt8} (h : wrongE (rightP tb ts fb fs l) rb pb ib pid info = 0) : rightP tb ts fb fs l = true := by
  cases hr : rightP tb ts fb fs l with
  | true => rfl
  | false => rw [hr] at h; cases h
theorem sent_law {tb : List UInt8} {ts : Int} {fb : List UInt8} {fs : Int} {tm fm : Bool} {dv : Value} {l : List En} {c : Ct} {pid : Int} {info : List UInt8} {w : Bool} {m : Mem}
    (htb : tb.length ≤ 140737488355328) (hfb : fb.length ≤ 140737488355328) (hb : ∀ e ∈ l, e.b.length ≤ 140737488355328) (h : RdN m 3 dv (l.map En.row)) (hl : info.length ≤ 140737488355328) :
    LCall Tryd.prog 3 [frameV tb ts fb fs tm fm dv c pid info, .bool w] m fun v _ => v = .bool true := by
  have h0 := h
  obtain ⟨a, rfl, _⟩ := h.1
  have hR : ∀ m, Ret Tryd.prog 32 [c.val, .bool w] m (.bool (c.right w)) m := fun m => K.ctlright_spec c.k c.ns c.nr c.pf w m
  have hP : ∀ m, Ret Tryd.prog 22 [.int .i64 c.k] m (.bool (K.pidB c.k)) m := fun m => K.pid_spec c.k m
  have hI : ∀ m, Ret Tryd.prog 53 [.int .i64 c.k] m (.bool (K.infoB c.k)) m := fun m => K.info_spec c.k m
  refine LCall_enter Tryd.func3 c3 ?_
  simp (contextual := true) (implicitDefEqProofs := false) (maxSteps := 2000000) (disch := first | rfl | exact Nat.le_of_ble_eq_true rfl | omega | (simp only [List.length_append, List.length_cons, List.length_nil, List.length_set]; omega)) only [L3, X1, X2, X3, X4, XA, XB, lc_block, lc_cond, XZ, undef_eq, Nat.reduceAdd, Nat.reduceSub, ↓reduceIte, basic, cellsL, resOf, setAt, below, belowB, belowA, atomB, Nat.reduceLeDiff, Nat.reduceMul, Int.reduceToNat, Int.reduceLT, Int.reduceLE, Int.reduceAdd, Int.reduceNeg, Int.reduceEq, splice, Nat.reduceEqDiff, Nat.reduceLT, isAtom, Int.reduceSub, Int.reduceMul, implies_true]
  refine (awake07 _).use ?_
  simp (contextual := true) (implicitDefEqProofs := false) (maxSteps := 2000000) (disch := first | rfl | exact Nat.le_of_ble_eq_true rfl | omega | (simp only [List.length_append, List.length_cons, List.length_nil, List.length_set]; omega)) only [X1, X2, X3, X4, XA, XB, lc_block, lc_cond, XZ, undef_eq, Nat.reduceAdd, Nat.reduceSub, ↓reduceIte, basic, cellsL, resOf, setAt, below, belowB, belowA, atomB, Nat.reduceLeDiff, Nat.reduceMul, Int.reduceToNat, Int.reduceLT, Int.reduceLE, Int.reduceAdd, Int.reduceNeg, Int.reduceEq, splice, Nat.reduceEqDiff, Nat.reduceLT, isAtom, Int.reduceSub, Int.reduceMul, implies_true]
  refine great_spec.use ?_
  by_cases hg : 30 < (l.map En.row).length ∨ 2000 < info.length
  · have hg' : (decide (30 < (l.map En.row).length) || decide (2000 < info.length)) = true := by simpa using hg
    rw [hg']
    simp (contextual := true) (implicitDefEqProofs := false) (maxSteps := 2000000) (disch := first | rfl | exact Nat.le_of_ble_eq_true rfl | omega | (simp only [List.length_append, List.length_cons, List.length_nil, List.length_set]; omega)) only [X1, X2, X3, X4, XA, XB, lc_block, lc_cond, XZ, undef_eq, Nat.reduceAdd, Nat.reduceSub, ↓reduceIte, basic, cellsL, resOf, setAt, below, belowB, belowA, atomB, Nat.reduceLeDiff, Nat.reduceMul, Int.reduceToNat, Int.reduceLT, Int.reduceLE, Int.reduceAdd, Int.reduceNeg, Int.reduceEq, splice, Nat.reduceEqDiff, Nat.reduceLT, isAtom, Int.reduceSub, Int.reduceMul, implies_true]
  have hg' : (decide (30 < (l.map En.row).length) || decide (2000 < info.length)) = false := by simpa using hg
  rw [hg']
  have hln : l.length ≤ 30 := by
    have : ¬ 30 < (l.map En.row).length := fun h => hg (.inl h)
    rw [List.length_map] at this; omega
  simp (contextual := true) (implicitDefEqProofs := false) (maxSteps := 2000000) (disch := first | rfl | exact Nat.le_of_ble_eq_true rfl | omega | (simp only [List.length_append, List.length_cons, List.length_nil, List.length_set]; omega)) only [X1, X2, X3, X4, XA, XB, lc_block, lc_cond, XZ, undef_eq, Nat.reduceAdd, Nat.reduceSub, ↓reduceIte, basic, cellsL, resOf, setAt, below, belowB, belowA, atomB, Nat.reduceLeDiff, Nat.reduceMul, Int.reduceToNat, Int.reduceLT, Int.reduceLE, Int.reduceAdd, Int.reduceNeg, Int.reduceEq, splice, Nat.reduceEqDiff, Nat.reduceLT, isAtom, Int.reduceSub, Int.reduceMul, implies_true]
  refine (right_frame htb hfb hb h0.app.1 (by omega) hR hP hI hl).use ?_
  by_cases hw : wrongE (rightP tb ts fb fs l) (c.right w) (K.pidB c.k) (K.infoB c.k) pid info = 0
  · have hd : decide (wrongE (rightP tb ts fb fs l) (c.right w) (K.pidB c.k) (K.infoB c.k) pid info = 0) = true := decide_eq_true hw
    rw [hd]
    obtain ⟨⟨hl8, hB, hok⟩, hcr, hpid, hp0, hi, hil⟩ := wrong_zero (tm := tm) (fm := fm) hw
    rcases idx_cases (p := fun e => !e.k) (l := l) (i := 0) with ⟨hx, _⟩ | ⟨j, e, he, hek, hx, hall⟩
    · have hx' : nx l = -1 := hx
      simp (contextual := true) (implicitDefEqProofs := false) (maxSteps := 2000000) (disch := first | rfl | exact Nat.le_of_ble_eq_true rfl | omega | (simp only [List.length_append, List.length_cons, List.length_nil, List.length_set]; omega)) only [X1, X2, X3, X4, XA, XB, lc_block, lc_cond, XZ, undef_eq, Nat.reduceAdd, Nat.reduceSub, ↓reduceIte, basic, cellsL, resOf, setAt, below, belowB, belowA, atomB, Nat.reduceLeDiff, Nat.reduceMul, Int.reduceToNat, Int.reduceLT, Int.reduceLE, Int.reduceAdd, Int.reduceNeg, Int.reduceEq, splice, Nat.reduceEqDiff, Nat.reduceLT, isAtom, Int.reduceSub, Int.reduceMul, implies_true]
      refine (pnone_spec h0.app.1 (by omega) hx').use ?_
      simp (contextual := true) (implicitDefEqProofs := false) (maxSteps := 2000000) (disch := first | rfl | exact Nat.le_of_ble_eq_true rfl | omega | (simp only [List.length_append, List.length_cons, List.length_nil, List.length_set]; omega)) only [X1, X2, X3, X4, XA, XB, lc_block, lc_cond, XZ, undef_eq, Nat.reduceAdd, Nat.reduceSub, ↓reduceIte, basic, cellsL, resOf, setAt, below, belowB, belowA, atomB, Nat.reduceLeDiff, Nat.reduceMul, Int.reduceToNat, Int.reduceLT, Int.reduceLE, Int.reduceAdd, Int.reduceNeg, Int.reduceEq, splice, Nat.reduceEqDiff, Nat.reduceLT, isAtom, Int.reduceSub, Int.reduceMul, implies_true]
      refine (done_none h0.app.1 (by omega) hx').use ?_
      simp (contextual := true) (implicitDefEqProofs := false) (maxSteps := 2000000) (disch := first | rfl | exact Nat.le_of_ble_eq_true rfl | omega | (simp only [List.length_append, List.length_cons, List.length_nil, List.length_set]; omega)) only [X1, X2, X3, X4, XA, XB, lc_block, lc_cond, XZ, undef_eq, Nat.reduceAdd, Nat.reduceSub, ↓reduceIte, basic, cellsL, resOf, setAt, below, belowB, belowA, atomB, Nat.reduceLeDiff, Nat.reduceMul, Int.reduceToNat, Int.reduceLT, Int.reduceLE, Int.reduceAdd, Int.reduceNeg, Int.reduceEq, splice, Nat.reduceEqDiff, Nat.reduceLT, isAtom, Int.reduceSub, Int.reduceMul, implies_true]
    · have hx' : nx l = (j : Int) := by rw [nx, hx, Nat.zero_add]
      have hek' : e.k = false := by simpa using hek
      simp (contextual := true) (implicitDefEqProofs := false) (maxSteps := 2000000) (disch := first | rfl | exact Nat.le_of_ble_eq_true rfl | omega | (simp only [List.length_append, List.length_cons, List.length_nil, List.length_set]; omega)) only [X1, X2, X3, X4, XA, XB, lc_block, lc_cond, XZ, undef_eq, Nat.reduceAdd, Nat.reduceSub, ↓reduceIte, basic, cellsL, resOf, setAt, below, belowB, belowA, atomB, Nat.reduceLeDiff, Nat.reduceMul, Int.reduceToNat, Int.reduceLT, Int.reduceLE, Int.reduceAdd, Int.reduceNeg, Int.reduceEq, splice, Nat.reduceEqDiff, Nat.reduceLT, isAtom, Int.reduceSub, Int.reduceMul, implies_true]
      refine (psome_spec h0.app.1 (by omega) hx' he).use ?_
      simp (contextual := true) (implicitDefEqProofs := false) (maxSteps := 2000000) (disch := first | rfl | exact Nat.le_of_ble_eq_true rfl | omega | (simp only [List.length_append, List.length_cons, List.length_nil, List.length_set]; omega)) only [X1, X2, X3, X4, XA, XB, lc_block, lc_cond, XZ, undef_eq, Nat.reduceAdd, Nat.reduceSub, ↓reduceIte, basic, cellsL, resOf, setAt, below, belowB, belowA, atomB, Nat.reduceLeDiff, Nat.reduceMul, Int.reduceToNat, Int.reduceLT, Int.reduceLE, Int.reduceAdd, Int.reduceNeg, Int.reduceEq, splice, Nat.reduceEqDiff, Nat.reduceLT, isAtom, Int.reduceSub, Int.reduceMul, implies_true]
      refine (done_some h0.app.1 (by omega) hx' he).use ?_
      simp (contextual := true) (implicitDefEqProofs := false) (maxSteps := 2000000) (disch := first | rfl | exact Nat.le_of_ble_eq_true rfl | omega | (simp only [List.length_append, List.length_cons, List.length_nil, List.length_set]; omega)) only [X1, X2, X3, X4, XA, XB, lc_block, lc_cond, XZ, undef_eq, Nat.reduceAdd, Nat.reduceSub, ↓reduceIte, basic, cellsL, resOf, setAt, below, belowB, belowA, atomB, Nat.reduceLeDiff, Nat.reduceMul, Int.reduceToNat, Int.reduceLT, Int.reduceLE, Int.reduceAdd, Int.reduceNeg, Int.reduceEq, splice, Nat.reduceEqDiff, Nat.reduceLT, isAtom, Int.reduceSub, Int.reduceMul, implies_true]
      refine (sent_spec h0.app (by omega) hx' he).mono ?_
      rintro v M ⟨hf, sv, F, rfl, hs, hF⟩
      obtain ⟨sa, rfl, _⟩ := hs.form
      have hb0 := hf.get0 (i := m.length) (b := ⟨[str tb, .int .i64 ts, str fb, .int .i64 fs, .bool tm, .bool fm, .slice a (l.map En.row).length (l.map En.row).length, .int .i64 c.k, .int .i64 c.ns, .int .i64 c.nr, .bool c.pf, .int .i64 pid, str info], 30, 1, 0, .own⟩) (by simp)
      have l0 := lt_of_some hb0
      have hb7 := hf.get0 (i := m.length + 2) (b := ⟨[str tb, .int .i64 ts, str fb, .int .i64 fs, .bool tm, .bool fm, .slice a (l.map En.row).length (l.map En.row).length, .int .i64 c.k, .int .i64 c.ns, .int .i64 c.nr, .bool c.pf, .int .i64 pid, str info], 30, 1, 0, .own⟩) (by rw [List.getElem?_append_right (by omega)]; simp)
      have l7 := lt_of_some hb7
      have hfm : Frm [] m M := (Frm.refl (F := []) (m := m)).app.nil_trans hf
      have hF7 : m.length + 2 ∉ F := fun hx => by have := hF _ hx; simp only [List.length_append, List.length_cons, List.length_nil] at this; omega
      have hrp := rightP_of hw
      have hrp' := sent_right (tb := tb) (ts := ts) (fb := fb) (fs := fs) he hall hrp
      have hw' : wrongE (rightP tb ts fb fs (sentL l j e)) (c.right w) (K.pidB c.k) (K.infoB c.k) pid info = 0 := by rw [hrp', ← hrp]; exact hw
      have hE : (⟨tb, ts, tm⟩ :: ⟨fb, fs, fm⟩ :: l : List En)[j + 2]? = some e := he
      have heok := hok e (by have := List.mem_of_getElem? hE; exact this)
      have hsl : sentL (⟨tb, ts, tm⟩ :: ⟨fb, fs, fm⟩ :: l : List En) (j + 2) e = ⟨tb, ts, tm⟩ :: ⟨fb, fs, fm⟩ :: sentL l j e := rfl
      obtain ⟨R, hR1⟩ : ∃ R, c.bytes w ++ (if K.pidB c.k then [UInt8.ofNat pid.toNat] else []) ++ info = R := ⟨_, rfl⟩
      have henc : ∀ L : List En, encF L (c.bytes w) (K.pidB c.k) pid info = putE L ++ R := fun L => by rw [← hR1]; unfold encF; simp only [List.append_assoc]
      have hRl : R.length ≤ 300 := by
        rw [← hR1]
        have := bytes_len c w
        rw [List.length_append, List.length_append]
        split
        · simp only [List.length_cons, List.length_nil]; omega
        · simp only [List.length_nil]; omega
      obtain ⟨hsame, u, v, hu, hv, hu1, hv1⟩ := sent_bytes (L := (⟨tb, ts, tm⟩ :: ⟨fb, fs, fm⟩ :: l : List En)) (rest := R) hE hek' heok
      rw [hsl] at hsame hv
      have hcb := ctl_put hcr
      have hlB : (putE (⟨tb, ts, tm⟩ :: ⟨fb, fs, fm⟩ :: l : List En) ++ R).length = (putE (⟨tb, ts, tm⟩ :: ⟨fb, fs, fm⟩ :: sentL l j e : List En) ++ R).length := by
        rw [List.length_append, List.length_append, putE_len, putE_len]; unfold sentL; simp
      have hlm : (putE (⟨tb, ts, tm⟩ :: ⟨fb, fs, fm⟩ :: l : List En) ++ R).length ≤ 100000 := by
        rw [List.length_append, putE_len]; simp only [List.length_cons]; omega
      simp (contextual := true) (implicitDefEqProofs := false) (maxSteps := 2000000) (disch := first | rfl | exact Nat.le_of_ble_eq_true rfl | omega | (simp only [List.length_append, List.length_cons, List.length_nil, List.length_set]; omega)) only [hb0, hb7, X1, X2, X3, X4, XA, XB, lc_block, lc_cond, XZ, undef_eq, Nat.reduceAdd, Nat.reduceSub, ↓reduceIte, basic, cellsL, resOf, setAt, below, belowB, belowA, atomB, Nat.reduceLeDiff, Nat.reduceMul, Int.reduceToNat, Int.reduceLT, Int.reduceLE, Int.reduceAdd, Int.reduceNeg, Int.reduceEq, splice, Nat.reduceEqDiff, Nat.reduceLT, isAtom, Int.reduceSub, Int.reduceMul, implies_true]
      refine (encode_spec (c := c) (l := l) (h0.frm0 (hfm.set (i := m.length + 2) (.inr (by omega)))) hR hP hI hcb (by have := bytes_len c w; omega) hw).use ?_
      simp (contextual := true) (implicitDefEqProofs := false) (maxSteps := 2000000) (disch := first | rfl | exact Nat.le_of_ble_eq_true rfl | omega | (simp only [List.length_append, List.length_cons, List.length_nil, List.length_set]; omega)) only [hb0, hb7, X1, X2, X3, X4, XA, XB, lc_block, lc_cond, XZ, undef_eq, Nat.reduceAdd, Nat.reduceSub, ↓reduceIte, basic, cellsL, resOf, setAt, below, belowB, belowA, atomB, Nat.reduceLeDiff, Nat.reduceMul, Int.reduceToNat, Int.reduceLT, Int.reduceLE, Int.reduceAdd, Int.reduceNeg, Int.reduceEq, splice, Nat.reduceEqDiff, Nat.reduceLT, isAtom, Int.reduceSub, Int.reduceMul, implies_true]
      refine (encode_spec (c := c) (l := sentL l j e) (by first | exact (hs.setb hF7).rdn | exact Sl.rdn (hs.setb hF7)) hR hP hI hcb (by have := bytes_len c w; omega) hw').use ?_
      rw [henc, henc]
      generalize putE (⟨tb, ts, tm⟩ :: ⟨fb, fs, fm⟩ :: l : List En) ++ R = B at hsame hu hlB hlm ⊢
      generalize putE (⟨tb, ts, tm⟩ :: ⟨fb, fs, fm⟩ :: sentL l j e : List En) ++ R = B' at hsame hv hlB ⊢
      have hlB' := hlB.symm
      have hfm2 := hfm.set (i := m.length + 2) (b := ⟨[str tb, .int .i64 ts, str fb, .int .i64 fs, .bool tm, .bool fm, .slice sa ((sentL l j e).map En.row).length ((sentL l j e).map En.row).length, .int .i64 c.k, .int .i64 c.ns, .int .i64 c.nr, .bool c.pf, .int .i64 pid, str info], 30, 1, 0, .own⟩) (.inr (by omega))
      simp (contextual := true) (implicitDefEqProofs := false) (maxSteps := 2000000) (disch := first | rfl | exact Nat.le_of_ble_eq_true rfl | omega | (simp only [List.length_append, List.length_cons, List.length_nil, List.length_set]; omega)) only [bin_ladd, str_cut, str_app, str_eq, string_mk_size, string_mk, hlB', X1, X2, X3, X4, XA, XB, lc_block, lc_cond, XZ, undef_eq, Nat.reduceAdd, Nat.reduceSub, ↓reduceIte, basic, cellsL, resOf, setAt, below, belowB, belowA, atomB, Nat.reduceLeDiff, Nat.reduceMul, Int.reduceToNat, Int.reduceLT, Int.reduceLE, Int.reduceAdd, Int.reduceNeg, Int.reduceEq, splice, Nat.reduceEqDiff, Nat.reduceLT, isAtom, Int.reduceSub, Int.reduceMul, implies_true]
      have hbN0 : (M.set (m.length + 2) ⟨[str tb, .int .i64 ts, str fb, .int .i64 fs, .bool tm, .bool fm, .slice sa ((sentL l j e).map En.row).length ((sentL l j e).map En.row).length, .int .i64 c.k, .int .i64 c.ns, .int .i64 c.nr, .bool c.pf, .int .i64 pid, str info], 30, 1, 0, .own⟩)[m.length]? = some ⟨[str tb, .int .i64 ts, str fb, .int .i64 fs, .bool tm, .bool fm, .slice a (l.map En.row).length (l.map En.row).length, .int .i64 c.k, .int .i64 c.ns, .int .i64 c.nr, .bool c.pf, .int .i64 pid, str info], 30, 1, 0, .own⟩ := by
        rw [List.getElem?_set_ne (show m.length + 2 ≠ m.length by omega)]; exact hb0
      generalize M.set (m.length + 2) ⟨[str tb, .int .i64 ts, str fb, .int .i64 fs, .bool tm, .bool fm, .slice sa ((sentL l j e).map En.row).length ((sentL l j e).map En.row).length, .int .i64 c.k, .int .i64 c.ns, .int .i64 c.nr, .bool c.pf, .int .i64 pid, str info], 30, 1, 0, .own⟩ = N at hbN0 hfm2 ⊢
      have hbne : ∀ q, 7 * (j + 2) + 6 ≠ q → B'[q]? = B[q]? := fun q hq => hsame q (Ne.symm hq)
      have hpB : 7 * (j + 2) + 6 < B.length := (List.getElem?_eq_some_iff.mp hu).1
      refine loop_inv (fun n t N' => ∃ (i : Nat), n = B.length - i ∧ i ≤ B.length ∧ Frm [] m N' ∧ N'[m.length]? = some ⟨[str tb, .int .i64 ts, str fb, .int .i64 fs, .bool tm, .bool fm, .slice a (l.map En.row).length (l.map En.row).length, .int .i64 c.k, .int .i64 c.ns, .int .i64 c.nr, .bool c.pf, .int .i64 pid, str info], 30, 1, 0, .own⟩ ∧
        Tab 108 [(2, .pointer (some ⟨m.length, 0, none⟩)), (8, str B), (10, str B'), (12, .int .i64 (if 7 * (j + 2) + 6 < i then 1 else 0)), (70, .int .i64 (B.length : Int)), (71, .int .i64 (i : Int))] t) (n := B.length) ?_ ?_
      · exact ⟨0, rfl, Nat.zero_le _, hfm2, hbN0, ⟨rfl, by simp⟩⟩
      rintro nn t N' ⟨i, rfl, hi, hfN, hbN, ht⟩
      obtain ⟨f, rfl⟩ : ∃ f' : Nat → Value, t = [f' 0, f' 1, .pointer (some ⟨m.length, 0, none⟩), f' 3, f' 4, f' 5, f' 6, f' 7, str B, f' 9, str B', f' 11, .int .i64 (if 7 * (j + 2) + 6 < i then 1 else 0), f' 13, f' 14, f' 15, f' 16, f' 17, f' 18, f' 19, f' 20, f' 21, f' 22, f' 23, f' 24, f' 25, f' 26, f' 27, f' 28, f' 29, f' 30, f' 31, f' 32, f' 33, f' 34, f' 35, f' 36, f' 37, f' 38, f' 39, f' 40, f' 41, f' 42, f' 43, f' 44, f' 45, f' 46, f' 47, f' 48, f' 49, f' 50, f' 51, f' 52, f' 53, f' 54, f' 55, f' 56, f' 57, f' 58, f' 59, f' 60, f' 61, f' 62, f' 63, f' 64, f' 65, f' 66, f' 67, f' 68, f' 69, .int .i64 (B.length : Int), .int .i64 (i : Int), f' 72, f' 73, f' 74, f' 75, f' 76, f' 77, f' 78, f' 79, f' 80, f' 81, f' 82, f' 83, f' 84, f' 85, f' 86, f' 87, f' 88, f' 89, f' 90, f' 91, f' 92, f' 93, f' 94, f' 95, f' 96, f' 97, f' 98, f' 99, f' 100, f' 101, f' 102, f' 103, f' 104, f' 105, f' 106, f' 107] := ht.open fun f' => rfl
      have lN := lt_of_some hbN
      by_cases hlt : i < B.length
      · have hlt' : ((i : Int) < (B.length : Int)) = True := by simp [hlt]
        have h0' : ((0 : Int) ≤ (i : Int)) = True := by simp
        have hwi : IntKind.i64.wrap ((i : Int) + 1) = ((i + 1 : Nat) : Int) := by rw [wrap_i64 (by omega) (by omega)]; omega
        by_cases hip : 7 * (j + 2) + 6 = i
        · subst hip
          have hcnt : (if 7 * (j + 2) + 6 < 7 * (j + 2) + 6 then (1 : Int) else 0) = 0 := if_neg (by omega)
          have hcnt1 : (if 7 * (j + 2) + 6 < 7 * (j + 2) + 6 + 1 then (1 : Int) else 0) = 1 := if_pos (by omega)
          have hne : ((u.toNat : Int) = (v.toNat : Int)) = False := eq_false (by omega)
          have hm7 : (7 * (j + 2) + 6) % 7 = 6 := by omega
          have hq7 : (7 * (j + 2) + 6) / 7 = j + 2 := by omega
          simp (contextual := true) (implicitDefEqProofs := false) (maxSteps := 2000000) (disch := first | rfl | exact Nat.le_of_ble_eq_true rfl | omega | (simp only [List.length_append, List.length_cons, List.length_nil, List.length_set]; omega)) only [hcnt, hlt', h0', bin_ladd, str_cut, str_app, str_eq, string_mk_size, string_mk, hu, hv, hne, xor128 hu1 hv1, rem7 (7 * (j + 2) + 6), quo7 (n := 7 * (j + 2) + 6) (by omega), hm7, hq7, hbN, Int.toNat_natCast, X1, X2, X3, X4, XA, bin_add, bin_sub, bin_mul, bin_and, bin_or, bin_andNot, bin_eql, bin_neq, bin_lss, bin_leq, bin_gtr, bin_geq, bin_shl, bin_shr, bin_sadd, bin_seql, bin_sneq, lc_block, lc_cond, XZ, undef_eq, Nat.reduceAdd, Nat.reduceSub, ↓reduceIte, basic, cellsL, resOf, setAt, below, belowB, belowA, atomB, Nat.reduceLeDiff, Nat.reduceMul, Int.reduceToNat, Int.reduceLT, Int.reduceLE, Int.reduceAdd, Int.reduceNeg, Int.reduceEq, splice, Nat.reduceEqDiff, Nat.reduceLT, isAtom, Int.reduceSub, Int.reduceMul, implies_true]
          refine (plainP_spec (l := l) ((h0.frm0 hfN).1) (by omega)).mono ?_
          rintro v' N2 ⟨hf2, sv2, F2, rfl, hs2, hF2⟩
          obtain ⟨sa2, rfl, _⟩ := hs2.form
          have hbN2 := hf2.get0 hbN
          have lN2 := lt_of_some hbN2
          simp (contextual := true) (implicitDefEqProofs := false) (maxSteps := 2000000) (disch := first | rfl | exact Nat.le_of_ble_eq_true rfl | omega | (simp only [List.length_append, List.length_cons, List.length_nil, List.length_set]; omega)) only [hlt', h0', bin_ladd, str_cut, str_app, str_eq, string_mk_size, string_mk, hu, hv, hne, xor128 hu1 hv1, rem7 (7 * (j + 2) + 6), quo7 (n := 7 * (j + 2) + 6) (by omega), hm7, hq7, hbN2, Int.toNat_natCast, X1, X2, X3, X4, XA, bin_add, bin_sub, bin_mul, bin_and, bin_or, bin_andNot, bin_eql, bin_neq, bin_lss, bin_leq, bin_gtr, bin_geq, bin_shl, bin_shr, bin_sadd, bin_seql, bin_sneq, lc_block, lc_cond, XZ, undef_eq, Nat.reduceAdd, Nat.reduceSub, ↓reduceIte, basic, cellsL, resOf, setAt, below, belowB, belowA, atomB, Nat.reduceLeDiff, Nat.reduceMul, Int.reduceToNat, Int.reduceLT, Int.reduceLE, Int.reduceAdd, Int.reduceNeg, Int.reduceEq, splice, Nat.reduceEqDiff, Nat.reduceLT, isAtom, Int.reduceSub, Int.reduceMul, implies_true]
          refine (rnext_spec (x := ⟨tb, ts, tm⟩) (y := ⟨fb, fs, fm⟩) (l := l) (Sl.rd hs2) (by omega) he hek' (fun j' e' hj he' => by simpa using hall j' e' hj he')).use ?_
          simp (contextual := true) (implicitDefEqProofs := false) (maxSteps := 2000000) (disch := first | rfl | exact Nat.le_of_ble_eq_true rfl | omega | (simp only [List.length_append, List.length_cons, List.length_nil, List.length_set]; omega)) only [hlt', h0', bin_ladd, str_cut, str_app, str_eq, string_mk_size, string_mk, hu, hv, hne, xor128 hu1 hv1, rem7 (7 * (j + 2) + 6), quo7 (n := 7 * (j + 2) + 6) (by omega), hm7, hq7, hbN2, Int.toNat_natCast, X1, X2, X3, X4, XA, bin_add, bin_sub, bin_mul, bin_and, bin_or, bin_andNot, bin_eql, bin_neq, bin_lss, bin_leq, bin_gtr, bin_geq, bin_shl, bin_shr, bin_sadd, bin_seql, bin_sneq, lc_block, lc_cond, XZ, undef_eq, Nat.reduceAdd, Nat.reduceSub, ↓reduceIte, basic, cellsL, resOf, setAt, below, belowB, belowA, atomB, Nat.reduceLeDiff, Nat.reduceMul, Int.reduceToNat, Int.reduceLT, Int.reduceLE, Int.reduceAdd, Int.reduceNeg, Int.reduceEq, splice, Nat.reduceEqDiff, Nat.reduceLT, isAtom, Int.reduceSub, Int.reduceMul, implies_true]
          exact kInv_go ⟨7 * (j + 2) + 6 + 1, rfl, by omega, hfN.nil_trans hf2, hbN2, ⟨rfl, by simp [hwi, hcnt1]⟩⟩ (by omega)
        · have hvv := hbne i hip
          obtain ⟨q, hq⟩ : ∃ q, B[i]? = some q := ⟨B[i], List.getElem?_eq_getElem hlt⟩
          rw [hq] at hvv
          have hcnt : (if 7 * (j + 2) + 6 < i + 1 then (1 : Int) else 0) = if 7 * (j + 2) + 6 < i then 1 else 0 := by
            by_cases h : 7 * (j + 2) + 6 < i
            · rw [if_pos h, if_pos (by omega)]
            · rw [if_neg h, if_neg (by omega)]
          simp (contextual := true) (implicitDefEqProofs := false) (maxSteps := 2000000) (disch := first | rfl | exact Nat.le_of_ble_eq_true rfl | omega | (simp only [List.length_append, List.length_cons, List.length_nil, List.length_set]; omega)) only [hlt', h0', bin_ladd, str_cut, str_app, str_eq, string_mk_size, string_mk, hq, hvv, Int.toNat_natCast, X1, X2, X3, X4, XA, XB, lc_block, lc_cond, XZ, undef_eq, Nat.reduceAdd, Nat.reduceSub, ↓reduceIte, basic, cellsL, resOf, setAt, below, belowB, belowA, atomB, Nat.reduceLeDiff, Nat.reduceMul, Int.reduceToNat, Int.reduceLT, Int.reduceLE, Int.reduceAdd, Int.reduceNeg, Int.reduceEq, splice, Nat.reduceEqDiff, Nat.reduceLT, isAtom, Int.reduceSub, Int.reduceMul, implies_true]
          exact kInv_go ⟨i + 1, rfl, by omega, hfN, hbN, ⟨rfl, by simp [hwi, hcnt]⟩⟩ (by omega)
      · have hlt' : ((i : Int) < (B.length : Int)) = False := by simp; omega
        have hcnt : (if 7 * (j + 2) + 6 < i then (1 : Int) else 0) = 1 := if_pos (by omega)
        simp (contextual := true) (implicitDefEqProofs := false) (maxSteps := 2000000) (disch := first | rfl | exact Nat.le_of_ble_eq_true rfl | omega | (simp only [List.length_append, List.length_cons, List.length_nil, List.length_set]; omega)) only [hlt', hcnt, X1, X2, X3, X4, XA, XB, lc_block, lc_cond, XZ, undef_eq, Nat.reduceAdd, Nat.reduceSub, ↓reduceIte, basic, cellsL, resOf, setAt, below, belowB, belowA, atomB, Nat.reduceLeDiff, Nat.reduceMul, Int.reduceToNat, Int.reduceLT, Int.reduceLE, Int.reduceAdd, Int.reduceNeg, Int.reduceEq, splice, Nat.reduceEqDiff, Nat.reduceLT, isAtom, Int.reduceSub, Int.reduceMul, implies_true]
  · have hd : decide (wrongE (rightP tb ts fb fs l) (c.right w) (K.pidB c.k) (K.infoB c.k) pid info = 0) = false := decide_eq_false hw
    rw [hd]
    simp (contextual := true) (implicitDefEqProofs := false) (maxSteps := 2000000) (disch := first | rfl | exact Nat.le_of_ble_eq_true rfl | omega | (simp only [List.length_append, List.length_cons, List.length_nil, List.length_set]; omega)) only [X1, X2, X3, X4, XA, XB, lc_block, lc_cond, XZ, undef_eq, Nat.reduceAdd, Nat.reduceSub, ↓reduceIte, basic, cellsL, resOf, setAt, below, belowB, belowA, atomB, Nat.reduceLeDiff, Nat.reduceMul, Int.reduceToNat, Int.reduceLT, Int.reduceLE, Int.reduceAdd, Int.reduceNeg, Int.reduceEq, splice, Nat.reduceEqDiff, Nat.reduceLT, isAtom, Int.reduceSub, Int.reduceMul, implies_true]
theorem framesent_all (m : Mem) (vs : List Value) (h : F2 (TyV Tryd.prog m 6) [30, 4] vs) : LCall Tryd.prog 3 vs m fun v _ => v = .bool true := by
  obtain ⟨u, v, rfl, h1, h2⟩ := h.two_inv
  obtain ⟨b, rfl⟩ := h2.bool Tryd.underlying4
  obtain ⟨_, rfl, x1, _, rfl, k1, x2, _, rfl, k2, x3, _, rfl, k3, x4, _, rfl, k4, rfl⟩ := h1.struct Tryd.underlying30 rfl
  obtain ⟨y1, _, rfl, p1, y2, _, rfl, p2, y3, _, rfl, p3, y4, _, rfl, p4, y5, _, rfl, p5, rfl⟩ := k1.struct Tryd.underlying26 rfl
  obtain ⟨z1, _, rfl, q1, z2, _, rfl, q2, rfl⟩ := p1.struct Tryd.underlying23 rfl
  obtain ⟨w1, _, rfl, r1, w2, _, rfl, r2, rfl⟩ := p2.struct Tryd.underlying23 rfl
  obtain ⟨t1, rfl, b1⟩ := q1.text Tryd.underlying9
  obtain ⟨ts, rfl, _⟩ := q2.int Tryd.underlying3
  obtain ⟨t2, rfl, b2⟩ := r1.text Tryd.underlying9
  obtain ⟨fs, rfl, _⟩ := r2.int Tryd.underlying3
  obtain ⟨tb, rfl⟩ := str_is t1
  obtain ⟨fb, rfl⟩ := str_is t2
  rw [string_mk_size] at b1 b2
  obtain ⟨tm, rfl⟩ := p3.bool Tryd.underlying4
  obtain ⟨fm, rfl⟩ := p4.bool Tryd.underlying4
  obtain ⟨dv, cells, q, rfl, hs, hty⟩ := p5.slice Tryd.underlying24 (sz := 3) (by kernel_rfl)
  obtain ⟨l, hq, hcells, hcb⟩ := hty.map (f := En.row) fun xs hx => en_of hx
  obtain ⟨c1, _, rfl, u1, c2, _, rfl, u2, c3, _, rfl, u3, c4, _, rfl, u4, rfl⟩ := k2.struct Tryd.underlying28 rfl
  obtain ⟨ck, rfl, _⟩ := u1.int Tryd.underlying3
  obtain ⟨cr, rfl, _⟩ := u2.int Tryd.underlying3
  obtain ⟨cs, rfl, _⟩ := u3.int Tryd.underlying3
  obtain ⟨cp, rfl⟩ := u4.bool Tryd.underlying4
  obtain ⟨pid, rfl, _⟩ := k3.int Tryd.underlying3
  obtain ⟨t3, rfl, b3⟩ := k4.text Tryd.underlying9
  obtain ⟨info, rfl⟩ := str_is t3
  rw [string_mk_size] at b3
  exact sent_law (c := ⟨ck, cr, cs, cp⟩) (Nat.le_trans b1 (by decide)) (Nat.le_trans b2 (by decide)) hcb (ens_rdn hs hq hcells) (Nat.le_trans b3 (by decide))
end Go.Proofs.YtlkecehaajndcaaDoor
