/- Calls: right ones, and their bytes, walked. -/
import Derived.Test.YtijndljfpiomhaaDoorF
import Derived.Test.YtijndljfpiomhaaDoorLgAK
set_option linter.unusedSimpArgs false
set_option linter.unnecessarySimpa false
set_option linter.unusedVariables false
namespace Go.Proofs.YtijndljfpiomhaaDoor
open Go.Lg
set_option maxRecDepth 8000
set_option maxHeartbeats 8000000
abbrev str (l : List UInt8) : Value := .string ⟨l.toArray⟩
abbrev cl (b : List UInt8) (s : Int) : Value := .agg #[str b, .int .i64 s]
def letB (x : UInt8) : Bool := decide ((65 ≤ x.toNat ∧ x.toNat ≤ 90) ∨ (48 ≤ x.toNat ∧ x.toNat ≤ 57))
def rightC (b : List UInt8) (s : Int) : Bool := b.all letB && decide ((1 ≤ b.length ∧ b.length ≤ 6) ∧ 0 ≤ s ∧ s ≤ 15)
theorem letter_spec (x : UInt8) (m : Mem) : Ret Tryd.prog 44 [.int .u8 (x.toNat : Int)] m (.bool (letB x)) m := by
  refine LCall_drop (LCall_enter Tryd.func44 c44 ?_)
  by_cases h1 : 65 ≤ x.toNat
  · have h1' : ((65 : Int) ≤ (x.toNat : Int)) = True := eq_true (by omega)
    by_cases h2 : x.toNat ≤ 90
    · have h2' : ((x.toNat : Int) ≤ 90) = True := eq_true (by omega)
      have e : letB x = true := by unfold letB; exact decide_eq_true (by omega)
      simp (contextual := true) (implicitDefEqProofs := false) (maxSteps := 2000000) (disch := first | rfl | exact NB rfl | omega | (simp only [XL]; omega)) only [L44, h1', h2', e, XW, undef_eq, Nat.reduceAdd, Nat.reduceSub, ↓reduceIte, basic, cellsL, resOf, setAt, below, belowB, belowA, atomB, Nat.reduceLeDiff, Nat.reduceMul, Int.reduceToNat, Int.reduceLT, Int.reduceLE, Int.reduceAdd, Int.reduceNeg, Int.reduceEq, splice, Nat.reduceEqDiff, Nat.reduceLT, isAtom, Int.reduceSub, Int.reduceMul, implies_true]
    · have h2' : ((x.toNat : Int) ≤ 90) = False := eq_false (by omega)
      have h3' : ((48 : Int) ≤ (x.toNat : Int)) = True := eq_true (by omega)
      have h4' : ((x.toNat : Int) ≤ 57) = False := eq_false (by omega)
      have e : letB x = false := by unfold letB; exact decide_eq_false (by omega)
      simp (contextual := true) (implicitDefEqProofs := false) (maxSteps := 2000000) (disch := first | rfl | exact NB rfl | omega | (simp only [XL]; omega)) only [L44, h1', h2', h3', h4', e, XW, undef_eq, Nat.reduceAdd, Nat.reduceSub, ↓reduceIte, basic, cellsL, resOf, setAt, below, belowB, belowA, atomB, Nat.reduceLeDiff, Nat.reduceMul, Int.reduceToNat, Int.reduceLT, Int.reduceLE, Int.reduceAdd, Int.reduceNeg, Int.reduceEq, splice, Nat.reduceEqDiff, Nat.reduceLT, isAtom, Int.reduceSub, Int.reduceMul, implies_true]
  · have h1' : ((65 : Int) ≤ (x.toNat : Int)) = False := eq_false (by omega)
    by_cases h3 : 48 ≤ x.toNat
    · have h3' : ((48 : Int) ≤ (x.toNat : Int)) = True := eq_true (by omega)
      by_cases h4 : x.toNat ≤ 57
      · have h4' : ((x.toNat : Int) ≤ 57) = True := eq_true (by omega)
        have e : letB x = true := by unfold letB; exact decide_eq_true (by omega)
        simp (contextual := true) (implicitDefEqProofs := false) (maxSteps := 2000000) (disch := first | rfl | exact NB rfl | omega | (simp only [XL]; omega)) only [L44, h1', h3', h4', e, XW, undef_eq, Nat.reduceAdd, Nat.reduceSub, ↓reduceIte, basic, cellsL, resOf, setAt, below, belowB, belowA, atomB, Nat.reduceLeDiff, Nat.reduceMul, Int.reduceToNat, Int.reduceLT, Int.reduceLE, Int.reduceAdd, Int.reduceNeg, Int.reduceEq, splice, Nat.reduceEqDiff, Nat.reduceLT, isAtom, Int.reduceSub, Int.reduceMul, implies_true]
      · have h4' : ((x.toNat : Int) ≤ 57) = False := eq_false (by omega)
        have e : letB x = false := by unfold letB; exact decide_eq_false (by omega)
        simp (contextual := true) (implicitDefEqProofs := false) (maxSteps := 2000000) (disch := first | rfl | exact NB rfl | omega | (simp only [XL]; omega)) only [L44, h1', h3', h4', e, XW, undef_eq, Nat.reduceAdd, Nat.reduceSub, ↓reduceIte, basic, cellsL, resOf, setAt, below, belowB, belowA, atomB, Nat.reduceLeDiff, Nat.reduceMul, Int.reduceToNat, Int.reduceLT, Int.reduceLE, Int.reduceAdd, Int.reduceNeg, Int.reduceEq, splice, Nat.reduceEqDiff, Nat.reduceLT, isAtom, Int.reduceSub, Int.reduceMul, implies_true]
    · have h3' : ((48 : Int) ≤ (x.toNat : Int)) = False := eq_false (by omega)
      have e : letB x = false := by unfold letB; exact decide_eq_false (by omega)
      simp (contextual := true) (implicitDefEqProofs := false) (maxSteps := 2000000) (disch := first | rfl | exact NB rfl | omega | (simp only [XL]; omega)) only [L44, h1', h3', e, XW, undef_eq, Nat.reduceAdd, Nat.reduceSub, ↓reduceIte, basic, cellsL, resOf, setAt, below, belowB, belowA, atomB, Nat.reduceLeDiff, Nat.reduceMul, Int.reduceToNat, Int.reduceLT, Int.reduceLE, Int.reduceAdd, Int.reduceNeg, Int.reduceEq, splice, Nat.reduceEqDiff, Nat.reduceLT, isAtom, Int.reduceSub, Int.reduceMul, implies_true]
theorem all_snoc {b : List UInt8} {j : Nat} {c : UInt8} (h : b[j]? = some c) : (b.take (j + 1)).all letB = ((b.take j).all letB && letB c) := by
  rw [take_snoc h, List.all_append]; simp
theorem all_bad {b : List UInt8} {j : Nat} {c : UInt8} (h : b[j]? = some c) (hc : letB c = false) : b.all letB = false := by
  rw [List.all_eq_false]
  exact ⟨c, List.mem_of_getElem? h, by simp [hc]⟩
theorem right_spec (b : List UInt8) (s : Int) (hb : b.length ≤ 140737488355328) (m : Mem) : Ret Tryd.prog 28 [cl b s] m (.bool (rightC b s)) m := by
  refine LCall_drop (LCall_enter Tryd.func28 c28 ?_)
  simp (contextual := true) (implicitDefEqProofs := false) (maxSteps := 2000000) (disch := first | rfl | exact NB rfl | omega | (simp only [XL]; omega)) only [L28, bin_ladd, str_cut, str_app, str_eq, string_mk_size, string_mk, XW, undef_eq, Nat.reduceAdd, Nat.reduceSub, ↓reduceIte, basic, cellsL, resOf, setAt, below, belowB, belowA, atomB, Nat.reduceLeDiff, Nat.reduceMul, Int.reduceToNat, Int.reduceLT, Int.reduceLE, Int.reduceAdd, Int.reduceNeg, Int.reduceEq, splice, Nat.reduceEqDiff, Nat.reduceLT, isAtom, Int.reduceSub, Int.reduceMul, implies_true]
  obtain ⟨M, hM, hm0, hm1⟩ : ∃ M, m ++ [⟨[str b, .int .i64 s], 27, 1, 0, .own⟩, ⟨byteCells b, 5, 1, 0, .own⟩] = M ∧ M[m.length]? = some ⟨[str b, .int .i64 s], 27, 1, 0, .own⟩ ∧ M[m.length + 1]? = some ⟨byteCells b, 5, 1, 0, .own⟩ := ⟨_, rfl, by simp, by rw [List.getElem?_append_right (by omega)]; simp⟩
  rw [hM]
  have hmg : ∃ g, M = m ++ g := ⟨_, hM.symm⟩
  clear hM
  have l0 := lt_of_some hm0
  have l1 := lt_of_some hm1
  refine loop_inv (fun n t M' => ∃ (j : Nat), n = b.length - j ∧ j ≤ b.length ∧ (b.take j).all letB = true ∧ M' = M ∧
    Tab 37 [(1, .pointer (some ⟨m.length, 0, none⟩)), (7, .slice (some ⟨m.length + 1, 0, none⟩) b.length b.length), (8, .int .i64 (b.length : Int)), (9, .int .i64 (j : Int))] t) (n := b.length) ?_ ?_
  · exact ⟨0, rfl, Nat.zero_le _, by simp, rfl, ⟨rfl, by simp⟩⟩
  rintro n t m' ⟨j, rfl, hj, hall, rfl, ht⟩
  obtain ⟨f, rfl⟩ : ∃ f' : Nat → Value, t = [f' 0, .pointer (some ⟨m.length, 0, none⟩), f' 2, f' 3, f' 4, f' 5, f' 6, .slice (some ⟨m.length + 1, 0, none⟩) b.length b.length, .int .i64 (b.length : Int), .int .i64 (j : Int), f' 10, f' 11, f' 12, f' 13, f' 14, f' 15, f' 16, f' 17, f' 18, f' 19, f' 20, f' 21, f' 22, f' 23, f' 24, f' 25, f' 26, f' 27, f' 28, f' 29, f' 30, f' 31, f' 32, f' 33, f' 34, f' 35, f' 36] := ht.open fun f' => rfl
  by_cases hlt : j < b.length
  · have hlt' : ((j : Int) < (b.length : Int)) = True := by simp [hlt]
    have h0' : ((0 : Int) ≤ (j : Int)) = True := by simp
    have hwj : IntKind.i64.wrap ((j : Int) + 1) = ((j + 1 : Nat) : Int) := by rw [wrap_i64 (by omega) (by omega)]; omega
    obtain ⟨c, hc⟩ : ∃ r, b[j]? = some r := ⟨b[j], List.getElem?_eq_getElem hlt⟩
    have hcc := byteCells_get hc
    simp (contextual := true) (implicitDefEqProofs := false) (maxSteps := 2000000) (disch := first | rfl | exact NB rfl | omega | (simp only [XL]; omega)) only [hm1, hlt', h0', hcc, Int.toNat_natCast, XW, undef_eq, Nat.reduceAdd, Nat.reduceSub, ↓reduceIte, basic, cellsL, resOf, setAt, below, belowB, belowA, atomB, Nat.reduceLeDiff, Nat.reduceMul, Int.reduceToNat, Int.reduceLT, Int.reduceLE, Int.reduceAdd, Int.reduceNeg, Int.reduceEq, splice, Nat.reduceEqDiff, Nat.reduceLT, isAtom, Int.reduceSub, Int.reduceMul, implies_true]
    refine (letter_spec c _).use ?_
    cases hl : letB c with
    | true =>
      simp (contextual := true) (implicitDefEqProofs := false) (maxSteps := 2000000) (disch := first | rfl | exact NB rfl | omega | (simp only [XL]; omega)) only [XW, undef_eq, Nat.reduceAdd, Nat.reduceSub, ↓reduceIte, basic, cellsL, resOf, setAt, below, belowB, belowA, atomB, Nat.reduceLeDiff, Nat.reduceMul, Int.reduceToNat, Int.reduceLT, Int.reduceLE, Int.reduceAdd, Int.reduceNeg, Int.reduceEq, splice, Nat.reduceEqDiff, Nat.reduceLT, isAtom, Int.reduceSub, Int.reduceMul, implies_true]
      exact kInv_go ⟨j + 1, rfl, by omega, by rw [all_snoc hc, hall, hl]; rfl, rfl, ⟨rfl, by simp [hwj]⟩⟩ (by omega)
    | false =>
      simp (contextual := true) (implicitDefEqProofs := false) (maxSteps := 2000000) (disch := first | rfl | exact NB rfl | omega | (simp only [XL]; omega)) only [XW, undef_eq, Nat.reduceAdd, Nat.reduceSub, ↓reduceIte, basic, cellsL, resOf, setAt, below, belowB, belowA, atomB, Nat.reduceLeDiff, Nat.reduceMul, Int.reduceToNat, Int.reduceLT, Int.reduceLE, Int.reduceAdd, Int.reduceNeg, Int.reduceEq, splice, Nat.reduceEqDiff, Nat.reduceLT, isAtom, Int.reduceSub, Int.reduceMul, implies_true]
      rw [rightC, all_bad hc hl]
      exact ⟨hmg, by simp⟩
  · have hlt' : ((j : Int) < (b.length : Int)) = False := by simp; omega
    rw [List.take_of_length_le (by omega)] at hall
    simp (contextual := true) (implicitDefEqProofs := false) (maxSteps := 2000000) (disch := first | rfl | exact NB rfl | omega | (simp only [XL]; omega)) only [hlt', hm0, bin_ladd, str_cut, str_app, str_eq, string_mk_size, string_mk, XW, undef_eq, Nat.reduceAdd, Nat.reduceSub, ↓reduceIte, basic, cellsL, resOf, setAt, below, belowB, belowA, atomB, Nat.reduceLeDiff, Nat.reduceMul, Int.reduceToNat, Int.reduceLT, Int.reduceLE, Int.reduceAdd, Int.reduceNeg, Int.reduceEq, splice, Nat.reduceEqDiff, Nat.reduceLT, isAtom, Int.reduceSub, Int.reduceMul, implies_true]
    have hx : ext m m' := hmg
    by_cases h1 : (1 : Int) ≤ (b.length : Int)
    · rw [if_pos h1]
      by_cases h2 : (b.length : Int) ≤ 6
      · rw [if_pos h2]
        by_cases h3 : 0 ≤ s
        · rw [if_pos h3]
          refine ⟨hx, ?_⟩
          rw [rightC, hall, Bool.true_and]
          by_cases h4 : s ≤ 15
          · rw [decide_eq_true h4, decide_eq_true (by omega)]
          · rw [decide_eq_false h4, decide_eq_false (by omega)]
        · rw [if_neg h3, rightC, hall, decide_eq_false (by omega)]
          exact ⟨hx, rfl⟩
      · rw [if_neg h2, rightC, hall, decide_eq_false (by omega)]
        exact ⟨hx, rfl⟩
    · rw [if_neg h1, rightC, hall, decide_eq_false (by omega)]
      exact ⟨hx, rfl⟩
end Go.Proofs.YtijndljfpiomhaaDoor
/- The bytes of a right call, walked. -/
namespace Go.Proofs.YtijndljfpiomhaaDoor
open Go.Lg
set_option maxRecDepth 8000
set_option maxHeartbeats 8000000
theorem u8_of {n : Nat} (h : n < 256) : (UInt8.ofNat n).toNat = n := by rw [UInt8.toNat_ofNat']; omega
theorem wrap_u8n {n : Nat} (h : n < 256) : IntKind.u8.wrap (n : Int) = n := by
  have : ∀ n : Fin 256, IntKind.u8.wrap ((n.1 : Nat) : Int) = ((n.1 : Nat) : Int) := by decide +kernel
  exact this ⟨n, h⟩
def dbl (x : UInt8) : UInt8 := UInt8.ofNat (2 * x.toNat)
theorem let_le {x : UInt8} (h : letB x = true) : 48 ≤ x.toNat ∧ x.toNat ≤ 90 := by
  unfold letB at h
  have := of_decide_eq_true h
  omega
theorem dbl_nat {x : UInt8} (h : letB x = true) : (dbl x).toNat = 2 * x.toNat := by
  have := let_le h
  unfold dbl; rw [u8_of (by omega)]
def endN (n : Nat) (k l : Bool) : Nat := 96 + 2 * n + (if k then 128 else 0) + (if l then 1 else 0)
def enc6 (b : List UInt8) (i : Nat) : UInt8 := (b[i]?.map dbl).getD 64
def putC (b : List UInt8) (s : Int) (k l : Bool) : List UInt8 := (List.range 6).map (enc6 b) ++ [UInt8.ofNat (endN s.toNat k l)]
def part (b : List UInt8) (i : Nat) : List UInt8 := (List.range i).map (enc6 b) ++ List.replicate (7 - i) 0
theorem part_len {b : List UInt8} {i : Nat} (h : i ≤ 6) : (part b i).length = 7 := by simp [part]; omega
theorem part_set {b : List UInt8} {i : Nat} (h : i < 6) : (part b i).set i (enc6 b i) = part b (i + 1) := by
  unfold part
  rw [List.set_append_right _ _ (by simp), List.range_succ, List.map_append, List.append_assoc]
  simp only [List.length_map, List.length_range, Nat.sub_self]
  rw [show 7 - i = (7 - (i + 1)) + 1 by omega, List.replicate_succ]
  rfl
theorem part_end {b : List UInt8} {c : UInt8} : (part b 6).set 6 c = (List.range 6).map (enc6 b) ++ [c] := by
  unfold part
  rw [List.set_append_right _ _ (by simp)]
  rfl
theorem cells_set (l : List UInt8) (i : Nat) (c : UInt8) : (byteCells l).set i (.int .u8 ((c.toNat : Nat) : Int)) = byteCells (l.set i c) := by
  simp [byteCells, List.map_set]
theorem shl1 {x : UInt8} (h : letB x = true) : binV .shl (.int .u8 (x.toNat : Int)) (.int .u64 1) = some (.int .u8 ((dbl x).toNat : Int)) := by
  have := let_le h
  rw [bin_shl (by decide), dbl_nat h]
  have : IntKind.u8.wrap ((x.toNat : Int) * 2) = ((2 * x.toNat : Nat) : Int) := by
    rw [show (x.toNat : Int) * 2 = ((2 * x.toNat : Nat) : Int) by omega]
    exact wrap_u8n (by omega)
  exact congrArg (fun x => some (Value.int .u8 x)) this
theorem mul2 {x : UInt8} (h : letB x = true) : binV .mul (.int .u8 2) (.int .u8 (x.toNat : Int)) = some (.int .u8 ((dbl x).toNat : Int)) := by
  have := let_le h
  rw [bin_mul, dbl_nat h]
  have : IntKind.u8.wrap (2 * (x.toNat : Int)) = ((2 * x.toNat : Nat) : Int) := by
    rw [show 2 * (x.toNat : Int) = ((2 * x.toNat : Nat) : Int) by omega]
    exact wrap_u8n (by omega)
  exact congrArg (fun x => some (Value.int .u8 x)) this
theorem shl1n {n : Nat} (h : n < 16) : binV .shl (.int .u8 (n : Int)) (.int .u64 1) = some (.int .u8 ((2 * n : Nat) : Int)) := by
  rw [bin_shl (by decide)]
  have : IntKind.u8.wrap ((n : Int) * 2) = ((2 * n : Nat) : Int) := by
    rw [show (n : Int) * 2 = ((2 * n : Nat) : Int) by omega]
    exact wrap_u8n (by omega)
  exact congrArg (fun x => some (Value.int .u8 x)) this
theorem or_a (k : Bool) : binV .or (.int .u8 (if k then 128 else 0)) (.int .u8 96) = some (.int .u8 ((endN 0 k false : Nat) : Int)) := by
  rw [bin_or]
  cases k <;> rfl
theorem or_b (k : Bool) {n : Nat} (h : n < 16) : binV .or (.int .u8 ((endN 0 k false : Nat) : Int)) (.int .u8 ((2 * n : Nat) : Int)) = some (.int .u8 ((endN n k false : Nat) : Int)) := by
  have : ∀ k : Bool, ∀ n : Fin 16, IntKind.u8.wrap ((BitVec.ofInt IntKind.u8.bits ((endN 0 k false : Nat) : Int) ||| BitVec.ofInt IntKind.u8.bits ((2 * n.1 : Nat) : Int)).toNat : Int) = ((endN n.1 k false : Nat) : Int) := by decide +kernel
  rw [bin_or]
  exact congrArg (fun x => some (Value.int .u8 x)) (this k ⟨n, h⟩)
theorem or_c (k l : Bool) {n : Nat} (h : n < 16) : binV .or (.int .u8 ((endN n k false : Nat) : Int)) (.int .u8 (if l then 1 else 0)) = some (.int .u8 ((endN n k l : Nat) : Int)) := by
  have : ∀ k l : Bool, ∀ n : Fin 16, IntKind.u8.wrap ((BitVec.ofInt IntKind.u8.bits ((endN n.1 k false : Nat) : Int) ||| BitVec.ofInt IntKind.u8.bits (if l then 1 else 0)).toNat : Int) = ((endN n.1 k l : Nat) : Int) := by decide +kernel
  rw [bin_or]
  exact congrArg (fun x => some (Value.int .u8 x)) (this k l ⟨n, h⟩)
theorem endN_lt {n : Nat} {k l : Bool} (h : n < 16) : endN n k l < 256 := by
  unfold endN; split <;> split <;> omega
theorem sliceArr_all {P : Program} {len sz b o : Nat} {x : Operand} {t : List Value} {m : Mem} {K : Value → Mem → Prop} {blk : Blk} (hx : evL t x = .pointer (some ⟨b, o, none⟩)) (hm : m[b]? = some blk) (hk : blk.kind.isOwn = true ∧ blk.esz = 1 ∧ 1 ≤ sz ∧ o + len * sz ≤ blk.cells.length)
    (h : K (.slice (some ⟨b, o + 0 * sz, none⟩) (len - 0) (len - 0)) m) : LExec P (.sliceArr len sz x none none) (evL t) m K := by
  simp only [LExec, lrun, hx]
  exact ⟨len, rfl, 0, rfl, blk, hm, hk, h⟩
theorem bit_spec (on : Bool) (v : Int) (m : Mem) : Ret Tryd.prog 51 [.bool on, .int .u8 v] m (.int .u8 (if on then v else 0)) m := by
  refine LCall_drop (LCall_enter Tryd.func51 c51 ?_)
  cases on <;> simp (contextual := true) (implicitDefEqProofs := false) (maxSteps := 2000000) (disch := first | rfl | exact NB rfl | omega | (simp only [XL]; omega)) only [L51, XW, undef_eq, Nat.reduceAdd, Nat.reduceSub, ↓reduceIte, basic, cellsL, resOf, setAt, below, belowB, belowA, atomB, Nat.reduceLeDiff, Nat.reduceMul, Int.reduceToNat, Int.reduceLT, Int.reduceLE, Int.reduceAdd, Int.reduceNeg, Int.reduceEq, splice, Nat.reduceEqDiff, Nat.reduceLT, isAtom, Int.reduceSub, Int.reduceMul, implies_true]
theorem put_wrong (b : List UInt8) (s : Int) (k l : Bool) (hb : b.length ≤ 140737488355328) (h : rightC b s = false) (m : Mem) : Ret Tryd.prog 34 [cl b s, .bool k, .bool l] m (.tuple #[.string ⟨#[]⟩, .int .i64 12]) m := by
  refine LCall_drop (LCall_enter Tryd.func34 c34 ?_)
  simp (contextual := true) (implicitDefEqProofs := false) (maxSteps := 2000000) (disch := first | rfl | exact NB rfl | omega | (simp only [XL]; omega)) only [L34, bin_ladd, str_cut, str_app, str_eq, string_mk_size, string_mk, XW, undef_eq, Nat.reduceAdd, Nat.reduceSub, ↓reduceIte, basic, cellsL, resOf, setAt, below, belowB, belowA, atomB, Nat.reduceLeDiff, Nat.reduceMul, Int.reduceToNat, Int.reduceLT, Int.reduceLE, Int.reduceAdd, Int.reduceNeg, Int.reduceEq, splice, Nat.reduceEqDiff, Nat.reduceLT, isAtom, Int.reduceSub, Int.reduceMul, implies_true]
  refine (right_spec b s hb _).use ?_
  rw [h]
  simp (contextual := true) (implicitDefEqProofs := false) (maxSteps := 2000000) (disch := first | rfl | exact NB rfl | omega | (simp only [XL]; omega)) only [XW, undef_eq, Nat.reduceAdd, Nat.reduceSub, ↓reduceIte, basic, cellsL, resOf, setAt, below, belowB, belowA, atomB, Nat.reduceLeDiff, Nat.reduceMul, Int.reduceToNat, Int.reduceLT, Int.reduceLE, Int.reduceAdd, Int.reduceNeg, Int.reduceEq, splice, Nat.reduceEqDiff, Nat.reduceLT, isAtom, Int.reduceSub, Int.reduceMul, implies_true]
theorem right_le {b : List UInt8} {s : Int} (h : rightC b s = true) : b.all letB = true ∧ (1 ≤ b.length ∧ b.length ≤ 6) ∧ 0 ≤ s ∧ s ≤ 15 := by
  unfold rightC at h
  rw [Bool.and_eq_true] at h
  exact ⟨h.1, of_decide_eq_true h.2⟩
theorem put_spec (b : List UInt8) (s : Int) (k l : Bool) (h : rightC b s = true) (m : Mem) : Ret Tryd.prog 34 [cl b s, .bool k, .bool l] m (.tuple #[str (putC b s k l), .int .i64 0]) m := by
  obtain ⟨hall, hb, hs⟩ := right_le h
  refine LCall_drop (LCall_enter Tryd.func34 c34 ?_)
  simp (contextual := true) (implicitDefEqProofs := false) (maxSteps := 2000000) (disch := first | rfl | exact NB rfl | omega | (simp only [XL]; omega)) only [L34, bin_ladd, str_cut, str_app, str_eq, string_mk_size, string_mk, XW, undef_eq, Nat.reduceAdd, Nat.reduceSub, ↓reduceIte, basic, cellsL, resOf, setAt, below, belowB, belowA, atomB, Nat.reduceLeDiff, Nat.reduceMul, Int.reduceToNat, Int.reduceLT, Int.reduceLE, Int.reduceAdd, Int.reduceNeg, Int.reduceEq, splice, Nat.reduceEqDiff, Nat.reduceLT, isAtom, Int.reduceSub, Int.reduceMul, implies_true]
  refine (right_spec b s (by omega) _).use ?_
  rw [h]
  simp (contextual := true) (implicitDefEqProofs := false) (maxSteps := 2000000) (disch := first | rfl | exact NB rfl | omega | (simp only [XL]; omega)) only [XW, undef_eq, Nat.reduceAdd, Nat.reduceSub, ↓reduceIte, basic, cellsL, resOf, setAt, below, belowB, belowA, atomB, Nat.reduceLeDiff, Nat.reduceMul, Int.reduceToNat, Int.reduceLT, Int.reduceLE, Int.reduceAdd, Int.reduceNeg, Int.reduceEq, splice, Nat.reduceEqDiff, Nat.reduceLT, isAtom, Int.reduceSub, Int.reduceMul, implies_true]
  obtain ⟨n, rfl⟩ : ∃ n : Nat, s = (n : Int) := ⟨s.toNat, by omega⟩
  have hn : n < 16 := by omega
  obtain ⟨M0, hM, hm0, hm1⟩ : ∃ M0, m ++ [⟨[str b, .int .i64 (n : Int)], 27, 1, 0, .own⟩, ⟨[.int .u8 0, .int .u8 0, .int .u8 0, .int .u8 0, .int .u8 0, .int .u8 0, .int .u8 0], 100, 1, 0, .own⟩] = M0 ∧ M0[m.length]? = some ⟨[str b, .int .i64 (n : Int)], 27, 1, 0, .own⟩ ∧ M0[m.length + 1]? = some ⟨byteCells (part b 0), 100, 1, 0, .own⟩ := ⟨_, rfl, by simp, by rw [List.getElem?_append_right (by omega)]; simp; rfl⟩
  rw [hM]
  have hf0 : Frm [] m M0 := by rw [← hM]; exact Frm.refl.app
  clear hM
  refine loop_inv (fun n t M => ∃ (i : Nat), n = 6 - i ∧ i ≤ 6 ∧ Frm [m.length + 1] M0 M ∧ M[m.length + 1]? = some ⟨byteCells (part b i), 100, 1, 0, .own⟩ ∧
    Tab 45 [(1, .bool k), (2, .bool l), (3, .pointer (some ⟨m.length, 0, none⟩)), (8, .pointer (some ⟨m.length + 1, 0, none⟩)), (13, .int .i64 (i : Int))] t) (n := 6) ?_ ?_
  · exact ⟨0, rfl, Nat.zero_le _, Frm.refl, hm1, ⟨rfl, by simp⟩⟩
  rintro N t M ⟨i, rfl, hi, hf, hb1, ht⟩
  obtain ⟨f, rfl⟩ : ∃ f' : Nat → Value, t = [f' 0, .bool k, .bool l, .pointer (some ⟨m.length, 0, none⟩), f' 4, f' 5, f' 6, f' 7, .pointer (some ⟨m.length + 1, 0, none⟩), f' 9, f' 10, f' 11, f' 12, .int .i64 (i : Int), f' 14, f' 15, f' 16, f' 17, f' 18, f' 19, f' 20, f' 21, f' 22, f' 23, f' 24, f' 25, f' 26, f' 27, f' 28, f' 29, f' 30, f' 31, f' 32, f' 33, f' 34, f' 35, f' 36, f' 37, f' 38, f' 39, f' 40, f' 41, f' 42, f' 43, f' 44] := ht.open fun f' => rfl
  have hb0 := hf.get hm0 (by simp)
  have l0 := lt_of_some hb0
  have l1 := lt_of_some hb1
  have hne : m.length + 1 ≠ m.length := by omega
  have hpl := byteCells_len (part b i)
  rw [part_len hi] at hpl
  by_cases hlt : i < 6
  · have hlt' : ((i : Int) < 6) = True := by simp; omega
    have h0' : ((0 : Int) ≤ (i : Int)) = True := by simp
    have hile : (i ≤ 6) = True := eq_true hi
    have h7' : ((i : Int) < 7) = True := eq_true (by omega)
    have hwi : IntKind.i64.wrap ((i : Int) + 1) = ((i + 1 : Nat) : Int) := by rw [wrap_i64 (by omega) (by omega)]; omega
    have hb2 : ∀ B : Blk, (M.set (m.length + 1) B)[m.length]? = some ⟨[str b, .int .i64 (n : Int)], 27, 1, 0, .own⟩ := fun B => by rw [List.getElem?_set_ne hne]; exact hb0
    have hb3 : ∀ B : Blk, (M.set (m.length + 1) B)[m.length + 1]? = some B := fun B => by rw [List.getElem?_set_self l1]
    have h64 : (byteCells (part b i)).set i (.int .u8 64) = byteCells ((part b i).set i 64) := cells_set (part b i) i 64
    have hsl : (byteCells ((part b i).set i 64)).length = 7 := by rw [byteCells_len, List.length_set, part_len hi]
    by_cases hbi : i < b.length
    · have hbi' : ((i : Int) < (b.length : Int)) = True := eq_true (by omega)
      obtain ⟨c, hc⟩ : ∃ r, b[i]? = some r := ⟨b[i], List.getElem?_eq_getElem hbi⟩
      have hlc : letB c = true := List.all_eq_true.mp hall c (List.mem_of_getElem? hc)
      have he : enc6 b i = dbl c := by simp [enc6, hc]
      simp (contextual := true) (implicitDefEqProofs := false) (maxSteps := 2000000) (disch := first | rfl | exact NB rfl | omega | (simp only [XL]; omega)) only [hile, hlt', h0', h7', hb0, hb1, hb2, hb3, hpl, h64, hsl, hbi', hc, shl1 hlc, bin_ladd, str_cut, str_app, str_eq, string_mk_size, string_mk, cells_set, List.set_set, Int.toNat_natCast, XX, XA, bin_add, bin_sub, bin_mul, bin_quo, bin_rem, bin_and, bin_or, bin_xor, bin_andNot, bin_eql, bin_neq, bin_lss, bin_leq, bin_gtr, bin_geq, bin_shr, bin_sadd, bin_seql, bin_sneq, lc_block, lc_cond, XZ, undef_eq, Nat.reduceAdd, Nat.reduceSub, ↓reduceIte, basic, cellsL, resOf, setAt, below, belowB, belowA, atomB, Nat.reduceLeDiff, Nat.reduceMul, Int.reduceToNat, Int.reduceLT, Int.reduceLE, Int.reduceAdd, Int.reduceNeg, Int.reduceEq, splice, Nat.reduceEqDiff, Nat.reduceLT, isAtom, Int.reduceSub, Int.reduceMul, implies_true]
      rw [← he, part_set hlt]
      exact kInv_go ⟨i + 1, rfl, by omega, hf.set (by simp), by rw [List.getElem?_set_self l1], ⟨rfl, by simp [hwi]⟩⟩ (by omega)
    · have hbi' : ((i : Int) < (b.length : Int)) = False := eq_false (by omega)
      have he : enc6 b i = 64 := by simp [enc6, List.getElem?_eq_none (by omega : b.length ≤ i)]
      simp (contextual := true) (implicitDefEqProofs := false) (maxSteps := 2000000) (disch := first | rfl | exact NB rfl | omega | (simp only [XL]; omega)) only [hile, hlt', h0', h7', hb0, hb1, hb2, hb3, hpl, h64, hsl, hbi', bin_ladd, str_cut, str_app, str_eq, string_mk_size, string_mk, cells_set, List.set_set, Int.toNat_natCast, XX, XA, bin_add, bin_sub, bin_mul, bin_quo, bin_rem, bin_and, bin_or, bin_xor, bin_andNot, bin_eql, bin_neq, bin_lss, bin_leq, bin_gtr, bin_geq, bin_shr, bin_sadd, bin_seql, bin_sneq, lc_block, lc_cond, XZ, undef_eq, Nat.reduceAdd, Nat.reduceSub, ↓reduceIte, basic, cellsL, resOf, setAt, below, belowB, belowA, atomB, Nat.reduceLeDiff, Nat.reduceMul, Int.reduceToNat, Int.reduceLT, Int.reduceLE, Int.reduceAdd, Int.reduceNeg, Int.reduceEq, splice, Nat.reduceEqDiff, Nat.reduceLT, isAtom, Int.reduceSub, Int.reduceMul, implies_true]
      rw [← he, part_set hlt]
      exact kInv_go ⟨i + 1, rfl, by omega, hf.set (by simp), by rw [List.getElem?_set_self l1], ⟨rfl, by simp [hwi]⟩⟩ (by omega)
  · have hi6 : i = 6 := by omega
    subst hi6
    have hwn := wrap_u8n (n := n) (by omega)
    have hend : ((UInt8.ofNat (endN n k l)).toNat : Int) = ((endN n k l : Nat) : Int) := by rw [u8_of (endN_lt hn)]
    have hset : (byteCells (part b 6)).set 6 (.int .u8 ((endN n k l : Nat) : Int)) = byteCells (putC b n k l) := by
      rw [← hend, cells_set, part_end]; rfl
    have hsl : (byteCells (putC b n k l)).length = 7 := by rw [byteCells_len]; simp [putC]
    have hbl := bytesL_cells (putC b n k l)
    have hb3 : ∀ B : Blk, (M.set (m.length + 1) B)[m.length + 1]? = some B := fun B => by rw [List.getElem?_set_self l1]
    simp (contextual := true) (implicitDefEqProofs := false) (maxSteps := 2000000) (disch := first | rfl | exact NB rfl | omega | (simp only [XL]; omega)) only [hb0, hb1, hwn, shl1n hn, XX, XA, bin_add, bin_sub, bin_mul, bin_quo, bin_rem, bin_and, bin_xor, bin_andNot, bin_eql, bin_neq, bin_lss, bin_leq, bin_gtr, bin_geq, bin_shr, bin_sadd, bin_seql, bin_sneq, lc_block, lc_cond, XZ, undef_eq, Nat.reduceAdd, Nat.reduceSub, ↓reduceIte, basic, cellsL, resOf, setAt, below, belowB, belowA, atomB, Nat.reduceLeDiff, Nat.reduceMul, Int.reduceToNat, Int.reduceLT, Int.reduceLE, Int.reduceAdd, Int.reduceNeg, Int.reduceEq, splice, Nat.reduceEqDiff, Nat.reduceLT, isAtom, Int.reduceSub, Int.reduceMul, implies_true]
    refine (bit_spec k 128 _).use ?_
    simp (contextual := true) (implicitDefEqProofs := false) (maxSteps := 2000000) (disch := first | rfl | exact NB rfl | omega | (simp only [XL]; omega)) only [hb0, hb1, hwn, shl1n hn, or_a k, or_b k hn, XX, XA, bin_add, bin_sub, bin_mul, bin_quo, bin_rem, bin_and, bin_xor, bin_andNot, bin_eql, bin_neq, bin_lss, bin_leq, bin_gtr, bin_geq, bin_shr, bin_sadd, bin_seql, bin_sneq, lc_block, lc_cond, XZ, undef_eq, Nat.reduceAdd, Nat.reduceSub, ↓reduceIte, basic, cellsL, resOf, setAt, below, belowB, belowA, atomB, Nat.reduceLeDiff, Nat.reduceMul, Int.reduceToNat, Int.reduceLT, Int.reduceLE, Int.reduceAdd, Int.reduceNeg, Int.reduceEq, splice, Nat.reduceEqDiff, Nat.reduceLT, isAtom, Int.reduceSub, Int.reduceMul, implies_true]
    refine (bit_spec l 1 _).use ?_
    simp (contextual := true) (implicitDefEqProofs := false) (maxSteps := 2000000) (disch := first | rfl | exact NB rfl | omega | (simp only [XL]; omega)) only [hb0, hb1, hwn, shl1n hn, or_a k, or_b k hn, or_c k l hn, hpl, hset, hb3, hsl, hbl, XX, XA, bin_add, bin_sub, bin_mul, bin_quo, bin_rem, bin_and, bin_xor, bin_andNot, bin_eql, bin_neq, bin_lss, bin_leq, bin_gtr, bin_geq, bin_shr, bin_sadd, bin_seql, bin_sneq, lc_block, lc_cond, XZ, undef_eq, Nat.reduceAdd, Nat.reduceSub, ↓reduceIte, basic, cellsL, resOf, setAt, below, belowB, belowA, atomB, Nat.reduceLeDiff, Nat.reduceMul, Int.reduceToNat, Int.reduceLT, Int.reduceLE, Int.reduceAdd, Int.reduceNeg, Int.reduceEq, splice, Nat.reduceEqDiff, Nat.reduceLT, isAtom, Int.reduceSub, Int.reduceMul, implies_true]
    refine sliceArr_all rfl (hb3 _) ⟨rfl, rfl, by decide, by simp only [hsl]; decide⟩ ?_
    have hfin : ext m (M.set (m.length + 1) ⟨byteCells (putC b n k l), 100, 1, 0, .own⟩) := (hf0.trans (hf.set (by simp)) fun x hx => .inr (by simp at hx; omega)).ext (by simp)
    have htk : (byteCells (putC b n k l)).take 7 = byteCells (putC b n k l) := List.take_of_length_le (by omega)
    simp (contextual := true) (implicitDefEqProofs := false) (maxSteps := 2000000) (disch := first | rfl | exact NB rfl | omega | (simp only [XL]; omega)) only [hb3, hsl, hbl, htk, XW, undef_eq, Nat.reduceAdd, Nat.reduceSub, ↓reduceIte, basic, cellsL, resOf, setAt, below, belowB, belowA, atomB, Nat.reduceLeDiff, Nat.reduceMul, Int.reduceToNat, Int.reduceLT, Int.reduceLE, Int.reduceAdd, Int.reduceNeg, Int.reduceEq, splice, Nat.reduceEqDiff, Nat.reduceLT, isAtom, Int.reduceSub, Int.reduceMul, implies_true]
    exact hfin
end Go.Proofs.YtijndljfpiomhaaDoor
/- The bytes of a right call, by the document: walked. -/
namespace Go.Proofs.YtijndljfpiomhaaDoor
open Go.Lg
set_option maxRecDepth 8000
set_option maxHeartbeats 8000000
def rp (b : List UInt8) (j : Nat) (c : UInt8) : List UInt8 := (List.range 6).map (fun i => if i < j then enc6 b i else 64) ++ [c]
theorem rp_len {b : List UInt8} {j : Nat} {c : UInt8} : (rp b j c).length = 7 := by simp [rp]
theorem rp_set {b : List UInt8} {j : Nat} {c : UInt8} (h : j < 6) : (rp b j c).set j (enc6 b j) = rp b (j + 1) c := by
  match j, h with
  | 0, _ => rfl
  | 1, _ => rfl
  | 2, _ => rfl
  | 3, _ => rfl
  | 4, _ => rfl
  | 5, _ => rfl
theorem rp_end {b : List UInt8} {j : Nat} {c d : UInt8} : (rp b j c).set 6 d = rp b j d := rfl
theorem rp_all {b : List UInt8} {c : UInt8} : rp b b.length c = (List.range 6).map (enc6 b) ++ [c] := by
  unfold rp
  congr 1
  apply List.map_congr_left
  intro i _
  split
  · rfl
  · rename_i h
    simp [enc6, List.getElem?_eq_none (by omega : b.length ≤ i)]
theorem rp_get {b : List UInt8} {j : Nat} {c : UInt8} : (rp b j c)[6]? = some c := rfl
theorem add_k {n : Nat} (h : n < 16) : binV .add (.int .u8 ((endN n false false : Nat) : Int)) (.int .u8 128) = some (.int .u8 ((endN n true false : Nat) : Int)) := by
  have : ∀ n : Fin 16, IntKind.u8.wrap (((endN n.1 false false : Nat) : Int) + 128) = ((endN n.1 true false : Nat) : Int) := by decide +kernel
  rw [bin_add]
  exact congrArg (fun x => some (Value.int .u8 x)) (this ⟨n, h⟩)
theorem add_l (k : Bool) {n : Nat} (h : n < 16) : binV .add (.int .u8 ((endN n k false : Nat) : Int)) (.int .u8 1) = some (.int .u8 ((endN n k true : Nat) : Int)) := by
  have : ∀ k : Bool, ∀ n : Fin 16, IntKind.u8.wrap (((endN n.1 k false : Nat) : Int) + 1) = ((endN n.1 k true : Nat) : Int) := by decide +kernel
  rw [bin_add]
  exact congrArg (fun x => some (Value.int .u8 x)) (this k ⟨n, h⟩)
end Go.Proofs.YtijndljfpiomhaaDoor
/- Lists of digipeaters: read, searched; right paths: walked. -/
namespace Go.Proofs.YtijndljfpiomhaaDoor
open Go.Lg
set_option maxRecDepth 8000
set_option maxHeartbeats 8000000
def Rd (m : Mem) (sz : Nat) (v : Value) (rows : List (List Value)) : Prop :=
  ∃ a, v = .slice a rows.length rows.length ∧ (0 < rows.length → ∃ b o cs T fz k, a = some ⟨b, o, none⟩ ∧ m[b]? = some ⟨cs, T, sz, fz, k⟩ ∧ k.live = true ∧ o + rows.length * sz ≤ cs.length ∧ (∀ i r, rows[i]? = some r → (cs.drop (o + i * sz)).take sz = r))
theorem Rd.frm0 {m m' : Mem} {sz : Nat} {v : Value} {rows : List (List Value)} (h : Rd m sz v rows) (k : Frm [] m m') : Rd m' sz v rows := by
  obtain ⟨a, rfl, h⟩ := h
  refine ⟨a, rfl, fun hp => ?_⟩
  obtain ⟨b, o, cs, T, fz, kd, rfl, h1, h2⟩ := h hp
  exact ⟨b, o, cs, T, fz, kd, rfl, k.get0 h1, h2⟩
theorem Rd.app {m g : Mem} {sz : Nat} {v : Value} {rows : List (List Value)} (h : Rd m sz v rows) : Rd (m ++ g) sz v rows := h.frm0 Frm.refl.app
theorem Sl.rd {m : Mem} {T sz : Nat} {v : Value} {F : List Nat} {rows : List (List Value)} (h : Sl m T sz v F rows) : Rd m sz v rows := by
  obtain ⟨a, rfl, hf⟩ := h.form
  refine ⟨a, rfl, fun hp => ?_⟩
  obtain ⟨b, o, cs, rfl, _, hb, hl, _, hr⟩ := hf hp
  exact ⟨b, o, cs, T, 0, .own, rfl, hb, rfl, hl, fun i r hi => hr i r hi⟩
theorem cellsB_l {cs : List Value} {T z f o n : Nat} {k : Kind} (hk : k.live = true) (h : o + n ≤ cs.length) : cellsB (some ⟨cs, T, z, f, k⟩) o n = some ((cs.drop o).take n) := by
  simp [cellsB, hk, h]
theorem cellB_l {cs : List Value} {T z f o : Nat} {k : Kind} (hk : k.live = true) : cellB (some ⟨cs, T, z, f, k⟩) o = cs[o]? := by
  simp [cellB, hk]
structure En where
  b : List UInt8
  s : Int
  k : Bool
def En.row (e : En) : List Value := [str e.b, .int .i64 e.s, .bool e.k]
def En.ok (e : En) : Bool := rightC e.b e.s
def idxF (p : En → Bool) : List En → Nat → Int
  | [], _ => -1
  | e :: l, i => if p e then i else idxF p l (i + 1)
theorem idxF_any {p : En → Bool} : ∀ {l : List En} {i : Nat}, decide (0 ≤ idxF p l i) = l.any p
  | [], _ => rfl
  | e :: l, i => by
    rw [idxF, List.any_cons]
    by_cases h : p e = true
    · rw [if_pos h, h]; simp
    · rw [if_neg h, idxF_any]; simp [h]
theorem index_spec {q : Nat} (hq : callable Tryd.prog q = true) {p : En → Bool} {l : List En} (hp : ∀ e ∈ l, ∀ m, Ret Tryd.prog q [.agg #[str e.b, .int .i64 e.s, .bool e.k]] m (.bool (p e)) m) {v : Value} {m : Mem} (h : Rd m 3 v (l.map En.row)) (hn : l.length ≤ 1000000) :
    Ret Tryd.prog 45 [v, .func (.func q) #[] #[]] m (.int .i64 (idxF p l 0)) m := by
  obtain ⟨a, rfl, hform⟩ := h
  simp only [List.length_map] at hform ⊢
  refine LCall_drop (LCall_enter Tryd.func45 c45 ?_)
  simp (contextual := true) (implicitDefEqProofs := false) (maxSteps := 2000000) (disch := first | rfl | exact NB rfl | omega | (simp only [XL]; omega)) only [L45, XW, undef_eq, Nat.reduceAdd, Nat.reduceSub, ↓reduceIte, basic, cellsL, resOf, setAt, below, belowB, belowA, atomB, Nat.reduceLeDiff, Nat.reduceMul, Int.reduceToNat, Int.reduceLT, Int.reduceLE, Int.reduceAdd, Int.reduceNeg, Int.reduceEq, splice, Nat.reduceEqDiff, Nat.reduceLT, isAtom, Int.reduceSub, Int.reduceMul, implies_true]
  refine loop_inv (fun n t M => ∃ (j : Nat), n = l.length - j ∧ j ≤ l.length ∧ idxF p l 0 = idxF p (l.drop j) j ∧ M = m ∧
    Tab 19 [(0, .slice a l.length l.length), (1, .func (.func q) #[] #[]), (7, .int .i64 (l.length : Int)), (8, .int .i64 (j : Int))] t) (n := l.length) ?_ ?_
  · exact ⟨0, rfl, Nat.zero_le _, rfl, rfl, ⟨rfl, by simp⟩⟩
  rintro N t m ⟨j, rfl, hj, hx, rfl, ht⟩
  obtain ⟨f, rfl⟩ : ∃ f' : Nat → Value, t = [.slice a l.length l.length, .func (.func q) #[] #[], f' 2, f' 3, f' 4, f' 5, f' 6, .int .i64 (l.length : Int), .int .i64 (j : Int), f' 9, f' 10, f' 11, f' 12, f' 13, f' 14, f' 15, f' 16, f' 17, f' 18] := ht.open fun f' => rfl
  by_cases hlt : j < l.length
  · have hlt' : ((j : Int) < (l.length : Int)) = True := by simp [hlt]
    have h0' : ((0 : Int) ≤ (j : Int)) = True := by simp
    have hwj : IntKind.i64.wrap ((j : Int) + 1) = ((j + 1 : Nat) : Int) := by rw [wrap_i64 (by omega) (by omega)]; omega
    obtain ⟨b, o, cs, T, fz, kd, rfl, hb, hk, hl, hrow⟩ := hform (by omega)
    obtain ⟨e, he⟩ : ∃ r, l[j]? = some r := ⟨l[j], List.getElem?_eq_getElem hlt⟩
    have hd : l.drop j = e :: l.drop (j + 1) := by
      rw [List.drop_eq_getElem_cons hlt, (List.getElem?_eq_some_iff.mp he).2]
    have hr : (cs.drop (o + j * 3)).take 3 = [str e.b, .int .i64 e.s, .bool e.k] := hrow j e.row (by simp [he])
    have hlen : o + j * 3 + 3 ≤ cs.length := by omega
    have hb0 := lt_of_some hb
    simp (contextual := true) (implicitDefEqProofs := false) (maxSteps := 2000000) (disch := first | rfl | exact NB rfl | omega | (simp only [XL]; omega)) only [hb, hlt', h0', hr, cellsB_l hk hlen, Int.toNat_natCast, XW, undef_eq, Nat.reduceAdd, Nat.reduceSub, ↓reduceIte, basic, cellsL, resOf, setAt, below, belowB, belowA, atomB, Nat.reduceLeDiff, Nat.reduceMul, Int.reduceToNat, Int.reduceLT, Int.reduceLE, Int.reduceAdd, Int.reduceNeg, Int.reduceEq, splice, Nat.reduceEqDiff, Nat.reduceLT, isAtom, Int.reduceSub, Int.reduceMul, implies_true]
    refine ⟨hq, (hp e (List.mem_of_getElem? he) _).use ?_⟩
    rw [hx, hd, idxF]
    cases hpe : p e with
    | true => simp (contextual := true) (implicitDefEqProofs := false) (maxSteps := 2000000) (disch := first | rfl | exact NB rfl | omega | (simp only [XL]; omega)) only [XW, undef_eq, Nat.reduceAdd, Nat.reduceSub, ↓reduceIte, basic, cellsL, resOf, setAt, below, belowB, belowA, atomB, Nat.reduceLeDiff, Nat.reduceMul, Int.reduceToNat, Int.reduceLT, Int.reduceLE, Int.reduceAdd, Int.reduceNeg, Int.reduceEq, splice, Nat.reduceEqDiff, Nat.reduceLT, isAtom, Int.reduceSub, Int.reduceMul, implies_true]
    | false =>
      simp (contextual := true) (implicitDefEqProofs := false) (maxSteps := 2000000) (disch := first | rfl | exact NB rfl | omega | (simp only [XL]; omega)) only [XW, undef_eq, Nat.reduceAdd, Nat.reduceSub, ↓reduceIte, basic, cellsL, resOf, setAt, below, belowB, belowA, atomB, Nat.reduceLeDiff, Nat.reduceMul, Int.reduceToNat, Int.reduceLT, Int.reduceLE, Int.reduceAdd, Int.reduceNeg, Int.reduceEq, splice, Nat.reduceEqDiff, Nat.reduceLT, isAtom, Int.reduceSub, Int.reduceMul, implies_true]
      exact kInv_go ⟨j + 1, rfl, by omega, by first | rfl | (rw [hx, hd, idxF, hpe]; rfl), rfl, ⟨rfl, by simp [hwj]⟩⟩ (by omega)
  · have hlt' : ((j : Int) < (l.length : Int)) = False := by simp; omega
    rw [hx, List.drop_of_length_le (by omega)]
    simp (contextual := true) (implicitDefEqProofs := false) (maxSteps := 2000000) (disch := first | rfl | exact NB rfl | omega | (simp only [XL]; omega)) only [hlt', idxF, XW, undef_eq, Nat.reduceAdd, Nat.reduceSub, ↓reduceIte, basic, cellsL, resOf, setAt, below, belowB, belowA, atomB, Nat.reduceLeDiff, Nat.reduceMul, Int.reduceToNat, Int.reduceLT, Int.reduceLE, Int.reduceAdd, Int.reduceNeg, Int.reduceEq, splice, Nat.reduceEqDiff, Nat.reduceLT, isAtom, Int.reduceSub, Int.reduceMul, implies_true]
theorem wrongE_spec (e : En) (hb : e.b.length ≤ 140737488355328) (m : Mem) : Ret Tryd.prog 27 [.agg #[str e.b, .int .i64 e.s, .bool e.k]] m (.bool (!e.ok)) m := by
  refine LCall_drop (LCall_enter Tryd.func27 c27 ?_)
  simp (contextual := true) (implicitDefEqProofs := false) (maxSteps := 2000000) (disch := first | rfl | exact NB rfl | omega | (simp only [XL]; omega)) only [L27, XW, undef_eq, Nat.reduceAdd, Nat.reduceSub, ↓reduceIte, basic, cellsL, resOf, setAt, below, belowB, belowA, atomB, Nat.reduceLeDiff, Nat.reduceMul, Int.reduceToNat, Int.reduceLT, Int.reduceLE, Int.reduceAdd, Int.reduceNeg, Int.reduceEq, splice, Nat.reduceEqDiff, Nat.reduceLT, isAtom, Int.reduceSub, Int.reduceMul, implies_true]
  refine (right_spec e.b e.s hb _).use ?_
  simp (contextual := true) (implicitDefEqProofs := false) (maxSteps := 2000000) (disch := first | rfl | exact NB rfl | omega | (simp only [XL]; omega)) only [En.ok, XW, undef_eq, Nat.reduceAdd, Nat.reduceSub, ↓reduceIte, basic, cellsL, resOf, setAt, below, belowB, belowA, atomB, Nat.reduceLeDiff, Nat.reduceMul, Int.reduceToNat, Int.reduceLT, Int.reduceLE, Int.reduceAdd, Int.reduceNeg, Int.reduceEq, splice, Nat.reduceEqDiff, Nat.reduceLT, isAtom, Int.reduceSub, Int.reduceMul, implies_true]
theorem anywrong_spec {l : List En} (hb : ∀ e ∈ l, e.b.length ≤ 140737488355328) {v : Value} {m : Mem} (h : Rd m 3 v (l.map En.row)) (hn : l.length ≤ 1000000) : Ret Tryd.prog 29 [v, .func (.func 27) #[] #[]] m (.bool (l.any fun e => !e.ok)) m := by
  have h0 := h
  obtain ⟨a, rfl, hform⟩ := h
  refine LCall_drop (LCall_enter Tryd.func29 c29 ?_)
  simp (contextual := true) (implicitDefEqProofs := false) (maxSteps := 2000000) (disch := first | rfl | exact NB rfl | omega | (simp only [XL]; omega)) only [L29, XW, undef_eq, Nat.reduceAdd, Nat.reduceSub, ↓reduceIte, basic, cellsL, resOf, setAt, below, belowB, belowA, atomB, Nat.reduceLeDiff, Nat.reduceMul, Int.reduceToNat, Int.reduceLT, Int.reduceLE, Int.reduceAdd, Int.reduceNeg, Int.reduceEq, splice, Nat.reduceEqDiff, Nat.reduceLT, isAtom, Int.reduceSub, Int.reduceMul, implies_true]
  refine (index_spec (by kernel_rfl) (fun e he m => wrongE_spec e (hb e he) m) h0 hn).use ?_
  simp (contextual := true) (implicitDefEqProofs := false) (maxSteps := 2000000) (disch := first | rfl | exact NB rfl | omega | (simp only [XL]; omega)) only [idxF_any, XW, undef_eq, Nat.reduceAdd, Nat.reduceSub, ↓reduceIte, basic, cellsL, resOf, setAt, below, belowB, belowA, atomB, Nat.reduceLeDiff, Nat.reduceMul, Int.reduceToNat, Int.reduceLT, Int.reduceLE, Int.reduceAdd, Int.reduceNeg, Int.reduceEq, splice, Nat.reduceEqDiff, Nat.reduceLT, isAtom, Int.reduceSub, Int.reduceMul, implies_true]
def kAtE (l : List En) (i : Nat) : Bool := (l[i]?.map (·.k)).getD false
def ordTo (l : List En) (j : Nat) : Bool := (List.range j).all fun i => decide (i = 0) || !kAtE l i || kAtE l (i - 1)
def ordB (l : List En) : Bool := ordTo l l.length
theorem ordTo_succ {l : List En} {j : Nat} : ordTo l (j + 1) = (ordTo l j && (decide (j = 0) || !kAtE l j || kAtE l (j - 1))) := by
  unfold ordTo; rw [List.range_succ, List.all_append]; simp
theorem ordTo_le {l : List En} {j : Nat} : ∀ {n : Nat}, j ≤ n → ordTo l j = false → ordTo l n = false := by
  intro n hn h
  induction n with
  | zero => rw [← h]; congr 1; omega
  | succ n ih =>
    by_cases e : j = n + 1
    · rw [← e]; exact h
    · rw [ordTo_succ, ih (by omega)]; rfl
theorem ordered_spec {l : List En} {v : Value} {m : Mem} (h : Rd m 3 v (l.map En.row)) (hn : l.length ≤ 1000000) : Ret Tryd.prog 30 [v] m (.bool (ordB l && decide (l.length ≤ 8))) m := by
  obtain ⟨a, rfl, hform⟩ := h
  simp only [List.length_map] at hform ⊢
  refine LCall_drop (LCall_enter Tryd.func30 c30 ?_)
  simp (contextual := true) (implicitDefEqProofs := false) (maxSteps := 2000000) (disch := first | rfl | exact NB rfl | omega | (simp only [XL]; omega)) only [L30, XW, undef_eq, Nat.reduceAdd, Nat.reduceSub, ↓reduceIte, basic, cellsL, resOf, setAt, below, belowB, belowA, atomB, Nat.reduceLeDiff, Nat.reduceMul, Int.reduceToNat, Int.reduceLT, Int.reduceLE, Int.reduceAdd, Int.reduceNeg, Int.reduceEq, splice, Nat.reduceEqDiff, Nat.reduceLT, isAtom, Int.reduceSub, Int.reduceMul, implies_true]
  refine loop_inv (fun n t M => ∃ (j : Nat), n = l.length - j ∧ j ≤ l.length ∧ ordTo l j = true ∧ Frm [] m M ∧
    Tab 31 [(0, .slice a l.length l.length), (5, .slice a l.length l.length), (6, .int .i64 (l.length : Int)), (7, .int .i64 (j : Int))] t) (n := l.length) ?_ ?_
  · exact ⟨0, rfl, Nat.zero_le _, rfl, Frm.refl, ⟨rfl, by simp⟩⟩
  rintro N t M ⟨j, rfl, hj, hx, hf, ht⟩
  obtain ⟨f, rfl⟩ : ∃ f' : Nat → Value, t = [.slice a l.length l.length, f' 1, f' 2, f' 3, f' 4, .slice a l.length l.length, .int .i64 (l.length : Int), .int .i64 (j : Int), f' 8, f' 9, f' 10, f' 11, f' 12, f' 13, f' 14, f' 15, f' 16, f' 17, f' 18, f' 19, f' 20, f' 21, f' 22, f' 23, f' 24, f' 25, f' 26, f' 27, f' 28, f' 29, f' 30] := ht.open fun f' => rfl
  have hext : ext m M := hf.ext (by simp)
  by_cases hlt : j < l.length
  · have hlt' : ((j : Int) < (l.length : Int)) = True := by simp [hlt]
    have h0' : ((0 : Int) ≤ (j : Int)) = True := by simp
    have hwj : IntKind.i64.wrap ((j : Int) + 1) = ((j + 1 : Nat) : Int) := by rw [wrap_i64 (by omega) (by omega)]; omega
    obtain ⟨b, o, cs, T, fz, kd, rfl, hb, hk, hl, hrow⟩ := hform (by omega)
    obtain ⟨e, he⟩ : ∃ r, l[j]? = some r := ⟨l[j], List.getElem?_eq_getElem hlt⟩
    have hr : (cs.drop (o + j * 3)).take 3 = [str e.b, .int .i64 e.s, .bool e.k] := hrow j e.row (by simp [he])
    have hlen : o + j * 3 + 3 ≤ cs.length := by omega
    have hbM := hf.get0 hb
    have hb0 := lt_of_some hbM
    have hke : kAtE l j = e.k := by simp [kAtE, he]
    have hfin := hf.nil_trans (Frm.refl (m := M) (F := []))
    cases hek : e.k with
    | false =>
      simp (contextual := true) (implicitDefEqProofs := false) (maxSteps := 2000000) (disch := first | rfl | exact NB rfl | omega | (simp only [XL]; omega)) only [hbM, hlt', h0', hr, hek, cellsB_l hk hlen, Int.toNat_natCast, XW, undef_eq, Nat.reduceAdd, Nat.reduceSub, ↓reduceIte, basic, cellsL, resOf, setAt, below, belowB, belowA, atomB, Nat.reduceLeDiff, Nat.reduceMul, Int.reduceToNat, Int.reduceLT, Int.reduceLE, Int.reduceAdd, Int.reduceNeg, Int.reduceEq, splice, Nat.reduceEqDiff, Nat.reduceLT, isAtom, Int.reduceSub, Int.reduceMul, implies_true]
      exact kInv_go ⟨j + 1, rfl, by omega, by rw [ordTo_succ, hx, hke, hek]; simp, hf.nil_trans Frm.refl.app, ⟨rfl, by simp [hwj]⟩⟩ (by omega)
    | true =>
      by_cases hj0 : j = 0
      · subst hj0
        have hlt0 : ((0 : Int) < (l.length : Int)) = True := eq_true (by omega)
        have hr0 : (cs.drop o).take 3 = [str e.b, .int .i64 e.s, .bool e.k] := by simpa using hr
        have hlen0 : o + 3 ≤ cs.length := by omega
        simp (contextual := true) (implicitDefEqProofs := false) (maxSteps := 2000000) (disch := first | rfl | exact NB rfl | omega | (simp only [XL]; omega)) only [hbM, hlt0, hr0, hek, cellsB_l hk hlen0, Int.toNat_natCast, XW, undef_eq, Nat.reduceAdd, Nat.reduceSub, ↓reduceIte, basic, cellsL, resOf, setAt, below, belowB, belowA, atomB, Nat.reduceLeDiff, Nat.reduceMul, Int.reduceToNat, Int.reduceLT, Int.reduceLE, Int.reduceAdd, Int.reduceNeg, Int.reduceEq, splice, Nat.reduceEqDiff, Nat.reduceLT, isAtom, Int.reduceSub, Int.reduceMul, implies_true]
        exact kInv_go ⟨1, rfl, by omega, by rw [ordTo_succ, hx]; simp, hf.nil_trans Frm.refl.app, ⟨rfl, by simp⟩⟩ (by omega)
      · have hjp : ((0 : Int) < (j : Int)) = True := eq_true (by omega)
        obtain ⟨e2, he2⟩ : ∃ r, l[j - 1]? = some r := ⟨l[j - 1], List.getElem?_eq_getElem (by omega)⟩
        have hr2 : (cs.drop (o + (j - 1) * 3)).take 3 = [str e2.b, .int .i64 e2.s, .bool e2.k] := hrow (j - 1) e2.row (by simp [he2])
        have hke2 : kAtE l (j - 1) = e2.k := by simp [kAtE, he2]
        have hwm : IntKind.i64.wrap ((j : Int) - 1) = ((j - 1 : Nat) : Int) := by rw [wrap_i64 (by omega) (by omega)]; omega
        have hlt2 : (((j - 1 : Nat) : Int) < (l.length : Int)) = True := eq_true (by omega)
        have h02 : ((0 : Int) ≤ ((j - 1 : Nat) : Int)) = True := by simp
        have hc2 : cs[o + (j - 1) * 3 + 2]? = some (.bool e2.k) := row_cell hr2 (j := 2) (by omega)
        simp (contextual := true) (implicitDefEqProofs := false) (maxSteps := 2000000) (disch := first | rfl | exact NB rfl | omega | (simp only [XL]; omega)) only [hbM, hlt', h0', hr, hek, hjp, hwm, hlt2, h02, hc2, cellsB_l hk hlen, cellB_l hk, Int.toNat_natCast, XW, undef_eq, Nat.reduceAdd, Nat.reduceSub, ↓reduceIte, basic, cellsL, resOf, setAt, below, belowB, belowA, atomB, Nat.reduceLeDiff, Nat.reduceMul, Int.reduceToNat, Int.reduceLT, Int.reduceLE, Int.reduceAdd, Int.reduceNeg, Int.reduceEq, splice, Nat.reduceEqDiff, Nat.reduceLT, isAtom, Int.reduceSub, Int.reduceMul, implies_true]
        cases hek2 : e2.k with
        | true =>
          rw [if_neg (by simp)]
          exact kInv_go ⟨j + 1, rfl, by omega, by rw [ordTo_succ, hx, hke2, hek2]; simp, hf.nil_trans Frm.refl.app, ⟨rfl, by simp [hwj]⟩⟩ (by omega)
        | false =>
          rw [if_pos rfl]
          have hbad : ordTo l (j + 1) = false := by rw [ordTo_succ, hx, hke, hek, hke2, hek2]; simp [hj0]
          have hB : ordB l = false := ordTo_le (by omega) hbad
          rw [hB]
          exact ⟨(hf.nil_trans Frm.refl.app).ext (by simp), by simp⟩
  · have hlt' : ((j : Int) < (l.length : Int)) = False := by simp; omega
    have hjl : j = l.length := by omega
    subst hjl
    rw [ordB, hx]
    simp (contextual := true) (implicitDefEqProofs := false) (maxSteps := 2000000) (disch := first | rfl | exact NB rfl | omega | (simp only [XL]; omega)) only [hlt', hext, XW, undef_eq, Nat.reduceAdd, Nat.reduceSub, ↓reduceIte, basic, cellsL, resOf, setAt, below, belowB, belowA, atomB, Nat.reduceLeDiff, Nat.reduceMul, Int.reduceToNat, Int.reduceLT, Int.reduceLE, Int.reduceAdd, Int.reduceNeg, Int.reduceEq, splice, Nat.reduceEqDiff, Nat.reduceLT, isAtom, Int.reduceSub, Int.reduceMul, implies_true]
    rw [Bool.true_and]
    exact congrArg Value.bool (decide_eq_decide.mpr (by omega))
end Go.Proofs.YtijndljfpiomhaaDoor
/- The builder; right paths, and their bytes: walked. -/
namespace Go.Proofs.YtijndljfpiomhaaDoor
open Go.Lg
set_option maxRecDepth 8000
set_option maxHeartbeats 8000000
theorem check_spec {m : Mem} {i : Nat} {p sv : Value} (h : m[i]? = some ⟨[p, sv], 59, 0, 0, .own⟩) (hp : p = .pointer none ∨ p = .pointer (some ⟨i, 0, none⟩)) :
    LCall Tryd.prog 38 [.pointer (some ⟨i, 0, none⟩)] m fun v m' => m' = m.set i ⟨[.pointer (some ⟨i, 0, none⟩), sv], 59, 0, 0, .own⟩ := by
  have hi := lt_of_some h
  refine LCall_enter Tryd.func38 c38 ?_
  rcases hp with rfl | rfl
  · simp (contextual := true) (implicitDefEqProofs := false) (maxSteps := 2000000) (disch := first | rfl | exact NB rfl | omega | (simp only [XL]; omega)) only [L38, h, XW, undef_eq, Nat.reduceAdd, Nat.reduceSub, ↓reduceIte, basic, cellsL, resOf, setAt, below, belowB, belowA, atomB, Nat.reduceLeDiff, Nat.reduceMul, Int.reduceToNat, Int.reduceLT, Int.reduceLE, Int.reduceAdd, Int.reduceNeg, Int.reduceEq, splice, Nat.reduceEqDiff, Nat.reduceLT, isAtom, Int.reduceSub, Int.reduceMul, implies_true]
  · simp (contextual := true) (implicitDefEqProofs := false) (maxSteps := 2000000) (disch := first | rfl | exact NB rfl | omega | (simp only [XL]; omega)) only [L38, h, XW, undef_eq, Nat.reduceAdd, Nat.reduceSub, ↓reduceIte, basic, cellsL, resOf, setAt, below, belowB, belowA, atomB, Nat.reduceLeDiff, Nat.reduceMul, Int.reduceToNat, Int.reduceLT, Int.reduceLE, Int.reduceAdd, Int.reduceNeg, Int.reduceEq, splice, Nat.reduceEqDiff, Nat.reduceLT, isAtom, Int.reduceSub, Int.reduceMul, implies_true]
    rw [set_same h]
theorem wByte_spec {m : Mem} {i : Nat} {F : List Nat} {l : List UInt8} (c : UInt8) (h : Bd 59 5 m i F l) (hl : l.length ≤ 1000000000) :
    LCall Tryd.prog 19 [.pointer (some ⟨i, 0, none⟩), .int .u8 c.toNat] m fun v m' => Frm F m m' ∧ ∃ F', Bd 59 5 m' i F' (l ++ [c]) ∧ NwF m F F' := by
  obtain ⟨p, sv, G, rfl, hG, hb, hp, hs⟩ := h
  have hi := lt_of_some hb
  refine LCall_enter Tryd.func19 c19 ?_
  simp (contextual := true) (implicitDefEqProofs := false) (maxSteps := 2000000) (disch := first | rfl | exact NB rfl | omega | (simp only [XL]; omega)) only [L19, XW, undef_eq, Nat.reduceAdd, Nat.reduceSub, ↓reduceIte, basic, cellsL, resOf, setAt, below, belowB, belowA, atomB, Nat.reduceLeDiff, Nat.reduceMul, Int.reduceToNat, Int.reduceLT, Int.reduceLE, Int.reduceAdd, Int.reduceNeg, Int.reduceEq, splice, Nat.reduceEqDiff, Nat.reduceLT, isAtom, Int.reduceSub, Int.reduceMul, implies_true]
  refine (check_spec hb hp).mono ?_
  rintro v M rfl
  have hs1 : By 5 (m.set i ⟨[.pointer (some ⟨i, 0, none⟩), sv], 59, 0, 0, .own⟩) sv G l := hs.setb hG
  simp (contextual := true) (implicitDefEqProofs := false) (maxSteps := 2000000) (disch := first | rfl | exact NB rfl | omega | (simp only [XL]; omega)) only [XX, XB, lc_block, lc_cond, XZ, undef_eq, Nat.reduceAdd, Nat.reduceSub, ↓reduceIte, basic, cellsL, resOf, setAt, below, belowB, belowA, atomB, Nat.reduceLeDiff, Nat.reduceMul, Int.reduceToNat, Int.reduceLT, Int.reduceLE, Int.reduceAdd, Int.reduceNeg, Int.reduceEq, splice, Nat.reduceEqDiff, Nat.reduceLT, isAtom, Int.reduceSub, Int.reduceMul, implies_true]
  refine app_bytes (new := [c]) (hs1.frm0 Frm.refl.app) rfl rfl (by simp; omega) ?_
  intro v2 M2 G2 hM2 hf2 hs2 hG2
  simp only [List.length_append, List.length_set, List.length_cons, List.length_nil] at hM2 hG2
  have hbM := hf2.get (i := i) (b := ⟨[.pointer (some ⟨i, 0, none⟩), sv], 59, 0, 0, .own⟩) (by rw [List.getElem?_append_left (by simpa using hi), List.getElem?_set_self hi]) hG
  have hiM := lt_of_some hbM
  obtain ⟨a, rfl, _⟩ := By.form hs2
  have hiG : i ∉ G2 := fun hx => by
    rcases hG2 i hx with h1 | h1
    · exact hG h1
    · omega
  generalize (l ++ [c]).length = q at hs2 ⊢
  simp (contextual := true) (implicitDefEqProofs := false) (maxSteps := 2000000) (disch := first | rfl | exact NB rfl | omega | (simp only [XL]; omega)) only [hbM, XW, undef_eq, Nat.reduceAdd, Nat.reduceSub, ↓reduceIte, basic, cellsL, resOf, setAt, below, belowB, belowA, atomB, Nat.reduceLeDiff, Nat.reduceMul, Int.reduceToNat, Int.reduceLT, Int.reduceLE, Int.reduceAdd, Int.reduceNeg, Int.reduceEq, splice, Nat.reduceEqDiff, Nat.reduceLT, isAtom, Int.reduceSub, Int.reduceMul, implies_true]
  refine ⟨Frm.set ?_ (by simp), i :: G2, ⟨_, _, G2, rfl, hiG, by rw [List.getElem?_set_self hiM], .inr rfl, hs2.setb hiG⟩, fun x hx => ?_⟩
  · exact (Frm.refl.set (by simp)).trans hf2.app_of fun x hx => .inl (by simp [hx])
  · rcases List.mem_cons.mp hx with rfl | hx
    · exact .inl (by simp)
    · rcases hG2 x hx with h1 | h1
      · exact .inl (by simp [h1])
      · exact .inr (by omega)
theorem wString_spec {m : Mem} {i : Nat} {F : List Nat} {l : List UInt8} (s : ByteArray) (h : Bd 59 5 m i F l) (hl : l.length + s.size ≤ 1000000000) :
    LCall Tryd.prog 17 [.pointer (some ⟨i, 0, none⟩), .string s] m fun v m' => Frm F m m' ∧ ∃ F', Bd 59 5 m' i F' (l ++ s.data.toList) ∧ NwF m F F' := by
  obtain ⟨p, sv, G, rfl, hG, hb, hp, hs⟩ := h
  have hi := lt_of_some hb
  refine LCall_enter Tryd.func17 c17 ?_
  simp (contextual := true) (implicitDefEqProofs := false) (maxSteps := 2000000) (disch := first | rfl | exact NB rfl | omega | (simp only [XL]; omega)) only [L17, XW, undef_eq, Nat.reduceAdd, Nat.reduceSub, ↓reduceIte, basic, cellsL, resOf, setAt, below, belowB, belowA, atomB, Nat.reduceLeDiff, Nat.reduceMul, Int.reduceToNat, Int.reduceLT, Int.reduceLE, Int.reduceAdd, Int.reduceNeg, Int.reduceEq, splice, Nat.reduceEqDiff, Nat.reduceLT, isAtom, Int.reduceSub, Int.reduceMul, implies_true]
  refine (check_spec hb hp).mono ?_
  rintro v M rfl
  have hs1 : By 5 (m.set i ⟨[.pointer (some ⟨i, 0, none⟩), sv], 59, 0, 0, .own⟩) sv G l := hs.setb hG
  simp (contextual := true) (implicitDefEqProofs := false) (maxSteps := 2000000) (disch := first | rfl | exact NB rfl | omega | (simp only [XL]; omega)) only [XX, XB, lc_block, lc_cond, XZ, undef_eq, Nat.reduceAdd, Nat.reduceSub, ↓reduceIte, basic, cellsL, resOf, setAt, below, belowB, belowA, atomB, Nat.reduceLeDiff, Nat.reduceMul, Int.reduceToNat, Int.reduceLT, Int.reduceLE, Int.reduceAdd, Int.reduceNeg, Int.reduceEq, splice, Nat.reduceEqDiff, Nat.reduceLT, isAtom, Int.reduceSub, Int.reduceMul, implies_true]
  refine app_bytes (new := s.data.toList) hs1 (string_size s) rfl (by omega) ?_
  intro v2 M2 G2 hM2 hf2 hs2 hG2
  simp only [List.length_append, List.length_set, List.length_cons, List.length_nil] at hM2 hG2
  have hbM := hf2.get (i := i) (b := ⟨[.pointer (some ⟨i, 0, none⟩), sv], 59, 0, 0, .own⟩) (by rw [List.getElem?_set_self hi]) hG
  have hiM := lt_of_some hbM
  obtain ⟨a, rfl, _⟩ := By.form hs2
  have hiG : i ∉ G2 := fun hx => by
    rcases hG2 i hx with h1 | h1
    · exact hG h1
    · omega
  generalize (l ++ s.data.toList).length = q at hs2 ⊢
  simp (contextual := true) (implicitDefEqProofs := false) (maxSteps := 2000000) (disch := first | rfl | exact NB rfl | omega | (simp only [XL]; omega)) only [hbM, XW, undef_eq, Nat.reduceAdd, Nat.reduceSub, ↓reduceIte, basic, cellsL, resOf, setAt, below, belowB, belowA, atomB, Nat.reduceLeDiff, Nat.reduceMul, Int.reduceToNat, Int.reduceLT, Int.reduceLE, Int.reduceAdd, Int.reduceNeg, Int.reduceEq, splice, Nat.reduceEqDiff, Nat.reduceLT, isAtom, Int.reduceSub, Int.reduceMul, implies_true]
  refine ⟨Frm.set ?_ (by simp), i :: G2, ⟨_, _, G2, rfl, hiG, by rw [List.getElem?_set_self hiM], .inr rfl, hs2.setb hiG⟩, fun x hx => ?_⟩
  · exact (Frm.refl.set (by simp)).trans hf2 fun x hx => .inl (by simp [hx])
  · rcases List.mem_cons.mp hx with rfl | hx
    · exact .inl (by simp)
    · rcases hG2 x hx with h1 | h1
      · exact .inl (by simp [h1])
      · exact .inr (by omega)
theorem bString_spec {m : Mem} {i : Nat} {F : List Nat} {l : List UInt8} (h : Bd 59 5 m i F l) (hl : l.length ≤ 1000000000) (h0 : 0 < l.length) :
    LCall Tryd.prog 20 [.pointer (some ⟨i, 0, none⟩)] m fun v m' => v = .string ⟨l.toArray⟩ ∧ Frm F m m' := by
  obtain ⟨p, sv, G, rfl, hG, hb, hp, hs⟩ := h
  have hi := lt_of_some hb
  obtain ⟨a, rfl, hd⟩ := By.form hs
  refine LCall_enter Tryd.func20 c20 ?_
  obtain ⟨b, o, cs, rfl, rfl, hbb, hl1, hl2, hl3⟩ := hd h0
  have hne : (l.length ≠ 0) = True := eq_true (by omega)
  simp (contextual := true) (implicitDefEqProofs := false) (maxSteps := 2000000) (disch := first | rfl | exact NB rfl | omega | (simp only [XL]; omega)) only [L20, hb, hne, XW, undef_eq, Nat.reduceAdd, Nat.reduceSub, ↓reduceIte, basic, cellsL, resOf, setAt, below, belowB, belowA, atomB, Nat.reduceLeDiff, Nat.reduceMul, Int.reduceToNat, Int.reduceLT, Int.reduceLE, Int.reduceAdd, Int.reduceNeg, Int.reduceEq, splice, Nat.reduceEqDiff, Nat.reduceLT, isAtom, Int.reduceSub, Int.reduceMul, implies_true]
  refine ⟨by omega, us_bytes hbb (by rw [Int.toNat_natCast]; exact hl2) (by rw [Int.toNat_natCast]; exact hl1) (by omega) ?_⟩
  simp (contextual := true) (implicitDefEqProofs := false) (maxSteps := 2000000) (disch := first | rfl | exact NB rfl | omega | (simp only [XL]; omega)) only [XW, undef_eq, Nat.reduceAdd, Nat.reduceSub, ↓reduceIte, basic, cellsL, resOf, setAt, below, belowB, belowA, atomB, Nat.reduceLeDiff, Nat.reduceMul, Int.reduceToNat, Int.reduceLT, Int.reduceLE, Int.reduceAdd, Int.reduceNeg, Int.reduceEq, splice, Nat.reduceEqDiff, Nat.reduceLT, isAtom, Int.reduceSub, Int.reduceMul, implies_true]
  exact Frm.refl.set (by simp)
abbrev pathV (tb : List UInt8) (ts : Int) (fb : List UInt8) (fs : Int) (tm fm : Bool) (dv : Value) : Value := .agg #[str tb, .int .i64 ts, str fb, .int .i64 fs, .bool tm, .bool fm, dv]
def rightP (tb : List UInt8) (ts : Int) (fb : List UInt8) (fs : Int) (l : List En) : Bool := rightC tb ts && (rightC fb fs && (!(l.any fun e => !e.ok) && (ordB l && decide (l.length ≤ 8))))
theorem rightP_spec {tb : List UInt8} {ts : Int} {fb : List UInt8} {fs : Int} {tm fm : Bool} {dv : Value} {l : List En} {m : Mem} (htb : tb.length ≤ 140737488355328) (hfb : fb.length ≤ 140737488355328) (hb : ∀ e ∈ l, e.b.length ≤ 140737488355328) (h : Rd m 3 dv (l.map En.row)) (hn : l.length ≤ 1000000) :
    Ret Tryd.prog 13 [pathV tb ts fb fs tm fm dv] m (.bool (rightP tb ts fb fs l)) m := by
  refine LCall_drop (LCall_enter Tryd.func13 c13 ?_)
  have h0 := h
  obtain ⟨a, rfl, _⟩ := h
  simp (contextual := true) (implicitDefEqProofs := false) (maxSteps := 2000000) (disch := first | rfl | exact NB rfl | omega | (simp only [XL]; omega)) only [L13, XW, undef_eq, Nat.reduceAdd, Nat.reduceSub, ↓reduceIte, basic, cellsL, resOf, setAt, below, belowB, belowA, atomB, Nat.reduceLeDiff, Nat.reduceMul, Int.reduceToNat, Int.reduceLT, Int.reduceLE, Int.reduceAdd, Int.reduceNeg, Int.reduceEq, splice, Nat.reduceEqDiff, Nat.reduceLT, isAtom, Int.reduceSub, Int.reduceMul, implies_true]
  refine (right_spec tb ts htb _).use ?_
  cases h1 : rightC tb ts with
  | false => simp (contextual := true) (implicitDefEqProofs := false) (maxSteps := 2000000) (disch := first | rfl | exact NB rfl | omega | (simp only [XL]; omega)) only [rightP, h1, Bool.false_and, XW, undef_eq, Nat.reduceAdd, Nat.reduceSub, ↓reduceIte, basic, cellsL, resOf, setAt, below, belowB, belowA, atomB, Nat.reduceLeDiff, Nat.reduceMul, Int.reduceToNat, Int.reduceLT, Int.reduceLE, Int.reduceAdd, Int.reduceNeg, Int.reduceEq, splice, Nat.reduceEqDiff, Nat.reduceLT, isAtom, Int.reduceSub, Int.reduceMul, implies_true]
  | true =>
    simp (contextual := true) (implicitDefEqProofs := false) (maxSteps := 2000000) (disch := first | rfl | exact NB rfl | omega | (simp only [XL]; omega)) only [XW, undef_eq, Nat.reduceAdd, Nat.reduceSub, ↓reduceIte, basic, cellsL, resOf, setAt, below, belowB, belowA, atomB, Nat.reduceLeDiff, Nat.reduceMul, Int.reduceToNat, Int.reduceLT, Int.reduceLE, Int.reduceAdd, Int.reduceNeg, Int.reduceEq, splice, Nat.reduceEqDiff, Nat.reduceLT, isAtom, Int.reduceSub, Int.reduceMul, implies_true]
    refine (right_spec fb fs hfb _).use ?_
    cases h2 : rightC fb fs with
    | false => simp (contextual := true) (implicitDefEqProofs := false) (maxSteps := 2000000) (disch := first | rfl | exact NB rfl | omega | (simp only [XL]; omega)) only [rightP, h1, h2, Bool.false_and, Bool.true_and, XW, undef_eq, Nat.reduceAdd, Nat.reduceSub, ↓reduceIte, basic, cellsL, resOf, setAt, below, belowB, belowA, atomB, Nat.reduceLeDiff, Nat.reduceMul, Int.reduceToNat, Int.reduceLT, Int.reduceLE, Int.reduceAdd, Int.reduceNeg, Int.reduceEq, splice, Nat.reduceEqDiff, Nat.reduceLT, isAtom, Int.reduceSub, Int.reduceMul, implies_true]
    | true =>
      simp (contextual := true) (implicitDefEqProofs := false) (maxSteps := 2000000) (disch := first | rfl | exact NB rfl | omega | (simp only [XL]; omega)) only [XW, undef_eq, Nat.reduceAdd, Nat.reduceSub, ↓reduceIte, basic, cellsL, resOf, setAt, below, belowB, belowA, atomB, Nat.reduceLeDiff, Nat.reduceMul, Int.reduceToNat, Int.reduceLT, Int.reduceLE, Int.reduceAdd, Int.reduceNeg, Int.reduceEq, splice, Nat.reduceEqDiff, Nat.reduceLT, isAtom, Int.reduceSub, Int.reduceMul, implies_true]
      refine (anywrong_spec hb h0.app hn).use ?_
      cases h3 : l.any fun e => !e.ok with
      | true => simp (contextual := true) (implicitDefEqProofs := false) (maxSteps := 2000000) (disch := first | rfl | exact NB rfl | omega | (simp only [XL]; omega)) only [rightP, h1, h2, h3, Bool.false_and, Bool.true_and, Bool.not_true, Bool.not_false, XW, undef_eq, Nat.reduceAdd, Nat.reduceSub, ↓reduceIte, basic, cellsL, resOf, setAt, below, belowB, belowA, atomB, Nat.reduceLeDiff, Nat.reduceMul, Int.reduceToNat, Int.reduceLT, Int.reduceLE, Int.reduceAdd, Int.reduceNeg, Int.reduceEq, splice, Nat.reduceEqDiff, Nat.reduceLT, isAtom, Int.reduceSub, Int.reduceMul, implies_true]
      | false =>
        simp (contextual := true) (implicitDefEqProofs := false) (maxSteps := 2000000) (disch := first | rfl | exact NB rfl | omega | (simp only [XL]; omega)) only [XW, undef_eq, Nat.reduceAdd, Nat.reduceSub, ↓reduceIte, basic, cellsL, resOf, setAt, below, belowB, belowA, atomB, Nat.reduceLeDiff, Nat.reduceMul, Int.reduceToNat, Int.reduceLT, Int.reduceLE, Int.reduceAdd, Int.reduceNeg, Int.reduceEq, splice, Nat.reduceEqDiff, Nat.reduceLT, isAtom, Int.reduceSub, Int.reduceMul, implies_true]
        refine (ordered_spec h0.app hn).use ?_
        simp (contextual := true) (implicitDefEqProofs := false) (maxSteps := 2000000) (disch := first | rfl | exact NB rfl | omega | (simp only [XL]; omega)) only [rightP, h1, h2, h3, Bool.false_and, Bool.true_and, Bool.not_true, Bool.not_false, XW, undef_eq, Nat.reduceAdd, Nat.reduceSub, ↓reduceIte, basic, cellsL, resOf, setAt, below, belowB, belowA, atomB, Nat.reduceLeDiff, Nat.reduceMul, Int.reduceToNat, Int.reduceLT, Int.reduceLE, Int.reduceAdd, Int.reduceNeg, Int.reduceEq, splice, Nat.reduceEqDiff, Nat.reduceLT, isAtom, Int.reduceSub, Int.reduceMul, implies_true]
end Go.Proofs.YtijndljfpiomhaaDoor
/- A path's bytes, walked. -/
namespace Go.Proofs.YtijndljfpiomhaaDoor
open Go.Lg
set_option maxRecDepth 8000
set_option maxHeartbeats 8000000
theorem new_rows {m : Mem} {T sz : Nat} {sv : Value} {F : List Nat} {rows : List (List Value)} (h : Sl m T sz sv F rows) : newCells m sz sv = some rows.flatten := by
  cases h with
  | nil => rfl
  | @own b o cs _ hb hr hc hl =>
    rw [new_sl, hb, cellsB_s hl, hc]; rfl
def RdN (m : Mem) (sz : Nat) (v : Value) (rows : List (List Value)) : Prop := Rd m sz v rows ∧ ∀ M, Frm [] m M → newCells M sz v = some rows.flatten
theorem RdN.frm0 {m m' : Mem} {sz : Nat} {v : Value} {rows : List (List Value)} (h : RdN m sz v rows) (k : Frm [] m m') : RdN m' sz v rows := ⟨h.1.frm0 k, fun M hM => h.2 M (k.nil_trans hM)⟩
theorem RdN.app {m g : Mem} {sz : Nat} {v : Value} {rows : List (List Value)} (h : RdN m sz v rows) : RdN (m ++ g) sz v rows := h.frm0 Frm.refl.app
theorem Sl.rdn {m : Mem} {T sz : Nat} {v : Value} {F : List Nat} {rows : List (List Value)} (h : Sl m T sz v F rows) : RdN m sz v rows := ⟨Sl.rd h, fun M hM => new_rows (h.frm0 hM)⟩
theorem entries_spec {tb : List UInt8} {ts : Int} {fb : List UInt8} {fs : Int} {tm fm : Bool} {dv : Value} {l : List En} {m : Mem} (h : RdN m 3 dv (l.map En.row)) (hn : l.length ≤ 1000000) :
    LCall Tryd.prog 33 [pathV tb ts fb fs tm fm dv] m fun v M => Frm [] m M ∧ ∃ G, Sl M 53 3 v G ((⟨tb, ts, tm⟩ :: ⟨fb, fs, fm⟩ :: l).map En.row) ∧ ∀ x ∈ G, m.length ≤ x := by
  have h0 := h
  obtain ⟨a, rfl, _⟩ := h.1
  refine LCall_enter Tryd.func33 c33 ?_
  simp (contextual := true) (implicitDefEqProofs := false) (maxSteps := 2000000) (disch := first | rfl | exact NB rfl | omega | (simp only [XL]; omega)) only [L33, XX, XB, lc_block, lc_cond, XZ, undef_eq, Nat.reduceAdd, Nat.reduceSub, ↓reduceIte, basic, cellsL, resOf, setAt, below, belowB, belowA, atomB, Nat.reduceLeDiff, Nat.reduceMul, Int.reduceToNat, Int.reduceLT, Int.reduceLE, Int.reduceAdd, Int.reduceNeg, Int.reduceEq, splice, Nat.reduceEqDiff, Nat.reduceLT, isAtom, Int.reduceSub, Int.reduceMul, implies_true]
  obtain ⟨N, hN, hNl, hfN, hb⟩ : ∃ N, m ++ [⟨[str tb, .int .i64 ts, str fb, .int .i64 fs, .bool tm, .bool fm, .slice a (l.map En.row).length (l.map En.row).length], 30, 1, 0, .own⟩, ⟨[str tb, .int .i64 ts, .bool tm, str fb, .int .i64 fs, .bool fm], 53, 3, 0, .own⟩] = N ∧ N.length = m.length + 2 ∧ Frm [] m N ∧ N[m.length + 1]? = some ⟨[str tb, .int .i64 ts, .bool tm, str fb, .int .i64 fs, .bool fm], 53, 3, 0, .own⟩ := ⟨_, rfl, by simp, Frm.refl.app, by rw [List.getElem?_append_right (by omega)]; simp⟩
  rw [hN]
  have hn0 := h0.2 N hfN
  rw [hn0]
  have hs0 : Sl N 53 3 (.slice (some ⟨m.length + 1, 0, none⟩) 2 2) [m.length + 1] [[str tb, .int .i64 ts, .bool tm], [str fb, .int .i64 fs, .bool fm]] := Sl.own (T := 53) (sz := 3) (rows := [[str tb, .int .i64 ts, .bool tm], [str fb, .int .i64 fs, .bool fm]]) hb (by simp) (by simp) (by simp)
  refine app_any hs0 (new := l.map En.row) (by simp) (fun r hr => ?_) rfl (by simp; omega) ?_
  · obtain ⟨e, _, rfl⟩ := List.mem_map.mp hr; rfl
  intro v M G hM hf hs hG
  obtain ⟨va, rfl, _⟩ := hs.form
  simp (contextual := true) (implicitDefEqProofs := false) (maxSteps := 2000000) (disch := first | rfl | exact NB rfl | omega | (simp only [XL]; omega)) only [XW, undef_eq, Nat.reduceAdd, Nat.reduceSub, ↓reduceIte, basic, cellsL, resOf, setAt, below, belowB, belowA, atomB, Nat.reduceLeDiff, Nat.reduceMul, Int.reduceToNat, Int.reduceLT, Int.reduceLE, Int.reduceAdd, Int.reduceNeg, Int.reduceEq, splice, Nat.reduceEqDiff, Nat.reduceLT, isAtom, Int.reduceSub, Int.reduceMul, implies_true]
  refine ⟨?_, G, by simpa [En.row] using hs, fun x hx => ?_⟩
  · exact hfN.trans hf fun x hx => .inr (by simp at hx; omega)
  · rcases hG x hx with h1 | h1
    · simp at h1; omega
    · omega
def putTo (L : List En) (j : Nat) : List UInt8 := (List.range j).flatMap fun i => match L[i]? with
  | some e => putC e.b e.s e.k (decide (i + 1 = L.length))
  | none => []
def putE (L : List En) : List UInt8 := putTo L L.length
theorem putTo_succ {L : List En} {j : Nat} {e : En} (h : L[j]? = some e) : putTo L (j + 1) = putTo L j ++ putC e.b e.s e.k (decide (j + 1 = L.length)) := by
  unfold putTo; rw [List.range_succ, List.flatMap_append]; simp [h]
theorem putC_len {b : List UInt8} {s : Int} {k l : Bool} : (putC b s k l).length = 7 := by simp [putC]
theorem putTo_len {L : List En} {j : Nat} (h : j ≤ L.length) : (putTo L j).length = 7 * j := by
  induction j with
  | zero => rfl
  | succ j ih =>
    obtain ⟨e, he⟩ : ∃ r, L[j]? = some r := ⟨L[j], List.getElem?_eq_getElem (by omega)⟩
    rw [putTo_succ he, List.length_append, ih (by omega), putC_len]; omega
theorem rightP_le {tb : List UInt8} {ts : Int} {fb : List UInt8} {fs : Int} {l : List En} {tm fm : Bool} (h : rightP tb ts fb fs l = true) : l.length ≤ 8 ∧ ordB l = true ∧ ∀ e ∈ (⟨tb, ts, tm⟩ :: ⟨fb, fs, fm⟩ :: l : List En), e.ok = true := by
  unfold rightP at h
  simp only [Bool.and_eq_true, Bool.not_eq_true'] at h
  obtain ⟨h1, h2, h3, h4, h5⟩ := h
  refine ⟨of_decide_eq_true h5, h4, fun e he => ?_⟩
  simp only [List.mem_cons] at he
  rcases he with rfl | rfl | he
  · exact h1
  · exact h2
  · rw [List.any_eq_false] at h3
    have := h3 e he
    simpa using this
theorem putP_wrong {tb : List UInt8} {ts : Int} {fb : List UInt8} {fs : Int} {tm fm : Bool} {dv : Value} {F : List Nat} {l : List En} {m : Mem} (htb : tb.length ≤ 140737488355328) (hfb : fb.length ≤ 140737488355328) (hb : ∀ e ∈ l, e.b.length ≤ 140737488355328) (h : Rd m 3 dv (l.map En.row)) (hn : l.length ≤ 1000000) (hr : rightP tb ts fb fs l = false) :
    Ret Tryd.prog 15 [pathV tb ts fb fs tm fm dv] m (.tuple #[.string ⟨#[]⟩, .int .i64 11]) m := by
  refine LCall_drop (LCall_enter Tryd.func15 c15 ?_)
  have h0 := h
  obtain ⟨a, rfl, _⟩ := h
  simp (contextual := true) (implicitDefEqProofs := false) (maxSteps := 2000000) (disch := first | rfl | exact NB rfl | omega | (simp only [XL]; omega)) only [L15, XW, undef_eq, Nat.reduceAdd, Nat.reduceSub, ↓reduceIte, basic, cellsL, resOf, setAt, below, belowB, belowA, atomB, Nat.reduceLeDiff, Nat.reduceMul, Int.reduceToNat, Int.reduceLT, Int.reduceLE, Int.reduceAdd, Int.reduceNeg, Int.reduceEq, splice, Nat.reduceEqDiff, Nat.reduceLT, isAtom, Int.reduceSub, Int.reduceMul, implies_true]
  refine (rightP_spec htb hfb hb h0.app hn).use ?_
  rw [hr]
  simp (contextual := true) (implicitDefEqProofs := false) (maxSteps := 2000000) (disch := first | rfl | exact NB rfl | omega | (simp only [XL]; omega)) only [XW, undef_eq, Nat.reduceAdd, Nat.reduceSub, ↓reduceIte, basic, cellsL, resOf, setAt, below, belowB, belowA, atomB, Nat.reduceLeDiff, Nat.reduceMul, Int.reduceToNat, Int.reduceLT, Int.reduceLE, Int.reduceAdd, Int.reduceNeg, Int.reduceEq, splice, Nat.reduceEqDiff, Nat.reduceLT, isAtom, Int.reduceSub, Int.reduceMul, implies_true]
theorem putP_spec {tb : List UInt8} {ts : Int} {fb : List UInt8} {fs : Int} {tm fm : Bool} {dv : Value} {l : List En} {m : Mem} (h : RdN m 3 dv (l.map En.row)) (hr : rightP tb ts fb fs l = true) :
    Ret Tryd.prog 15 [pathV tb ts fb fs tm fm dv] m (.tuple #[str (putE (⟨tb, ts, tm⟩ :: ⟨fb, fs, fm⟩ :: l)), .int .i64 0]) m := by
  obtain ⟨hl8, _, hok⟩ := rightP_le (tm := tm) (fm := fm) hr
  have hlet : ∀ e ∈ (⟨tb, ts, tm⟩ :: ⟨fb, fs, fm⟩ :: l : List En), e.b.length ≤ 6 := fun e he => (right_le (hok e he)).2.1.2
  have htb := hlet ⟨tb, ts, tm⟩ (by simp)
  have hfb := hlet ⟨fb, fs, fm⟩ (by simp)
  refine LCall_drop (LCall_enter Tryd.func15 c15 ?_)
  have h0 := h
  obtain ⟨a, rfl, _⟩ := h.1
  simp (contextual := true) (implicitDefEqProofs := false) (maxSteps := 2000000) (disch := first | rfl | exact NB rfl | omega | (simp only [XL]; omega)) only [L15, XW, undef_eq, Nat.reduceAdd, Nat.reduceSub, ↓reduceIte, basic, cellsL, resOf, setAt, below, belowB, belowA, atomB, Nat.reduceLeDiff, Nat.reduceMul, Int.reduceToNat, Int.reduceLT, Int.reduceLE, Int.reduceAdd, Int.reduceNeg, Int.reduceEq, splice, Nat.reduceEqDiff, Nat.reduceLT, isAtom, Int.reduceSub, Int.reduceMul, implies_true]
  refine (rightP_spec (by simp only at htb; omega) (by simp only at hfb; omega) (fun e he => by have := hlet e (by simp [he]); omega) h0.1.app (by omega)).use ?_
  rw [hr]
  simp (contextual := true) (implicitDefEqProofs := false) (maxSteps := 2000000) (disch := first | rfl | exact NB rfl | omega | (simp only [XL]; omega)) only [XW, undef_eq, Nat.reduceAdd, Nat.reduceSub, ↓reduceIte, basic, cellsL, resOf, setAt, below, belowB, belowA, atomB, Nat.reduceLeDiff, Nat.reduceMul, Int.reduceToNat, Int.reduceLT, Int.reduceLE, Int.reduceAdd, Int.reduceNeg, Int.reduceEq, splice, Nat.reduceEqDiff, Nat.reduceLT, isAtom, Int.reduceSub, Int.reduceMul, implies_true]
  obtain ⟨M0, hM, hm0, hm1, hml⟩ : ∃ M0, m ++ [⟨[str tb, .int .i64 ts, str fb, .int .i64 fs, .bool tm, .bool fm, .slice a (l.map En.row).length (l.map En.row).length], 30, 1, 0, .own⟩, ⟨[.pointer none, .slice none 0 0], 59, 0, 0, .own⟩] = M0 ∧ Frm [] m M0 ∧ Bd 59 5 M0 (m.length + 1) [m.length + 1] [] ∧ M0.length = m.length + 2 := by
    refine ⟨_, rfl, Frm.refl.app, ?_, by simp⟩
    have := Bd.new (TB := 59) (T := 5) (m := m ++ [⟨[str tb, .int .i64 ts, str fb, .int .i64 fs, .bool tm, .bool fm, .slice a (l.map En.row).length (l.map En.row).length], 30, 1, 0, .own⟩])
    simpa using this
  rw [hM]
  have hbl := hm1.lt
  refine (entries_spec (tb := tb) (ts := ts) (fb := fb) (fs := fs) (tm := tm) (fm := fm) (h0.frm0 hm0) (by omega)).mono ?_
  rintro v M1 ⟨hf1, G, hs1, hG⟩
  have hb1 := hm1.frm0 hf1
  have hml1 := hf1.len
  have hmM1 := hm0.nil_trans hf1
  have hLl : (⟨tb, ts, tm⟩ :: ⟨fb, fs, fm⟩ :: l : List En).length = l.length + 2 := rfl
  generalize (⟨tb, ts, tm⟩ :: ⟨fb, fs, fm⟩ :: l : List En) = L at hs1 hok hlet hLl ⊢
  obtain ⟨va, rfl, vform⟩ := hs1.form
  simp only [List.length_map] at hs1 vform ⊢
  clear hM
  simp (contextual := true) (implicitDefEqProofs := false) (maxSteps := 2000000) (disch := first | rfl | exact NB rfl | omega | (simp only [XL]; omega)) only [XW, undef_eq, Nat.reduceAdd, Nat.reduceSub, ↓reduceIte, basic, cellsL, resOf, setAt, below, belowB, belowA, atomB, Nat.reduceLeDiff, Nat.reduceMul, Int.reduceToNat, Int.reduceLT, Int.reduceLE, Int.reduceAdd, Int.reduceNeg, Int.reduceEq, splice, Nat.reduceEqDiff, Nat.reduceLT, isAtom, Int.reduceSub, Int.reduceMul, implies_true]
  refine loop_inv (fun n t M => ∃ (j : Nat) (B : List Nat), n = L.length - j ∧ j ≤ L.length ∧ Frm [] m M ∧ Bd 59 5 M (m.length + 1) B (putTo L j) ∧ (∀ x ∈ B, m.length ≤ x ∧ x ∉ G) ∧ Sl M 53 3 (.slice va L.length L.length) G (L.map En.row) ∧
    Tab 39 [(4, .pointer (some ⟨m.length + 1, 0, none⟩)), (5, .slice va L.length L.length), (15, .slice va L.length L.length), (16, .int .i64 (L.length : Int)), (17, .int .i64 (j : Int))] t) (n := L.length) ?_ ?_
  · exact ⟨0, [m.length + 1], rfl, Nat.zero_le _, hmM1, hb1, fun x hx => ⟨by simp at hx; omega, fun hx' => by have := hG x hx'; simp at hx; omega⟩, hs1, ⟨rfl, by simp⟩⟩
  rintro N t M ⟨j, B, rfl, hj, hfM, hbM, hBG, hsM, ht⟩
  obtain ⟨f, rfl⟩ : ∃ f' : Nat → Value, t = [f' 0, f' 1, f' 2, f' 3, .pointer (some ⟨m.length + 1, 0, none⟩), .slice va L.length L.length, f' 6, f' 7, f' 8, f' 9, f' 10, f' 11, f' 12, f' 13, f' 14, .slice va L.length L.length, .int .i64 (L.length : Int), .int .i64 (j : Int), f' 18, f' 19, f' 20, f' 21, f' 22, f' 23, f' 24, f' 25, f' 26, f' 27, f' 28, f' 29, f' 30, f' 31, f' 32, f' 33, f' 34, f' 35, f' 36, f' 37, f' 38] := ht.open fun f' => rfl
  by_cases hlt : j < L.length
  · have hlt' : ((j : Int) < (L.length : Int)) = True := by simp [hlt]
    have h0' : ((0 : Int) ≤ (j : Int)) = True := by simp
    have hwj : IntKind.i64.wrap ((j : Int) + 1) = ((j + 1 : Nat) : Int) := by rw [wrap_i64 (by omega) (by omega)]; omega
    obtain ⟨_, hva, hform⟩ := hsM.form
    simp only [List.length_map, Value.slice.injEq, and_true] at hva hform
    subst hva
    obtain ⟨b, o, cs, rfl, rfl, hb, hl, _, hrow⟩ := hform (by omega)
    obtain ⟨e, he⟩ : ∃ r, L[j]? = some r := ⟨L[j], List.getElem?_eq_getElem hlt⟩
    have heok := hok e (List.mem_of_getElem? he)
    have hr : (cs.drop (o + j * 3)).take 3 = [str e.b, .int .i64 e.s, .bool e.k] := hrow j e.row (by simp [he])
    have hlen : o + j * 3 + 3 ≤ cs.length := by omega
    have hb0 := lt_of_some hb
    have heq : ((j : Int) = (L.length : Int) - 1) = (j + 1 = L.length) := by apply propext; omega
    simp (contextual := true) (implicitDefEqProofs := false) (maxSteps := 2000000) (disch := first | rfl | exact NB rfl | omega | (simp only [XL]; omega)) only [hb, hlt', h0', hr, heq, Int.toNat_natCast, XW, undef_eq, Nat.reduceAdd, Nat.reduceSub, ↓reduceIte, basic, cellsL, resOf, setAt, below, belowB, belowA, atomB, Nat.reduceLeDiff, Nat.reduceMul, Int.reduceToNat, Int.reduceLT, Int.reduceLE, Int.reduceAdd, Int.reduceNeg, Int.reduceEq, splice, Nat.reduceEqDiff, Nat.reduceLT, isAtom, Int.reduceSub, Int.reduceMul, implies_true]
    refine (put_spec e.b e.s e.k (decide (j + 1 = L.length)) heok _).use ?_
    simp (contextual := true) (implicitDefEqProofs := false) (maxSteps := 2000000) (disch := first | rfl | exact NB rfl | omega | (simp only [XL]; omega)) only [XW, undef_eq, Nat.reduceAdd, Nat.reduceSub, ↓reduceIte, basic, cellsL, resOf, setAt, below, belowB, belowA, atomB, Nat.reduceLeDiff, Nat.reduceMul, Int.reduceToNat, Int.reduceLT, Int.reduceLE, Int.reduceAdd, Int.reduceNeg, Int.reduceEq, splice, Nat.reduceEqDiff, Nat.reduceLT, isAtom, Int.reduceSub, Int.reduceMul, implies_true]
    have hb2 := hbM.frm0 (m' := M ++ [⟨[str e.b, .int .i64 e.s, .bool e.k], 53, 1, 0, .own⟩]) Frm.refl.app
    have hpl := putTo_len (L := L) (j := j) (by omega)
    refine (wString_spec ⟨(putC e.b e.s e.k (decide (j + 1 = L.length))).toArray⟩ hb2 (by rw [string_mk_size, putC_len]; omega)).mono ?_
    rintro v M2 ⟨hf2, B2, hb3, hn2⟩
    rw [string_mk] at hb3
    rw [← putTo_succ he] at hb3
    simp (contextual := true) (implicitDefEqProofs := false) (maxSteps := 2000000) (disch := first | rfl | exact NB rfl | omega | (simp only [XL]; omega)) only [XW, undef_eq, Nat.reduceAdd, Nat.reduceSub, ↓reduceIte, basic, cellsL, resOf, setAt, below, belowB, belowA, atomB, Nat.reduceLeDiff, Nat.reduceMul, Int.reduceToNat, Int.reduceLT, Int.reduceLE, Int.reduceAdd, Int.reduceNeg, Int.reduceEq, splice, Nat.reduceEqDiff, Nat.reduceLT, isAtom, Int.reduceSub, Int.reduceMul, implies_true]
    have hfM2 : Frm B M M2 := hf2.app_of
    exact kInv_go ⟨j + 1, B2, rfl, by omega, hfM.trans hfM2 fun x hx => .inr (hBG x hx).1, hb3, fun x hx => (by
      rcases hn2 x hx with h1 | h1
      · simpa using hBG x h1
      · simp only [List.length_append] at h1
        exact ⟨by have := hfM.len; omega, fun hx' => by
          have e : x = b := by simpa using hx'
          omega⟩), hsM.frm hfM2 fun x hx hx' => (hBG x hx').2 hx, ⟨rfl, by simp [hwj]⟩⟩ (by omega)
  · have hlt' : ((j : Int) < (L.length : Int)) = False := by simp; omega
    have hjl : j = L.length := by omega
    subst hjl
    simp (contextual := true) (implicitDefEqProofs := false) (maxSteps := 2000000) (disch := first | rfl | exact NB rfl | omega | (simp only [XL]; omega)) only [hlt', XW, undef_eq, Nat.reduceAdd, Nat.reduceSub, ↓reduceIte, basic, cellsL, resOf, setAt, below, belowB, belowA, atomB, Nat.reduceLeDiff, Nat.reduceMul, Int.reduceToNat, Int.reduceLT, Int.reduceLE, Int.reduceAdd, Int.reduceNeg, Int.reduceEq, splice, Nat.reduceEqDiff, Nat.reduceLT, isAtom, Int.reduceSub, Int.reduceMul, implies_true]
    have hpl := putTo_len (L := L) (j := L.length) (by omega)
    refine (bString_spec hbM (by omega) (by omega)).mono ?_
    rintro v M2 ⟨rfl, hf2⟩
    simp (contextual := true) (implicitDefEqProofs := false) (maxSteps := 2000000) (disch := first | rfl | exact NB rfl | omega | (simp only [XL]; omega)) only [putE, XW, undef_eq, Nat.reduceAdd, Nat.reduceSub, ↓reduceIte, basic, cellsL, resOf, setAt, below, belowB, belowA, atomB, Nat.reduceLeDiff, Nat.reduceMul, Int.reduceToNat, Int.reduceLT, Int.reduceLE, Int.reduceAdd, Int.reduceNeg, Int.reduceEq, splice, Nat.reduceEqDiff, Nat.reduceLT, isAtom, Int.reduceSub, Int.reduceMul, implies_true]
    exact (hfM.trans hf2 fun x hx => .inr (hBG x hx).1).ext (by simp)
end Go.Proofs.YtijndljfpiomhaaDoor
/- A path of calls, walked. -/
namespace Go.Proofs.YtijndljfpiomhaaDoor
open Go.Lg
set_option maxRecDepth 8000
set_option maxHeartbeats 8000000
structure Cl where
  b : List UInt8
  s : Int
def Cl.row (c : Cl) : List Value := [str c.b, .int .i64 c.s]
def Cl.en (c : Cl) : En := ⟨c.b, c.s, false⟩
theorem via_spec {fb : List UInt8} {fs : Int} {tb : List UInt8} {ts : Int} {cm : Bool} {dv : Value} {cs : List Cl} {m : Mem} (htb : tb.length ≤ 140737488355328) (hfb : fb.length ≤ 140737488355328) (hb : ∀ c ∈ cs, c.b.length ≤ 140737488355328) (h : Rd m 2 dv (cs.map Cl.row)) (hn : cs.length ≤ 1000000) :
    LCall Tryd.prog 7 [cl fb fs, cl tb ts, .bool cm, dv] m fun v M => Frm [] m M ∧
      if rightP tb ts fb fs (cs.map Cl.en) = true then ∃ sv F, v = .tuple #[pathV tb ts fb fs cm (!cm) sv, .int .i64 0] ∧ Sl M 53 3 sv F ((cs.map Cl.en).map En.row) ∧ ∀ x ∈ F, m.length ≤ x
      else v = .tuple #[pathV [] 0 [] 0 false false (.slice none 0 0), .int .i64 11] := by
  obtain ⟨a, rfl, hform⟩ := h
  simp only [List.length_map] at hform ⊢
  refine LCall_enter Tryd.func7 c7 ?_
  simp (contextual := true) (implicitDefEqProofs := false) (maxSteps := 2000000) (disch := first | rfl | exact NB rfl | omega | (simp only [XL]; omega)) only [L7, XW, undef_eq, Nat.reduceAdd, Nat.reduceSub, ↓reduceIte, basic, cellsL, resOf, setAt, below, belowB, belowA, atomB, Nat.reduceLeDiff, Nat.reduceMul, Int.reduceToNat, Int.reduceLT, Int.reduceLE, Int.reduceAdd, Int.reduceNeg, Int.reduceEq, splice, Nat.reduceEqDiff, Nat.reduceLT, isAtom, Int.reduceSub, Int.reduceMul, implies_true]
  obtain ⟨M0, hM, hMl, hf0, hr0, hp0⟩ : ∃ M0, m ++ [⟨[str fb, .int .i64 fs], 27, 1, 0, .own⟩, ⟨[str tb, .int .i64 ts], 27, 1, 0, .own⟩, ⟨[.string ⟨#[]⟩, .int .i64 0, .string ⟨#[]⟩, .int .i64 0, .bool false, .bool false, .slice none 0 0], 30, 1, 0, .own⟩, ⟨[str tb, .int .i64 ts, str fb, .int .i64 fs, .bool cm, .bool (!cm), .slice none 0 0], 30, 1, 0, .own⟩] = M0 ∧ M0.length = m.length + 4 ∧ Frm [] m M0 ∧ M0[m.length + 2]? = some ⟨[.string ⟨#[]⟩, .int .i64 0, .string ⟨#[]⟩, .int .i64 0, .bool false, .bool false, .slice none 0 0], 30, 1, 0, .own⟩ ∧ M0[m.length + 3]? = some ⟨[str tb, .int .i64 ts, str fb, .int .i64 fs, .bool cm, .bool (!cm), .slice none 0 0], 30, 1, 0, .own⟩ := by
    refine ⟨_, rfl, by simp, Frm.refl.app, ?_, ?_⟩
    all_goals (rw [List.getElem?_append_right (by omega)]; simp)
  rw [hM]
  clear hM
  refine loop_inv (fun n t M => ∃ (j : Nat) (sv : Value) (G : List Nat), n = cs.length - j ∧ j ≤ cs.length ∧ Frm [m.length + 3] M0 M ∧ M[m.length + 3]? = some ⟨[str tb, .int .i64 ts, str fb, .int .i64 fs, .bool cm, .bool (!cm), sv], 30, 1, 0, .own⟩ ∧ Sl M 53 3 sv G (((cs.take j).map Cl.en).map En.row) ∧ (∀ x ∈ G, m.length + 4 ≤ x) ∧
    Tab 38 [(8, .pointer (some ⟨m.length + 2, 0, none⟩)), (10, .pointer (some ⟨m.length + 3, 0, none⟩)), (19, .slice a cs.length cs.length), (20, .int .i64 (cs.length : Int)), (21, .int .i64 (j : Int))] t) (n := cs.length) ?_ ?_
  · exact ⟨0, _, [], rfl, Nat.zero_le _, Frm.refl, hp0, .nil, by simp, ⟨rfl, by simp⟩⟩
  rintro N t M ⟨j, sv, G, rfl, hj, hf, hp, hs, hG, ht⟩
  obtain ⟨f, rfl⟩ : ∃ f' : Nat → Value, t = [f' 0, f' 1, f' 2, f' 3, f' 4, f' 5, f' 6, f' 7, .pointer (some ⟨m.length + 2, 0, none⟩), f' 9, .pointer (some ⟨m.length + 3, 0, none⟩), f' 11, f' 12, f' 13, f' 14, f' 15, f' 16, f' 17, f' 18, .slice a cs.length cs.length, .int .i64 (cs.length : Int), .int .i64 (j : Int), f' 22, f' 23, f' 24, f' 25, f' 26, f' 27, f' 28, f' 29, f' 30, f' 31, f' 32, f' 33, f' 34, f' 35, f' 36, f' 37] := ht.open fun f' => rfl
  have hpl := lt_of_some hp
  have hfl := hf.len
  have hfm : Frm [] m M := hf0.trans hf fun x hx => .inr (by simp at hx; omega)
  obtain ⟨sa, rfl, _⟩ := hs.form
  simp only [List.length_map] at hp
  by_cases hlt : j < cs.length
  · have hlt' : ((j : Int) < (cs.length : Int)) = True := by simp [hlt]
    have h0' : ((0 : Int) ≤ (j : Int)) = True := by simp
    have hwj : IntKind.i64.wrap ((j : Int) + 1) = ((j + 1 : Nat) : Int) := by rw [wrap_i64 (by omega) (by omega)]; omega
    obtain ⟨b, o, cc, T, fz, kd, rfl, hb', hk, hl, hrow⟩ := hform (by omega)
    obtain ⟨c, hc⟩ : ∃ r, cs[j]? = some r := ⟨cs[j], List.getElem?_eq_getElem hlt⟩
    have hr : (cc.drop (o + j * 2)).take 2 = [str c.b, .int .i64 c.s] := hrow j c.row (by simp [hc])
    have hlen : o + j * 2 + 2 ≤ cc.length := by omega
    have hbM := hfm.get0 hb'
    have hb0 := lt_of_some hbM
    have htl : (cs.take j).length = j := by rw [List.length_take]; omega
    simp (contextual := true) (implicitDefEqProofs := false) (maxSteps := 2000000) (disch := first | rfl | exact NB rfl | omega | (simp only [XL]; omega)) only [hbM, hp, hlt', h0', hr, cellsB_l hk hlen, Int.toNat_natCast, XX, XB, lc_block, lc_cond, XZ, undef_eq, Nat.reduceAdd, Nat.reduceSub, ↓reduceIte, basic, cellsL, resOf, setAt, below, belowB, belowA, atomB, Nat.reduceLeDiff, Nat.reduceMul, Int.reduceToNat, Int.reduceLT, Int.reduceLE, Int.reduceAdd, Int.reduceNeg, Int.reduceEq, splice, Nat.reduceEqDiff, Nat.reduceLT, isAtom, Int.reduceSub, Int.reduceMul, implies_true]
    have hs' := hs
    simp only [List.length_map] at hs'
    refine app_row (bytes := 32) (hs'.frm0 Frm.refl.app) rfl (by simp only [List.length_map, htl]; omega) ?_
    intro v2 M2 G2 hM2 hf2 hs2 hG2
    simp only [List.length_append, List.length_cons, List.length_nil] at hM2 hG2
    have hf3 : Frm G M M2 := hf2.app_of
    have hp2 := hf3.get hp fun hx => by have := hG _ hx; omega
    have hp2l := lt_of_some hp2
    have hG3 : ∀ x ∈ G2, m.length + 4 ≤ x := fun x hx => by have := hG2 x hx; omega
    have hs3 : Sl M2 53 3 v2 G2 (((cs.take (j + 1)).map Cl.en).map En.row) := by
      rw [take_snoc hc, List.map_append, List.map_append]; exact hs2
    obtain ⟨v2a, hv2, _⟩ := hs3.form
    subst hv2
    simp (contextual := true) (implicitDefEqProofs := false) (maxSteps := 2000000) (disch := first | rfl | exact NB rfl | omega | (simp only [XL]; omega)) only [hp2, XW, undef_eq, Nat.reduceAdd, Nat.reduceSub, ↓reduceIte, basic, cellsL, resOf, setAt, below, belowB, belowA, atomB, Nat.reduceLeDiff, Nat.reduceMul, Int.reduceToNat, Int.reduceLT, Int.reduceLE, Int.reduceAdd, Int.reduceNeg, Int.reduceEq, splice, Nat.reduceEqDiff, Nat.reduceLT, isAtom, Int.reduceSub, Int.reduceMul, implies_true]
    refine kInv_go ⟨j + 1, _, G2, rfl, by omega, ?_, by rw [List.getElem?_set_self hp2l], hs3.setb fun hx => by have := hG3 _ hx; omega, hG3, ⟨rfl, by simp [hwj]⟩⟩ (by omega)
    exact (hf.trans hf3 fun x hx => .inr (by have := hG x hx; omega)).set (by simp)
  · have hlt' : ((j : Int) < (cs.length : Int)) = False := by simp; omega
    have hjl : j = cs.length := by omega
    subst hjl
    rw [List.take_of_length_le (Nat.le_refl _)] at hs hp
    have hr1 := hf.get hr0 (by simp)
    have hr1l := lt_of_some hr1
    simp (contextual := true) (implicitDefEqProofs := false) (maxSteps := 2000000) (disch := first | rfl | exact NB rfl | omega | (simp only [XL]; omega)) only [hlt', hp, XW, undef_eq, Nat.reduceAdd, Nat.reduceSub, ↓reduceIte, basic, cellsL, resOf, setAt, below, belowB, belowA, atomB, Nat.reduceLeDiff, Nat.reduceMul, Int.reduceToNat, Int.reduceLT, Int.reduceLE, Int.reduceAdd, Int.reduceNeg, Int.reduceEq, splice, Nat.reduceEqDiff, Nat.reduceLT, isAtom, Int.reduceSub, Int.reduceMul, implies_true]
    refine (rightP_spec (l := cs.map Cl.en) htb hfb (fun e he => by obtain ⟨c, hc, rfl⟩ := List.mem_map.mp he; exact hb c hc) (by simpa only [List.length_map] using Sl.rd hs) (by simpa using hn)).use ?_
    cases hrp : rightP tb ts fb fs (cs.map Cl.en) with
    | false =>
      simp (contextual := true) (implicitDefEqProofs := false) (maxSteps := 2000000) (disch := first | rfl | exact NB rfl | omega | (simp only [XL]; omega)) only [hp, hr1, XW, undef_eq, Nat.reduceAdd, Nat.reduceSub, ↓reduceIte, basic, cellsL, resOf, setAt, below, belowB, belowA, atomB, Nat.reduceLeDiff, Nat.reduceMul, Int.reduceToNat, Int.reduceLT, Int.reduceLE, Int.reduceAdd, Int.reduceNeg, Int.reduceEq, splice, Nat.reduceEqDiff, Nat.reduceLT, isAtom, Int.reduceSub, Int.reduceMul, implies_true]
      exact hfm.set (i := m.length + 2) (.inr (by omega))
    | true =>
      simp (contextual := true) (implicitDefEqProofs := false) (maxSteps := 2000000) (disch := first | rfl | exact NB rfl | omega | (simp only [XL]; omega)) only [hp, hr1, XW, undef_eq, Nat.reduceAdd, Nat.reduceSub, ↓reduceIte, basic, cellsL, resOf, setAt, below, belowB, belowA, atomB, Nat.reduceLeDiff, Nat.reduceMul, Int.reduceToNat, Int.reduceLT, Int.reduceLE, Int.reduceAdd, Int.reduceNeg, Int.reduceEq, splice, Nat.reduceEqDiff, Nat.reduceLT, isAtom, Int.reduceSub, Int.reduceMul, implies_true]
      refine ⟨hfm.set (i := m.length + 2) (.inr (by omega)), _, G, rfl, ?_, fun x hx => by have := hG x hx; omega⟩
      simpa only [List.length_map] using hs.setb fun hx => by have := hG _ hx; omega
end Go.Proofs.YtijndljfpiomhaaDoor
/- The list of who was heard: searched, read: walked. -/
namespace Go.Proofs.YtijndljfpiomhaaDoor
open Go.Lg
set_option maxRecDepth 8000
set_option maxHeartbeats 8000000
deriving instance DecidableEq for Cl
def Cl.same (c d : Cl) : Bool := decide (c = d)
theorem Cl.same_iff {c d : Cl} : c.same d = true ↔ c = d := by simp [Cl.same]
theorem eqN_cl {c d : Cl} : eqN [(0, .string), (1, .int)] (cl c.b c.s) (cl d.b d.s) = some (c.same d) := by
  have h1 : c.same d = (decide (c.b = d.b) && decide (c.s = d.s)) := by
    unfold Cl.same
    rw [Bool.eq_iff_iff]
    cases c; cases d; simp
  rw [h1]
  simp [eqN, eqLeaves, eqLeaf, cl, str, str_eq]
structure He where
  c : Cl
  v : Cl
  n : Int
  w : Int
def He.row (e : He) : List Value := [str e.c.b, .int .i64 e.c.s, str e.v.b, .int .i64 e.v.s, .int .i64 e.n, .int .i64 e.w]
def idxH (c : Cl) : List He → Nat → Int
  | [], _ => -1
  | e :: l, i => if e.c.same c then i else idxH c l (i + 1)
theorem idxH_cases {c : Cl} : ∀ {l : List He} {i : Nat}, (idxH c l i = -1 ∧ ∀ e ∈ l, e.c ≠ c) ∨ ∃ (j : Nat) (e : He), l[j]? = some e ∧ e.c = c ∧ idxH c l i = ((i + j : Nat) : Int) ∧ ∀ (j' : Nat) (e' : He), j' < j → l[j']? = some e' → e'.c ≠ c
  | [], i => .inl ⟨rfl, by simp⟩
  | e :: l, i => by
    rw [idxH]
    by_cases h : e.c.same c = true
    · right
      rw [if_pos h]
      exact ⟨0, e, rfl, Cl.same_iff.1 h, by simp, fun j' e' hj => by omega⟩
    · rw [if_neg h]
      have h' : e.c ≠ c := fun k => h (Cl.same_iff.2 k)
      rcases idxH_cases (c := c) (l := l) (i := i + 1) with ⟨h1, h2⟩ | ⟨j, e1, h1, h2, h3, h4⟩
      · left
        refine ⟨h1, fun x hx => ?_⟩
        rcases List.mem_cons.mp hx with rfl | hx
        · exact h'
        · exact h2 x hx
      · right
        refine ⟨j + 1, e1, by simpa using h1, h2, by rw [h3]; congr 1; omega, fun j' e' hj he => ?_⟩
        match j', hj, he with
        | 0, _, he => simp at he; subst he; exact h'
        | j' + 1, hj, he => exact h4 j' e' (by omega) (by simpa using he)
theorem at1_spec (e : He) (c : Cl) {pc : Nat} {m : Mem} (hc : m[pc]? = some ⟨[str c.b, .int .i64 c.s], 27, 1, 0, .own⟩) : Ret Tryd.prog 41 [.agg #[str e.c.b, .int .i64 e.c.s, str e.v.b, .int .i64 e.v.s, .int .i64 e.n, .int .i64 e.w], .pointer (some ⟨pc, 0, none⟩)] m (.bool (e.c.same c)) m := by
  have l0 := lt_of_some hc
  refine LCall_drop (LCall_enter Tryd.func41 c41 ?_)
  simp (contextual := true) (implicitDefEqProofs := false) (maxSteps := 2000000) (disch := first | rfl | exact NB rfl | omega | (simp only [XL]; omega)) only [L41, hc, eqN_cl, XW, undef_eq, Nat.reduceAdd, Nat.reduceSub, ↓reduceIte, basic, cellsL, resOf, setAt, below, belowB, belowA, atomB, Nat.reduceLeDiff, Nat.reduceMul, Int.reduceToNat, Int.reduceLT, Int.reduceLE, Int.reduceAdd, Int.reduceNeg, Int.reduceEq, splice, Nat.reduceEqDiff, Nat.reduceLT, isAtom, Int.reduceSub, Int.reduceMul, implies_true]
theorem hindex_spec {l : List He} {c : Cl} {v : Value} {pc : Nat} {m : Mem} (hc : m[pc]? = some ⟨[str c.b, .int .i64 c.s], 27, 1, 0, .own⟩) (h : Rd m 6 v (l.map He.row)) (hn : l.length ≤ 1000000) :
    Ret Tryd.prog 40 [v, .func (.func 41) #[] [.pointer (some ⟨pc, 0, none⟩)].toArray] m (.int .i64 (idxH c l 0)) m := by
  have hq : callable Tryd.prog 41 = true := by kernel_rfl
  obtain ⟨cap, hcap⟩ : ∃ cap : List Value, cap = [.pointer (some ⟨pc, 0, none⟩)] := ⟨_, rfl⟩
  have hp : ∀ e : He, Ret Tryd.prog 41 (.agg #[str e.c.b, .int .i64 e.c.s, str e.v.b, .int .i64 e.v.s, .int .i64 e.n, .int .i64 e.w] :: cap) m (.bool (e.c.same c)) m := fun e => by rw [hcap]; exact at1_spec e c hc
  rw [← hcap]
  clear hcap hc
  obtain ⟨a, rfl, hform⟩ := h
  simp only [List.length_map] at hform ⊢
  refine LCall_drop (LCall_enter Tryd.func40 c40 ?_)
  simp (contextual := true) (implicitDefEqProofs := false) (maxSteps := 2000000) (disch := first | rfl | exact NB rfl | omega | (simp only [XL]; omega)) only [L40, XW, undef_eq, Nat.reduceAdd, Nat.reduceSub, ↓reduceIte, basic, cellsL, resOf, setAt, below, belowB, belowA, atomB, Nat.reduceLeDiff, Nat.reduceMul, Int.reduceToNat, Int.reduceLT, Int.reduceLE, Int.reduceAdd, Int.reduceNeg, Int.reduceEq, splice, Nat.reduceEqDiff, Nat.reduceLT, isAtom, Int.reduceSub, Int.reduceMul, implies_true]
  refine loop_inv (fun n t M => ∃ (j : Nat), n = l.length - j ∧ j ≤ l.length ∧ idxH c l 0 = idxH c (l.drop j) j ∧ M = m ∧
    Tab 19 [(0, .slice a l.length l.length), (1, .func (.func 41) #[] cap.toArray), (7, .int .i64 (l.length : Int)), (8, .int .i64 (j : Int))] t) (n := l.length) ?_ ?_
  · exact ⟨0, rfl, Nat.zero_le _, rfl, rfl, ⟨rfl, by simp⟩⟩
  rintro N t m' ⟨j, rfl, hj, hx, rfl, ht⟩
  obtain ⟨f, rfl⟩ : ∃ f' : Nat → Value, t = [.slice a l.length l.length, .func (.func 41) #[] cap.toArray, f' 2, f' 3, f' 4, f' 5, f' 6, .int .i64 (l.length : Int), .int .i64 (j : Int), f' 9, f' 10, f' 11, f' 12, f' 13, f' 14, f' 15, f' 16, f' 17, f' 18] := ht.open fun f' => rfl
  by_cases hlt : j < l.length
  · have hlt' : ((j : Int) < (l.length : Int)) = True := by simp [hlt]
    have h0' : ((0 : Int) ≤ (j : Int)) = True := by simp
    have hwj : IntKind.i64.wrap ((j : Int) + 1) = ((j + 1 : Nat) : Int) := by rw [wrap_i64 (by omega) (by omega)]; omega
    obtain ⟨b, o, cs, T, fz, kd, rfl, hb, hk, hl, hrow⟩ := hform (by omega)
    obtain ⟨e, he⟩ : ∃ r, l[j]? = some r := ⟨l[j], List.getElem?_eq_getElem hlt⟩
    have hd : l.drop j = e :: l.drop (j + 1) := by
      rw [List.drop_eq_getElem_cons hlt, (List.getElem?_eq_some_iff.mp he).2]
    have hr : (cs.drop (o + j * 6)).take 6 = [str e.c.b, .int .i64 e.c.s, str e.v.b, .int .i64 e.v.s, .int .i64 e.n, .int .i64 e.w] := hrow j e.row (by simp [he])
    have hlen : o + j * 6 + 6 ≤ cs.length := by omega
    have hb0 := lt_of_some hb
    simp (contextual := true) (implicitDefEqProofs := false) (maxSteps := 2000000) (disch := first | rfl | exact NB rfl | omega | (simp only [XL]; omega)) only [hb, hlt', h0', hr, cellsB_l hk hlen, Int.toNat_natCast, XW, undef_eq, Nat.reduceAdd, Nat.reduceSub, ↓reduceIte, basic, cellsL, resOf, setAt, below, belowB, belowA, atomB, Nat.reduceLeDiff, Nat.reduceMul, Int.reduceToNat, Int.reduceLT, Int.reduceLE, Int.reduceAdd, Int.reduceNeg, Int.reduceEq, splice, Nat.reduceEqDiff, Nat.reduceLT, isAtom, Int.reduceSub, Int.reduceMul, implies_true]
    refine ⟨hq, (hp e).use ?_⟩
    rw [hx, hd, idxH]
    cases hpe : e.c.same c with
    | true => simp (contextual := true) (implicitDefEqProofs := false) (maxSteps := 2000000) (disch := first | rfl | exact NB rfl | omega | (simp only [XL]; omega)) only [XW, undef_eq, Nat.reduceAdd, Nat.reduceSub, ↓reduceIte, basic, cellsL, resOf, setAt, below, belowB, belowA, atomB, Nat.reduceLeDiff, Nat.reduceMul, Int.reduceToNat, Int.reduceLT, Int.reduceLE, Int.reduceAdd, Int.reduceNeg, Int.reduceEq, splice, Nat.reduceEqDiff, Nat.reduceLT, isAtom, Int.reduceSub, Int.reduceMul, implies_true]
    | false =>
      simp (contextual := true) (implicitDefEqProofs := false) (maxSteps := 2000000) (disch := first | rfl | exact NB rfl | omega | (simp only [XL]; omega)) only [XW, undef_eq, Nat.reduceAdd, Nat.reduceSub, ↓reduceIte, basic, cellsL, resOf, setAt, below, belowB, belowA, atomB, Nat.reduceLeDiff, Nat.reduceMul, Int.reduceToNat, Int.reduceLT, Int.reduceLE, Int.reduceAdd, Int.reduceNeg, Int.reduceEq, splice, Nat.reduceEqDiff, Nat.reduceLT, isAtom, Int.reduceSub, Int.reduceMul, implies_true]
      exact kInv_go ⟨j + 1, rfl, by omega, by first | rfl | (rw [hx, hd, idxH, hpe]; rfl), rfl, ⟨rfl, by simp [hwj]⟩⟩ (by omega)
  · have hlt' : ((j : Int) < (l.length : Int)) = False := by simp; omega
    rw [hx, List.drop_of_length_le (by omega)]
    simp (contextual := true) (implicitDefEqProofs := false) (maxSteps := 2000000) (disch := first | rfl | exact NB rfl | omega | (simp only [XL]; omega)) only [hlt', idxH, XW, undef_eq, Nat.reduceAdd, Nat.reduceSub, ↓reduceIte, basic, cellsL, resOf, setAt, below, belowB, belowA, atomB, Nat.reduceLeDiff, Nat.reduceMul, Int.reduceToNat, Int.reduceLT, Int.reduceLE, Int.reduceAdd, Int.reduceNeg, Int.reduceEq, splice, Nat.reduceEqDiff, Nat.reduceLT, isAtom, Int.reduceSub, Int.reduceMul, implies_true]
def hB (sv : Value) : Blk := ⟨[sv], 51, 1, 0, .own⟩
theorem at_nil (c : Cl) (m : Mem) : Ret Tryd.prog 22 [.pointer none, cl c.b c.s] m (.int .i64 (-1)) m := by
  refine LCall_drop (LCall_enter Tryd.func22 c22 ?_)
  simp (contextual := true) (implicitDefEqProofs := false) (maxSteps := 2000000) (disch := first | rfl | exact NB rfl | omega | (simp only [XL]; omega)) only [L22, XW, undef_eq, Nat.reduceAdd, Nat.reduceSub, ↓reduceIte, basic, cellsL, resOf, setAt, below, belowB, belowA, atomB, Nat.reduceLeDiff, Nat.reduceMul, Int.reduceToNat, Int.reduceLT, Int.reduceLE, Int.reduceAdd, Int.reduceNeg, Int.reduceEq, splice, Nat.reduceEqDiff, Nat.reduceLT, isAtom, Int.reduceSub, Int.reduceMul, implies_true]
theorem at_spec {l : List He} {c : Cl} {sv : Value} {di : Nat} {m : Mem} (hd : m[di]? = some ⟨[sv], 51, 1, 0, .own⟩) (h : Rd m 6 sv (l.map He.row)) (hn : l.length ≤ 1000000) :
    Ret Tryd.prog 22 [.pointer (some ⟨di, 0, none⟩), cl c.b c.s] m (.int .i64 (idxH c l 0)) m := by
  have h0 := h
  obtain ⟨a, rfl, _⟩ := h
  have l0 := lt_of_some hd
  refine LCall_drop (LCall_enter Tryd.func22 c22 ?_)
  simp (contextual := true) (implicitDefEqProofs := false) (maxSteps := 2000000) (disch := first | rfl | exact NB rfl | omega | (simp only [XL]; omega)) only [L22, hd, XW, undef_eq, Nat.reduceAdd, Nat.reduceSub, ↓reduceIte, basic, cellsL, resOf, setAt, below, belowB, belowA, atomB, Nat.reduceLeDiff, Nat.reduceMul, Int.reduceToNat, Int.reduceLT, Int.reduceLE, Int.reduceAdd, Int.reduceNeg, Int.reduceEq, splice, Nat.reduceEqDiff, Nat.reduceLT, isAtom, Int.reduceSub, Int.reduceMul, implies_true]
  refine (hindex_spec (c := c) (l := l) (pc := m.length) (by simp) h0.app hn).use ?_
  simp (contextual := true) (implicitDefEqProofs := false) (maxSteps := 2000000) (disch := first | rfl | exact NB rfl | omega | (simp only [XL]; omega)) only [XW, undef_eq, Nat.reduceAdd, Nat.reduceSub, ↓reduceIte, basic, cellsL, resOf, setAt, below, belowB, belowA, atomB, Nat.reduceLeDiff, Nat.reduceMul, Int.reduceToNat, Int.reduceLT, Int.reduceLE, Int.reduceAdd, Int.reduceNeg, Int.reduceEq, splice, Nat.reduceEqDiff, Nat.reduceLT, isAtom, Int.reduceSub, Int.reduceMul, implies_true]
theorem find_nil (c : Cl) (m : Mem) : Ret Tryd.prog 11 [.pointer none, cl c.b c.s] m (.tuple #[.agg #[str [], .int .i64 0, str [], .int .i64 0, .int .i64 0, .int .i64 0], .bool false]) m := by
  refine LCall_drop (LCall_enter Tryd.func11 c11 ?_)
  simp (contextual := true) (implicitDefEqProofs := false) (maxSteps := 2000000) (disch := first | rfl | exact NB rfl | omega | (simp only [XL]; omega)) only [L11, XW, undef_eq, Nat.reduceAdd, Nat.reduceSub, ↓reduceIte, basic, cellsL, resOf, setAt, below, belowB, belowA, atomB, Nat.reduceLeDiff, Nat.reduceMul, Int.reduceToNat, Int.reduceLT, Int.reduceLE, Int.reduceAdd, Int.reduceNeg, Int.reduceEq, splice, Nat.reduceEqDiff, Nat.reduceLT, isAtom, Int.reduceSub, Int.reduceMul, implies_true]
  refine (at_nil c _).use ?_
  simp (contextual := true) (implicitDefEqProofs := false) (maxSteps := 2000000) (disch := first | rfl | exact NB rfl | omega | (simp only [XL]; omega)) only [XW, undef_eq, Nat.reduceAdd, Nat.reduceSub, ↓reduceIte, basic, cellsL, resOf, setAt, below, belowB, belowA, atomB, Nat.reduceLeDiff, Nat.reduceMul, Int.reduceToNat, Int.reduceLT, Int.reduceLE, Int.reduceAdd, Int.reduceNeg, Int.reduceEq, splice, Nat.reduceEqDiff, Nat.reduceLT, isAtom, Int.reduceSub, Int.reduceMul, implies_true]
def heV (e : He) : Value := .agg #[str e.c.b, .int .i64 e.c.s, str e.v.b, .int .i64 e.v.s, .int .i64 e.n, .int .i64 e.w]
def he0 : He := ⟨⟨[], 0⟩, ⟨[], 0⟩, 0, 0⟩
def findH (c : Cl) (l : List He) : He × Bool := match l[(idxH c l 0).toNat]? with
  | some e => if idxH c l 0 = -1 then (he0, false) else (e, true)
  | none => (he0, false)
theorem find_spec {l : List He} {c : Cl} {sv : Value} {di : Nat} {m : Mem} (hd : m[di]? = some ⟨[sv], 51, 1, 0, .own⟩) (h : Rd m 6 sv (l.map He.row)) (hn : l.length ≤ 1000000) :
    Ret Tryd.prog 11 [.pointer (some ⟨di, 0, none⟩), cl c.b c.s] m (.tuple #[heV (findH c l).1, .bool (findH c l).2]) m := by
  have h0 := h
  obtain ⟨a, rfl, hform⟩ := h
  simp only [List.length_map] at hform
  have l0 := lt_of_some hd
  refine LCall_drop (LCall_enter Tryd.func11 c11 ?_)
  simp (contextual := true) (implicitDefEqProofs := false) (maxSteps := 2000000) (disch := first | rfl | exact NB rfl | omega | (simp only [XL]; omega)) only [L11, XW, undef_eq, Nat.reduceAdd, Nat.reduceSub, ↓reduceIte, basic, cellsL, resOf, setAt, below, belowB, belowA, atomB, Nat.reduceLeDiff, Nat.reduceMul, Int.reduceToNat, Int.reduceLT, Int.reduceLE, Int.reduceAdd, Int.reduceNeg, Int.reduceEq, splice, Nat.reduceEqDiff, Nat.reduceLT, isAtom, Int.reduceSub, Int.reduceMul, implies_true]
  refine (at_spec (c := c) (m := m ++ _) (by rw [List.getElem?_append_left l0]; exact hd) h0.app hn).use ?_
  rcases idxH_cases (c := c) (l := l) (i := 0) with ⟨hx, _⟩ | ⟨j, e, he, hec, hx, _⟩
  · have hf : findH c l = (he0, false) := by
      unfold findH
      rw [hx]
      split <;> simp
    rw [hx, hf]
    simp (contextual := true) (implicitDefEqProofs := false) (maxSteps := 2000000) (disch := first | rfl | exact NB rfl | omega | (simp only [XL]; omega)) only [heV, he0, XW, undef_eq, Nat.reduceAdd, Nat.reduceSub, ↓reduceIte, basic, cellsL, resOf, setAt, below, belowB, belowA, atomB, Nat.reduceLeDiff, Nat.reduceMul, Int.reduceToNat, Int.reduceLT, Int.reduceLE, Int.reduceAdd, Int.reduceNeg, Int.reduceEq, splice, Nat.reduceEqDiff, Nat.reduceLT, isAtom, Int.reduceSub, Int.reduceMul, implies_true]
  · rw [Nat.zero_add] at hx
    have hf : findH c l = (e, true) := by
      unfold findH
      rw [hx, Int.toNat_natCast, he]
      simp only
      rw [if_neg (by omega)]
    rw [hx, hf]
    have hj : j < l.length := (List.getElem?_eq_some_iff.mp he).1
    obtain ⟨b, o, cs, T, fz, kd, rfl, hb, hk, hl, hrow⟩ := hform (by omega)
    have hr : (cs.drop (o + j * 6)).take 6 = [str e.c.b, .int .i64 e.c.s, str e.v.b, .int .i64 e.v.s, .int .i64 e.n, .int .i64 e.w] := hrow j e.row (by simp [he])
    have hlen : o + j * 6 + 6 ≤ cs.length := by omega
    have hb0 := lt_of_some hb
    have hneg : ((j : Int) < 0) = False := eq_false (by omega)
    have hlt' : ((j : Int) < (l.length : Int)) = True := by simp [hj]
    have h0' : ((0 : Int) ≤ (j : Int)) = True := by simp
    simp (contextual := true) (implicitDefEqProofs := false) (maxSteps := 2000000) (disch := first | rfl | exact NB rfl | omega | (simp only [XL]; omega)) only [heV, hd, hb, hneg, hlt', h0', hr, cellsB_l hk hlen, Int.toNat_natCast, List.length_map, XW, undef_eq, Nat.reduceAdd, Nat.reduceSub, ↓reduceIte, basic, cellsL, resOf, setAt, below, belowB, belowA, atomB, Nat.reduceLeDiff, Nat.reduceMul, Int.reduceToNat, Int.reduceLT, Int.reduceLE, Int.reduceAdd, Int.reduceNeg, Int.reduceEq, splice, Nat.reduceEqDiff, Nat.reduceLT, isAtom, Int.reduceSub, Int.reduceMul, implies_true]
theorem clear_nil (m : Mem) : LCall Tryd.prog 12 [.pointer none] m fun _ M => M = m := by
  refine LCall_enter Tryd.func12 c12 ?_
  simp (contextual := true) (implicitDefEqProofs := false) (maxSteps := 2000000) (disch := first | rfl | exact NB rfl | omega | (simp only [XL]; omega)) only [L12, XW, undef_eq, Nat.reduceAdd, Nat.reduceSub, ↓reduceIte, basic, cellsL, resOf, setAt, below, belowB, belowA, atomB, Nat.reduceLeDiff, Nat.reduceMul, Int.reduceToNat, Int.reduceLT, Int.reduceLE, Int.reduceAdd, Int.reduceNeg, Int.reduceEq, splice, Nat.reduceEqDiff, Nat.reduceLT, isAtom, Int.reduceSub, Int.reduceMul, implies_true]
end Go.Proofs.YtijndljfpiomhaaDoor
/- Controls and their bytes: plain. -/
namespace Go.Proofs.YtijndljfpiomhaaDoor
open Go.Lg
set_option maxRecDepth 8000
set_option maxHeartbeats 8000000
structure Ct where
  k : Int
  ns : Int
  nr : Int
  pf : Bool
def Ct.val (c : Ct) : Value := .agg #[.int .i64 c.k, .int .i64 c.ns, .int .i64 c.nr, .bool c.pf]
namespace K
abbrev ctlV (k r s : Int) (p : Bool) : Value := .agg #[.int .i64 k, .int .i64 r, .int .i64 s, .bool p]
def supB (k : Int) : Bool := decide (2 ≤ k ∧ k ≤ 5)
def infoB (k : Int) : Bool := decide (k = 1 ∨ (11 ≤ k ∧ k ≤ 14))
def pidB (k : Int) : Bool := decide (k = 1 ∨ k = 12)
def m8 (w : Bool) : Int := if w = true then 128 else 8
def numB (n : Int) (there : Bool) (mod : Int) : Bool := if there = true then decide (0 ≤ n ∧ n < mod) else decide (n = 0)
def rightC (k r s : Int) (w : Bool) : Bool := decide (1 ≤ k ∧ k ≤ 14) && (numB s (decide (k = 1)) (m8 w) && numB r (decide (k ≤ 5)) (m8 w))
def baseL : List Int := [47, 111, 67, 15, 99, 135, 3, 175, 227]
def sixt (p : Bool) : Int := if p = true then 16 else 0
def onee (p : Bool) : Int := if p = true then 1 else 0
def firstC (k s : Int) : Int := if k = 1 then 2 * s else (k - 2) * 4 + 1
def putL8 (k r s : Int) (p w : Bool) : List Int :=
  if 6 ≤ k then [baseL.getD (k - 6).toNat 0 + sixt p] else if w = true then [firstC k s, 2 * r + onee p] else [32 * r + sixt p + firstC k s]
def strL (l : List Int) : List UInt8 := l.map fun e => UInt8.ofNat e.toNat
def strOf (l : List Int) : ByteArray := ⟨(strL l).toArray⟩
theorem strL_len {l : List Int} : (strL l).length = l.length := by simp [strL]
theorem right_of {k r s : Int} {w : Bool} (h : rightC k r s w = true) : (1 ≤ k ∧ k ≤ 14) ∧ (0 ≤ s ∧ s < m8 w) ∧ (0 ≤ r ∧ r < m8 w) ∧ (k = 1 ∨ s = 0) ∧ (k ≤ 5 ∨ r = 0) := by
  have hm : 0 < m8 w := by cases w <;> decide
  unfold rightC numB at h
  simp only [Bool.and_eq_true, decide_eq_true_eq] at h
  obtain ⟨h1, h2, h3⟩ := h
  refine ⟨h1, ?_, ?_, ?_, ?_⟩
  · split at h2
    · simpa using h2
    · have : s = 0 := by simpa using h2
      omega
  · split at h3
    · simpa using h3
    · have : r = 0 := by simpa using h3
      omega
  · split at h2
    · rename_i h4; exact .inl h4
    · right; simpa using h2
  · split at h3
    · rename_i h4; exact .inl h4
    · right; simpa using h3
theorem right_false {k r s : Int} {w : Bool} (h : ¬ ((1 ≤ k ∧ k ≤ 14) ∧ (0 ≤ s ∧ s < m8 w) ∧ (0 ≤ r ∧ r < m8 w) ∧ (k = 1 ∨ s = 0) ∧ (k ≤ 5 ∨ r = 0))) : rightC k r s w = false := by
  rw [Bool.eq_false_iff]
  exact fun e => h (right_of e)
theorem right_true {k r s : Int} {w : Bool} (h : (1 ≤ k ∧ k ≤ 14) ∧ (0 ≤ s ∧ s < m8 w) ∧ (0 ≤ r ∧ r < m8 w) ∧ (k = 1 ∨ s = 0) ∧ (k ≤ 5 ∨ r = 0)) : rightC k r s w = true := by
  unfold rightC numB
  simp only [Bool.and_eq_true, decide_eq_true_eq]
  refine ⟨h.1, ?_, ?_⟩
  · split
    · simpa using h.2.1
    · simp; omega
  · split
    · simpa using h.2.2.1
    · simp; omega
theorem m8_f : m8 false = 8 := rfl
theorem m8_t : m8 true = 128 := rfl
theorem nine_cases {k : Int} (h : 6 ≤ k) (h2 : k ≤ 14) : k = 6 ∨ k = 7 ∨ k = 8 ∨ k = 9 ∨ k = 10 ∨ k = 11 ∨ k = 12 ∨ k = 13 ∨ k = 14 := by omega
theorem nine_nat {i : Nat} (h : i < 9) : i = 0 ∨ i = 1 ∨ i = 2 ∨ i = 3 ∨ i = 4 ∨ i = 5 ∨ i = 6 ∨ i = 7 ∨ i = 8 := by omega
def inB (l : List Int) : Prop := ∀ e ∈ l, 0 ≤ e ∧ e < 256
theorem base_facts : ∀ i, i < 9 → ∀ p, (0 ≤ baseL.getD i 0 + sixt p ∧ baseL.getD i 0 + sixt p < 256) ∧ (baseL.getD i 0 + sixt p) % 4 = 3 := by decide
theorem sixt_b (p : Bool) : (p = true ∧ sixt p = 16) ∨ (p = false ∧ sixt p = 0) := by cases p <;> simp [sixt]
theorem onee_b (p : Bool) : (p = true ∧ onee p = 1) ∨ (p = false ∧ onee p = 0) := by cases p <;> simp [onee]
theorem first_facts {k s : Int} (hk : 1 ≤ k ∧ k ≤ 5) (hs : 0 ≤ s) (h1 : k = 1 ∨ s = 0) : 0 ≤ firstC k s ∧ ((k = 1 ∧ firstC k s = 2 * s) ∨ (2 ≤ k ∧ s = 0 ∧ firstC k s = (k - 2) * 4 + 1)) := by
  unfold firstC
  split
  · refine ⟨by omega, .inl ⟨by omega, rfl⟩⟩
  · refine ⟨by omega, .inr ⟨by omega, by omega, rfl⟩⟩
theorem put_inB {k r s : Int} {p w : Bool} (h : rightC k r s w = true) : inB (putL8 k r s p w) := by
  obtain ⟨hk, hs, hrr, hk1, hk5⟩ := right_of h
  unfold putL8
  split
  · have := (base_facts (k - 6).toNat (by omega) p).1
    intro e he
    simp only [List.mem_singleton] at he
    subst he; exact this
  · obtain ⟨hf0, hf⟩ := first_facts (k := k) (s := s) (by omega) hs.1 hk1
    have h16 := sixt_b p
    have h1 := onee_b p
    cases w
    · rw [m8_f] at hs hrr
      rw [if_neg (by decide)]
      intro e he
      simp only [List.mem_singleton] at he
      subst he; omega
    · rw [m8_t] at hs hrr
      rw [if_pos rfl]
      intro e he
      simp only [List.mem_cons, List.not_mem_nil, or_false] at he
      rcases he with rfl | rfl <;> omega
theorem byte_nat {e : Int} (h : 0 ≤ e ∧ e < 256) : (((UInt8.ofNat e.toNat).toNat : Nat) : Int) = e := by simp; omega
def czero : Ct := ⟨0, 0, 0, false⟩
def plainC (b : Nat) : Int × Ct × Nat := match (List.range 9).find? fun i => decide (baseL.getD i 0 = ((b - 16 * (b / 16 % 2) : Nat) : Int)) with
  | some i => (0, ⟨6 + (i : Int), 0, 0, decide (b / 16 % 2 = 1)⟩, 1)
  | none => (2, czero, 0)
def narC (b : Nat) : Ct := ⟨if b % 2 = 0 then 1 else 2 + ((b % 16 / 4 : Nat) : Int), ((b / 32 : Nat) : Int), if b % 2 = 0 then ((b % 16 / 2 : Nat) : Int) else 0, !decide (b / 16 % 2 = 0)⟩
def wideC (b c : Nat) : Ct := ⟨if b % 2 = 0 then 1 else 2 + ((b / 4 : Nat) : Int), ((c / 2 : Nat) : Int), if b % 2 = 0 then ((b / 2 : Nat) : Int) else 0, !decide (c % 2 = 0)⟩
def wOf (b : Nat) : List UInt8 → Int × Ct × Nat
  | [] => (4, czero, 0)
  | c :: _ => if b % 2 = 0 ∨ b ≤ 15 then (0, wideC b c.toNat, 2) else (2, czero, 0)
def getC : List UInt8 → Bool → Int × Ct × Nat
  | [], _ => (4, czero, 0)
  | b :: r, w => if b.toNat % 4 = 3 then plainC b.toNat else if w = false then (0, narC b.toNat, 1) else wOf b.toNat r
theorem plainC_at {i : Nat} (h : i < 9) (p : Bool) : plainC (baseL.getD i 0 + sixt p).toNat = (0, ⟨6 + (i : Int), 0, 0, p⟩, 1) := by
  rcases nine_nat h with rfl | rfl | rfl | rfl | rfl | rfl | rfl | rfl | rfl <;> cases p <;> rfl
theorem pf_of {a : Nat} {p : Bool} (h : (p = true ∧ a % 2 = 1) ∨ (p = false ∧ a % 2 = 0)) : (!decide (a % 2 = 0)) = p := by
  rcases h with ⟨rfl, h⟩ | ⟨rfl, h⟩
  · rw [decide_eq_false (by omega)]; rfl
  · rw [decide_eq_true h]; rfl
theorem getC_put {k r s : Int} {p w : Bool} (h : rightC k r s w = true) (rest : List UInt8) : getC (strL (putL8 k r s p w) ++ rest) w = (0, ⟨k, r, s, p⟩, (putL8 k r s p w).length) := by
  obtain ⟨hk, hs, hrr, hk1, hk5⟩ := right_of h
  have hin := put_inB (p := p) h
  by_cases h6 : 6 ≤ k
  · have e : putL8 k r s p w = [baseL.getD (k - 6).toNat 0 + sixt p] := if_pos h6
    rw [e] at hin ⊢
    have hb := byte_nat (hin (baseL.getD (k - 6).toNat 0 + sixt p) (List.mem_singleton.2 rfl))
    have hf := base_facts (k - 6).toNat (by omega) p
    have hp := plainC_at (i := (k - 6).toNat) (by omega) p
    show getC (UInt8.ofNat (baseL.getD (k - 6).toNat 0 + sixt p).toNat :: rest) w = _
    have hn : (UInt8.ofNat (baseL.getD (k - 6).toNat 0 + sixt p).toNat).toNat = (baseL.getD (k - 6).toNat 0 + sixt p).toNat := by omega
    have hr0 : r = 0 := by omega
    have hs0 : s = 0 := by omega
    have hkk : (6 : Int) + ((k - 6).toNat : Int) = k := by omega
    rw [getC, if_pos (by omega), hn, hp, hr0, hs0, hkk]; rfl
  · have b16 := sixt_b p
    have b1 := onee_b p
    have hf := first_facts (k := k) (s := s) (by omega) hs.1 hk1
    cases w
    · have e : putL8 k r s p false = [32 * r + sixt p + firstC k s] := by unfold putL8; rw [if_neg h6, if_neg (by decide)]
      rw [e] at hin ⊢
      have hb := byte_nat (hin (32 * r + sixt p + firstC k s) (List.mem_singleton.2 rfl))
      rw [m8_f] at hs hrr
      show getC (UInt8.ofNat (32 * r + sixt p + firstC k s).toNat :: rest) false = _
      generalize UInt8.ofNat (32 * r + sixt p + firstC k s).toNat = B at hb ⊢
      have hkv : (if B.toNat % 2 = 0 then (1 : Int) else 2 + ((B.toNat % 16 / 4 : Nat) : Int)) = k := by split <;> omega
      have hrv : ((B.toNat / 32 : Nat) : Int) = r := by omega
      have hsv : (if B.toNat % 2 = 0 then ((B.toNat % 16 / 2 : Nat) : Int) else 0) = s := by split <;> omega
      have hpv : (!decide (B.toNat / 16 % 2 = 0)) = p := pf_of (b16.imp (fun h => ⟨h.1, by omega⟩) (fun h => ⟨h.1, by omega⟩))
      rw [getC, if_neg (by omega), if_pos rfl, narC, hkv, hrv, hsv, hpv]; rfl
    · have e : putL8 k r s p true = [firstC k s, 2 * r + onee p] := by unfold putL8; rw [if_neg h6, if_pos rfl]
      rw [e] at hin ⊢
      have hb := byte_nat (hin (firstC k s) (by simp))
      have hc := byte_nat (hin (2 * r + onee p) (by simp))
      rw [m8_t] at hs hrr
      show getC (UInt8.ofNat (firstC k s).toNat :: UInt8.ofNat (2 * r + onee p).toNat :: rest) true = _
      generalize UInt8.ofNat (firstC k s).toNat = B at hb ⊢
      generalize UInt8.ofNat (2 * r + onee p).toNat = C at hc ⊢
      have hkv : (if B.toNat % 2 = 0 then (1 : Int) else 2 + ((B.toNat / 4 : Nat) : Int)) = k := by split <;> omega
      have hrv : ((C.toNat / 2 : Nat) : Int) = r := by omega
      have hsv : (if B.toNat % 2 = 0 then ((B.toNat / 2 : Nat) : Int) else 0) = s := by split <;> omega
      have hpv : (!decide (C.toNat % 2 = 0)) = p := pf_of (b1.imp (fun h => ⟨h.1, by omega⟩) (fun h => ⟨h.1, by omega⟩))
      rw [getC, if_neg (by omega), if_neg (by decide), wOf, if_pos (by omega), wideC, hkv, hrv, hsv, hpv]; rfl
theorem plainC_len (b : Nat) : (plainC b).2.2 ≤ 1 := by
  unfold plainC; split <;> simp
theorem getC_len {s : List UInt8} {w : Bool} : (getC s w).2.2 ≤ s.length ∧ (getC s w).2.2 ≤ 2 := by
  match s with
  | [] => simp [getC]
  | b :: r =>
    rw [getC]
    split
    · have := plainC_len b.toNat
      simp only [List.length_cons]; omega
    · split
      · simp
      · match r with
        | [] => simp [wOf]
        | c :: r =>
          rw [wOf]
          split <;> simp
def cR (s : List UInt8) (w : Bool) (k : Int) : Int := if 5 < k then 0 else if w = true then (((s.getD 1 0).toNat / 2 : Nat) : Int) else (((s.getD 0 0).toNat / 32 : Nat) : Int)
def cS (s : List UInt8) (w : Bool) (k : Int) : Int := if k = 1 then (if w = true then (((s.getD 0 0).toNat / 2 : Nat) : Int) else (((s.getD 0 0).toNat % 16 / 2 : Nat) : Int)) else 0
def hit (s : List UInt8) (w : Bool) (k : Int) (p : Bool) : Prop := (w = true → k ≤ 5 → 2 ≤ s.length) ∧ ∃ rest, s = strL (putL8 k (cR s w k) (cS s w k) p w) ++ rest
theorem cand_right {s : List UInt8} {w : Bool} {k : Int} (hk : 1 ≤ k ∧ k ≤ 14) : rightC k (cR s w k) (cS s w k) w = true := by
  have h0 := (s.getD 0 0).toNat_lt
  have h1 := (s.getD 1 0).toNat_lt
  have hff : (false = true) = False := by simp
  apply right_true
  unfold cR cS
  by_cases h5 : 5 < k <;> by_cases h1 : k = 1 <;> cases w <;> simp only [h5, h1, hff, m8_f, m8_t, if_true, if_false] <;> refine ⟨by omega, ⟨by omega, by omega⟩, ⟨by omega, by omega⟩, ?_, ?_⟩ <;> first | exact .inl trivial | exact .inr rfl | exact .inr trivial | exact .inl (by omega)
theorem hit_get {s : List UInt8} {w p : Bool} {k : Int} (hk : 1 ≤ k ∧ k ≤ 14) (h : hit s w k p) : getC s w = (0, ⟨k, cR s w k, cS s w k, p⟩, (putL8 k (cR s w k) (cS s w k) p w).length) := by
  obtain ⟨_, rest, hs⟩ := h
  have := getC_put (p := p) (w := w) (cand_right (s := s) hk) rest
  rw [← hs] at this
  exact this
theorem plainC_some {b : Nat} (hb : b < 256) : plainC b = (2, czero, 0) ∨ ∃ i, i < 9 ∧ ∃ p, ((b : Nat) : Int) = baseL.getD i 0 + sixt p := by
  unfold plainC
  split
  · rename_i i hi
    right
    have h1 := List.find?_some hi
    have h2 := List.mem_of_find?_eq_some hi
    have h3 : baseL.getD i 0 = ((b - 16 * (b / 16 % 2) : Nat) : Int) := of_decide_eq_true h1
    refine ⟨i, by simpa using h2, decide (b / 16 % 2 = 1), ?_⟩
    by_cases h : b / 16 % 2 = 1
    · rw [h3, decide_eq_true h, sixt, if_pos rfl]; omega
    · rw [h3, decide_eq_false h, sixt, if_neg (by decide)]; omega
  · exact .inl rfl
theorem get_none {s : List UInt8} {w : Bool} (hn : ∀ k p, 1 ≤ k → k ≤ 14 → ¬ hit s w k p) : getC s w = (2, czero, 0) ∨ s = [] ∨ (w = true ∧ s.length < 2 ∧ (s.getD 0 0).toNat % 4 ≠ 3) := by
  match s, hn with
  | [], _ => exact .inr (.inl rfl)
  | b :: r, hn =>
    have hb := b.toNat_lt
    have hB : ∀ e : Int, (b.toNat : Int) = e → UInt8.ofNat e.toNat = b := fun e he => by
      rw [← he]; simp
    by_cases h3 : b.toNat % 4 = 3
    · left
      rw [getC, if_pos h3]
      rcases plainC_some hb with h | ⟨i, hi, p, h⟩
      · exact h
      · exfalso
        refine hn (6 + (i : Int)) p (by omega) (by omega) ⟨fun _ h => by omega, r, ?_⟩
        have e : putL8 (6 + (i : Int)) (cR (b :: r) w (6 + i)) (cS (b :: r) w (6 + i)) p w = [baseL.getD i 0 + sixt p] := by
          unfold putL8; rw [if_pos (by omega), show ((6 : Int) + (i : Int) - 6).toNat = i by omega]
        rw [e]
        show b :: r = UInt8.ofNat _ :: r
        rw [hB _ h]
    cases w
    · left
      exfalso
      by_cases h2 : b.toNat % 2 = 0
      · refine hn 1 (decide (b.toNat / 16 % 2 = 1)) (by omega) (by omega) ⟨fun h => (by cases h), r, ?_⟩
        have e : putL8 1 (cR (b :: r) false 1) (cS (b :: r) false 1) (decide (b.toNat / 16 % 2 = 1)) false = [(b.toNat : Int)] := by
          unfold putL8 cR cS firstC
          rw [if_neg (by decide), if_neg (by decide), if_neg (by decide), if_neg (by decide), if_pos rfl, if_pos rfl, if_neg (by decide)]
          have h16 := sixt_b (decide (b.toNat / 16 % 2 = 1))
          have hd : (decide (b.toNat / 16 % 2 = 1) = true) = (b.toNat / 16 % 2 = 1) := by simp
          have hd2 : (decide (b.toNat / 16 % 2 = 1) = false) = (¬ b.toNat / 16 % 2 = 1) := by simp
          rw [hd, hd2] at h16
          simp only [List.getD_cons_zero, List.cons.injEq, and_true]
          omega
        rw [e]
        show b :: r = UInt8.ofNat _ :: r
        rw [hB _ rfl]
      · have hk : 1 ≤ 2 + ((b.toNat % 16 / 4 : Nat) : Int) ∧ 2 + ((b.toNat % 16 / 4 : Nat) : Int) ≤ 5 := by omega
        refine hn (2 + ((b.toNat % 16 / 4 : Nat) : Int)) (decide (b.toNat / 16 % 2 = 1)) (by omega) (by omega) ⟨fun h => (by cases h), r, ?_⟩
        have e : putL8 (2 + ((b.toNat % 16 / 4 : Nat) : Int)) (cR (b :: r) false (2 + ((b.toNat % 16 / 4 : Nat) : Int))) (cS (b :: r) false (2 + ((b.toNat % 16 / 4 : Nat) : Int))) (decide (b.toNat / 16 % 2 = 1)) false = [(b.toNat : Int)] := by
          unfold putL8 cR cS firstC
          rw [if_neg (by omega), if_neg (by decide), if_neg (by omega), if_neg (by decide), if_neg (by omega)]
          have h16 := sixt_b (decide (b.toNat / 16 % 2 = 1))
          have hd : (decide (b.toNat / 16 % 2 = 1) = true) = (b.toNat / 16 % 2 = 1) := by simp
          have hd2 : (decide (b.toNat / 16 % 2 = 1) = false) = (¬ b.toNat / 16 % 2 = 1) := by simp
          rw [hd, hd2] at h16
          simp only [List.getD_cons_zero, List.cons.injEq, and_true]
          omega
        rw [e]
        show b :: r = UInt8.ofNat _ :: r
        rw [hB _ rfl]
    · match r, hn with
      | [], _ => exact .inr (.inr ⟨rfl, by simp, by simpa using h3⟩)
      | c :: r, hn =>
        have hC : ∀ e : Int, (c.toNat : Int) = e → UInt8.ofNat e.toNat = c := fun e he => by
          rw [← he]; simp
        left
        rw [getC, if_neg h3, if_neg (by decide), wOf]
        split
        · rename_i hok
          exfalso
          have key : ∀ k : Int, 1 ≤ k → k ≤ 5 → firstC k (cS (b :: c :: r) true k) = (b.toNat : Int) → False := by
            intro k hk1 hk5 hf
            refine hn k (decide (c.toNat % 2 = 1)) hk1 (by omega) ⟨fun _ _ => by simp, r, ?_⟩
            have e : putL8 k (cR (b :: c :: r) true k) (cS (b :: c :: r) true k) (decide (c.toNat % 2 = 1)) true = [(b.toNat : Int), (c.toNat : Int)] := by
              unfold putL8
              rw [if_neg (by omega), if_pos rfl, hf]
              unfold cR
              rw [if_neg (by omega), if_pos rfl]
              have h1 := onee_b (decide (c.toNat % 2 = 1))
              have hd : (decide (c.toNat % 2 = 1) = true) = (c.toNat % 2 = 1) := by simp
              have hd2 : (decide (c.toNat % 2 = 1) = false) = (¬ c.toNat % 2 = 1) := by simp
              rw [hd, hd2] at h1
              simp only [List.getD_cons_succ, List.getD_cons_zero, List.cons.injEq, and_true, true_and]
              omega
            rw [e]
            show b :: c :: r = UInt8.ofNat _ :: UInt8.ofNat _ :: r
            rw [hB _ rfl, hC _ rfl]
          by_cases h2 : b.toNat % 2 = 0
          · refine key 1 (by omega) (by omega) ?_
            unfold firstC cS
            rw [if_pos rfl, if_pos rfl, if_pos rfl]
            simp only [List.getD_cons_zero]
            omega
          · refine key (2 + ((b.toNat / 4 : Nat) : Int)) (by omega) (by omega) ?_
            unfold firstC
            rw [if_neg (by omega)]
            omega
        · rfl
end K
end Go.Proofs.YtijndljfpiomhaaDoor
/- Names and kinds of controls; their bytes: walked. -/
namespace Go.Proofs.YtijndljfpiomhaaDoor.K
open Go.Lg
set_option maxRecDepth 8000
set_option maxHeartbeats 8000000
def nameL : List ByteArray := [⟨#[]⟩, ⟨#[73]⟩, ⟨#[82, 82]⟩, ⟨#[82, 78, 82]⟩, ⟨#[82, 69, 74]⟩, ⟨#[83, 82, 69, 74]⟩, ⟨#[83, 65, 66, 77]⟩, ⟨#[83, 65, 66, 77, 69]⟩, ⟨#[68, 73, 83, 67]⟩, ⟨#[68, 77]⟩, ⟨#[85, 65]⟩, ⟨#[70, 82, 77, 82]⟩, ⟨#[85, 73]⟩, ⟨#[88, 73, 68]⟩, ⟨#[84, 69, 83, 84]⟩]
def nameS (k : Int) : ByteArray := if k < 1 ∨ 14 < k then ⟨#[]⟩ else nameL.getD k.toNat ⟨#[]⟩
theorem kind_cases {k : Int} (h : 1 ≤ k ∧ k ≤ 14) : k = 1 ∨ k = 2 ∨ k = 3 ∨ k = 4 ∨ k = 5 ∨ k = 6 ∨ k = 7 ∨ k = 8 ∨ k = 9 ∨ k = 10 ∨ k = 11 ∨ k = 12 ∨ k = 13 ∨ k = 14 := by omega
theorem name_spec (k : Int) (m : Mem) : Ret Tryd.prog 47 [.int .i64 k] m (.string (nameS k)) m := by
  by_cases h : 1 ≤ k ∧ k ≤ 14
  · rcases kind_cases h with rfl | rfl | rfl | rfl | rfl | rfl | rfl | rfl | rfl | rfl | rfl | rfl | rfl | rfl <;>
      exact run_alone tab_ok (n := 100) (d := 20) (by kernel_rfl) rfl rfl m
  · have e : nameS k = ⟨#[]⟩ := by unfold nameS; rw [if_pos (by omega)]
    rw [e]
    refine LCall_drop (LCall_enter Tryd.func47 c47 ?_)
    by_cases h1 : k < 1
    · simp (contextual := true) (implicitDefEqProofs := false) (maxSteps := 2000000) (disch := first | rfl | exact NB rfl | omega | (simp only [XL]; omega)) only [L47, h1, XW, undef_eq, Nat.reduceAdd, Nat.reduceSub, ↓reduceIte, basic, cellsL, resOf, setAt, below, belowB, belowA, atomB, Nat.reduceLeDiff, Nat.reduceMul, Int.reduceToNat, Int.reduceLT, Int.reduceLE, Int.reduceAdd, Int.reduceNeg, Int.reduceEq, splice, Nat.reduceEqDiff, Nat.reduceLT, isAtom, Int.reduceSub, Int.reduceMul, implies_true]
    · have h2 : (14 < k) = True := by simp; omega
      simp (contextual := true) (implicitDefEqProofs := false) (maxSteps := 2000000) (disch := first | rfl | exact NB rfl | omega | (simp only [XL]; omega)) only [L47, h1, h2, XW, undef_eq, Nat.reduceAdd, Nat.reduceSub, ↓reduceIte, basic, cellsL, resOf, setAt, below, belowB, belowA, atomB, Nat.reduceLeDiff, Nat.reduceMul, Int.reduceToNat, Int.reduceLT, Int.reduceLE, Int.reduceAdd, Int.reduceNeg, Int.reduceEq, splice, Nat.reduceEqDiff, Nat.reduceLT, isAtom, Int.reduceSub, Int.reduceMul, implies_true]
theorem name_empty {k : Int} : nameS k = ⟨#[]⟩ ↔ ¬ (1 ≤ k ∧ k ≤ 14) := by
  constructor
  · intro h h2
    rcases kind_cases h2 with rfl | rfl | rfl | rfl | rfl | rfl | rfl | rfl | rfl | rfl | rfl | rfl | rfl | rfl <;> exact absurd h (by decide)
  · intro h; unfold nameS; rw [if_pos (by omega)]
theorem sup_spec (k : Int) (m : Mem) : Ret Tryd.prog 49 [.int .i64 k] m (.bool (supB k)) m := by
  refine LCall_drop (LCall_enter Tryd.func49 c49 ?_)
  by_cases h1 : 2 ≤ k <;> by_cases h2 : k ≤ 5 <;> simp (contextual := true) (implicitDefEqProofs := false) (maxSteps := 2000000) (disch := first | rfl | exact NB rfl | omega | (simp only [XL]; omega)) only [L49, h1, h2, supB, XW, undef_eq, Nat.reduceAdd, Nat.reduceSub, ↓reduceIte, basic, cellsL, resOf, setAt, below, belowB, belowA, atomB, Nat.reduceLeDiff, Nat.reduceMul, Int.reduceToNat, Int.reduceLT, Int.reduceLE, Int.reduceAdd, Int.reduceNeg, Int.reduceEq, splice, Nat.reduceEqDiff, Nat.reduceLT, isAtom, Int.reduceSub, Int.reduceMul, implies_true]
theorem pid_spec (k : Int) (m : Mem) : Ret Tryd.prog 18 [.int .i64 k] m (.bool (pidB k)) m := by
  refine LCall_drop (LCall_enter Tryd.func18 c18 ?_)
  by_cases h1 : k = 1 <;> by_cases h2 : k = 12 <;> simp (contextual := true) (implicitDefEqProofs := false) (maxSteps := 2000000) (disch := first | rfl | exact NB rfl | omega | (simp only [XL]; omega)) only [L18, h1, h2, pidB, XW, undef_eq, Nat.reduceAdd, Nat.reduceSub, ↓reduceIte, basic, cellsL, resOf, setAt, below, belowB, belowA, atomB, Nat.reduceLeDiff, Nat.reduceMul, Int.reduceToNat, Int.reduceLT, Int.reduceLE, Int.reduceAdd, Int.reduceNeg, Int.reduceEq, splice, Nat.reduceEqDiff, Nat.reduceLT, isAtom, Int.reduceSub, Int.reduceMul, implies_true]
  all_goals simp_all [pidB]
theorem index_spec (i T : Nat) (l : List Int) (v : Int) (m : Mem) (hm : m[i]? = some ⟨l.map (Value.int .i64 ·), T, 1, 0, .own⟩) (hl : l.length ≤ 1000) (K : Value → Mem → Prop)
    (h1 : ∀ k : Nat, l[k]? = some v → (∀ j, j < k → l[j]? ≠ some v) → K (.int .i64 (k : Int)) m) (h2 : v ∉ l → K (.int .i64 (-1)) m) :
    LCall Tryd.prog 62 [.slice (some ⟨i, 0, none⟩) l.length l.length, .int .i64 v] m K := by
  have hi : i < m.length := (List.getElem?_eq_some_iff.mp hm).1
  refine LCall_drop (LCall_enter Tryd.func62 c62 ?_)
  simp (contextual := true) (implicitDefEqProofs := false) (maxSteps := 2000000) (disch := first | rfl | exact NB rfl | omega | (simp only [XL]; omega)) only [L62, XW, undef_eq, Nat.reduceAdd, Nat.reduceSub, ↓reduceIte, basic, cellsL, resOf, setAt, below, belowB, belowA, atomB, Nat.reduceLeDiff, Nat.reduceMul, Int.reduceToNat, Int.reduceLT, Int.reduceLE, Int.reduceAdd, Int.reduceNeg, Int.reduceEq, splice, Nat.reduceEqDiff, Nat.reduceLT, isAtom, Int.reduceSub, Int.reduceMul, implies_true]
  refine loop_inv (fun n t m' => ∃ (k : Nat), n = l.length - k ∧ k ≤ l.length ∧ (∀ j, j < k → l[j]? ≠ some v) ∧
    Tab 19 [(0, .slice (some ⟨i, 0, none⟩) l.length l.length), (1, .int .i64 v), (7, .int .i64 (l.length : Int)), (8, .int .i64 (k : Int))] t ∧ m' = m) (n := l.length) ?_ ?_
  · exact ⟨0, rfl, Nat.zero_le _, fun j hj => absurd hj (Nat.not_lt_zero _), ⟨rfl, by simp⟩, rfl⟩
  rintro n t m' ⟨k, rfl, hk, hno, ht, rfl⟩
  obtain ⟨f, rfl⟩ : ∃ f : Nat → Value, t = [.slice (some ⟨i, 0, none⟩) l.length l.length, .int .i64 v, f 2, f 3, f 4, f 5, f 6, .int .i64 (l.length : Int), .int .i64 (k : Int), f 9, f 10, f 11, f 12, f 13, f 14, f 15, f 16, f 17, f 18] := ht.open fun f => rfl
  by_cases hlt : k < l.length
  · have hlt' : ((k : Int) < (l.length : Int)) = True := by simp [hlt]
    have h0 : ((0 : Int) ≤ (k : Int)) = True := by simp
    obtain ⟨x, hx⟩ : ∃ x, l[k]? = some x := ⟨l[k], List.getElem?_eq_getElem hlt⟩
    have hc : (l.map (Value.int .i64 ·))[k]? = some (.int .i64 x) := by simp [hx]
    simp (contextual := true) (implicitDefEqProofs := false) (maxSteps := 2000000) (disch := first | rfl | exact NB rfl | omega | (simp only [XL]; omega)) only [hm, hlt', h0, Int.toNat_natCast, hc, XW, undef_eq, Nat.reduceAdd, Nat.reduceSub, ↓reduceIte, basic, cellsL, resOf, setAt, below, belowB, belowA, atomB, Nat.reduceLeDiff, Nat.reduceMul, Int.reduceToNat, Int.reduceLT, Int.reduceLE, Int.reduceAdd, Int.reduceNeg, Int.reduceEq, splice, Nat.reduceEqDiff, Nat.reduceLT, isAtom, Int.reduceSub, Int.reduceMul, implies_true]
    refine ifI (fun h => ?_) (fun h => ?_)
    · exact h1 k (by rw [hx, h]) hno
    · exact kInv_go ⟨k + 1, rfl, by omega, fun j hj => by
        rcases Nat.lt_succ_iff_lt_or_eq.1 hj with h' | rfl
        · exact hno j h'
        · rw [hx]; exact fun e => h (by simpa using e.symm), ⟨rfl, by simp⟩, rfl⟩ (by omega)
  · have hlt' : ((k : Int) < (l.length : Int)) = False := by simp; omega
    simp (contextual := true) (implicitDefEqProofs := false) (maxSteps := 2000000) (disch := first | rfl | exact NB rfl | omega | (simp only [XL]; omega)) only [hlt', XW, undef_eq, Nat.reduceAdd, Nat.reduceSub, ↓reduceIte, basic, cellsL, resOf, setAt, below, belowB, belowA, atomB, Nat.reduceLeDiff, Nat.reduceMul, Int.reduceToNat, Int.reduceLT, Int.reduceLE, Int.reduceAdd, Int.reduceNeg, Int.reduceEq, splice, Nat.reduceEqDiff, Nat.reduceLT, isAtom, Int.reduceSub, Int.reduceMul, implies_true]
    refine h2 fun hmem => ?_
    obtain ⟨j, hj, rfl⟩ := List.getElem_of_mem hmem
    exact hno j (by omega) (List.getElem?_eq_getElem hj)
theorem contains_spec (i T : Nat) (l : List Int) (v : Int) (m : Mem) (hm : m[i]? = some ⟨l.map (Value.int .i64 ·), T, 1, 0, .own⟩) (hl : l.length ≤ 1000) :
    Ret Tryd.prog 56 [.slice (some ⟨i, 0, none⟩) l.length l.length, .int .i64 v] m (.bool (decide (v ∈ l))) m := by
  refine LCall_drop (LCall_enter Tryd.func56 c56 ?_)
  simp (contextual := true) (implicitDefEqProofs := false) (maxSteps := 2000000) (disch := first | rfl | exact NB rfl | omega | (simp only [XL]; omega)) only [L56, XW, undef_eq, Nat.reduceAdd, Nat.reduceSub, ↓reduceIte, basic, cellsL, resOf, setAt, below, belowB, belowA, atomB, Nat.reduceLeDiff, Nat.reduceMul, Int.reduceToNat, Int.reduceLT, Int.reduceLE, Int.reduceAdd, Int.reduceNeg, Int.reduceEq, splice, Nat.reduceEqDiff, Nat.reduceLT, isAtom, Int.reduceSub, Int.reduceMul, implies_true]
  refine index_spec i T l v m hm hl _ (fun k hk _ => ?_) (fun h => ?_)
  · have h0 : ((0 : Int) ≤ (k : Int)) = True := by simp
    have hmem : v ∈ l := List.mem_of_getElem? hk
    simp (contextual := true) (implicitDefEqProofs := false) (maxSteps := 2000000) (disch := first | rfl | exact NB rfl | omega | (simp only [XL]; omega)) only [h0, hmem, XW, undef_eq, Nat.reduceAdd, Nat.reduceSub, ↓reduceIte, basic, cellsL, resOf, setAt, below, belowB, belowA, atomB, Nat.reduceLeDiff, Nat.reduceMul, Int.reduceToNat, Int.reduceLT, Int.reduceLE, Int.reduceAdd, Int.reduceNeg, Int.reduceEq, splice, Nat.reduceEqDiff, Nat.reduceLT, isAtom, Int.reduceSub, Int.reduceMul, implies_true]
  · simp (contextual := true) (implicitDefEqProofs := false) (maxSteps := 2000000) (disch := first | rfl | exact NB rfl | omega | (simp only [XL]; omega)) only [h, XW, undef_eq, Nat.reduceAdd, Nat.reduceSub, ↓reduceIte, basic, cellsL, resOf, setAt, below, belowB, belowA, atomB, Nat.reduceLeDiff, Nat.reduceMul, Int.reduceToNat, Int.reduceLT, Int.reduceLE, Int.reduceAdd, Int.reduceNeg, Int.reduceEq, splice, Nat.reduceEqDiff, Nat.reduceLT, isAtom, Int.reduceSub, Int.reduceMul, implies_true]
theorem info_spec (k : Int) (m : Mem) : Ret Tryd.prog 50 [.int .i64 k] m (.bool (infoB k)) m := by
  refine LCall_drop (LCall_enter Tryd.func50 c50 ?_)
  simp (contextual := true) (implicitDefEqProofs := false) (maxSteps := 2000000) (disch := first | rfl | exact NB rfl | omega | (simp only [XL]; omega)) only [L50, XW, undef_eq, Nat.reduceAdd, Nat.reduceSub, ↓reduceIte, basic, cellsL, resOf, setAt, below, belowB, belowA, atomB, Nat.reduceLeDiff, Nat.reduceMul, Int.reduceToNat, Int.reduceLT, Int.reduceLE, Int.reduceAdd, Int.reduceNeg, Int.reduceEq, splice, Nat.reduceEqDiff, Nat.reduceLT, isAtom, Int.reduceSub, Int.reduceMul, implies_true]
  refine (contains_spec _ 3 [1, 11, 12, 13, 14] k _ (by simp) (by decide)).use ?_
  have e : decide (k ∈ [1, 11, 12, 13, 14]) = infoB k := by
    unfold infoB
    simp only [List.mem_cons, List.not_mem_nil, or_false]
    by_cases h : k = 1 ∨ (11 ≤ k ∧ k ≤ 14)
    · rw [decide_eq_true h, decide_eq_true (by omega)]
    · rw [decide_eq_false h, decide_eq_false (by omega)]
  rw [e]
  simp (contextual := true) (implicitDefEqProofs := false) (maxSteps := 2000000) (disch := first | rfl | exact NB rfl | omega | (simp only [XL]; omega)) only [XW, undef_eq, Nat.reduceAdd, Nat.reduceSub, ↓reduceIte, basic, cellsL, resOf, setAt, below, belowB, belowA, atomB, Nat.reduceLeDiff, Nat.reduceMul, Int.reduceToNat, Int.reduceLT, Int.reduceLE, Int.reduceAdd, Int.reduceNeg, Int.reduceEq, splice, Nat.reduceEqDiff, Nat.reduceLT, isAtom, Int.reduceSub, Int.reduceMul, implies_true]
theorem mod_spec (w : Bool) (m : Mem) : Ret Tryd.prog 46 [.bool w] m (.int .i64 (m8 w)) m := by
  refine LCall_drop (LCall_enter Tryd.func46 c46 ?_)
  cases w <;> simp (contextual := true) (implicitDefEqProofs := false) (maxSteps := 2000000) (disch := first | rfl | exact NB rfl | omega | (simp only [XL]; omega)) only [L46, m8, XW, undef_eq, Nat.reduceAdd, Nat.reduceSub, ↓reduceIte, basic, cellsL, resOf, setAt, below, belowB, belowA, atomB, Nat.reduceLeDiff, Nat.reduceMul, Int.reduceToNat, Int.reduceLT, Int.reduceLE, Int.reduceAdd, Int.reduceNeg, Int.reduceEq, splice, Nat.reduceEqDiff, Nat.reduceLT, isAtom, Int.reduceSub, Int.reduceMul, implies_true]
theorem num_spec (n : Int) (th : Bool) (mod : Int) (m : Mem) : Ret Tryd.prog 48 [.int .i64 n, .bool th, .int .i64 mod] m (.bool (numB n th mod)) m := by
  refine LCall_drop (LCall_enter Tryd.func48 c48 ?_)
  cases th
  · simp (contextual := true) (implicitDefEqProofs := false) (maxSteps := 2000000) (disch := first | rfl | exact NB rfl | omega | (simp only [XL]; omega)) only [L48, numB, XW, undef_eq, Nat.reduceAdd, Nat.reduceSub, ↓reduceIte, basic, cellsL, resOf, setAt, below, belowB, belowA, atomB, Nat.reduceLeDiff, Nat.reduceMul, Int.reduceToNat, Int.reduceLT, Int.reduceLE, Int.reduceAdd, Int.reduceNeg, Int.reduceEq, splice, Nat.reduceEqDiff, Nat.reduceLT, isAtom, Int.reduceSub, Int.reduceMul, implies_true]
  · by_cases h : 0 ≤ n
    · simp (contextual := true) (implicitDefEqProofs := false) (maxSteps := 2000000) (disch := first | rfl | exact NB rfl | omega | (simp only [XL]; omega)) only [L48, numB, h, XW, undef_eq, Nat.reduceAdd, Nat.reduceSub, ↓reduceIte, basic, cellsL, resOf, setAt, below, belowB, belowA, atomB, Nat.reduceLeDiff, Nat.reduceMul, Int.reduceToNat, Int.reduceLT, Int.reduceLE, Int.reduceAdd, Int.reduceNeg, Int.reduceEq, splice, Nat.reduceEqDiff, Nat.reduceLT, isAtom, Int.reduceSub, Int.reduceMul, implies_true]
    · simp (contextual := true) (implicitDefEqProofs := false) (maxSteps := 2000000) (disch := first | rfl | exact NB rfl | omega | (simp only [XL]; omega)) only [L48, numB, h, false_and, XW, undef_eq, Nat.reduceAdd, Nat.reduceSub, ↓reduceIte, basic, cellsL, resOf, setAt, below, belowB, belowA, atomB, Nat.reduceLeDiff, Nat.reduceMul, Int.reduceToNat, Int.reduceLT, Int.reduceLE, Int.reduceAdd, Int.reduceNeg, Int.reduceEq, splice, Nat.reduceEqDiff, Nat.reduceLT, isAtom, Int.reduceSub, Int.reduceMul, implies_true]
theorem ctlright_spec (k r s : Int) (p w : Bool) (m : Mem) : Ret Tryd.prog 31 [ctlV k r s p, .bool w] m (.bool (rightC k r s w)) m := by
  refine LCall_drop (LCall_enter Tryd.func31 c31 ?_)
  simp (contextual := true) (implicitDefEqProofs := false) (maxSteps := 2000000) (disch := first | rfl | exact NB rfl | omega | (simp only [XL]; omega)) only [L31, XW, undef_eq, Nat.reduceAdd, Nat.reduceSub, ↓reduceIte, basic, cellsL, resOf, setAt, below, belowB, belowA, atomB, Nat.reduceLeDiff, Nat.reduceMul, Int.reduceToNat, Int.reduceLT, Int.reduceLE, Int.reduceAdd, Int.reduceNeg, Int.reduceEq, splice, Nat.reduceEqDiff, Nat.reduceLT, isAtom, Int.reduceSub, Int.reduceMul, implies_true]
  refine (mod_spec _ _).use ?_
  simp (contextual := true) (implicitDefEqProofs := false) (maxSteps := 2000000) (disch := first | rfl | exact NB rfl | omega | (simp only [XL]; omega)) only [XW, undef_eq, Nat.reduceAdd, Nat.reduceSub, ↓reduceIte, basic, cellsL, resOf, setAt, below, belowB, belowA, atomB, Nat.reduceLeDiff, Nat.reduceMul, Int.reduceToNat, Int.reduceLT, Int.reduceLE, Int.reduceAdd, Int.reduceNeg, Int.reduceEq, splice, Nat.reduceEqDiff, Nat.reduceLT, isAtom, Int.reduceSub, Int.reduceMul, implies_true]
  refine (name_spec _ _).use ?_
  have hne : (nameS k = ⟨#[]⟩) = ¬ (1 ≤ k ∧ k ≤ 14) := propext name_empty
  by_cases hk : 1 ≤ k ∧ k ≤ 14
  · simp (contextual := true) (implicitDefEqProofs := false) (maxSteps := 2000000) (disch := first | rfl | exact NB rfl | omega | (simp only [XL]; omega)) only [hne, hk, not_true_eq_false, XW, undef_eq, Nat.reduceAdd, Nat.reduceSub, ↓reduceIte, basic, cellsL, resOf, setAt, below, belowB, belowA, atomB, Nat.reduceLeDiff, Nat.reduceMul, Int.reduceToNat, Int.reduceLT, Int.reduceLE, Int.reduceAdd, Int.reduceNeg, Int.reduceEq, splice, Nat.reduceEqDiff, Nat.reduceLT, isAtom, Int.reduceSub, Int.reduceMul, implies_true]
    refine (num_spec _ _ _ _).use ?_
    cases hs : numB s (decide (k = 1)) (m8 w)
    · simp (contextual := true) (implicitDefEqProofs := false) (maxSteps := 2000000) (disch := first | rfl | exact NB rfl | omega | (simp only [XL]; omega)) only [XW, undef_eq, Nat.reduceAdd, Nat.reduceSub, ↓reduceIte, basic, cellsL, resOf, setAt, below, belowB, belowA, atomB, Nat.reduceLeDiff, Nat.reduceMul, Int.reduceToNat, Int.reduceLT, Int.reduceLE, Int.reduceAdd, Int.reduceNeg, Int.reduceEq, splice, Nat.reduceEqDiff, Nat.reduceLT, isAtom, Int.reduceSub, Int.reduceMul, implies_true]
      simp [rightC, hs]
    · by_cases h1 : k = 1
      · subst h1
        simp (contextual := true) (implicitDefEqProofs := false) (maxSteps := 2000000) (disch := first | rfl | exact NB rfl | omega | (simp only [XL]; omega)) only [XW, undef_eq, Nat.reduceAdd, Nat.reduceSub, ↓reduceIte, basic, cellsL, resOf, setAt, below, belowB, belowA, atomB, Nat.reduceLeDiff, Nat.reduceMul, Int.reduceToNat, Int.reduceLT, Int.reduceLE, Int.reduceAdd, Int.reduceNeg, Int.reduceEq, splice, Nat.reduceEqDiff, Nat.reduceLT, isAtom, Int.reduceSub, Int.reduceMul, implies_true]
        refine (num_spec _ _ _ _).use ?_
        simp (contextual := true) (implicitDefEqProofs := false) (maxSteps := 2000000) (disch := first | rfl | exact NB rfl | omega | (simp only [XL]; omega)) only [XW, undef_eq, Nat.reduceAdd, Nat.reduceSub, ↓reduceIte, basic, cellsL, resOf, setAt, below, belowB, belowA, atomB, Nat.reduceLeDiff, Nat.reduceMul, Int.reduceToNat, Int.reduceLT, Int.reduceLE, Int.reduceAdd, Int.reduceNeg, Int.reduceEq, splice, Nat.reduceEqDiff, Nat.reduceLT, isAtom, Int.reduceSub, Int.reduceMul, implies_true]
        have hs' : numB s true (m8 w) = true := hs
        simp [rightC, hs']
      · simp (contextual := true) (implicitDefEqProofs := false) (maxSteps := 2000000) (disch := first | rfl | exact NB rfl | omega | (simp only [XL]; omega)) only [h1, XW, undef_eq, Nat.reduceAdd, Nat.reduceSub, ↓reduceIte, basic, cellsL, resOf, setAt, below, belowB, belowA, atomB, Nat.reduceLeDiff, Nat.reduceMul, Int.reduceToNat, Int.reduceLT, Int.reduceLE, Int.reduceAdd, Int.reduceNeg, Int.reduceEq, splice, Nat.reduceEqDiff, Nat.reduceLT, isAtom, Int.reduceSub, Int.reduceMul, implies_true]
        refine (sup_spec _ _).use ?_
        simp (contextual := true) (implicitDefEqProofs := false) (maxSteps := 2000000) (disch := first | rfl | exact NB rfl | omega | (simp only [XL]; omega)) only [XW, undef_eq, Nat.reduceAdd, Nat.reduceSub, ↓reduceIte, basic, cellsL, resOf, setAt, below, belowB, belowA, atomB, Nat.reduceLeDiff, Nat.reduceMul, Int.reduceToNat, Int.reduceLT, Int.reduceLE, Int.reduceAdd, Int.reduceNeg, Int.reduceEq, splice, Nat.reduceEqDiff, Nat.reduceLT, isAtom, Int.reduceSub, Int.reduceMul, implies_true]
        refine (num_spec _ _ _ _).use ?_
        have e : supB k = decide (k ≤ 5) := by
          unfold supB
          by_cases h5 : k ≤ 5
          · rw [decide_eq_true h5, decide_eq_true (by omega)]
          · rw [decide_eq_false h5, decide_eq_false (by omega)]
        rw [e]
        simp (contextual := true) (implicitDefEqProofs := false) (maxSteps := 2000000) (disch := first | rfl | exact NB rfl | omega | (simp only [XL]; omega)) only [XW, undef_eq, Nat.reduceAdd, Nat.reduceSub, ↓reduceIte, basic, cellsL, resOf, setAt, below, belowB, belowA, atomB, Nat.reduceLeDiff, Nat.reduceMul, Int.reduceToNat, Int.reduceLT, Int.reduceLE, Int.reduceAdd, Int.reduceNeg, Int.reduceEq, splice, Nat.reduceEqDiff, Nat.reduceLT, isAtom, Int.reduceSub, Int.reduceMul, implies_true]
        simp [rightC, hs, hk]
  · simp (contextual := true) (implicitDefEqProofs := false) (maxSteps := 2000000) (disch := first | rfl | exact NB rfl | omega | (simp only [XL]; omega)) only [hne, hk, not_false_eq_true, XW, undef_eq, Nat.reduceAdd, Nat.reduceSub, ↓reduceIte, basic, cellsL, resOf, setAt, below, belowB, belowA, atomB, Nat.reduceLeDiff, Nat.reduceMul, Int.reduceToNat, Int.reduceLT, Int.reduceLE, Int.reduceAdd, Int.reduceNeg, Int.reduceEq, splice, Nat.reduceEqDiff, Nat.reduceLT, isAtom, Int.reduceSub, Int.reduceMul, implies_true]
    simp [rightC, hk]
theorem bases_spec (m : Mem) : Ret Tryd.prog 35 [] m (.agg #[.int .i64 47, .int .i64 111, .int .i64 67, .int .i64 15, .int .i64 99, .int .i64 135, .int .i64 3, .int .i64 175, .int .i64 227]) m :=
  run_alone tab_ok (n := 100) (d := 20) (by kernel_rfl) rfl rfl m
theorem mark_spec (p : Bool) (v : Int) (m : Mem) : Ret Tryd.prog 36 [.bool p, .int .i64 v] m (.int .i64 (if p = true then v else 0)) m := by
  refine LCall_drop (LCall_enter Tryd.func36 c36 ?_)
  cases p <;> simp (contextual := true) (implicitDefEqProofs := false) (maxSteps := 2000000) (disch := first | rfl | exact NB rfl | omega | (simp only [XL]; omega)) only [L36, XW, undef_eq, Nat.reduceAdd, Nat.reduceSub, ↓reduceIte, basic, cellsL, resOf, setAt, below, belowB, belowA, atomB, Nat.reduceLeDiff, Nat.reduceMul, Int.reduceToNat, Int.reduceLT, Int.reduceLE, Int.reduceAdd, Int.reduceNeg, Int.reduceEq, splice, Nat.reduceEqDiff, Nat.reduceLT, isAtom, Int.reduceSub, Int.reduceMul, implies_true]
theorem first_spec (k r s : Int) (p : Bool) (hk : 1 ≤ k ∧ k ≤ 5) (hs : 0 ≤ s ∧ s < 128) (m : Mem) : Ret Tryd.prog 37 [ctlV k r s p] m (.int .i64 (firstC k s)) m := by
  refine LCall_drop (LCall_enter Tryd.func37 c37 ?_)
  by_cases h : k = 1
  · subst h
    have hc : s * 2 = 2 * s := by omega
    simp (contextual := true) (implicitDefEqProofs := false) (maxSteps := 2000000) (disch := first | rfl | exact NB rfl | omega | (simp only [XL]; omega)) only [L37, firstC, hc, XW, undef_eq, Nat.reduceAdd, Nat.reduceSub, ↓reduceIte, basic, cellsL, resOf, setAt, below, belowB, belowA, atomB, Nat.reduceLeDiff, Nat.reduceMul, Int.reduceToNat, Int.reduceLT, Int.reduceLE, Int.reduceAdd, Int.reduceNeg, Int.reduceEq, splice, Nat.reduceEqDiff, Nat.reduceLT, isAtom, Int.reduceSub, Int.reduceMul, implies_true]
  · simp (contextual := true) (implicitDefEqProofs := false) (maxSteps := 2000000) (disch := first | rfl | exact NB rfl | omega | (simp only [XL]; omega)) only [L37, firstC, h, XW, undef_eq, Nat.reduceAdd, Nat.reduceSub, ↓reduceIte, basic, cellsL, resOf, setAt, below, belowB, belowA, atomB, Nat.reduceLeDiff, Nat.reduceMul, Int.reduceToNat, Int.reduceLT, Int.reduceLE, Int.reduceAdd, Int.reduceNeg, Int.reduceEq, splice, Nat.reduceEqDiff, Nat.reduceLT, isAtom, Int.reduceSub, Int.reduceMul, implies_true]
theorem wrap_u8i {e : Int} (h0 : 0 ≤ e) (h1 : e < 256) : IntKind.u8.wrap e = e := by
  simp [IntKind.wrap, IntKind.bits, IntKind.signed]; omega
theorem byL1 (e : Int) : bytesL [.int .u8 e] = some [UInt8.ofNat e.toNat] := rfl
theorem byL2 (e f : Int) : bytesL [.int .u8 e, .int .u8 f] = some [UInt8.ofNat e.toNat, UInt8.ofNat f.toNat] := rfl
theorem ctlput_spec (k r s : Int) (p w : Bool) (m : Mem) : Ret Tryd.prog 16 [ctlV k r s p, .bool w] m
    (.tuple #[.string (if rightC k r s w = true then strOf (putL8 k r s p w) else ⟨#[]⟩), .int .i64 (if rightC k r s w = true then 0 else 1)]) m := by
  refine LCall_drop (LCall_enter Tryd.func16 c16 ?_)
  simp (contextual := true) (implicitDefEqProofs := false) (maxSteps := 2000000) (disch := first | rfl | exact NB rfl | omega | (simp only [XL]; omega)) only [L16, XW, undef_eq, Nat.reduceAdd, Nat.reduceSub, ↓reduceIte, basic, cellsL, resOf, setAt, below, belowB, belowA, atomB, Nat.reduceLeDiff, Nat.reduceMul, Int.reduceToNat, Int.reduceLT, Int.reduceLE, Int.reduceAdd, Int.reduceNeg, Int.reduceEq, splice, Nat.reduceEqDiff, Nat.reduceLT, isAtom, Int.reduceSub, Int.reduceMul, implies_true]
  refine (ctlright_spec _ _ _ _ _ _).use ?_
  cases hr : rightC k r s w
  · simp (contextual := true) (implicitDefEqProofs := false) (maxSteps := 2000000) (disch := first | rfl | exact NB rfl | omega | (simp only [XL]; omega)) only [XW, undef_eq, Nat.reduceAdd, Nat.reduceSub, ↓reduceIte, basic, cellsL, resOf, setAt, below, belowB, belowA, atomB, Nat.reduceLeDiff, Nat.reduceMul, Int.reduceToNat, Int.reduceLT, Int.reduceLE, Int.reduceAdd, Int.reduceNeg, Int.reduceEq, splice, Nat.reduceEqDiff, Nat.reduceLT, isAtom, Int.reduceSub, Int.reduceMul, implies_true]
  obtain ⟨hk, hs, hrr, hk1, hk5⟩ := right_of hr
  have hm : m8 w ≤ 128 := by cases w <;> decide
  by_cases h6 : 6 ≤ k
  · have hputs : putL8 k r s p w = [baseL.getD (k - 6).toNat 0 + sixt p] := if_pos h6
    rw [hputs]
    simp (contextual := true) (implicitDefEqProofs := false) (maxSteps := 2000000) (disch := first | rfl | exact NB rfl | omega | (simp only [XL]; omega)) only [h6, XW, undef_eq, Nat.reduceAdd, Nat.reduceSub, ↓reduceIte, basic, cellsL, resOf, setAt, below, belowB, belowA, atomB, Nat.reduceLeDiff, Nat.reduceMul, Int.reduceToNat, Int.reduceLT, Int.reduceLE, Int.reduceAdd, Int.reduceNeg, Int.reduceEq, splice, Nat.reduceEqDiff, Nat.reduceLT, isAtom, Int.reduceSub, Int.reduceMul, implies_true]
    refine (bases_spec _).use ?_
    rcases nine_cases h6 hk.2 with rfl | rfl | rfl | rfl | rfl | rfl | rfl | rfl | rfl <;>
    · simp (contextual := true) (implicitDefEqProofs := false) (maxSteps := 2000000) (disch := first | rfl | exact NB rfl | omega | (simp only [XL]; omega)) only [XW, undef_eq, Nat.reduceAdd, Nat.reduceSub, ↓reduceIte, basic, cellsL, resOf, setAt, below, belowB, belowA, atomB, Nat.reduceLeDiff, Nat.reduceMul, Int.reduceToNat, Int.reduceLT, Int.reduceLE, Int.reduceAdd, Int.reduceNeg, Int.reduceEq, splice, Nat.reduceEqDiff, Nat.reduceLT, isAtom, Int.reduceSub, Int.reduceMul, implies_true]
      refine (mark_spec _ _ _).use ?_
      cases p <;> simp (contextual := true) (implicitDefEqProofs := false) (maxSteps := 2000000) (disch := first | rfl | exact NB rfl | omega | (simp only [XL]; omega)) only [byL1, wrap_u8i, XW, undef_eq, Nat.reduceAdd, Nat.reduceSub, ↓reduceIte, basic, cellsL, resOf, setAt, below, belowB, belowA, atomB, Nat.reduceLeDiff, Nat.reduceMul, Int.reduceToNat, Int.reduceLT, Int.reduceLE, Int.reduceAdd, Int.reduceNeg, Int.reduceEq, splice, Nat.reduceEqDiff, Nat.reduceLT, isAtom, Int.reduceSub, Int.reduceMul, implies_true] <;> rfl
  · have hf : 0 ≤ firstC k s ∧ firstC k s ≤ 255 := by
      unfold firstC; split <;> omega
    have hp16 : sixt p = if p = true then 16 else 0 := rfl
    have hp1 : onee p = if p = true then 1 else 0 := rfl
    cases w
    · have hputs : putL8 k r s p false = [32 * r + sixt p + firstC k s] := by
        unfold putL8; rw [if_neg h6, if_neg (by decide)]
      rw [hputs]
      have hf2 : firstC k s ≤ 15 := by
        rw [m8_f] at hs
        unfold firstC; split <;> omega
      rw [m8_f] at hrr
      simp (contextual := true) (implicitDefEqProofs := false) (maxSteps := 2000000) (disch := first | rfl | exact NB rfl | omega | (simp only [XL]; omega)) only [h6, XW, undef_eq, Nat.reduceAdd, Nat.reduceSub, ↓reduceIte, basic, cellsL, resOf, setAt, below, belowB, belowA, atomB, Nat.reduceLeDiff, Nat.reduceMul, Int.reduceToNat, Int.reduceLT, Int.reduceLE, Int.reduceAdd, Int.reduceNeg, Int.reduceEq, splice, Nat.reduceEqDiff, Nat.reduceLT, isAtom, Int.reduceSub, Int.reduceMul, implies_true]
      refine (mark_spec _ _ _).use ?_
      rw [← hp16]
      have h16 : 0 ≤ sixt p ∧ sixt p ≤ 16 := by cases p <;> decide
      simp (contextual := true) (implicitDefEqProofs := false) (maxSteps := 2000000) (disch := first | rfl | exact NB rfl | omega | (simp only [XL]; omega)) only [XW, undef_eq, Nat.reduceAdd, Nat.reduceSub, ↓reduceIte, basic, cellsL, resOf, setAt, below, belowB, belowA, atomB, Nat.reduceLeDiff, Nat.reduceMul, Int.reduceToNat, Int.reduceLT, Int.reduceLE, Int.reduceAdd, Int.reduceNeg, Int.reduceEq, splice, Nat.reduceEqDiff, Nat.reduceLT, isAtom, Int.reduceSub, Int.reduceMul, implies_true]
      refine (first_spec k r s p (by omega) (by omega) _).use ?_
      have hcomm : r * 32 = 32 * r := by omega
      simp (contextual := true) (implicitDefEqProofs := false) (maxSteps := 2000000) (disch := first | rfl | exact NB rfl | omega | (simp only [XL]; omega)) only [byL1, wrap_u8i, hcomm, XW, undef_eq, Nat.reduceAdd, Nat.reduceSub, ↓reduceIte, basic, cellsL, resOf, setAt, below, belowB, belowA, atomB, Nat.reduceLeDiff, Nat.reduceMul, Int.reduceToNat, Int.reduceLT, Int.reduceLE, Int.reduceAdd, Int.reduceNeg, Int.reduceEq, splice, Nat.reduceEqDiff, Nat.reduceLT, isAtom, Int.reduceSub, Int.reduceMul, implies_true]
      rfl
    · have hputs : putL8 k r s p true = [firstC k s, 2 * r + onee p] := by
        unfold putL8; rw [if_neg h6, if_pos rfl]
      rw [hputs]
      simp (contextual := true) (implicitDefEqProofs := false) (maxSteps := 2000000) (disch := first | rfl | exact NB rfl | omega | (simp only [XL]; omega)) only [h6, XW, undef_eq, Nat.reduceAdd, Nat.reduceSub, ↓reduceIte, basic, cellsL, resOf, setAt, below, belowB, belowA, atomB, Nat.reduceLeDiff, Nat.reduceMul, Int.reduceToNat, Int.reduceLT, Int.reduceLE, Int.reduceAdd, Int.reduceNeg, Int.reduceEq, splice, Nat.reduceEqDiff, Nat.reduceLT, isAtom, Int.reduceSub, Int.reduceMul, implies_true]
      refine (first_spec k r s p (by omega) (by omega) _).use ?_
      simp (contextual := true) (implicitDefEqProofs := false) (maxSteps := 2000000) (disch := first | rfl | exact NB rfl | omega | (simp only [XL]; omega)) only [XW, undef_eq, Nat.reduceAdd, Nat.reduceSub, ↓reduceIte, basic, cellsL, resOf, setAt, below, belowB, belowA, atomB, Nat.reduceLeDiff, Nat.reduceMul, Int.reduceToNat, Int.reduceLT, Int.reduceLE, Int.reduceAdd, Int.reduceNeg, Int.reduceEq, splice, Nat.reduceEqDiff, Nat.reduceLT, isAtom, Int.reduceSub, Int.reduceMul, implies_true]
      refine (mark_spec _ _ _).use ?_
      rw [← hp1]
      have h16 : 0 ≤ onee p ∧ onee p ≤ 1 := by cases p <;> decide
      rw [m8_t] at hrr
      have hcomm : r * 2 = 2 * r := by omega
      simp (contextual := true) (implicitDefEqProofs := false) (maxSteps := 2000000) (disch := first | rfl | exact NB rfl | omega | (simp only [XL]; omega)) only [byL2, wrap_u8i, hcomm, XW, undef_eq, Nat.reduceAdd, Nat.reduceSub, ↓reduceIte, basic, cellsL, resOf, setAt, below, belowB, belowA, atomB, Nat.reduceLeDiff, Nat.reduceMul, Int.reduceToNat, Int.reduceLT, Int.reduceLE, Int.reduceAdd, Int.reduceNeg, Int.reduceEq, splice, Nat.reduceEqDiff, Nat.reduceLT, isAtom, Int.reduceSub, Int.reduceMul, implies_true]
      rfl
end Go.Proofs.YtijndljfpiomhaaDoor.K
/- What is wrong with a frame's information: walked. -/
namespace Go.Proofs.YtijndljfpiomhaaDoor
open Go.Lg
set_option maxRecDepth 8000
set_option maxHeartbeats 8000000
abbrev frameV (tb : List UInt8) (ts : Int) (fb : List UInt8) (fs : Int) (tm fm : Bool) (dv : Value) (c : Ct) (pid : Int) (info : List UInt8) : Value :=
  .agg #[str tb, .int .i64 ts, str fb, .int .i64 fs, .bool tm, .bool fm, dv, .int .i64 c.k, .int .i64 c.ns, .int .i64 c.nr, .bool c.pf, .int .i64 pid, str info]
def infoE (ib : Bool) (info : List UInt8) : Int := if info ≠ [] ∧ ib = false then 2 else if 256 < info.length then 5 else 0
def wrongE (rp rb pb ib : Bool) (pid : Int) (info : List UInt8) : Int :=
  if rp = false then 11 else if rb = false ∨ pid < 0 ∨ 255 < pid ∨ (pid ≠ 0 ∧ pb = false) then 1 else infoE ib info
theorem info_spec {tb : List UInt8} {ts : Int} {fb : List UInt8} {fs : Int} {tm fm : Bool} {sa : Option Addr} {n : Nat} {c : Ct} {pid : Int} {info : List UInt8} {ib : Bool} {m : Mem} (hI : ∀ m, Ret Tryd.prog 50 [.int .i64 c.k] m (.bool ib) m) (hl : info.length ≤ 140737488355328) :
    Ret Tryd.prog 32 [frameV tb ts fb fs tm fm (.slice sa n n) c pid info] m (.int .i64 (infoE ib info)) m := by
  refine LCall_drop (LCall_enter Tryd.func32 c32 ?_)
  by_cases h : info = []
  · subst h
    simp (contextual := true) (implicitDefEqProofs := false) (maxSteps := 2000000) (disch := first | rfl | exact NB rfl | omega | (simp only [XL]; omega)) only [L32, bin_ladd, str_cut, str_app, str_eq, string_mk_size, string_mk, XW, undef_eq, Nat.reduceAdd, Nat.reduceSub, ↓reduceIte, basic, cellsL, resOf, setAt, below, belowB, belowA, atomB, Nat.reduceLeDiff, Nat.reduceMul, Int.reduceToNat, Int.reduceLT, Int.reduceLE, Int.reduceAdd, Int.reduceNeg, Int.reduceEq, splice, Nat.reduceEqDiff, Nat.reduceLT, isAtom, Int.reduceSub, Int.reduceMul, implies_true]
    simp [infoE]
  · have h' : (info = []) = False := eq_false h
    simp (contextual := true) (implicitDefEqProofs := false) (maxSteps := 2000000) (disch := first | rfl | exact NB rfl | omega | (simp only [XL]; omega)) only [L32, bin_ladd, str_cut, str_app, str_eq, string_mk_size, string_mk, h', XW, undef_eq, Nat.reduceAdd, Nat.reduceSub, ↓reduceIte, basic, cellsL, resOf, setAt, below, belowB, belowA, atomB, Nat.reduceLeDiff, Nat.reduceMul, Int.reduceToNat, Int.reduceLT, Int.reduceLE, Int.reduceAdd, Int.reduceNeg, Int.reduceEq, splice, Nat.reduceEqDiff, Nat.reduceLT, isAtom, Int.reduceSub, Int.reduceMul, implies_true]
    refine (hI _).use ?_
    cases ib with
    | false =>
      simp (contextual := true) (implicitDefEqProofs := false) (maxSteps := 2000000) (disch := first | rfl | exact NB rfl | omega | (simp only [XL]; omega)) only [bin_ladd, str_cut, str_app, str_eq, string_mk_size, string_mk, XW, undef_eq, Nat.reduceAdd, Nat.reduceSub, ↓reduceIte, basic, cellsL, resOf, setAt, below, belowB, belowA, atomB, Nat.reduceLeDiff, Nat.reduceMul, Int.reduceToNat, Int.reduceLT, Int.reduceLE, Int.reduceAdd, Int.reduceNeg, Int.reduceEq, splice, Nat.reduceEqDiff, Nat.reduceLT, isAtom, Int.reduceSub, Int.reduceMul, implies_true]
      simp [infoE, h]
    | true =>
      by_cases h2 : 256 < info.length
      · have h2' : ((256 : Int) < (info.length : Int)) = True := eq_true (by omega)
        simp (contextual := true) (implicitDefEqProofs := false) (maxSteps := 2000000) (disch := first | rfl | exact NB rfl | omega | (simp only [XL]; omega)) only [bin_ladd, str_cut, str_app, str_eq, string_mk_size, string_mk, h2', XW, undef_eq, Nat.reduceAdd, Nat.reduceSub, ↓reduceIte, basic, cellsL, resOf, setAt, below, belowB, belowA, atomB, Nat.reduceLeDiff, Nat.reduceMul, Int.reduceToNat, Int.reduceLT, Int.reduceLE, Int.reduceAdd, Int.reduceNeg, Int.reduceEq, splice, Nat.reduceEqDiff, Nat.reduceLT, isAtom, Int.reduceSub, Int.reduceMul, implies_true]
        simp [infoE, h2]
      · have h2' : ((256 : Int) < (info.length : Int)) = False := eq_false (by omega)
        simp (contextual := true) (implicitDefEqProofs := false) (maxSteps := 2000000) (disch := first | rfl | exact NB rfl | omega | (simp only [XL]; omega)) only [bin_ladd, str_cut, str_app, str_eq, string_mk_size, string_mk, h2', XW, undef_eq, Nat.reduceAdd, Nat.reduceSub, ↓reduceIte, basic, cellsL, resOf, setAt, below, belowB, belowA, atomB, Nat.reduceLeDiff, Nat.reduceMul, Int.reduceToNat, Int.reduceLT, Int.reduceLE, Int.reduceAdd, Int.reduceNeg, Int.reduceEq, splice, Nat.reduceEqDiff, Nat.reduceLT, isAtom, Int.reduceSub, Int.reduceMul, implies_true]
        simp [infoE, h2]
def encF (L : List En) (ct : List UInt8) (pb : Bool) (pid : Int) (info : List UInt8) : List UInt8 := putE L ++ ct ++ (if pb then [UInt8.ofNat pid.toNat] else []) ++ info
end Go.Proofs.YtijndljfpiomhaaDoor
/- What is wrong with a frame; its bytes: walked. -/
namespace Go.Proofs.YtijndljfpiomhaaDoor
open Go.Lg
set_option maxRecDepth 8000
set_option maxHeartbeats 8000000
theorem wrong_spec {tb : List UInt8} {ts : Int} {fb : List UInt8} {fs : Int} {tm fm : Bool} {dv : Value} {l : List En} {c : Ct} {pid : Int} {info : List UInt8} {wide rb pb ib : Bool} {m : Mem}
    (htb : tb.length ≤ 140737488355328) (hfb : fb.length ≤ 140737488355328) (hb : ∀ e ∈ l, e.b.length ≤ 140737488355328) (h : Rd m 3 dv (l.map En.row)) (hn : l.length ≤ 1000000)
    (hR : ∀ m, Ret Tryd.prog 31 [c.val, .bool wide] m (.bool rb) m) (hP : ∀ m, Ret Tryd.prog 18 [.int .i64 c.k] m (.bool pb) m) (hI : ∀ m, Ret Tryd.prog 50 [.int .i64 c.k] m (.bool ib) m) (hl : info.length ≤ 140737488355328) :
    Ret Tryd.prog 14 [frameV tb ts fb fs tm fm dv c pid info, .bool wide] m (.int .i64 (wrongE (rightP tb ts fb fs l) rb pb ib pid info)) m := by
  have h0 := h
  obtain ⟨a, rfl, _⟩ := h
  refine LCall_drop (LCall_enter Tryd.func14 c14 ?_)
  simp (contextual := true) (implicitDefEqProofs := false) (maxSteps := 2000000) (disch := first | rfl | exact NB rfl | omega | (simp only [XL]; omega)) only [L14, XW, undef_eq, Nat.reduceAdd, Nat.reduceSub, ↓reduceIte, basic, cellsL, resOf, setAt, below, belowB, belowA, atomB, Nat.reduceLeDiff, Nat.reduceMul, Int.reduceToNat, Int.reduceLT, Int.reduceLE, Int.reduceAdd, Int.reduceNeg, Int.reduceEq, splice, Nat.reduceEqDiff, Nat.reduceLT, isAtom, Int.reduceSub, Int.reduceMul, implies_true]
  refine (rightP_spec htb hfb hb h0.app hn).use ?_
  cases hr : rightP tb ts fb fs l with
  | false => simp (contextual := true) (implicitDefEqProofs := false) (maxSteps := 2000000) (disch := first | rfl | exact NB rfl | omega | (simp only [XL]; omega)) only [wrongE, XW, undef_eq, Nat.reduceAdd, Nat.reduceSub, ↓reduceIte, basic, cellsL, resOf, setAt, below, belowB, belowA, atomB, Nat.reduceLeDiff, Nat.reduceMul, Int.reduceToNat, Int.reduceLT, Int.reduceLE, Int.reduceAdd, Int.reduceNeg, Int.reduceEq, splice, Nat.reduceEqDiff, Nat.reduceLT, isAtom, Int.reduceSub, Int.reduceMul, implies_true]
  | true =>
    simp (contextual := true) (implicitDefEqProofs := false) (maxSteps := 2000000) (disch := first | rfl | exact NB rfl | omega | (simp only [XL]; omega)) only [XW, undef_eq, Nat.reduceAdd, Nat.reduceSub, ↓reduceIte, basic, cellsL, resOf, setAt, below, belowB, belowA, atomB, Nat.reduceLeDiff, Nat.reduceMul, Int.reduceToNat, Int.reduceLT, Int.reduceLE, Int.reduceAdd, Int.reduceNeg, Int.reduceEq, splice, Nat.reduceEqDiff, Nat.reduceLT, isAtom, Int.reduceSub, Int.reduceMul, implies_true]
    refine (hR _).use ?_
    cases rb with
    | false =>
      simp (contextual := true) (implicitDefEqProofs := false) (maxSteps := 2000000) (disch := first | rfl | exact NB rfl | omega | (simp only [XL]; omega)) only [XW, undef_eq, Nat.reduceAdd, Nat.reduceSub, ↓reduceIte, basic, cellsL, resOf, setAt, below, belowB, belowA, atomB, Nat.reduceLeDiff, Nat.reduceMul, Int.reduceToNat, Int.reduceLT, Int.reduceLE, Int.reduceAdd, Int.reduceNeg, Int.reduceEq, splice, Nat.reduceEqDiff, Nat.reduceLT, isAtom, Int.reduceSub, Int.reduceMul, implies_true]
      simp [wrongE]
    | true =>
      by_cases h1 : pid < 0
      · have h1' : (pid < 0) = True := eq_true h1
        simp (contextual := true) (implicitDefEqProofs := false) (maxSteps := 2000000) (disch := first | rfl | exact NB rfl | omega | (simp only [XL]; omega)) only [h1', XW, undef_eq, Nat.reduceAdd, Nat.reduceSub, ↓reduceIte, basic, cellsL, resOf, setAt, below, belowB, belowA, atomB, Nat.reduceLeDiff, Nat.reduceMul, Int.reduceToNat, Int.reduceLT, Int.reduceLE, Int.reduceAdd, Int.reduceNeg, Int.reduceEq, splice, Nat.reduceEqDiff, Nat.reduceLT, isAtom, Int.reduceSub, Int.reduceMul, implies_true]
        simp [wrongE, h1]
      have h1' : (pid < 0) = False := eq_false h1
      by_cases h2 : 255 < pid
      · have h2' : (255 < pid) = True := eq_true h2
        simp (contextual := true) (implicitDefEqProofs := false) (maxSteps := 2000000) (disch := first | rfl | exact NB rfl | omega | (simp only [XL]; omega)) only [h1', h2', XW, undef_eq, Nat.reduceAdd, Nat.reduceSub, ↓reduceIte, basic, cellsL, resOf, setAt, below, belowB, belowA, atomB, Nat.reduceLeDiff, Nat.reduceMul, Int.reduceToNat, Int.reduceLT, Int.reduceLE, Int.reduceAdd, Int.reduceNeg, Int.reduceEq, splice, Nat.reduceEqDiff, Nat.reduceLT, isAtom, Int.reduceSub, Int.reduceMul, implies_true]
        simp [wrongE, h2]
      have h2' : (255 < pid) = False := eq_false h2
      by_cases h3 : pid = 0
      · have e : wrongE true true pb ib pid info = infoE ib info := by simp [wrongE, h1, h2, h3]
        subst h3
        simp (contextual := true) (implicitDefEqProofs := false) (maxSteps := 2000000) (disch := first | rfl | exact NB rfl | omega | (simp only [XL]; omega)) only [XW, undef_eq, Nat.reduceAdd, Nat.reduceSub, ↓reduceIte, basic, cellsL, resOf, setAt, below, belowB, belowA, atomB, Nat.reduceLeDiff, Nat.reduceMul, Int.reduceToNat, Int.reduceLT, Int.reduceLE, Int.reduceAdd, Int.reduceNeg, Int.reduceEq, splice, Nat.reduceEqDiff, Nat.reduceLT, isAtom, Int.reduceSub, Int.reduceMul, implies_true]
        refine (info_spec hI hl).use ?_
        simp (contextual := true) (implicitDefEqProofs := false) (maxSteps := 2000000) (disch := first | rfl | exact NB rfl | omega | (simp only [XL]; omega)) only [XW, undef_eq, Nat.reduceAdd, Nat.reduceSub, ↓reduceIte, basic, cellsL, resOf, setAt, below, belowB, belowA, atomB, Nat.reduceLeDiff, Nat.reduceMul, Int.reduceToNat, Int.reduceLT, Int.reduceLE, Int.reduceAdd, Int.reduceNeg, Int.reduceEq, splice, Nat.reduceEqDiff, Nat.reduceLT, isAtom, Int.reduceSub, Int.reduceMul, implies_true]
        rw [e]
      · have h3' : (pid = 0) = False := eq_false h3
        simp (contextual := true) (implicitDefEqProofs := false) (maxSteps := 2000000) (disch := first | rfl | exact NB rfl | omega | (simp only [XL]; omega)) only [h1', h2', h3', XW, undef_eq, Nat.reduceAdd, Nat.reduceSub, ↓reduceIte, basic, cellsL, resOf, setAt, below, belowB, belowA, atomB, Nat.reduceLeDiff, Nat.reduceMul, Int.reduceToNat, Int.reduceLT, Int.reduceLE, Int.reduceAdd, Int.reduceNeg, Int.reduceEq, splice, Nat.reduceEqDiff, Nat.reduceLT, isAtom, Int.reduceSub, Int.reduceMul, implies_true]
        refine (hP _).use ?_
        cases pb with
        | false =>
          simp (contextual := true) (implicitDefEqProofs := false) (maxSteps := 2000000) (disch := first | rfl | exact NB rfl | omega | (simp only [XL]; omega)) only [XW, undef_eq, Nat.reduceAdd, Nat.reduceSub, ↓reduceIte, basic, cellsL, resOf, setAt, below, belowB, belowA, atomB, Nat.reduceLeDiff, Nat.reduceMul, Int.reduceToNat, Int.reduceLT, Int.reduceLE, Int.reduceAdd, Int.reduceNeg, Int.reduceEq, splice, Nat.reduceEqDiff, Nat.reduceLT, isAtom, Int.reduceSub, Int.reduceMul, implies_true]
          simp [wrongE, h3]
        | true =>
          have e : wrongE true true true ib pid info = infoE ib info := by simp [wrongE, h1, h2]
          simp (contextual := true) (implicitDefEqProofs := false) (maxSteps := 2000000) (disch := first | rfl | exact NB rfl | omega | (simp only [XL]; omega)) only [XW, undef_eq, Nat.reduceAdd, Nat.reduceSub, ↓reduceIte, basic, cellsL, resOf, setAt, below, belowB, belowA, atomB, Nat.reduceLeDiff, Nat.reduceMul, Int.reduceToNat, Int.reduceLT, Int.reduceLE, Int.reduceAdd, Int.reduceNeg, Int.reduceEq, splice, Nat.reduceEqDiff, Nat.reduceLT, isAtom, Int.reduceSub, Int.reduceMul, implies_true]
          refine (info_spec hI hl).use ?_
          simp (contextual := true) (implicitDefEqProofs := false) (maxSteps := 2000000) (disch := first | rfl | exact NB rfl | omega | (simp only [XL]; omega)) only [XW, undef_eq, Nat.reduceAdd, Nat.reduceSub, ↓reduceIte, basic, cellsL, resOf, setAt, below, belowB, belowA, atomB, Nat.reduceLeDiff, Nat.reduceMul, Int.reduceToNat, Int.reduceLT, Int.reduceLE, Int.reduceAdd, Int.reduceNeg, Int.reduceEq, splice, Nat.reduceEqDiff, Nat.reduceLT, isAtom, Int.reduceSub, Int.reduceMul, implies_true]
          rw [e]
theorem encode_wrong {tb : List UInt8} {ts : Int} {fb : List UInt8} {fs : Int} {tm fm : Bool} {dv : Value} {l : List En} {c : Ct} {pid : Int} {info : List UInt8} {wide rb pb ib : Bool} {m : Mem}
    (htb : tb.length ≤ 140737488355328) (hfb : fb.length ≤ 140737488355328) (hb : ∀ e ∈ l, e.b.length ≤ 140737488355328) (h : Rd m 3 dv (l.map En.row)) (hn : l.length ≤ 1000000)
    (hR : ∀ m, Ret Tryd.prog 31 [c.val, .bool wide] m (.bool rb) m) (hP : ∀ m, Ret Tryd.prog 18 [.int .i64 c.k] m (.bool pb) m) (hI : ∀ m, Ret Tryd.prog 50 [.int .i64 c.k] m (.bool ib) m) (hl : info.length ≤ 140737488355328)
    (hw : wrongE (rightP tb ts fb fs l) rb pb ib pid info ≠ 0) :
    Ret Tryd.prog 8 [frameV tb ts fb fs tm fm dv c pid info, .bool wide] m (.tuple #[.string ⟨#[]⟩, .int .i64 (wrongE (rightP tb ts fb fs l) rb pb ib pid info)]) m := by
  have h0 := h
  obtain ⟨a, rfl, _⟩ := h
  refine LCall_drop (LCall_enter Tryd.func8 c8 ?_)
  simp (contextual := true) (implicitDefEqProofs := false) (maxSteps := 2000000) (disch := first | rfl | exact NB rfl | omega | (simp only [XL]; omega)) only [L8, XW, undef_eq, Nat.reduceAdd, Nat.reduceSub, ↓reduceIte, basic, cellsL, resOf, setAt, below, belowB, belowA, atomB, Nat.reduceLeDiff, Nat.reduceMul, Int.reduceToNat, Int.reduceLT, Int.reduceLE, Int.reduceAdd, Int.reduceNeg, Int.reduceEq, splice, Nat.reduceEqDiff, Nat.reduceLT, isAtom, Int.reduceSub, Int.reduceMul, implies_true]
  refine (wrong_spec htb hfb hb h0.app hn hR hP hI hl).use ?_
  have hw' : (wrongE (rightP tb ts fb fs l) rb pb ib pid info = 0) = False := eq_false hw
  simp (contextual := true) (implicitDefEqProofs := false) (maxSteps := 2000000) (disch := first | rfl | exact NB rfl | omega | (simp only [XL]; omega)) only [hw', XW, undef_eq, Nat.reduceAdd, Nat.reduceSub, ↓reduceIte, basic, cellsL, resOf, setAt, below, belowB, belowA, atomB, Nat.reduceLeDiff, Nat.reduceMul, Int.reduceToNat, Int.reduceLT, Int.reduceLE, Int.reduceAdd, Int.reduceNeg, Int.reduceEq, splice, Nat.reduceEqDiff, Nat.reduceLT, isAtom, Int.reduceSub, Int.reduceMul, implies_true]
theorem encode_spec {tb : List UInt8} {ts : Int} {fb : List UInt8} {fs : Int} {tm fm : Bool} {dv : Value} {l : List En} {c : Ct} {pid : Int} {info ct : List UInt8} {wide rb pb ib : Bool} {m : Mem}
    (h : RdN m 3 dv (l.map En.row))
    (hR : ∀ m, Ret Tryd.prog 31 [c.val, .bool wide] m (.bool rb) m) (hP : ∀ m, Ret Tryd.prog 18 [.int .i64 c.k] m (.bool pb) m) (hI : ∀ m, Ret Tryd.prog 50 [.int .i64 c.k] m (.bool ib) m)
    (hC : ∀ m, Ret Tryd.prog 16 [c.val, .bool wide] m (.tuple #[str ct, .int .i64 0]) m) (hct : ct.length ≤ 1000)
    (hw : wrongE (rightP tb ts fb fs l) rb pb ib pid info = 0) :
    Ret Tryd.prog 8 [frameV tb ts fb fs tm fm dv c pid info, .bool wide] m (.tuple #[str (encF (⟨tb, ts, tm⟩ :: ⟨fb, fs, fm⟩ :: l) ct pb pid info), .int .i64 0]) m := by
  have hrp : rightP tb ts fb fs l = true := by
    cases hr : rightP tb ts fb fs l with
    | true => rfl
    | false => rw [wrongE, if_pos hr] at hw; cases hw
  have hw0 := hw
  rw [hrp, wrongE, if_neg (by simp)] at hw
  split at hw
  · cases hw
  rename_i hw1
  have hil : info.length ≤ 256 := by
    unfold infoE at hw
    split at hw
    · cases hw
    split at hw
    · cases hw
    · omega
  obtain ⟨hl8, _, hok⟩ := rightP_le (tm := tm) (fm := fm) hrp
  have hlet : ∀ e ∈ (⟨tb, ts, tm⟩ :: ⟨fb, fs, fm⟩ :: l : List En), e.b.length ≤ 6 := fun e he => (right_le (hok e he)).2.1.2
  have htb := hlet ⟨tb, ts, tm⟩ (by simp)
  have hfb := hlet ⟨fb, fs, fm⟩ (by simp)
  simp only at htb hfb
  have h0 := h
  obtain ⟨a, rfl, _⟩ := h.1
  refine LCall_drop (LCall_enter Tryd.func8 c8 ?_)
  simp (contextual := true) (implicitDefEqProofs := false) (maxSteps := 2000000) (disch := first | rfl | exact NB rfl | omega | (simp only [XL]; omega)) only [L8, XW, undef_eq, Nat.reduceAdd, Nat.reduceSub, ↓reduceIte, basic, cellsL, resOf, setAt, below, belowB, belowA, atomB, Nat.reduceLeDiff, Nat.reduceMul, Int.reduceToNat, Int.reduceLT, Int.reduceLE, Int.reduceAdd, Int.reduceNeg, Int.reduceEq, splice, Nat.reduceEqDiff, Nat.reduceLT, isAtom, Int.reduceSub, Int.reduceMul, implies_true]
  refine (wrong_spec (l := l) (by omega) (by omega) (fun e he => by have := hlet e (by simp [he]); omega) h0.1.app (by omega) hR hP hI (by omega)).use ?_
  rw [hw0]
  simp (contextual := true) (implicitDefEqProofs := false) (maxSteps := 2000000) (disch := first | rfl | exact NB rfl | omega | (simp only [XL]; omega)) only [XW, undef_eq, Nat.reduceAdd, Nat.reduceSub, ↓reduceIte, basic, cellsL, resOf, setAt, below, belowB, belowA, atomB, Nat.reduceLeDiff, Nat.reduceMul, Int.reduceToNat, Int.reduceLT, Int.reduceLE, Int.reduceAdd, Int.reduceNeg, Int.reduceEq, splice, Nat.reduceEqDiff, Nat.reduceLT, isAtom, Int.reduceSub, Int.reduceMul, implies_true]
  have hpid : 0 ≤ pid ∧ pid ≤ 255 := by
    constructor
    · exact Int.not_lt.mp fun h => hw1 (.inr (.inl h))
    · exact Int.not_lt.mp fun h => hw1 (.inr (.inr (.inl h)))
  obtain ⟨x, hx⟩ : ∃ x : UInt8, IntKind.u8.wrap pid = (x.toNat : Int) ∧ UInt8.ofNat pid.toNat = x := by
    refine ⟨UInt8.ofNat pid.toNat, ?_, rfl⟩
    obtain ⟨n, rfl⟩ : ∃ n : Nat, pid = (n : Int) := ⟨pid.toNat, by omega⟩
    rw [Int.toNat_natCast, u8_of (by omega), wrap_u8n (by omega)]
  obtain ⟨hx, hx2⟩ := hx
  obtain ⟨M0, hM, hf0, hb0, hb1⟩ : ∃ M0, m ++ [⟨[str tb, .int .i64 ts, str fb, .int .i64 fs, .bool tm, .bool fm, .slice a (l.map En.row).length (l.map En.row).length, .int .i64 c.k, .int .i64 c.ns, .int .i64 c.nr, .bool c.pf, .int .i64 pid, str info], 39, 1, 0, .own⟩, ⟨[.pointer none, .slice none 0 0], 59, 0, 0, .own⟩] = M0 ∧ Frm [] m M0 ∧ M0[m.length]? = some ⟨[str tb, .int .i64 ts, str fb, .int .i64 fs, .bool tm, .bool fm, .slice a (l.map En.row).length (l.map En.row).length, .int .i64 c.k, .int .i64 c.ns, .int .i64 c.nr, .bool c.pf, .int .i64 pid, str info], 39, 1, 0, .own⟩ ∧ Bd 59 5 M0 (m.length + 1) [m.length + 1] [] := by
    refine ⟨_, rfl, Frm.refl.app, by simp, ?_⟩
    have := Bd.new (TB := 59) (T := 5) (m := m ++ [⟨[str tb, .int .i64 ts, str fb, .int .i64 fs, .bool tm, .bool fm, .slice a (l.map En.row).length (l.map En.row).length, .int .i64 c.k, .int .i64 c.ns, .int .i64 c.nr, .bool c.pf, .int .i64 pid, str info], 39, 1, 0, .own⟩])
    simpa using this
  rw [hM]
  clear hM
  have l0 := lt_of_some hb0
  refine (putP_spec (tm := tm) (fm := fm) (h0.frm0 hf0) hrp).use ?_
  have hLl : (putE (⟨tb, ts, tm⟩ :: ⟨fb, fs, fm⟩ :: l)).length ≤ 70 ∧ 0 < (putE (⟨tb, ts, tm⟩ :: ⟨fb, fs, fm⟩ :: l)).length := by
    unfold putE; rw [putTo_len (Nat.le_refl _)]; simp only [List.length_cons]; omega
  obtain ⟨hLl, hpos⟩ := hLl
  unfold encF
  generalize putE (⟨tb, ts, tm⟩ :: ⟨fb, fs, fm⟩ :: l) = pb0 at hLl hpos ⊢
  simp (contextual := true) (implicitDefEqProofs := false) (maxSteps := 2000000) (disch := first | rfl | exact NB rfl | omega | (simp only [XL]; omega)) only [hb0, XW, undef_eq, Nat.reduceAdd, Nat.reduceSub, ↓reduceIte, basic, cellsL, resOf, setAt, below, belowB, belowA, atomB, Nat.reduceLeDiff, Nat.reduceMul, Int.reduceToNat, Int.reduceLT, Int.reduceLE, Int.reduceAdd, Int.reduceNeg, Int.reduceEq, splice, Nat.reduceEqDiff, Nat.reduceLT, isAtom, Int.reduceSub, Int.reduceMul, implies_true]
  refine (hC _).use ?_
  simp (contextual := true) (implicitDefEqProofs := false) (maxSteps := 2000000) (disch := first | rfl | exact NB rfl | omega | (simp only [XL]; omega)) only [hb0, bin_ladd, str_cut, str_app, str_eq, string_mk_size, string_mk, XW, undef_eq, Nat.reduceAdd, Nat.reduceSub, ↓reduceIte, basic, cellsL, resOf, setAt, below, belowB, belowA, atomB, Nat.reduceLeDiff, Nat.reduceMul, Int.reduceToNat, Int.reduceLT, Int.reduceLE, Int.reduceAdd, Int.reduceNeg, Int.reduceEq, splice, Nat.reduceEqDiff, Nat.reduceLT, isAtom, Int.reduceSub, Int.reduceMul, implies_true]
  refine (wString_spec ⟨(pb0 ++ ct).toArray⟩ hb1 (by rw [string_mk_size]; simp only [List.length_nil, List.length_append]; omega)).mono ?_
  rintro _ M1 ⟨hf1, B1, hb2, hn1⟩
  rw [string_mk, List.nil_append] at hb2
  have hb01 := hf1.get hb0 (by simp)
  have l1 := lt_of_some hb01
  have hB1 : ∀ x ∈ B1, m.length < x := fun x hx => by
    rcases hn1 x hx with h1 | h1
    · simp at h1; omega
    · omega
  have hfm1 : Frm [] m M1 := hf0.trans hf1 fun x hx => .inr (by simp at hx; omega)
  simp (contextual := true) (implicitDefEqProofs := false) (maxSteps := 2000000) (disch := first | rfl | exact NB rfl | omega | (simp only [XL]; omega)) only [hb01, XW, undef_eq, Nat.reduceAdd, Nat.reduceSub, ↓reduceIte, basic, cellsL, resOf, setAt, below, belowB, belowA, atomB, Nat.reduceLeDiff, Nat.reduceMul, Int.reduceToNat, Int.reduceLT, Int.reduceLE, Int.reduceAdd, Int.reduceNeg, Int.reduceEq, splice, Nat.reduceEqDiff, Nat.reduceLT, isAtom, Int.reduceSub, Int.reduceMul, implies_true]
  refine (hP _).use ?_
  -- what follows when the bytes ahead of the information stand
  have last : ∀ (M2 : Mem) (B2 : List Nat) (q : List UInt8), q.length ≤ 2000 → Frm [] m M2 → m.length < M2.length → Bd 59 5 M2 (m.length + 1) B2 q → (∀ x ∈ B2, m.length < x) → 0 < q.length →
      LCall Tryd.prog 17 [.pointer (some ⟨m.length + 1, 0, none⟩), str info] M2 fun v M => Frm [] m M ∧ ∃ B3, Bd 59 5 M (m.length + 1) B3 (q ++ info) ∧ (∀ x ∈ B3, m.length < x) := by
    intro M2 B2 q hq hfm2 hml hbd hB2 _
    refine (wString_spec ⟨info.toArray⟩ hbd (by rw [string_mk_size]; omega)).mono ?_
    rintro _ M3 ⟨hf3, B3, hb3, hn3⟩
    rw [string_mk] at hb3
    refine ⟨hfm2.trans hf3 fun x hx => .inr (by have := hB2 x hx; omega), B3, hb3, fun x hx => ?_⟩
    rcases hn3 x hx with h1 | h1
    · exact hB2 x h1
    · omega
  have fin : ∀ (M3 : Mem) (B3 : List Nat) (q : List UInt8), q.length ≤ 3000 → 0 < q.length → Frm [] m M3 → Bd 59 5 M3 (m.length + 1) B3 q → (∀ x ∈ B3, m.length < x) →
      LCall Tryd.prog 20 [.pointer (some ⟨m.length + 1, 0, none⟩)] M3 fun v M => v = str q ∧ Frm [] m M := by
    intro M3 B3 q hq hq0 hf3 hb3 hB3
    refine (bString_spec hb3 (by omega) hq0).mono ?_
    rintro _ M4 ⟨rfl, hf4⟩
    exact ⟨rfl, hf3.trans hf4 fun x hx => .inr (by have := hB3 x hx; omega)⟩
  have hp0 : 0 < pb0.length := hpos
  cases pb with
  | false =>
    simp (contextual := true) (implicitDefEqProofs := false) (maxSteps := 2000000) (disch := first | rfl | exact NB rfl | omega | (simp only [XL]; omega)) only [hb01, bin_ladd, str_cut, str_app, str_eq, string_mk_size, string_mk, XW, undef_eq, Nat.reduceAdd, Nat.reduceSub, ↓reduceIte, basic, cellsL, resOf, setAt, below, belowB, belowA, atomB, Nat.reduceLeDiff, Nat.reduceMul, Int.reduceToNat, Int.reduceLT, Int.reduceLE, Int.reduceAdd, Int.reduceNeg, Int.reduceEq, splice, Nat.reduceEqDiff, Nat.reduceLT, isAtom, Int.reduceSub, Int.reduceMul, implies_true]
    refine (last M1 B1 (pb0 ++ ct) (by simp only [List.length_append]; omega) hfm1 l1 hb2 hB1 (by simp only [List.length_append]; omega)).mono ?_
    rintro _ M3 ⟨hf3, B3, hb3, hB3⟩
    simp (contextual := true) (implicitDefEqProofs := false) (maxSteps := 2000000) (disch := first | rfl | exact NB rfl | omega | (simp only [XL]; omega)) only [XW, undef_eq, Nat.reduceAdd, Nat.reduceSub, ↓reduceIte, basic, cellsL, resOf, setAt, below, belowB, belowA, atomB, Nat.reduceLeDiff, Nat.reduceMul, Int.reduceToNat, Int.reduceLT, Int.reduceLE, Int.reduceAdd, Int.reduceNeg, Int.reduceEq, splice, Nat.reduceEqDiff, Nat.reduceLT, isAtom, Int.reduceSub, Int.reduceMul, implies_true]
    refine (fin M3 B3 _ (by simp only [List.length_append]; omega) (by simp only [List.length_append]; omega) hf3 hb3 hB3).mono ?_
    rintro _ M4 ⟨rfl, hf4⟩
    simp (contextual := true) (implicitDefEqProofs := false) (maxSteps := 2000000) (disch := first | rfl | exact NB rfl | omega | (simp only [XL]; omega)) only [List.append_assoc, XW, undef_eq, Nat.reduceAdd, Nat.reduceSub, ↓reduceIte, basic, cellsL, resOf, setAt, below, belowB, belowA, atomB, Nat.reduceLeDiff, Nat.reduceMul, Int.reduceToNat, Int.reduceLT, Int.reduceLE, Int.reduceAdd, Int.reduceNeg, Int.reduceEq, splice, Nat.reduceEqDiff, Nat.reduceLT, isAtom, Int.reduceSub, Int.reduceMul, implies_true]
    exact hf4.ext (by simp)
  | true =>
    simp (contextual := true) (implicitDefEqProofs := false) (maxSteps := 2000000) (disch := first | rfl | exact NB rfl | omega | (simp only [XL]; omega)) only [hb01, hx, XW, undef_eq, Nat.reduceAdd, Nat.reduceSub, ↓reduceIte, basic, cellsL, resOf, setAt, below, belowB, belowA, atomB, Nat.reduceLeDiff, Nat.reduceMul, Int.reduceToNat, Int.reduceLT, Int.reduceLE, Int.reduceAdd, Int.reduceNeg, Int.reduceEq, splice, Nat.reduceEqDiff, Nat.reduceLT, isAtom, Int.reduceSub, Int.reduceMul, implies_true]
    refine (wByte_spec x hb2 (by simp only [List.length_append]; omega)).mono ?_
    rintro _ M2 ⟨hf2, B2, hb3, hn2⟩
    have hb02 := hf2.get hb01 (fun hx => by have := hB1 _ hx; omega)
    have l2 := lt_of_some hb02
    have hB2 : ∀ x ∈ B2, m.length < x := fun x hx => by
      rcases hn2 x hx with h1 | h1
      · exact hB1 x h1
      · omega
    have hfm2 : Frm [] m M2 := hfm1.trans hf2 fun x hx => .inr (by have := hB1 x hx; omega)
    simp (contextual := true) (implicitDefEqProofs := false) (maxSteps := 2000000) (disch := first | rfl | exact NB rfl | omega | (simp only [XL]; omega)) only [hb02, XW, undef_eq, Nat.reduceAdd, Nat.reduceSub, ↓reduceIte, basic, cellsL, resOf, setAt, below, belowB, belowA, atomB, Nat.reduceLeDiff, Nat.reduceMul, Int.reduceToNat, Int.reduceLT, Int.reduceLE, Int.reduceAdd, Int.reduceNeg, Int.reduceEq, splice, Nat.reduceEqDiff, Nat.reduceLT, isAtom, Int.reduceSub, Int.reduceMul, implies_true]
    refine (last M2 B2 (pb0 ++ ct ++ [x]) (by simp only [List.length_append, List.length_cons, List.length_nil]; omega) hfm2 l2 hb3 hB2 (by simp only [List.length_append]; omega)).mono ?_
    rintro _ M3 ⟨hf3, B3, hb4, hB3⟩
    simp (contextual := true) (implicitDefEqProofs := false) (maxSteps := 2000000) (disch := first | rfl | exact NB rfl | omega | (simp only [XL]; omega)) only [XW, undef_eq, Nat.reduceAdd, Nat.reduceSub, ↓reduceIte, basic, cellsL, resOf, setAt, below, belowB, belowA, atomB, Nat.reduceLeDiff, Nat.reduceMul, Int.reduceToNat, Int.reduceLT, Int.reduceLE, Int.reduceAdd, Int.reduceNeg, Int.reduceEq, splice, Nat.reduceEqDiff, Nat.reduceLT, isAtom, Int.reduceSub, Int.reduceMul, implies_true]
    refine (fin M3 B3 _ (by simp only [List.length_append, List.length_cons, List.length_nil]; omega) (by simp only [List.length_append]; omega) hf3 hb4 hB3).mono ?_
    rintro _ M4 ⟨rfl, hf4⟩
    simp (contextual := true) (implicitDefEqProofs := false) (maxSteps := 2000000) (disch := first | rfl | exact NB rfl | omega | (simp only [XL]; omega)) only [List.append_assoc, hx2, XW, undef_eq, Nat.reduceAdd, Nat.reduceSub, ↓reduceIte, basic, cellsL, resOf, setAt, below, belowB, belowA, atomB, Nat.reduceLeDiff, Nat.reduceMul, Int.reduceToNat, Int.reduceLT, Int.reduceLE, Int.reduceAdd, Int.reduceNeg, Int.reduceEq, splice, Nat.reduceEqDiff, Nat.reduceLT, isAtom, Int.reduceSub, Int.reduceMul, implies_true]
    exact hf4.ext (by simp)
end Go.Proofs.YtijndljfpiomhaaDoor
/- A call of bytes: blanks cut off; walked. -/
namespace Go.Proofs.YtijndljfpiomhaaDoor
open Go.Lg
set_option maxRecDepth 8000
set_option maxHeartbeats 8000000
def trimR (l : List UInt8) : List UInt8 := (l.reverse.dropWhile (· == 32)).reverse
theorem trimR_nil : trimR [] = [] := rfl
theorem trimR_blank {l : List UInt8} : trimR (l ++ [32]) = trimR l := by simp [trimR]
theorem trimR_other {l : List UInt8} {x : UInt8} (h : x ≠ 32) : trimR (l ++ [x]) = l ++ [x] := by simp [trimR, h]
theorem u8_is {x : UInt8} {n : Nat} (hn : n < 256) : ((x.toNat : Int) = (n : Int)) = (x = UInt8.ofNat n) := by
  apply propext
  constructor
  · intro h
    have h' : x.toNat = n := by omega
    rw [← h']; simp
  · rintro rfl
    rw [u8_of hn]
theorem trimB_spec (l : List UInt8) (hl : l.length ≤ 1000000) (m : Mem) : Ret Tryd.prog 57 [str l, .int .u8 32] m (str (trimR l)) m := by
  refine LCall_drop (LCall_enter Tryd.func57 c57 ?_)
  simp (contextual := true) (implicitDefEqProofs := false) (maxSteps := 2000000) (disch := first | rfl | exact NB rfl | omega | (simp only [XL]; omega)) only [L57, XW, undef_eq, Nat.reduceAdd, Nat.reduceSub, ↓reduceIte, basic, cellsL, resOf, setAt, below, belowB, belowA, atomB, Nat.reduceLeDiff, Nat.reduceMul, Int.reduceToNat, Int.reduceLT, Int.reduceLE, Int.reduceAdd, Int.reduceNeg, Int.reduceEq, splice, Nat.reduceEqDiff, Nat.reduceLT, isAtom, Int.reduceSub, Int.reduceMul, implies_true]
  refine loop_inv (fun n t M => ∃ (j : Nat), n = j ∧ j ≤ l.length ∧ trimR l = trimR (l.take j) ∧ M = m ∧
    Tab 23 [(0, str (l.take j)), (1, .int .u8 32)] t) (n := l.length) ?_ ?_
  · exact ⟨l.length, rfl, Nat.le_refl _, by rw [List.take_of_length_le (Nat.le_refl _)], rfl, ⟨rfl, by simp⟩⟩
  rintro j t M ⟨_, rfl, hj, hx, rfl, ht⟩
  obtain ⟨f, rfl⟩ : ∃ f' : Nat → Value, t = [str (l.take j), .int .u8 32, f' 2, f' 3, f' 4, f' 5, f' 6, f' 7, f' 8, f' 9, f' 10, f' 11, f' 12, f' 13, f' 14, f' 15, f' 16, f' 17, f' 18, f' 19, f' 20, f' 21, f' 22] := ht.open fun f' => rfl
  have htl : (l.take j).length = j := by rw [List.length_take]; omega
  cases j with
  | zero =>
    rw [hx]
    simp (contextual := true) (implicitDefEqProofs := false) (maxSteps := 2000000) (disch := first | rfl | exact NB rfl | omega | (simp only [XL]; omega)) only [bin_ladd, str_cut, str_app, str_eq, string_mk_size, string_mk, List.take_zero, List.length_nil, XW, undef_eq, Nat.reduceAdd, Nat.reduceSub, ↓reduceIte, basic, cellsL, resOf, setAt, below, belowB, belowA, atomB, Nat.reduceLeDiff, Nat.reduceMul, Int.reduceToNat, Int.reduceLT, Int.reduceLE, Int.reduceAdd, Int.reduceNeg, Int.reduceEq, splice, Nat.reduceEqDiff, Nat.reduceLT, isAtom, Int.reduceSub, Int.reduceMul, implies_true]
    rfl
  | succ j =>
    have hjp : ((0 : Int) < ((j + 1 : Nat) : Int)) = True := eq_true (by omega)
    obtain ⟨c, hc⟩ : ∃ r, l[j]? = some r := ⟨l[j], List.getElem?_eq_getElem (by omega)⟩
    have hsn := take_snoc hc
    have hw : IntKind.i64.wrap (((j + 1 : Nat) : Int) - 1) = (j : Int) := by rw [wrap_i64 (by omega) (by omega)]; omega
    have hcj : (l.take (j + 1))[j]? = some c := by rw [List.getElem?_take, if_pos (by omega)]; exact hc
    have h0' : ((0 : Int) ≤ (j : Int)) = True := by simp
    have hlt' : ((j : Int) < ((j + 1 : Nat) : Int)) = True := eq_true (by omega)
    have htk : (l.take (j + 1)).take j = l.take j := by rw [List.take_take]; congr 1; omega
    have e32 : ((c.toNat : Int) = 32) = (c = 32) := u8_is (n := 32) (by omega)
    by_cases hc32 : c = 32
    · have h32 : (c = 32) = True := eq_true hc32
      simp (contextual := true) (implicitDefEqProofs := false) (maxSteps := 2000000) (disch := first | rfl | exact NB rfl | omega | (simp only [XL]; omega)) only [bin_ladd, str_cut, str_app, str_eq, string_mk_size, string_mk, htl, hjp, hw, hcj, h0', hlt', e32, h32, htk, Int.toNat_natCast, List.drop_zero, Nat.sub_zero, XW, undef_eq, Nat.reduceAdd, Nat.reduceSub, ↓reduceIte, basic, cellsL, resOf, setAt, below, belowB, belowA, atomB, Nat.reduceLeDiff, Nat.reduceMul, Int.reduceToNat, Int.reduceLT, Int.reduceLE, Int.reduceAdd, Int.reduceNeg, Int.reduceEq, splice, Nat.reduceEqDiff, Nat.reduceLT, isAtom, Int.reduceSub, Int.reduceMul, implies_true]
      exact kInv_go ⟨j, rfl, by omega, by rw [hx, hsn, hc32, trimR_blank], rfl, ⟨rfl, by simp⟩⟩ (by omega)
    · have h32 : (c = 32) = False := eq_false hc32
      rw [hx, hsn, trimR_other hc32, ← hsn]
      simp (contextual := true) (implicitDefEqProofs := false) (maxSteps := 2000000) (disch := first | rfl | exact NB rfl | omega | (simp only [XL]; omega)) only [bin_ladd, str_cut, str_app, str_eq, string_mk_size, string_mk, htl, hjp, hw, hcj, h0', hlt', e32, h32, htk, Int.toNat_natCast, XW, undef_eq, Nat.reduceAdd, Nat.reduceSub, ↓reduceIte, basic, cellsL, resOf, setAt, below, belowB, belowA, atomB, Nat.reduceLeDiff, Nat.reduceMul, Int.reduceToNat, Int.reduceLT, Int.reduceLE, Int.reduceAdd, Int.reduceNeg, Int.reduceEq, splice, Nat.reduceEqDiff, Nat.reduceLT, isAtom, Int.reduceSub, Int.reduceMul, implies_true]
theorem trim_spec (l : List UInt8) (hl : l.length ≤ 1000000) (m : Mem) : Ret Tryd.prog 53 [str l, str [32]] m (str (trimR l)) m := by
  refine LCall_drop (LCall_enter Tryd.func53 c53 ?_)
  by_cases h : l = []
  · subst h
    simp (contextual := true) (implicitDefEqProofs := false) (maxSteps := 2000000) (disch := first | rfl | exact NB rfl | omega | (simp only [XL]; omega)) only [L53, bin_ladd, str_cut, str_app, str_eq, string_mk_size, string_mk, XW, undef_eq, Nat.reduceAdd, Nat.reduceSub, ↓reduceIte, basic, cellsL, resOf, setAt, below, belowB, belowA, atomB, Nat.reduceLeDiff, Nat.reduceMul, Int.reduceToNat, Int.reduceLT, Int.reduceLE, Int.reduceAdd, Int.reduceNeg, Int.reduceEq, splice, Nat.reduceEqDiff, Nat.reduceLT, isAtom, Int.reduceSub, Int.reduceMul, implies_true]
    exact rfl
  · have h' : (l = []) = False := eq_false h
    have e1 : (([32] : List UInt8) = []) = False := eq_false (by simp)
    have e2 : ((UInt8.toNat 32 : Nat) : Int) = 32 := rfl
    simp (contextual := true) (implicitDefEqProofs := false) (maxSteps := 2000000) (disch := first | rfl | exact NB rfl | omega | (simp only [XL]; omega)) only [L53, bin_ladd, str_cut, str_app, str_eq, string_mk_size, string_mk, h', e1, e2, XW, undef_eq, Nat.reduceAdd, Nat.reduceSub, ↓reduceIte, basic, cellsL, resOf, setAt, below, belowB, belowA, atomB, Nat.reduceLeDiff, Nat.reduceMul, Int.reduceToNat, Int.reduceLT, Int.reduceLE, Int.reduceAdd, Int.reduceNeg, Int.reduceEq, splice, Nat.reduceEqDiff, Nat.reduceLT, isAtom, Int.reduceSub, Int.reduceMul, implies_true]
    refine (trimB_spec l hl _).use ?_
    simp (contextual := true) (implicitDefEqProofs := false) (maxSteps := 2000000) (disch := first | rfl | exact NB rfl | omega | (simp only [XL]; omega)) only [XW, undef_eq, Nat.reduceAdd, Nat.reduceSub, ↓reduceIte, basic, cellsL, resOf, setAt, below, belowB, belowA, atomB, Nat.reduceLeDiff, Nat.reduceMul, Int.reduceToNat, Int.reduceLT, Int.reduceLE, Int.reduceAdd, Int.reduceNeg, Int.reduceEq, splice, Nat.reduceEqDiff, Nat.reduceLT, isAtom, Int.reduceSub, Int.reduceMul, implies_true]
end Go.Proofs.YtijndljfpiomhaaDoor
/- A call of seven bytes, walked. -/
namespace Go.Proofs.YtijndljfpiomhaaDoor
open Go.Lg
set_option maxRecDepth 8000
set_option maxHeartbeats 8000000
def hlf (x : UInt8) : UInt8 := UInt8.ofNat (x.toNat / 2)
theorem hlf_nat (x : UInt8) : (hlf x).toNat = x.toNat / 2 := by
  have := x.toNat_lt
  unfold hlf; rw [u8_of (by omega)]
theorem shr1 (x : UInt8) : binV .shr (.int .u8 (x.toNat : Int)) (.int .u64 1) = some (.int .u8 ((hlf x).toNat : Int)) := by
  have h : ∀ n : Fin 256, ((n.1 : Nat) : Int).fdiv (2 ^ (min (1 : Int).toNat IntKind.u8.bits)) = ((n.1 / 2 : Nat) : Int) := by decide +kernel
  rw [bin_shr (by decide), hlf_nat]
  exact congrArg (fun y => some (Value.int .u8 y)) (h ⟨x.toNat, x.toNat_lt⟩)
theorem and15 (x : UInt8) : binV .and (.int .u8 ((hlf x).toNat : Int)) (.int .u8 15) = some (.int .u8 ((x.toNat / 2 % 16 : Nat) : Int)) := by
  have h : ∀ n : Fin 256, IntKind.u8.wrap ((BitVec.ofInt IntKind.u8.bits ((n.1 / 2 : Nat) : Int) &&& BitVec.ofInt IntKind.u8.bits 15).toNat : Int) = ((n.1 / 2 % 16 : Nat) : Int) := by decide +kernel
  rw [bin_and, hlf_nat]
  exact congrArg (fun y => some (Value.int .u8 y)) (h ⟨x.toNat, x.toNat_lt⟩)
theorem and128 (x : UInt8) : binV .and (.int .u8 (x.toNat : Int)) (.int .u8 128) = some (.int .u8 (if 128 ≤ x.toNat then 128 else 0)) := by
  have h : ∀ n : Fin 256, IntKind.u8.wrap ((BitVec.ofInt IntKind.u8.bits ((n.1 : Nat) : Int) &&& BitVec.ofInt IntKind.u8.bits 128).toNat : Int) = if 128 ≤ n.1 then 128 else 0 := by decide +kernel
  rw [bin_and]
  exact congrArg (fun y => some (Value.int .u8 y)) (h ⟨x.toNat, x.toNat_lt⟩)
theorem and1 (x : UInt8) : binV .and (.int .u8 (x.toNat : Int)) (.int .u8 1) = some (.int .u8 ((x.toNat % 2 : Nat) : Int)) := by
  have h : ∀ n : Fin 256, IntKind.u8.wrap ((BitVec.ofInt IntKind.u8.bits ((n.1 : Nat) : Int) &&& BitVec.ofInt IntKind.u8.bits 1).toNat : Int) = ((n.1 % 2 : Nat) : Int) := by decide +kernel
  rw [bin_and]
  exact congrArg (fun y => some (Value.int .u8 y)) (h ⟨x.toNat, x.toNat_lt⟩)
def baseT (s : List UInt8) : List UInt8 := trimR ((s.take 6).map hlf)
def lastB (s : List UInt8) : UInt8 := s.getD 6 0
def ssidC (s : List UInt8) : Int := (((lastB s).toNat / 2 % 16 : Nat) : Int)
def markC (s : List UInt8) : Bool := decide (128 ≤ (lastB s).toNat)
def endC (s : List UInt8) : Bool := decide ((lastB s).toNat % 2 = 1)
def okC (s : List UInt8) : Bool := rightC (baseT s) (ssidC s) && decide (putC (baseT s) (ssidC s) (markC s) (endC s) = s)
theorem trimR_le {l : List UInt8} : (trimR l).length ≤ l.length := by
  unfold trimR
  rw [List.length_reverse]
  have := (List.dropWhile_sublist (p := (· == (32 : UInt8))) (l := l.reverse)).length_le
  simpa using this
theorem get_spec (s : List UInt8) (h7 : s.length = 7) (m : Mem) : Ret Tryd.prog 39 [str s] m
    (if okC s = true then .tuple #[.agg #[str (baseT s), .int .i64 (ssidC s)], .bool (markC s), .bool (endC s), .int .i64 0]
     else .tuple #[.agg #[.string ⟨#[]⟩, .int .i64 0], .bool false, .bool false, .int .i64 2]) m := by
  refine LCall_drop (LCall_enter Tryd.func39 c39 ?_)
  have h6 : s[6]? = some (lastB s) := by
    rw [lastB, List.getD_eq_getElem?_getD, List.getElem?_eq_getElem (by omega)]; rfl
  have hl7 : ((s.length : Int)) = 7 := by omega
  have ht6 : (s.take 6).length = 6 := by rw [List.length_take]; omega
  simp (contextual := true) (implicitDefEqProofs := false) (maxSteps := 2000000) (disch := first | rfl | exact NB rfl | omega | (simp only [XL]; omega)) only [L39, bin_ladd, str_cut, str_app, str_eq, string_mk_size, string_mk, hl7, h7, h6, Int.toNat_natCast, List.drop_zero, Nat.sub_zero, XW, undef_eq, Nat.reduceAdd, Nat.reduceSub, ↓reduceIte, basic, cellsL, resOf, setAt, below, belowB, belowA, atomB, Nat.reduceLeDiff, Nat.reduceMul, Int.reduceToNat, Int.reduceLT, Int.reduceLE, Int.reduceAdd, Int.reduceNeg, Int.reduceEq, splice, Nat.reduceEqDiff, Nat.reduceLT, isAtom, Int.reduceSub, Int.reduceMul, implies_true]
  obtain ⟨M0, hM, hml, hf0, hb0, hb1⟩ : ∃ M0, m ++ [⟨[.string ⟨#[]⟩, .int .i64 0], 27, 1, 0, .own⟩, ⟨byteCells (s.take 6), 5, 1, 0, .own⟩] = M0 ∧ M0.length = m.length + 2 ∧ Frm [] m M0 ∧ M0[m.length]? = some ⟨[.string ⟨#[]⟩, .int .i64 0], 27, 1, 0, .own⟩ ∧ M0[m.length + 1]? = some ⟨byteCells (s.take 6), 5, 1, 0, .own⟩ := ⟨_, rfl, by simp, Frm.refl.app, by simp, by rw [List.getElem?_append_right (by omega)]; simp⟩
  rw [hM]
  clear hM
  refine loop_inv (fun n t M => ∃ (j : Nat) (sv : Value) (F : List Nat), n = 6 - j ∧ j ≤ 6 ∧ Frm [] m M ∧ M[m.length]? = some ⟨[.string ⟨#[]⟩, .int .i64 0], 27, 1, 0, .own⟩ ∧ M[m.length + 1]? = some ⟨byteCells (s.take 6), 5, 1, 0, .own⟩ ∧ By 5 M sv F (((s.take 6).take j).map hlf) ∧ (∀ x ∈ F, m.length + 2 ≤ x) ∧
    Tab 73 [(0, str s), (2, .pointer (some ⟨m.length, 0, none⟩)), (6, .int .u8 ((lastB s).toNat : Int)), (7, sv), (29, .slice (some ⟨m.length + 1, 0, none⟩) 6 6), (30, .int .i64 6), (31, .int .i64 (j : Int))] t) (n := 6) ?_ ?_
  · exact ⟨0, _, [], rfl, Nat.zero_le _, hf0, hb0, hb1, .nil, by simp, ⟨rfl, by simp [h7]⟩⟩
  clear hb0 hb1 hf0
  rintro N t M ⟨j, sv, F, rfl, hj, hfm, hb0, hb1, hby, hF, ht⟩
  obtain ⟨f, rfl⟩ : ∃ f' : Nat → Value, t = [str s, f' 1, .pointer (some ⟨m.length, 0, none⟩), f' 3, f' 4, f' 5, .int .u8 ((lastB s).toNat : Int), sv, f' 8, f' 9, f' 10, f' 11, f' 12, f' 13, f' 14, f' 15, f' 16, f' 17, f' 18, f' 19, f' 20, f' 21, f' 22, f' 23, f' 24, f' 25, f' 26, f' 27, f' 28, .slice (some ⟨m.length + 1, 0, none⟩) 6 6, .int .i64 6, .int .i64 (j : Int), f' 32, f' 33, f' 34, f' 35, f' 36, f' 37, f' 38, f' 39, f' 40, f' 41, f' 42, f' 43, f' 44, f' 45, f' 46, f' 47, f' 48, f' 49, f' 50, f' 51, f' 52, f' 53, f' 54, f' 55, f' 56, f' 57, f' 58, f' 59, f' 60, f' 61, f' 62, f' 63, f' 64, f' 65, f' 66, f' 67, f' 68, f' 69, f' 70, f' 71, f' 72] := ht.open fun f' => rfl
  have l0 := lt_of_some hb0
  have l1 := lt_of_some hb1
  by_cases hlt : j < 6
  · have hlt' : ((j : Int) < 6) = True := eq_true (by omega)
    have h0' : ((0 : Int) ≤ (j : Int)) = True := by simp
    have hwj : IntKind.i64.wrap ((j : Int) + 1) = ((j + 1 : Nat) : Int) := by rw [wrap_i64 (by omega) (by omega)]; omega
    obtain ⟨c, hc⟩ : ∃ r, (s.take 6)[j]? = some r := ⟨(s.take 6)[j], List.getElem?_eq_getElem (by omega)⟩
    have hcc := byteCells_get hc
    obtain ⟨sa, rfl, _⟩ := hby.form
    simp (contextual := true) (implicitDefEqProofs := false) (maxSteps := 2000000) (disch := first | rfl | exact NB rfl | omega | (simp only [XL]; omega)) only [hb1, hlt', h0', hcc, shr1, Int.toNat_natCast, XX, bin_add, bin_sub, bin_mul, bin_quo, bin_rem, bin_and, bin_or, bin_xor, bin_andNot, bin_eql, bin_neq, bin_lss, bin_leq, bin_gtr, bin_geq, bin_shl, bin_sadd, bin_seql, bin_sneq, lc_block, lc_cond, XZ, undef_eq, Nat.reduceAdd, Nat.reduceSub, ↓reduceIte, basic, cellsL, resOf, setAt, below, belowB, belowA, atomB, Nat.reduceLeDiff, Nat.reduceMul, Int.reduceToNat, Int.reduceLT, Int.reduceLE, Int.reduceAdd, Int.reduceNeg, Int.reduceEq, splice, Nat.reduceEqDiff, Nat.reduceLT, isAtom, Int.reduceSub, Int.reduceMul, implies_true]
    refine app_bytes (new := [hlf c]) (hby.frm0 Frm.refl.app) rfl rfl (by simp only [List.length_map, List.length_take, List.length_cons, List.length_nil]; omega) ?_
    intro v2 M2 G2 hM2 hf2 hs2 hG2
    simp only [List.length_append, List.length_cons, List.length_nil] at hM2 hG2
    have hf3 : Frm F M M2 := hf2.app_of
    have hs3 : By 5 M2 v2 G2 (((s.take 6).take (j + 1)).map hlf) := by
      rw [take_snoc hc, List.map_append]; exact hs2
    obtain ⟨va, hv2, _⟩ := hs3.form
    subst hv2
    simp (contextual := true) (implicitDefEqProofs := false) (maxSteps := 2000000) (disch := first | rfl | exact NB rfl | omega | (simp only [XL]; omega)) only [XW, undef_eq, Nat.reduceAdd, Nat.reduceSub, ↓reduceIte, basic, cellsL, resOf, setAt, below, belowB, belowA, atomB, Nat.reduceLeDiff, Nat.reduceMul, Int.reduceToNat, Int.reduceLT, Int.reduceLE, Int.reduceAdd, Int.reduceNeg, Int.reduceEq, splice, Nat.reduceEqDiff, Nat.reduceLT, isAtom, Int.reduceSub, Int.reduceMul, implies_true]
    exact kInv_go ⟨j + 1, _, G2, rfl, by omega, hfm.trans hf3 fun x hx => .inr (by have := hF x hx; omega), hf3.get hb0 (fun hx => by have := hF _ hx; omega), hf3.get hb1 (fun hx => by have := hF _ hx; omega), hs3, fun x hx => by
      rcases hG2 x hx with h1 | h1
      · exact hF x h1
      · omega, ⟨rfl, by simp [hwj]⟩⟩ (by omega)
  · have hj6 : j = 6 := by omega
    subst hj6
    rw [List.take_of_length_le (by omega : (s.take 6).length ≤ 6)] at hby
    have hlt' : (((6 : Nat) : Int) < 6) = False := eq_false (by omega)
    obtain ⟨sa, rfl, _⟩ := hby.form
    simp (contextual := true) (implicitDefEqProofs := false) (maxSteps := 2000000) (disch := first | rfl | exact NB rfl | omega | (simp only [XL]; omega)) only [hlt', XW, undef_eq, Nat.reduceAdd, Nat.reduceSub, ↓reduceIte, basic, cellsL, resOf, setAt, below, belowB, belowA, atomB, Nat.reduceLeDiff, Nat.reduceMul, Int.reduceToNat, Int.reduceLT, Int.reduceLE, Int.reduceAdd, Int.reduceNeg, Int.reduceEq, splice, Nat.reduceEqDiff, Nat.reduceLT, isAtom, Int.reduceSub, Int.reduceMul, implies_true]
    refine b2s_By hby ?_
    have hbl : (baseT s).length ≤ 140737488355328 := by
      have := trimR_le (l := (s.take 6).map hlf)
      rw [List.length_map] at this
      unfold baseT; omega
    have hws : IntKind.i64.wrap (((lastB s).toNat / 2 % 16 : Nat) : Int) = (((lastB s).toNat / 2 % 16 : Nat) : Int) := wrap_i64 (by omega) (by omega)
    simp (contextual := true) (implicitDefEqProofs := false) (maxSteps := 2000000) (disch := first | rfl | exact NB rfl | omega | (simp only [XL]; omega)) only [XW, undef_eq, Nat.reduceAdd, Nat.reduceSub, ↓reduceIte, basic, cellsL, resOf, setAt, below, belowB, belowA, atomB, Nat.reduceLeDiff, Nat.reduceMul, Int.reduceToNat, Int.reduceLT, Int.reduceLE, Int.reduceAdd, Int.reduceNeg, Int.reduceEq, splice, Nat.reduceEqDiff, Nat.reduceLT, isAtom, Int.reduceSub, Int.reduceMul, implies_true]
    refine (trim_spec _ (by rw [List.length_map]; omega) _).use ?_
    have hext : ∀ g, ext m (M ++ g) := fun g => (hfm.nil_trans Frm.refl.app).ext (by simp)
    have hext2 : ∀ B g, ext m (M.set m.length B ++ g) := fun B g => ((hfm.set (i := m.length) (b := B) (.inr (Nat.le_refl _))).nil_trans Frm.refl.app).ext (by simp)
    have hT : trimR ((s.take 6).map hlf) = baseT s := rfl
    rw [hT]
    have a128 : ∀ k : Bool, markC s = k → binV .and (.int .u8 ((lastB s).toNat : Int)) (.int .u8 128) = some (.int .u8 (if k then 128 else 0)) := fun k hk => by
      subst hk
      rw [and128]; simp [markC]
    have a1 : ∀ k : Bool, endC s = k → binV .and (.int .u8 ((lastB s).toNat : Int)) (.int .u8 1) = some (.int .u8 (if k then 1 else 0)) := fun k hk => by
      subst hk
      rw [and1]
      by_cases h : (lastB s).toNat % 2 = 1
      · simp [endC, h]
      · have h0 : (lastB s).toNat % 2 = 0 := by omega
        simp [endC, h0]
    have hsid : (((lastB s).toNat / 2 % 16 : Nat) : Int) = ssidC s := rfl
    cases hk : markC s <;> cases hl : endC s
    all_goals
      have b128 := a128 _ hk
      have b1 := a1 _ hl
      simp only [if_true, if_false, Bool.false_eq_true] at b128 b1
      simp (contextual := true) (implicitDefEqProofs := false) (maxSteps := 2000000) (disch := first | rfl | exact NB rfl | omega | (simp only [XL]; omega)) only [hb0, shr1, and15, b128, b1, hws, hsid, XX, XA, bin_add, bin_sub, bin_mul, bin_quo, bin_rem, bin_or, bin_xor, bin_andNot, bin_eql, bin_neq, bin_lss, bin_leq, bin_gtr, bin_geq, bin_shl, bin_sadd, bin_seql, bin_sneq, lc_block, lc_cond, XZ, undef_eq, Nat.reduceAdd, Nat.reduceSub, ↓reduceIte, basic, cellsL, resOf, setAt, below, belowB, belowA, atomB, Nat.reduceLeDiff, Nat.reduceMul, Int.reduceToNat, Int.reduceLT, Int.reduceLE, Int.reduceAdd, Int.reduceNeg, Int.reduceEq, splice, Nat.reduceEqDiff, Nat.reduceLT, isAtom, Int.reduceSub, Int.reduceMul, implies_true]
      cases hr : rightC (baseT s) (ssidC s) with
      | false =>
        have hok : okC s = false := by rw [okC, hr]; rfl
        refine (put_wrong _ _ _ _ hbl hr _).use ?_
        rw [hok]
        simp (contextual := true) (implicitDefEqProofs := false) (maxSteps := 2000000) (disch := first | rfl | exact NB rfl | omega | (simp only [XL]; omega)) only [hb0, XW, undef_eq, Nat.reduceAdd, Nat.reduceSub, ↓reduceIte, basic, cellsL, resOf, setAt, below, belowB, belowA, atomB, Nat.reduceLeDiff, Nat.reduceMul, Int.reduceToNat, Int.reduceLT, Int.reduceLE, Int.reduceAdd, Int.reduceNeg, Int.reduceEq, splice, Nat.reduceEqDiff, Nat.reduceLT, isAtom, Int.reduceSub, Int.reduceMul, implies_true]
        exact hext2 _ _
      | true =>
        refine (put_spec _ _ _ _ hr _).use ?_
        by_cases hp : putC (baseT s) (ssidC s) (markC s) (endC s) = s
        · have hok : okC s = true := by rw [okC, hr, decide_eq_true hp]; rfl
          rw [hk, hl] at hp
          have hp' := eq_true hp
          rw [hok]
          simp (contextual := true) (implicitDefEqProofs := false) (maxSteps := 2000000) (disch := first | rfl | exact NB rfl | omega | (simp only [XL]; omega)) only [hb0, bin_ladd, str_cut, str_app, str_eq, string_mk_size, string_mk, hp', XW, undef_eq, Nat.reduceAdd, Nat.reduceSub, ↓reduceIte, basic, cellsL, resOf, setAt, below, belowB, belowA, atomB, Nat.reduceLeDiff, Nat.reduceMul, Int.reduceToNat, Int.reduceLT, Int.reduceLE, Int.reduceAdd, Int.reduceNeg, Int.reduceEq, splice, Nat.reduceEqDiff, Nat.reduceLT, isAtom, Int.reduceSub, Int.reduceMul, implies_true]
          exact hext2 _ _
        · have hok : okC s = false := by rw [okC, hr, decide_eq_false hp]; rfl
          rw [hk, hl] at hp
          have hp' := eq_false hp
          rw [hok]
          simp (contextual := true) (implicitDefEqProofs := false) (maxSteps := 2000000) (disch := first | rfl | exact NB rfl | omega | (simp only [XL]; omega)) only [hb0, bin_ladd, str_cut, str_app, str_eq, string_mk_size, string_mk, hp', XW, undef_eq, Nat.reduceAdd, Nat.reduceSub, ↓reduceIte, basic, cellsL, resOf, setAt, below, belowB, belowA, atomB, Nat.reduceLeDiff, Nat.reduceMul, Int.reduceToNat, Int.reduceLT, Int.reduceLE, Int.reduceAdd, Int.reduceNeg, Int.reduceEq, splice, Nat.reduceEqDiff, Nat.reduceLT, isAtom, Int.reduceSub, Int.reduceMul, implies_true]
          exact hext2 _ _
end Go.Proofs.YtijndljfpiomhaaDoor
/- A call of seven bytes: the two ways to read its letters come to the same. -/
namespace Go.Proofs.YtijndljfpiomhaaDoor
open Go.Lg
set_option maxRecDepth 8000
def baseF (s : List UInt8) : List UInt8 := ((s.take 6).filter (· != 64)).map hlf
theorem enc_list : ∀ b : List UInt8, b.length ≤ 6 → (List.range 6).map (enc6 b) = b.map dbl ++ List.replicate (6 - b.length) 64
  | [], _ => rfl
  | [_], _ => rfl
  | [_, _], _ => rfl
  | [_, _, _], _ => rfl
  | [_, _, _, _], _ => rfl
  | [_, _, _, _, _], _ => rfl
  | [_, _, _, _, _, _], _ => rfl
  | _ :: _ :: _ :: _ :: _ :: _ :: _ :: _, h => by simp at h
theorem hlf_dbl {x : UInt8} (h : letB x = true) : hlf (dbl x) = x := by
  have h1 := dbl_nat h
  have h2 := hlf_nat (dbl x)
  rw [h1] at h2
  have : (hlf (dbl x)).toNat = x.toNat := by omega
  exact UInt8.toNat_inj.mp this
theorem dbl_ne {x : UInt8} (h : letB x = true) : dbl x ≠ 64 := by
  intro e
  have h1 := dbl_nat h
  have h2 := let_le h
  rw [e] at h1
  have : (64 : UInt8).toNat = 64 := rfl
  omega
theorem map_hlf {b : List UInt8} (h : b.all letB = true) : (b.map dbl).map hlf = b := by
  rw [List.map_map]
  conv => rhs; rw [← List.map_id b]
  apply List.map_congr_left
  intro x hx
  exact hlf_dbl (List.all_eq_true.mp h x hx)
theorem trim_rep {l : List UInt8} : ∀ n : Nat, trimR (l ++ List.replicate n 32) = trimR l
  | 0 => by simp
  | n + 1 => by
    rw [List.replicate_succ', ← List.append_assoc, trimR_blank, trim_rep n]
theorem trim_letters {b : List UInt8} (h : b.all letB = true) : trimR b = b := by
  rcases List.eq_nil_or_concat b with rfl | ⟨l, x, rfl⟩
  · rfl
  · rw [List.concat_eq_append] at h ⊢
    apply trimR_other
    have hx : letB x = true := List.all_eq_true.mp h x (by simp)
    have := let_le hx
    intro e
    rw [e] at this
    have h32 : (32 : UInt8).toNat = 32 := rfl
    omega
theorem put_read {b : List UInt8} {n : Int} {k l : Bool} {s : List UInt8} (h : rightC b n = true) (hs : putC b n k l = s) : baseF s = b ∧ baseT s = b := by
  obtain ⟨hall, hb, _⟩ := right_le h
  have ht : s.take 6 = b.map dbl ++ List.replicate (6 - b.length) 64 := by
    rw [← hs, putC, List.take_append_of_le_length (by simp), List.take_of_length_le (by simp), enc_list b hb.2]
  constructor
  · unfold baseF
    rw [ht, List.filter_append]
    have h1 : (b.map dbl).filter (· != 64) = b.map dbl := by
      rw [List.filter_eq_self]
      intro x hx
      obtain ⟨y, hy, rfl⟩ := List.mem_map.mp hx
      simpa using dbl_ne (List.all_eq_true.mp hall y hy)
    have h2 : (List.replicate (6 - b.length) (64 : UInt8)).filter (· != 64) = [] := by
      rw [List.filter_eq_nil_iff]
      intro x hx
      rw [List.eq_of_mem_replicate hx]
      decide
    rw [h1, h2, List.append_nil]
    exact map_hlf hall
  · unfold baseT
    rw [ht, List.map_append, map_hlf hall, List.map_replicate]
    have e : hlf 64 = 32 := by decide
    rw [e, trim_rep, trim_letters hall]
def okF (s : List UInt8) : Bool := rightC (baseF s) (ssidC s) && decide (putC (baseF s) (ssidC s) (markC s) (endC s) = s)
theorem ok_same (s : List UInt8) : okF s = okC s ∧ (okC s = true → baseF s = baseT s) := by
  unfold okF okC
  by_cases h1 : rightC (baseT s) (ssidC s) = true ∧ putC (baseT s) (ssidC s) (markC s) (endC s) = s
  · have e := (put_read h1.1 h1.2).1
    rw [e]
    exact ⟨rfl, fun _ => rfl⟩
  · by_cases h2 : rightC (baseF s) (ssidC s) = true ∧ putC (baseF s) (ssidC s) (markC s) (endC s) = s
    · have e := (put_read h2.1 h2.2).2
      rw [e] at h1
      exact absurd h2 h1
    · have f1 : (rightC (baseT s) (ssidC s) && decide (putC (baseT s) (ssidC s) (markC s) (endC s) = s)) = false := by
        cases hr : rightC (baseT s) (ssidC s) with
        | false => rfl
        | true => rw [Bool.true_and]; exact decide_eq_false fun h => h1 ⟨hr, h⟩
      have f2 : (rightC (baseF s) (ssidC s) && decide (putC (baseF s) (ssidC s) (markC s) (endC s) = s)) = false := by
        cases hr : rightC (baseF s) (ssidC s) with
        | false => rfl
        | true => rw [Bool.true_and]; exact decide_eq_false fun h => h2 ⟨hr, h⟩
      rw [f1, f2]
      exact ⟨rfl, fun h => by cases h⟩
end Go.Proofs.YtijndljfpiomhaaDoor
/- A path of bytes: plain. -/
namespace Go.Proofs.YtijndljfpiomhaaDoor
open Go.Lg
set_option maxRecDepth 8000
set_option maxHeartbeats 8000000
def chk (s : List UInt8) (L : List En) : List UInt8 := (s.drop (7 * L.length)).take 7
def enC (c : List UInt8) : En := ⟨baseT c, ssidC c, markC c⟩
def getP (s : List UInt8) : Nat → List En → Int × List En
  | 0, _ => (11, [])
  | n + 1, L =>
    if s.length < 7 * L.length + 7 then (4, []) else
    if okC (chk s L) = false then (2, []) else
    if L.length = 10 then (11, []) else
    if endC (chk s L) = false then getP s n (L ++ [enC (chk s L)]) else
    if L.length = 0 then (2, []) else
    if ordB ((L ++ [enC (chk s L)]).drop 2) = false then (11, []) else (0, L ++ [enC (chk s L)])
end Go.Proofs.YtijndljfpiomhaaDoor
/- What was put is read: paths; plain. -/
namespace Go.Proofs.YtijndljfpiomhaaDoor
open Go.Lg
set_option maxRecDepth 8000
theorem putTo_more {L : List En} {j : Nat} : ∀ {n : Nat}, j ≤ n → ∃ t, putTo L n = putTo L j ++ t := by
  intro n
  induction n with
  | zero => intro h; obtain rfl : j = 0 := by omega
            exact ⟨[], by simp⟩
  | succ n ih =>
    intro h
    by_cases e : j = n + 1
    · subst e; exact ⟨[], by simp⟩
    · obtain ⟨t, ht⟩ := ih (by omega)
      have h2 : ∃ u, putTo L (n + 1) = putTo L n ++ u := ⟨_, by unfold putTo; rw [List.range_succ, List.flatMap_append]⟩
      obtain ⟨u, hu⟩ := h2
      exact ⟨t ++ u, by rw [hu, ht, List.append_assoc]⟩
theorem chk_put {L : List En} {rest : List UInt8} {j : Nat} {e : En} (h : L[j]? = some e) : chk (putE L ++ rest) (L.take j) = putC e.b e.s e.k (decide (j + 1 = L.length)) := by
  have hj : j < L.length := (List.getElem?_eq_some_iff.mp h).1
  obtain ⟨t, ht⟩ := putTo_more (L := L) (j := j + 1) (n := L.length) hj
  have hl := putTo_len (L := L) (j := j) (by omega)
  unfold chk putE
  rw [ht, putTo_succ h, List.length_take, Nat.min_eq_left (by omega), List.append_assoc, List.append_assoc, List.drop_left' hl, List.take_left' putC_len]
theorem last_put {b : List UInt8} {n : Int} {k l : Bool} : lastB (putC b n k l) = UInt8.ofNat (endN n.toNat k l) := rfl
theorem put_ok {b : List UInt8} {n : Int} {k l : Bool} (h : rightC b n = true) : okC (putC b n k l) = true ∧ enC (putC b n k l) = ⟨b, n, k⟩ ∧ endC (putC b n k l) = l := by
  obtain ⟨_, hb, hn⟩ := right_le h
  have hb' := (put_read h (k := k) (l := l) rfl).2
  have hN : (UInt8.ofNat (endN n.toNat k l)).toNat = endN n.toNat k l := u8_of (endN_lt (by omega))
  have hs : ssidC (putC b n k l) = n := by
    unfold ssidC; rw [last_put, hN]; unfold endN
    cases k <;> cases l <;> simp <;> omega
  have hk : markC (putC b n k l) = k := by
    unfold markC; rw [last_put, hN]; unfold endN
    cases k <;> cases l <;> simp <;> omega
  have hl : endC (putC b n k l) = l := by
    unfold endC; rw [last_put, hN]; unfold endN
    cases k <;> cases l <;> simp <;> omega
  refine ⟨?_, ?_, hl⟩
  · unfold okC; rw [hb', hs, hk, hl, h]; simp
  · unfold enC; rw [hb', hs, hk]
theorem putE_len {L : List En} : (putE L).length = 7 * L.length := putTo_len (Nat.le_refl _)
theorem getP_put {L : List En} {rest : List UInt8} (hok : ∀ e ∈ L, e.ok = true) (h2 : 2 ≤ L.length) (h10 : L.length ≤ 10) (hB : ordB (L.drop 2) = true) : getP (putE L ++ rest) 11 [] = (0, L) := by
  have key : ∀ d j, j + d + 1 = L.length → getP (putE L ++ rest) (11 - j) (L.take j) = (0, L) := by
    intro d
    induction d with
    | zero =>
      intro j hj
      obtain ⟨e, he⟩ : ∃ r, L[j]? = some r := ⟨L[j], List.getElem?_eq_getElem (by omega)⟩
      have hc := chk_put (rest := rest) he
      obtain ⟨p1, p2, p3⟩ := put_ok (k := e.k) (l := decide (j + 1 = L.length)) (hok e (List.mem_of_getElem? he))
      have hd : decide (j + 1 = L.length) = true := decide_eq_true (by omega)
      have htl : (L.take j).length = j := by rw [List.length_take]; omega
      have hall : L.take j ++ [(⟨e.b, e.s, e.k⟩ : En)] = L := by
        have := take_snoc he
        rw [List.take_of_length_le (by omega)] at this
        exact this.symm
      rw [hd] at hc p1 p2 p3
      rw [show 11 - j = 10 - j + 1 by omega, getP, hc, p1, p2, p3, hall, htl, hB, if_neg (by rw [List.length_append, putE_len]; omega), if_neg (by decide), if_neg (by omega), if_neg (by decide), if_neg (by omega), if_neg (by decide)]
    | succ d ih =>
      intro j hj
      obtain ⟨e, he⟩ : ∃ r, L[j]? = some r := ⟨L[j], List.getElem?_eq_getElem (by omega)⟩
      have hc := chk_put (rest := rest) he
      obtain ⟨p1, p2, p3⟩ := put_ok (k := e.k) (l := decide (j + 1 = L.length)) (hok e (List.mem_of_getElem? he))
      have hd : decide (j + 1 = L.length) = false := decide_eq_false (by omega)
      have htl : (L.take j).length = j := by rw [List.length_take]; omega
      have hall : L.take j ++ [(⟨e.b, e.s, e.k⟩ : En)] = L.take (j + 1) := (take_snoc he).symm
      rw [hd] at hc p1 p2 p3
      rw [show 11 - j = 10 - j + 1 by omega, getP, hc, p1, p2, p3, hall, htl, if_neg (by rw [List.length_append, putE_len]; omega), if_neg (by decide), if_neg (by omega), if_pos rfl, show 10 - j = 11 - (j + 1) by omega]
      exact ih (j + 1) (by omega)
  exact key (L.length - 1) 0 (by omega)
theorem getP_shape {s : List UInt8} : ∀ {n : Nat} {L : List En}, n + L.length = 11 → (∀ e ∈ L, e.ok = true) → (getP s n L).1 = 0 → 2 ≤ (getP s n L).2.length ∧ (getP s n L).2.length ≤ 10 ∧ 7 * (getP s n L).2.length ≤ s.length ∧ (∀ e ∈ (getP s n L).2, e.ok = true) ∧ ordB ((getP s n L).2.drop 2) = true
  | 0, L, hn, hok, h => by simp [getP] at h
  | n + 1, L, hn, hok, h => by
    have hen : okC (chk s L) = true → ∀ e ∈ L ++ [enC (chk s L)], e.ok = true := fun h2 e he => by
      rcases List.mem_append.mp he with h | h
      · exact hok e h
      · have : e = enC (chk s L) := by simpa using h
        subst this
        unfold okC at h2
        simp only [Bool.and_eq_true] at h2
        exact h2.1
    rw [getP] at h ⊢
    by_cases h1 : s.length < 7 * L.length + 7
    · rw [if_pos h1] at h; cases h
    rw [if_neg h1] at h ⊢
    by_cases h2 : okC (chk s L) = false
    · rw [if_pos h2] at h; cases h
    rw [if_neg h2] at h ⊢
    by_cases h3 : L.length = 10
    · rw [if_pos h3] at h; cases h
    rw [if_neg h3] at h ⊢
    have h2' : okC (chk s L) = true := by simpa using h2
    by_cases h4 : endC (chk s L) = false
    · rw [if_pos h4] at h ⊢
      exact getP_shape (by simp; omega) (hen h2') h
    rw [if_neg h4] at h ⊢
    by_cases h5 : L.length = 0
    · rw [if_pos h5] at h; cases h
    rw [if_neg h5] at h ⊢
    by_cases h6 : ordB ((L ++ [enC (chk s L)]).drop 2) = false
    · rw [if_pos h6] at h; cases h
    rw [if_neg h6] at h ⊢
    refine ⟨by simp; omega, by simp; omega, by simp; omega, hen h2', by simpa using h6⟩
end Go.Proofs.YtijndljfpiomhaaDoor
/- A path of bytes, walked. -/
namespace Go.Proofs.YtijndljfpiomhaaDoor
open Go.Lg
set_option maxRecDepth 8000
set_option maxHeartbeats 8000000
def jAt (I : Nat → Nat → List Value → Mem → Prop) (b : Nat) (l : Nat) (t : List Value) (m : Mem) : Prop := ∃ n, n < b ∧ I n l t m
theorem jAt_congr {I : Nat → Nat → List Value → Mem → Prop} {b l : Nat} {t t' : List Value} {m m' : Mem} (h : t = t') (k : m = m') : jAt I b l t m = jAt I b l t' m' := by rw [h, k]
attribute [congr] jAt_congr
theorem jAt_go {I : Nat → Nat → List Value → Mem → Prop} {n b l : Nat} {t : List Value} {m : Mem} (h : I n l t m) (hn : n < b) : jAt I b l t m := ⟨n, hn, h⟩
theorem scope_fall {P : Program} {A B R : LCode} {l0 : Nat} {Q : Exit → List Value → Mem → Prop} {t : List Value} {m : Mem} (I : Nat → Nat → List Value → Mem → Prop) (b : Nat) (hA : hasL A l0 = false) (hB : hasL B l0 = false)
    (first : LC P (.seq A B) (thenL (jAt I b l0) (jumpL (jAt I b) Q)) t m)
    (pass : ∀ n l t m, n < b → I n l t m → LF P (.seq A (.seq B (.seq (.label l0) R))) l (jumpL (jAt I n) Q) t m) : LC P (.scope (.seq A (.seq B (.seq (.label l0) R)))) Q t m := by
  intro X hX
  have key : ∀ n l t m, n < b → I n l t m → X l t m := by
    intro n
    induction n using Nat.strongRecOn with
    | _ n ih => exact fun l t m hb h => hX l t m (LF_mono (jumpL_mono (fun l t m ⟨n', h1, h2⟩ => ih n' h1 l t m (Nat.lt_trans h1 hb) h2) fun _ _ _ h => h) (pass n l t m hb h))
  have fall : ∀ n t m, n < b → I n l0 t m → LC P R (jumpL X Q) t m := by
    intro n t m hn h
    have h1 := pass n l0 t m hn h
    rw [lf_seq, hA, if_neg (by decide), lf_seq, hB, if_neg (by decide), lf_seq, if_pos (by simp [hasL])] at h1
    obtain ⟨_, h2⟩ := h1
    exact LC_mono (jumpL_mono (fun l t m ⟨n', h3, h4⟩ => key n' l t m (Nat.lt_trans h3 hn) h4) fun _ _ _ h => h) h2
  have hj : ∀ e t m, jumpL (jAt I b) Q e t m → jumpL X Q e t m := jumpL_mono (fun l t m ⟨n, h1, h2⟩ => key n l t m h1 h2) fun _ _ _ h => h
  refine LC_mono (c := A) ?_ first
  intro e t m h
  cases e
  case normal =>
    refine LC_mono (c := B) ?_ h
    intro e t m h
    cases e
    case normal =>
      obtain ⟨n, h1, h2⟩ := h
      exact fall n t m h1 h2
    case exit id => exact hj (.exit id) t m h
    case goto l => exact hj (.goto l) t m h
    case ret => exact hj .ret t m h
    case panic c => exact hj (.panic c) t m h
    case outgrown => exact hj .outgrown t m h
  case exit id => exact hj (.exit id) t m h
  case goto l => exact hj (.goto l) t m h
  case ret => exact hj .ret t m h
  case panic c => exact hj (.panic c) t m h
  case outgrown => exact hj .outgrown t m h
theorem getP_spec (s : List UInt8) (hl : s.length ≤ 100000) (m : Mem) : LCall Tryd.prog 21 [str s] m fun v M => Frm [] m M ∧
    if (getP s 11 []).1 = 0 then ∃ x y l sv F, (getP s 11 []).2 = x :: y :: l ∧ v = .tuple #[pathV x.b x.s y.b y.s x.k y.k sv, .int .i64 ((7 * (getP s 11 []).2.length : Nat) : Int), .int .i64 0] ∧ Sl M 53 3 sv F (l.map En.row) ∧ ∀ x ∈ F, m.length ≤ x
    else v = .tuple #[pathV [] 0 [] 0 false false (.slice none 0 0), .int .i64 0, .int .i64 (getP s 11 []).1] := by
  refine LCall_enter Tryd.func21 c21 ?_
  simp (contextual := true) (implicitDefEqProofs := false) (maxSteps := 2000000) (disch := first | rfl | exact NB rfl | omega | (simp only [XL]; omega)) only [L21, XW, undef_eq, Nat.reduceAdd, Nat.reduceSub, ↓reduceIte, basic, cellsL, resOf, setAt, below, belowB, belowA, atomB, Nat.reduceLeDiff, Nat.reduceMul, Int.reduceToNat, Int.reduceLT, Int.reduceLE, Int.reduceAdd, Int.reduceNeg, Int.reduceEq, splice, Nat.reduceEqDiff, Nat.reduceLT, isAtom, Int.reduceSub, Int.reduceMul, implies_true]
  obtain ⟨I, hI⟩ : ∃ I : Nat → Nat → List Value → Mem → Prop, I = fun n l t M => ∃ (L : List En) (sv : Value) (F : List Nat), n = 10 - L.length ∧ l = 0 ∧ L.length ≤ 10 ∧ getP s 11 [] = getP s (11 - L.length) L ∧ Frm [] m M ∧ M[m.length]? = some ⟨[.string ⟨#[]⟩, .int .i64 0, .string ⟨#[]⟩, .int .i64 0, .bool false, .bool false, .slice none 0 0], 30, 1, 0, .own⟩ ∧ Sl M 53 3 sv F (L.map En.row) ∧ (∀ x ∈ F, m.length + 1 ≤ x) ∧
    Tab 76 [(0, str s), (2, .pointer (some ⟨m.length, 0, none⟩)), (5, sv), (6, .int .i64 ((7 * L.length : Nat) : Int))] t := ⟨_, rfl⟩
  refine scope_fall I 11 (by rfl) (by rfl) ?_ ?_
  · simp (contextual := true) (implicitDefEqProofs := false) (maxSteps := 2000000) (disch := first | rfl | exact NB rfl | omega | (simp only [XL]; omega)) only [XW, undef_eq, Nat.reduceAdd, Nat.reduceSub, ↓reduceIte, basic, cellsL, resOf, setAt, below, belowB, belowA, atomB, Nat.reduceLeDiff, Nat.reduceMul, Int.reduceToNat, Int.reduceLT, Int.reduceLE, Int.reduceAdd, Int.reduceNeg, Int.reduceEq, splice, Nat.reduceEqDiff, Nat.reduceLT, isAtom, Int.reduceSub, Int.reduceMul, implies_true]
    refine jAt_go (n := 10) ?_ (by omega)
    rw [hI]
    exact ⟨[], _, [], rfl, rfl, Nat.zero_le _, rfl, Frm.refl.app, by simp, .nil, by simp, ⟨rfl, by simp⟩⟩
  · intro n l t M hn h
    rw [hI] at h
    obtain ⟨L, sv, F, rfl, rfl, hL, hg, hfm, hb0, hs, hF, ht⟩ := h
    obtain ⟨f, rfl⟩ : ∃ f' : Nat → Value, t = [str s, f' 1, .pointer (some ⟨m.length, 0, none⟩), f' 3, f' 4, sv, .int .i64 ((7 * L.length : Nat) : Int), f' 7, f' 8, f' 9, f' 10, f' 11, f' 12, f' 13, f' 14, f' 15, f' 16, f' 17, f' 18, f' 19, f' 20, f' 21, f' 22, f' 23, f' 24, f' 25, f' 26, f' 27, f' 28, f' 29, f' 30, f' 31, f' 32, f' 33, f' 34, f' 35, f' 36, f' 37, f' 38, f' 39, f' 40, f' 41, f' 42, f' 43, f' 44, f' 45, f' 46, f' 47, f' 48, f' 49, f' 50, f' 51, f' 52, f' 53, f' 54, f' 55, f' 56, f' 57, f' 58, f' 59, f' 60, f' 61, f' 62, f' 63, f' 64, f' 65, f' 66, f' 67, f' 68, f' 69, f' 70, f' 71, f' 72, f' 73, f' 74, f' 75] := ht.open fun f' => rfl
    have l0 := lt_of_some hb0
    have hg1 : getP s (11 - L.length) L = getP s (10 - L.length + 1) L := by congr 1; omega
    rw [hg1] at hg
    rw [hg]
    have hw7 : IntKind.i64.wrap (((7 * L.length : Nat) : Int) + 7) = ((7 * L.length + 7 : Nat) : Int) := by rw [wrap_i64 (by omega) (by omega)]; omega
    have hws : IntKind.i64.wrap ((s.length : Int) - ((7 * L.length : Nat) : Int)) = (s.length : Int) - ((7 * L.length : Nat) : Int) := wrap_i64 (by omega) (by omega)
    have hfz : ∀ B g, Frm [] m (M.set m.length B ++ g) := fun B g => (hfm.set (i := m.length) (b := B) (.inr (Nat.le_refl _))).app
    by_cases h1 : s.length < 7 * L.length + 7
    · have h1' : ((s.length : Int) - ((7 * L.length : Nat) : Int) < 7) = True := eq_true (by omega)
      have e : getP s (10 - L.length + 1) L = (4, []) := by rw [getP, if_pos h1]
      rw [e]
      simp (contextual := true) (implicitDefEqProofs := false) (maxSteps := 2000000) (disch := first | rfl | exact NB rfl | omega | (simp only [XL]; omega)) only [hasL, Bool.or_false, Bool.false_or, hb0, hws, h1', bin_ladd, str_cut, str_app, str_eq, string_mk_size, string_mk, XW, undef_eq, Nat.reduceAdd, Nat.reduceSub, ↓reduceIte, basic, cellsL, resOf, setAt, below, belowB, belowA, atomB, Nat.reduceLeDiff, Nat.reduceMul, Int.reduceToNat, Int.reduceLT, Int.reduceLE, Int.reduceAdd, Int.reduceNeg, Int.reduceEq, splice, Nat.reduceEqDiff, Nat.reduceLT, isAtom, Int.reduceSub, Int.reduceMul, implies_true]
      first
      | exact hfm.set (i := m.length) (.inr (Nat.le_refl _))
      | trace_state
    have h1' : ((s.length : Int) - ((7 * L.length : Nat) : Int) < 7) = False := eq_false (by omega)
    have h7 : (chk s L).length = 7 := by unfold chk; rw [List.length_take, List.length_drop]; omega
    have hcut : List.take (7 * L.length + 7 - 7 * L.length) (List.drop (7 * L.length) s) = chk s L := by unfold chk; congr 1; omega
    simp (contextual := true) (implicitDefEqProofs := false) (maxSteps := 2000000) (disch := first | rfl | exact NB rfl | omega | (simp only [XL]; omega)) only [hasL, Bool.or_false, Bool.false_or, hb0, hws, hw7, h1', bin_ladd, str_cut, str_app, str_eq, string_mk_size, string_mk, hcut, Int.toNat_natCast, XW, undef_eq, Nat.reduceAdd, Nat.reduceSub, ↓reduceIte, basic, cellsL, resOf, setAt, below, belowB, belowA, atomB, Nat.reduceLeDiff, Nat.reduceMul, Int.reduceToNat, Int.reduceLT, Int.reduceLE, Int.reduceAdd, Int.reduceNeg, Int.reduceEq, splice, Nat.reduceEqDiff, Nat.reduceLT, isAtom, Int.reduceSub, Int.reduceMul, implies_true]
    rw [if_pos (show ((0 : Nat) == 0) = true from rfl)]
    refine (get_spec (chk s L) h7 _).use ?_
    cases h2 : okC (chk s L) with
    | false =>
      have e : getP s (10 - L.length + 1) L = (2, []) := by rw [getP, if_neg h1, if_pos h2]
      rw [e]
      simp (contextual := true) (implicitDefEqProofs := false) (maxSteps := 2000000) (disch := first | rfl | exact NB rfl | omega | (simp only [XL]; omega)) only [hb0, XW, undef_eq, Nat.reduceAdd, Nat.reduceSub, ↓reduceIte, basic, cellsL, resOf, setAt, below, belowB, belowA, atomB, Nat.reduceLeDiff, Nat.reduceMul, Int.reduceToNat, Int.reduceLT, Int.reduceLE, Int.reduceAdd, Int.reduceNeg, Int.reduceEq, splice, Nat.reduceEqDiff, Nat.reduceLT, isAtom, Int.reduceSub, Int.reduceMul, implies_true]
      first
      | exact hfz _ _
      | trace_state
    | true =>
      obtain ⟨sa, rfl, _⟩ := hs.form
      have hs1 := hs
      simp only [List.length_map] at hs
      by_cases h3 : L.length = 10
      · have h3' : ((L.length : Int) = 10) = True := eq_true (by omega)
        have e : getP s (10 - L.length + 1) L = (11, []) := by rw [getP, if_neg h1, if_neg (by rw [h2]; simp), if_pos h3]
        rw [e]
        simp (contextual := true) (implicitDefEqProofs := false) (maxSteps := 2000000) (disch := first | rfl | exact NB rfl | omega | (simp only [XL]; omega)) only [hb0, h3', List.length_map, XW, undef_eq, Nat.reduceAdd, Nat.reduceSub, ↓reduceIte, basic, cellsL, resOf, setAt, below, belowB, belowA, atomB, Nat.reduceLeDiff, Nat.reduceMul, Int.reduceToNat, Int.reduceLT, Int.reduceLE, Int.reduceAdd, Int.reduceNeg, Int.reduceEq, splice, Nat.reduceEqDiff, Nat.reduceLT, isAtom, Int.reduceSub, Int.reduceMul, implies_true]
        first
        | exact hfz _ _
        | trace_state
      have h3' : ((L.length : Int) = 10) = False := eq_false (by omega)
      have hL9 : L.length + 1 ≤ 10 := Nat.succ_le_of_lt (Nat.lt_of_le_of_ne hL h3)
      have hb10 : 10 - (L.length + 1) < 10 - L.length := Nat.sub_lt_sub_left hL9 (Nat.lt_succ_self _)
      have hsb : 11 - (L.length + 1) = 10 - L.length := Nat.succ_sub_succ 10 L.length
      simp (contextual := true) (implicitDefEqProofs := false) (maxSteps := 2000000) (disch := first | rfl | exact NB rfl | omega | (simp only [XL]; omega)) only [hb0, h3', List.length_map, XX, XB, lc_block, lc_cond, XZ, undef_eq, Nat.reduceAdd, Nat.reduceSub, ↓reduceIte, basic, cellsL, resOf, setAt, below, belowB, belowA, atomB, Nat.reduceLeDiff, Nat.reduceMul, Int.reduceToNat, Int.reduceLT, Int.reduceLE, Int.reduceAdd, Int.reduceNeg, Int.reduceEq, splice, Nat.reduceEqDiff, Nat.reduceLT, isAtom, Int.reduceSub, Int.reduceMul, implies_true]
      refine app_row (bytes := 32) (hs.frm0 Frm.refl.app) rfl (by simp only [List.length_map]; omega) ?_
      intro v2 M2 G2 hM2 hf2 hs2 hG2
      simp only [List.length_append, List.length_cons, List.length_nil] at hM2 hG2
      have hf3 : Frm F M M2 := hf2.app_of
      have hb02 := hf3.get hb0 (fun hx => by have := hF _ hx; omega)
      have l02 := lt_of_some hb02
      have hs3 : Sl M2 53 3 v2 G2 ((L ++ [enC (chk s L)]).map En.row) := by
        rw [List.map_append]; exact hs2
      obtain ⟨v2a, hv2, hform⟩ := hs3.form
      subst hv2
      have hfm2 : Frm [] m M2 := hfm.trans hf3 fun x hx => .inr (by have := hF x hx; omega)
      have hG3 : ∀ x ∈ G2, m.length + 1 ≤ x := fun x hx => by have := hG2 x hx; omega
      have hlen1 : (L ++ [enC (chk s L)]).length = L.length + 1 := by simp
      cases h4 : endC (chk s L) with
      | false =>
        have e : getP s (10 - L.length + 1) L = getP s (10 - L.length) (L ++ [enC (chk s L)]) := by
          rw [getP, if_neg h1, if_neg (by rw [h2]; simp), if_neg h3, if_pos h4]
        rw [e] at hg
        simp (contextual := true) (implicitDefEqProofs := false) (maxSteps := 2000000) (disch := first | rfl | exact NB rfl | omega | (simp only [XL]; omega)) only [hw7, XW, undef_eq, Nat.reduceAdd, Nat.reduceSub, ↓reduceIte, basic, cellsL, resOf, setAt, below, belowB, belowA, atomB, Nat.reduceLeDiff, Nat.reduceMul, Int.reduceToNat, Int.reduceLT, Int.reduceLE, Int.reduceAdd, Int.reduceNeg, Int.reduceEq, splice, Nat.reduceEqDiff, Nat.reduceLT, isAtom, Int.reduceSub, Int.reduceMul, implies_true]
        refine jAt_go (n := 10 - (L.length + 1)) ?_ hb10
        rw [hI]
        refine ⟨L ++ [enC (chk s L)], _, G2, by rw [hlen1], rfl, by rw [hlen1]; exact hL9, ?_, hfm2, hb02, hs3, hG3, ⟨rfl, ?_⟩⟩
        · rw [hlen1, hsb]; exact hg
        · simp [hlen1, Nat.mul_add]
      | true =>
        by_cases h5 : L.length = 0
        · have e : getP s (10 - L.length + 1) L = (2, []) := by
            rw [getP, if_neg h1, if_neg (by rw [h2]; simp), if_neg h3, if_neg (by rw [h4]; simp), if_pos h5]
          rw [e]
          have h1e : (((((L ++ [enC (chk s L)]).map En.row).length : Nat) : Int) < 2) = True := eq_true (by rw [List.length_map, hlen1]; omega)
          simp (contextual := true) (implicitDefEqProofs := false) (maxSteps := 2000000) (disch := first | rfl | exact NB rfl | omega | (simp only [XL]; omega)) only [hb02, hw7, h1e, XW, undef_eq, Nat.reduceAdd, Nat.reduceSub, ↓reduceIte, basic, cellsL, resOf, setAt, below, belowB, belowA, atomB, Nat.reduceLeDiff, Nat.reduceMul, Int.reduceToNat, Int.reduceLT, Int.reduceLE, Int.reduceAdd, Int.reduceNeg, Int.reduceEq, splice, Nat.reduceEqDiff, Nat.reduceLT, isAtom, Int.reduceSub, Int.reduceMul, implies_true]
          exact hfm2.set (i := m.length) (.inr (Nat.le_refl _))
        · have h1e : (((((L ++ [enC (chk s L)]).map En.row).length : Nat) : Int) < 2) = False := eq_false (by rw [List.length_map, hlen1]; omega)
          obtain ⟨x, y, r, hxy⟩ : ∃ x y r, L ++ [enC (chk s L)] = x :: y :: r := by
            match hL' : L ++ [enC (chk s L)] with
            | [] => simp at hL'
            | [_] =>
              have h := congrArg List.length hL'
              simp only [List.length_append, List.length_cons, List.length_nil] at h
              omega
            | x :: y :: r => exact ⟨x, y, r, rfl⟩
          have hrl : r.length ≤ 8 := by have := congrArg List.length hxy; rw [hlen1] at this; simp only [List.length_cons] at this; omega
          have hdr : (L ++ [enC (chk s L)]).drop 2 = r := by rw [hxy]; rfl
          obtain ⟨b, o, cs, rfl, rfl, hbk, hlb, hflat, hrow⟩ := hform (by rw [List.length_map, hlen1]; omega)
          have hr0 := hrow 0 x.row (by rw [hxy]; rfl)
          have hr1 := hrow 1 y.row (by rw [hxy]; rfl)
          have hbl := lt_of_some hbk
          have hlb6 : o + 6 ≤ cs.length := by rw [List.length_map, hlen1] at hlb; omega
          have hz0 : o + 0 * 3 = o := by omega
          rw [hz0] at hr0
          have g0 : (cs.drop o).take 2 = [str x.b, .int .i64 x.s] := by
            have := congrArg (List.take 2) hr0
            rwa [List.take_take] at this
          have g1 : (cs.drop (o + 3)).take 2 = [str y.b, .int .i64 y.s] := by
            have := congrArg (List.take 2) hr1
            rwa [List.take_take] at this
          have g2 : cs[o + 2]? = some (.bool x.k) := row_cell hr0 (j := 2) (by omega)
          have g3 : cs[o + 3 + 2]? = some (.bool y.k) := row_cell hr1 (j := 2) (by omega)
          have hq : ((L ++ [enC (chk s L)]).map En.row).length = r.length + 2 := by rw [hxy]; simp
          rw [hq] at h1e
          have i0 : ((0 : Int) < ((r.length + 2 : Nat) : Int)) = True := eq_true (by omega)
          have i1 : ((1 : Int) < ((r.length + 2 : Nat) : Int)) = True := eq_true (by omega)
          have i2 : (2 ≤ r.length + 2) = True := eq_true (by omega)
          simp (contextual := true) (implicitDefEqProofs := false) (maxSteps := 2000000) (disch := first | rfl | exact NB rfl | omega | (simp only [XL]; omega)) only [hb02, hw7, hq, h1e, i0, i1, i2, hbk, g0, g1, g2, g3, Int.toNat_natCast, XW, undef_eq, Nat.reduceAdd, Nat.reduceSub, ↓reduceIte, basic, cellsL, resOf, setAt, below, belowB, belowA, atomB, Nat.reduceLeDiff, Nat.reduceMul, Int.reduceToNat, Int.reduceLT, Int.reduceLE, Int.reduceAdd, Int.reduceNeg, Int.reduceEq, splice, Nat.reduceEqDiff, Nat.reduceLT, isAtom, Int.reduceSub, Int.reduceMul, implies_true]
          have hrows : (x :: y :: r).map En.row = ([x.row, y.row] ++ r.map En.row) := rfl
          rw [hxy] at hflat hlb
          have hs5 : Sl M2 53 3 (.slice (some ⟨b, o + 6, none⟩) (r.map En.row).length (r.map En.row).length) [b] (r.map En.row) := by
            refine Sl.own hbk (fun q hq => by obtain ⟨e, _, rfl⟩ := List.mem_map.mp hq; rfl) ?_ ?_
            · have := drop_rows (i := 2) (rows := (x :: y :: r).map En.row) (sz := 3) (fun q hq => by obtain ⟨e, _, rfl⟩ := List.mem_map.mp hq; rfl) hflat (by simp)
              exact this
            · simp only [List.length_map, List.length_cons] at hlb ⊢; omega
          have hrm : r.length + 2 - 2 = (r.map En.row).length := by simp
          rw [hrm]
          refine (ordered_spec (l := r) (Sl.rd hs5).app (by omega)).use ?_
          have hfin : ∀ B g, Frm [] m ((M2 ++ g).set m.length B) := fun B g => (hfm2.nil_trans Frm.refl.app).set (i := m.length) (.inr (Nat.le_refl _))
          have hfin2 : ∀ B g, Frm [] m (M2.set m.length B ++ g) := fun B g => (hfm2.set (i := m.length) (.inr (Nat.le_refl _))).nil_trans Frm.refl.app
          rw [decide_eq_true hrl, Bool.and_true]
          cases hB : ordB r with
          | false =>
            have e : getP s (10 - L.length + 1) L = (11, []) := by
              rw [getP, if_neg h1, if_neg (by rw [h2]; simp), if_neg h3, if_neg (by rw [h4]; simp), if_neg h5, if_pos (by rw [hdr]; exact hB)]
            rw [e]
            simp (contextual := true) (implicitDefEqProofs := false) (maxSteps := 2000000) (disch := first | rfl | exact NB rfl | omega | (simp only [XL]; omega)) only [hb02, XW, undef_eq, Nat.reduceAdd, Nat.reduceSub, ↓reduceIte, basic, cellsL, resOf, setAt, below, belowB, belowA, atomB, Nat.reduceLeDiff, Nat.reduceMul, Int.reduceToNat, Int.reduceLT, Int.reduceLE, Int.reduceAdd, Int.reduceNeg, Int.reduceEq, splice, Nat.reduceEqDiff, Nat.reduceLT, isAtom, Int.reduceSub, Int.reduceMul, implies_true]
            first | exact hfin _ _ | exact hfin2 _ _
          | true =>
            have e : getP s (10 - L.length + 1) L = (0, L ++ [enC (chk s L)]) := by
              rw [getP, if_neg h1, if_neg (by rw [h2]; simp), if_neg h3, if_neg (by rw [h4]; simp), if_neg h5, if_neg (by rw [hdr, hB]; simp)]
            rw [e, hxy]
            have hlx : L.length + 1 = r.length + 2 := by have := congrArg List.length hxy; rw [hlen1] at this; simpa using this
            simp (contextual := true) (implicitDefEqProofs := false) (maxSteps := 2000000) (disch := first | rfl | exact NB rfl | omega | (simp only [XL]; omega)) only [hb02, hw7, XW, undef_eq, Nat.reduceAdd, Nat.reduceSub, ↓reduceIte, basic, cellsL, resOf, setAt, below, belowB, belowA, atomB, Nat.reduceLeDiff, Nat.reduceMul, Int.reduceToNat, Int.reduceLT, Int.reduceLE, Int.reduceAdd, Int.reduceNeg, Int.reduceEq, splice, Nat.reduceEqDiff, Nat.reduceLT, isAtom, Int.reduceSub, Int.reduceMul, implies_true]
            refine ⟨by first | exact hfin _ _ | exact hfin2 _ _, x, y, r, .slice (some ⟨b, o + 6, none⟩) (r.map En.row).length (r.map En.row).length, [b], rfl, ?_, ?_, fun z hz => ?_⟩
            · rw [show 7 * L.length + 7 = 7 * (r.length + 1 + 1) by omega]
            · have hnb : m.length ∉ [b] := fun hx => by have := hG3 _ hx; omega
              first | exact (hs5.setb hnb).frm0 Frm.refl.app | exact (hs5.frm0 Frm.refl.app).setb hnb
            · have := hG3 z hz; omega
end Go.Proofs.YtijndljfpiomhaaDoor
