/- Controls read from bytes, walked. -/
import Derived.Test.YtadkdihbbngbfaaDoorMA
set_option linter.unusedSimpArgs false
set_option linter.unnecessarySimpa false
set_option linter.unusedVariables false
namespace Go.Proofs.YtadkdihbbngbfaaDoor.K
open Go.Lg
set_option maxRecDepth 8000
set_option maxHeartbeats 8000000
theorem ofInt_nat (n a : Nat) : BitVec.ofInt n (a : Int) = BitVec.ofNat n a := by
  apply BitVec.eq_of_toNat_eq
  rw [BitVec.toNat_ofInt, BitVec.toNat_ofNat]
  omega
theorem b_and64 {a b c : Nat} (ha : a < 256) (hb : b < 256) (h : a &&& b = c) : binV .and (.int .i64 (a : Int)) (.int .i64 (b : Int)) = some (.int .i64 (c : Int)) := by
  show (if IntKind.i64 = IntKind.i64 then some (Value.int .i64 (IntKind.i64.wrap ((BitVec.ofInt 64 (a : Int) &&& BitVec.ofInt 64 (b : Int)).toNat : Int))) else none) = _
  rw [if_pos rfl, ofInt_nat, ofInt_nat]
  have : (BitVec.ofNat 64 a &&& BitVec.ofNat 64 b).toNat = c := by
    rw [BitVec.toNat_and, BitVec.toNat_ofNat, BitVec.toNat_ofNat, Nat.mod_eq_of_lt (by omega), Nat.mod_eq_of_lt (by omega), h]
  have hc : c ≤ a := by rw [← h]; exact Nat.and_le_left
  rw [this, wrap_i64 (by omega) (by omega)]
theorem b_and8 {a b c : Nat} (ha : a < 256) (hb : b < 256) (h : a &&& b = c) : binV .and (.int .u8 (a : Int)) (.int .u8 (b : Int)) = some (.int .u8 (c : Int)) := by
  show (if IntKind.u8 = IntKind.u8 then some (Value.int .u8 (IntKind.u8.wrap ((BitVec.ofInt 8 (a : Int) &&& BitVec.ofInt 8 (b : Int)).toNat : Int))) else none) = _
  rw [if_pos rfl, ofInt_nat, ofInt_nat]
  have : (BitVec.ofNat 8 a &&& BitVec.ofNat 8 b).toNat = c := by
    rw [BitVec.toNat_and, BitVec.toNat_ofNat, BitVec.toNat_ofNat, Nat.mod_eq_of_lt (by omega), Nat.mod_eq_of_lt (by omega), h]
  have hc : c ≤ a := by rw [← h]; exact Nat.and_le_left
  rw [this, wrap_u8i (by omega) (by omega)]
theorem and3 (n : Nat) : n &&& 3 = n % 4 := Nat.and_two_pow_sub_one_eq_mod n 2
theorem and15 (n : Nat) : n &&& 15 = n % 16 := Nat.and_two_pow_sub_one_eq_mod n 4
theorem and1 (n : Nat) : n &&& 1 = n % 2 := Nat.and_two_pow_sub_one_eq_mod n 1
theorem and16 {n : Nat} (h : n < 256) : n &&& 16 = 16 * (n / 16 % 2) := by
  have : ∀ n, n < 256 → n &&& 16 = 16 * (n / 16 % 2) := by decide
  exact this n h
theorem b_and3 {n : Nat} (h : n < 256) : binV .and (.int .i64 (n : Int)) (.int .i64 3) = some (.int .i64 ((n % 4 : Nat) : Int)) := b_and64 h (by decide) (and3 n)
theorem b_and15 {n : Nat} (h : n < 256) : binV .and (.int .i64 (n : Int)) (.int .i64 15) = some (.int .i64 ((n % 16 : Nat) : Int)) := b_and64 h (by decide) (and15 n)
theorem b_and1 {n : Nat} (h : n < 256) : binV .and (.int .i64 (n : Int)) (.int .i64 1) = some (.int .i64 ((n % 2 : Nat) : Int)) := b_and64 h (by decide) (and1 n)
theorem b_and16 {n : Nat} (h : n < 256) : binV .and (.int .i64 (n : Int)) (.int .i64 16) = some (.int .i64 ((16 * (n / 16 % 2) : Nat) : Int)) := b_and64 h (by decide) (and16 h)
theorem b_and1u {n : Nat} (h : n < 256) : binV .and (.int .u8 (n : Int)) (.int .u8 1) = some (.int .u8 ((n % 2 : Nat) : Int)) := b_and8 h (by decide) (and1 n)
theorem b_shrN {a c : Nat} (h : c < 64) : binV .shr (.int .i64 (a : Int)) (.int .u64 (c : Int)) = some (.int .i64 ((a / 2 ^ c : Nat) : Int)) := by
  rw [bin_shr (by omega), Int.toNat_natCast, Nat.min_eq_left (show c ≤ IntKind.i64.bits by show c ≤ 64; omega)]
  rw [Int.fdiv_eq_ediv_of_nonneg _ (by exact_mod_cast Nat.zero_le (2 ^ c))]
  congr 2
theorem b_shr5 {a : Nat} : binV .shr (.int .i64 (a : Int)) (.int .u64 5) = some (.int .i64 ((a / 32 : Nat) : Int)) := b_shrN (c := 5) (by decide)
theorem b_shr1 {a : Nat} : binV .shr (.int .i64 (a : Int)) (.int .u64 1) = some (.int .i64 ((a / 2 : Nat) : Int)) := b_shrN (c := 1) (by decide)
theorem b_shr2 {a : Nat} : binV .shr (.int .i64 (a : Int)) (.int .u64 2) = some (.int .i64 ((a / 4 : Nat) : Int)) := b_shrN (c := 2) (by decide)
theorem base_andNot {i : Nat} (h : i < 9) (p : Bool) : binV .andNot (.int .i64 (baseL.getD i 0 + sixt p)) (.int .i64 16) = some (.int .i64 (baseL.getD i 0)) := by
  rcases nine_nat h with rfl | rfl | rfl | rfl | rfl | rfl | rfl | rfl | rfl <;> cases p <;> rfl
theorem base_and {i : Nat} (h : i < 9) (p : Bool) : binV .and (.int .i64 (baseL.getD i 0 + sixt p)) (.int .i64 16) = some (.int .i64 (sixt p)) := by
  rcases nine_nat h with rfl | rfl | rfl | rfl | rfl | rfl | rfl | rfl | rfl <;> cases p <;> rfl
theorem base_at : ∀ i, i < 9 → ∀ k, k < 9 → baseL[k]? = some (baseL.getD i 0) → k = i := by decide
theorem sixt_ne (p : Bool) : (!decide (sixt p = 0)) = p := by cases p <;> rfl
theorem arr_full {P : Program} {len sz b T f : Nat} {x : Operand} {t : List Value} {m : Mem} {cs : List Value} {K : Value → Mem → Prop} (hx : evL t x = .pointer (some ⟨b, 0, none⟩)) (hm : m[b]? = some ⟨cs, T, 1, f, .own⟩) (h1 : 1 ≤ sz ∧ len * sz ≤ cs.length)
    (hk : K (.slice (some ⟨b, 0, none⟩) len len) m) : LExec P (.sliceArr len sz x none none) (evL t) m K := by
  show lrun (.sliceArr len sz x none none) (evL t) m K
  simp only [lrun, hx]
  refine ⟨len, rfl, 0, rfl, _, hm, ⟨rfl, rfl, h1.1, by simpa using h1.2⟩, ?_⟩
  simpa using hk
theorem plain52_spec {i : Nat} (h : i < 9) (p : Bool) (m : Mem) : Ret Tryd.prog 71 [.int .i64 (baseL.getD i 0 + sixt p)] m (.tuple #[ctlV (6 + i) 0 0 p, .int .i64 1, .int .i64 0]) m := by
  refine LCall_drop (LCall_enter Tryd.func71 c71 ?_)
  simp (contextual := true) (implicitDefEqProofs := false) (maxSteps := 2000000) (disch := first | rfl | exact NB rfl | omega | (simp only [XL]; omega)) only [L71, XW, undef_eq, Nat.reduceAdd, Nat.reduceSub, ↓reduceIte, basic, cellsL, resOf, setAt, below, belowB, belowA, atomB, Nat.reduceLeDiff, Nat.reduceMul, Int.reduceToNat, Int.reduceLT, Int.reduceLE, Int.reduceAdd, Int.reduceNeg, Int.reduceEq, splice, Nat.reduceEqDiff, Nat.reduceLT, isAtom, Int.reduceSub, Int.reduceMul, implies_true]
  refine (bases_spec _).use ?_
  simp (contextual := true) (implicitDefEqProofs := false) (maxSteps := 2000000) (disch := first | rfl | exact NB rfl | omega | (simp only [XL]; omega)) only [base_andNot h, XX, XA, bin_add, bin_sub, bin_mul, bin_quo, bin_rem, bin_or, bin_xor, bin_eql, bin_neq, bin_lss, bin_leq, bin_gtr, bin_geq, bin_shl, bin_shr, bin_sadd, bin_seql, bin_sneq, lc_block, lc_cond, XZ, undef_eq, Nat.reduceAdd, Nat.reduceSub, ↓reduceIte, basic, cellsL, resOf, setAt, below, belowB, belowA, atomB, Nat.reduceLeDiff, Nat.reduceMul, Int.reduceToNat, Int.reduceLT, Int.reduceLE, Int.reduceAdd, Int.reduceNeg, Int.reduceEq, splice, Nat.reduceEqDiff, Nat.reduceLT, isAtom, Int.reduceSub, Int.reduceMul, implies_true]
  refine arr_full (cs := baseL.map (Value.int .i64 ·)) (T := 123) (f := 0) rfl (by simp [baseL]) (by decide) ?_
  simp (contextual := true) (implicitDefEqProofs := false) (maxSteps := 2000000) (disch := first | rfl | exact NB rfl | omega | (simp only [XL]; omega)) only [base_andNot h, XX, XA, bin_add, bin_sub, bin_mul, bin_quo, bin_rem, bin_or, bin_xor, bin_eql, bin_neq, bin_lss, bin_leq, bin_gtr, bin_geq, bin_shl, bin_shr, bin_sadd, bin_seql, bin_sneq, lc_block, lc_cond, XZ, undef_eq, Nat.reduceAdd, Nat.reduceSub, ↓reduceIte, basic, cellsL, resOf, setAt, below, belowB, belowA, atomB, Nat.reduceLeDiff, Nat.reduceMul, Int.reduceToNat, Int.reduceLT, Int.reduceLE, Int.reduceAdd, Int.reduceNeg, Int.reduceEq, splice, Nat.reduceEqDiff, Nat.reduceLT, isAtom, Int.reduceSub, Int.reduceMul, implies_true]
  refine index_spec (m.length + 1) 123 baseL (baseL.getD i 0) _ (by simp [baseL]) (by decide) _ (fun k hk _ => ?_) (fun hm => ?_)
  · have hk9 : k < 9 := (List.getElem?_eq_some_iff.mp hk).1
    obtain rfl : k = i := base_at i h k hk9 hk
    have h0 : ((k : Int) < 0) = False := eq_false (by omega)
    simp (contextual := true) (implicitDefEqProofs := false) (maxSteps := 2000000) (disch := first | rfl | exact NB rfl | omega | (simp only [XL]; omega)) only [h0, base_and h, XX, XA, bin_add, bin_sub, bin_mul, bin_quo, bin_rem, bin_or, bin_xor, bin_eql, bin_neq, bin_lss, bin_leq, bin_gtr, bin_geq, bin_shl, bin_shr, bin_sadd, bin_seql, bin_sneq, lc_block, lc_cond, XZ, undef_eq, Nat.reduceAdd, Nat.reduceSub, ↓reduceIte, basic, cellsL, resOf, setAt, below, belowB, belowA, atomB, Nat.reduceLeDiff, Nat.reduceMul, Int.reduceToNat, Int.reduceLT, Int.reduceLE, Int.reduceAdd, Int.reduceNeg, Int.reduceEq, splice, Nat.reduceEqDiff, Nat.reduceLT, isAtom, Int.reduceSub, Int.reduceMul, implies_true]
    rw [sixt_ne]
  · exfalso
    apply hm
    have : ∀ i, i < 9 → baseL.getD i 0 ∈ baseL := by decide
    exact this i h
theorem u8_wrap (x : UInt8) : IntKind.i64.wrap (x.toNat : Int) = (x.toNat : Int) := by
  have := x.toNat_lt
  rw [wrap_i64 (by omega) (by omega)]
theorem ne_empty {t : ByteArray} {b : UInt8} (h : t.data.toList[0]? = some b) : (t = ⟨#[]⟩) = False := by
  apply eq_false
  rintro rfl
  simp at h
theorem get_plain {i : Nat} (hi : i < 9) (p w : Bool) (t : ByteArray) (b : UInt8) (ht : t.data.toList[0]? = some b) (hb : ((b.toNat : Nat) : Int) = baseL.getD i 0 + sixt p) (m : Mem) :
    Ret Tryd.prog 53 [.string t, .bool w] m (.tuple #[ctlV (6 + i) 0 0 p, .int .i64 1, .int .i64 0]) m := by
  have hn : b.toNat < 256 := b.toNat_lt
  have h3 : (((b.toNat % 4 : Nat) : Int) = 3) = True := eq_true (by have := (base_facts i hi p).2; omega)
  refine LCall_drop (LCall_enter Tryd.func53 c53 ?_)
  simp (contextual := true) (implicitDefEqProofs := false) (maxSteps := 2000000) (disch := first | rfl | exact NB rfl | omega | (simp only [XL]; omega)) only [L53, ne_empty ht, ht, u8_wrap, b_and3 hn, h3, XX, XA, bin_add, bin_sub, bin_mul, bin_quo, bin_rem, bin_or, bin_xor, bin_andNot, bin_eql, bin_neq, bin_lss, bin_leq, bin_gtr, bin_geq, bin_shl, bin_sadd, bin_seql, bin_sneq, lc_block, lc_cond, XZ, undef_eq, Nat.reduceAdd, Nat.reduceSub, ↓reduceIte, basic, cellsL, resOf, setAt, below, belowB, belowA, atomB, Nat.reduceLeDiff, Nat.reduceMul, Int.reduceToNat, Int.reduceLT, Int.reduceLE, Int.reduceAdd, Int.reduceNeg, Int.reduceEq, splice, Nat.reduceEqDiff, Nat.reduceLT, isAtom, Int.reduceSub, Int.reduceMul, implies_true]
  rw [hb]
  refine (plain52_spec hi p _).use ?_
  simp (contextual := true) (implicitDefEqProofs := false) (maxSteps := 2000000) (disch := first | rfl | exact NB rfl | omega | (simp only [XL]; omega)) only [XW, undef_eq, Nat.reduceAdd, Nat.reduceSub, ↓reduceIte, basic, cellsL, resOf, setAt, below, belowB, belowA, atomB, Nat.reduceLeDiff, Nat.reduceMul, Int.reduceToNat, Int.reduceLT, Int.reduceLE, Int.reduceAdd, Int.reduceNeg, Int.reduceEq, splice, Nat.reduceEqDiff, Nat.reduceLT, isAtom, Int.reduceSub, Int.reduceMul, implies_true]
theorem get_narrow (t : ByteArray) (b : UInt8) (ht : t.data.toList[0]? = some b) (h3 : b.toNat % 4 ≠ 3) (m : Mem) :
    Ret Tryd.prog 53 [.string t, .bool false] m (.tuple #[ctlV (if b.toNat % 2 = 0 then 1 else 2 + ((b.toNat % 16 / 4 : Nat) : Int)) ((b.toNat / 32 : Nat) : Int) (if b.toNat % 2 = 0 then ((b.toNat % 16 / 2 : Nat) : Int) else 0) (!decide (b.toNat / 16 % 2 = 0)), .int .i64 1, .int .i64 0]) m := by
  have hn : b.toNat < 256 := b.toNat_lt
  have h3' : (((b.toNat % 4 : Nat) : Int) = 3) = False := eq_false (by omega)
  have h16 : b.toNat % 16 < 256 := by omega
  have hp : (((16 * (b.toNat / 16 % 2) : Nat) : Int) = 0) = (b.toNat / 16 % 2 = 0) := propext ⟨fun h => by omega, fun h => by omega⟩
  refine LCall_drop (LCall_enter Tryd.func53 c53 ?_)
  by_cases h2 : b.toNat % 2 = 0
  · have h2' : (((b.toNat % 16 % 2 : Nat) : Int) = 0) = True := eq_true (by omega)
    simp (contextual := true) (implicitDefEqProofs := false) (maxSteps := 2000000) (disch := first | rfl | exact NB rfl | omega | (simp only [XL]; omega)) only [L53, ne_empty ht, ht, u8_wrap, b_and3 hn, h3', b_and15 hn, b_and1 h16, b_and16 hn, b_shr5, b_shr1, b_shr2, h2', h2, hp, XX, XA, bin_add, bin_sub, bin_mul, bin_quo, bin_rem, bin_or, bin_xor, bin_andNot, bin_eql, bin_neq, bin_lss, bin_leq, bin_gtr, bin_geq, bin_shl, bin_sadd, bin_seql, bin_sneq, lc_block, lc_cond, XZ, undef_eq, Nat.reduceAdd, Nat.reduceSub, ↓reduceIte, basic, cellsL, resOf, setAt, below, belowB, belowA, atomB, Nat.reduceLeDiff, Nat.reduceMul, Int.reduceToNat, Int.reduceLT, Int.reduceLE, Int.reduceAdd, Int.reduceNeg, Int.reduceEq, splice, Nat.reduceEqDiff, Nat.reduceLT, isAtom, Int.reduceSub, Int.reduceMul, implies_true]
  · have h2' : (((b.toNat % 16 % 2 : Nat) : Int) = 0) = False := eq_false (by omega)
    have h15 : ((15 : Int) < ((b.toNat % 16 : Nat) : Int)) = False := eq_false (by omega)
    simp (contextual := true) (implicitDefEqProofs := false) (maxSteps := 2000000) (disch := first | rfl | exact NB rfl | omega | (simp only [XL]; omega)) only [L53, ne_empty ht, ht, u8_wrap, b_and3 hn, h3', b_and15 hn, b_and1 h16, b_and16 hn, b_shr5, b_shr1, b_shr2, h2', h2, h15, hp, XX, XA, bin_add, bin_sub, bin_mul, bin_quo, bin_rem, bin_or, bin_xor, bin_andNot, bin_eql, bin_neq, bin_lss, bin_leq, bin_gtr, bin_geq, bin_shl, bin_sadd, bin_seql, bin_sneq, lc_block, lc_cond, XZ, undef_eq, Nat.reduceAdd, Nat.reduceSub, ↓reduceIte, basic, cellsL, resOf, setAt, below, belowB, belowA, atomB, Nat.reduceLeDiff, Nat.reduceMul, Int.reduceToNat, Int.reduceLT, Int.reduceLE, Int.reduceAdd, Int.reduceNeg, Int.reduceEq, splice, Nat.reduceEqDiff, Nat.reduceLT, isAtom, Int.reduceSub, Int.reduceMul, implies_true]
theorem get_wide (t : ByteArray) (b c : UInt8) (ht : t.data.toList[0]? = some b) (hc : t.data.toList[1]? = some c) (h3 : b.toNat % 4 ≠ 3) (h15 : b.toNat % 2 = 0 ∨ b.toNat ≤ 15) (m : Mem) :
    Ret Tryd.prog 53 [.string t, .bool true] m (.tuple #[ctlV (if b.toNat % 2 = 0 then 1 else 2 + ((b.toNat / 4 : Nat) : Int)) ((c.toNat / 2 : Nat) : Int) (if b.toNat % 2 = 0 then ((b.toNat / 2 : Nat) : Int) else 0) (!decide (c.toNat % 2 = 0)), .int .i64 2, .int .i64 0]) m := by
  have hn : b.toNat < 256 := b.toNat_lt
  have hnc : c.toNat < 256 := c.toNat_lt
  have h3' : (((b.toNat % 4 : Nat) : Int) = 3) = False := eq_false (by omega)
  have hp : (((c.toNat % 2 : Nat) : Int) = 0) = (c.toNat % 2 = 0) := propext ⟨fun h => by omega, fun h => by omega⟩
  have hl : 1 < t.data.toList.length := (List.getElem?_eq_some_iff.mp hc).1
  have hsz : ((t.size : Int) < 2) = False := eq_false (by
    have : t.data.toList.length = t.size := by simp
    omega)
  refine LCall_drop (LCall_enter Tryd.func53 c53 ?_)
  by_cases h2 : b.toNat % 2 = 0
  · have h2' : (((b.toNat % 2 : Nat) : Int) = 0) = True := eq_true (by omega)
    simp (contextual := true) (implicitDefEqProofs := false) (maxSteps := 2000000) (disch := first | rfl | exact NB rfl | omega | (simp only [XL]; omega)) only [L53, ne_empty ht, ht, hc, hsz, u8_wrap, b_and3 hn, h3', b_and1 hn, b_and1u hnc, b_shr1, b_shr2, h2', h2, hp, XX, XA, bin_add, bin_sub, bin_mul, bin_quo, bin_rem, bin_or, bin_xor, bin_andNot, bin_eql, bin_neq, bin_lss, bin_leq, bin_gtr, bin_geq, bin_shl, bin_sadd, bin_seql, bin_sneq, lc_block, lc_cond, XZ, undef_eq, Nat.reduceAdd, Nat.reduceSub, ↓reduceIte, basic, cellsL, resOf, setAt, below, belowB, belowA, atomB, Nat.reduceLeDiff, Nat.reduceMul, Int.reduceToNat, Int.reduceLT, Int.reduceLE, Int.reduceAdd, Int.reduceNeg, Int.reduceEq, splice, Nat.reduceEqDiff, Nat.reduceLT, isAtom, Int.reduceSub, Int.reduceMul, implies_true]
  · have h2' : (((b.toNat % 2 : Nat) : Int) = 0) = False := eq_false (by omega)
    have h15' : ((15 : Int) < ((b.toNat : Nat) : Int)) = False := eq_false (by omega)
    simp (contextual := true) (implicitDefEqProofs := false) (maxSteps := 2000000) (disch := first | rfl | exact NB rfl | omega | (simp only [XL]; omega)) only [L53, ne_empty ht, ht, hc, hsz, u8_wrap, b_and3 hn, h3', b_and1 hn, b_and1u hnc, b_shr1, b_shr2, h2', h2, h15', hp, XX, XA, bin_add, bin_sub, bin_mul, bin_quo, bin_rem, bin_or, bin_xor, bin_andNot, bin_eql, bin_neq, bin_lss, bin_leq, bin_gtr, bin_geq, bin_shl, bin_sadd, bin_seql, bin_sneq, lc_block, lc_cond, XZ, undef_eq, Nat.reduceAdd, Nat.reduceSub, ↓reduceIte, basic, cellsL, resOf, setAt, below, belowB, belowA, atomB, Nat.reduceLeDiff, Nat.reduceMul, Int.reduceToNat, Int.reduceLT, Int.reduceLE, Int.reduceAdd, Int.reduceNeg, Int.reduceEq, splice, Nat.reduceEqDiff, Nat.reduceLT, isAtom, Int.reduceSub, Int.reduceMul, implies_true]
end Go.Proofs.YtadkdihbbngbfaaDoor.K
/- Controls by the document: right ones, and bytes: walked. -/
namespace Go.Proofs.YtadkdihbbngbfaaDoor.K
open Go.Lg
set_option maxRecDepth 8000
set_option maxHeartbeats 8000000
theorem strOf_list (l : List Int) : (strOf l).data.toList = l.map fun e => UInt8.ofNat e.toNat := rfl
theorem strOf_size (l : List Int) : (strOf l).size = l.length := by
  have : (strOf l).data.toList.length = (strOf l).size := by simp
  rw [← this, strOf_list, List.length_map]
theorem app_list (a b : ByteArray) : (a ++ b).data.toList = a.data.toList ++ b.data.toList := by simp
theorem text_spec (i T : Nat) (l : List Int) (m : Mem) (hm : m[i]? = some ⟨l.map (Value.int .i64 ·), T, 1, 0, .own⟩) (hl : l.length ≤ 1000) (hb : inB l) :
    Ret Tryd.prog 64 [.slice (some ⟨i, 0, none⟩) l.length l.length] m (.string (strOf l)) m := by
  have hi : i < m.length := (List.getElem?_eq_some_iff.mp hm).1
  refine LCall_drop (LCall_enter Tryd.func64 c64 ?_)
  simp (contextual := true) (implicitDefEqProofs := false) (maxSteps := 2000000) (disch := first | rfl | exact NB rfl | omega | (simp only [XL]; omega)) only [L64, XW, undef_eq, Nat.reduceAdd, Nat.reduceSub, ↓reduceIte, basic, cellsL, resOf, setAt, below, belowB, belowA, atomB, Nat.reduceLeDiff, Nat.reduceMul, Int.reduceToNat, Int.reduceLT, Int.reduceLE, Int.reduceAdd, Int.reduceNeg, Int.reduceEq, splice, Nat.reduceEqDiff, Nat.reduceLT, isAtom, Int.reduceSub, Int.reduceMul, implies_true]
  refine loop_inv (fun n t m' => ∃ (k : Nat) (g : Mem), n = l.length - k ∧ k ≤ l.length ∧
    Tab 21 [(0, .slice (some ⟨i, 0, none⟩) l.length l.length), (3, .string (strOf (l.take k))), (4, .int .i64 (k : Int))] t ∧ m' = m ++ g) (n := l.length) ?_ ?_
  · exact ⟨0, [], rfl, Nat.zero_le _, ⟨rfl, by simp [strOf, strL]⟩, by simp⟩
  rintro n t m' ⟨k, g, rfl, hk, ht, rfl⟩
  obtain ⟨f, rfl⟩ : ∃ f : Nat → Value, t = [.slice (some ⟨i, 0, none⟩) l.length l.length, f 1, f 2, .string (strOf (l.take k)), .int .i64 (k : Int), f 5, f 6, f 7, f 8, f 9, f 10, f 11, f 12, f 13, f 14, f 15, f 16, f 17, f 18, f 19, f 20] := ht.open fun f => rfl
  by_cases hlt : k < l.length
  · have hlt' : ((k : Int) < (l.length : Int)) = True := eq_true (by omega)
    have h0 : ((0 : Int) ≤ (k : Int)) = True := eq_true (by omega)
    obtain ⟨x, hx⟩ : ∃ x, l[k]? = some x := ⟨l[k], List.getElem?_eq_getElem hlt⟩
    have hc : (l.map (Value.int .i64 ·))[k]? = some (.int .i64 x) := by simp [hx]
    obtain ⟨hx0, hx1⟩ := hb x (List.mem_of_getElem? hx)
    have hsz : ((strOf (l.take k)).size : Int) + ((ByteArray.size ⟨#[UInt8.ofNat x.toNat]⟩ : Nat) : Int) ≤ 9223372036854775807 := by
      rw [strOf_size, List.length_take]
      have : ByteArray.size ⟨#[UInt8.ofNat x.toNat]⟩ = 1 := rfl
      omega
    simp (contextual := true) (implicitDefEqProofs := false) (maxSteps := 2000000) (disch := first | rfl | exact NB rfl | omega | (simp only [XL]; omega)) only [hm, hlt', h0, Int.toNat_natCast, hc, wrap_u8i, byL1, XW, undef_eq, Nat.reduceAdd, Nat.reduceSub, ↓reduceIte, basic, cellsL, resOf, setAt, below, belowB, belowA, atomB, Nat.reduceLeDiff, Nat.reduceMul, Int.reduceToNat, Int.reduceLT, Int.reduceLE, Int.reduceAdd, Int.reduceNeg, Int.reduceEq, splice, Nat.reduceEqDiff, Nat.reduceLT, isAtom, Int.reduceSub, Int.reduceMul, implies_true]
    have hnext : strOf (l.take k) ++ ⟨#[UInt8.ofNat x.toNat]⟩ = strOf (l.take (k + 1)) := by
      apply ByteArray.ext; apply Array.ext'
      rw [app_list, strOf_list, strOf_list, List.take_add_one, hx]; simp
    exact kInv_go ⟨k + 1, _, rfl, by omega, ⟨rfl, by simp [hnext]⟩, rfl⟩ (by omega)
  · have hlt' : ((k : Int) < (l.length : Int)) = False := eq_false (by omega)
    obtain rfl : k = l.length := by omega
    simp (contextual := true) (implicitDefEqProofs := false) (maxSteps := 2000000) (disch := first | rfl | exact NB rfl | omega | (simp only [XL]; omega)) only [hlt', List.take_length, XW, undef_eq, Nat.reduceAdd, Nat.reduceSub, ↓reduceIte, basic, cellsL, resOf, setAt, below, belowB, belowA, atomB, Nat.reduceLeDiff, Nat.reduceMul, Int.reduceToNat, Int.reduceLT, Int.reduceLE, Int.reduceAdd, Int.reduceNeg, Int.reduceEq, splice, Nat.reduceEqDiff, Nat.reduceLT, isAtom, Int.reduceSub, Int.reduceMul, implies_true]
theorem refput_spec (k r s : Int) (p w : Bool) (h : rightC k r s w = true) (m : Mem) (K : Value → Mem → Prop)
    (hk : ∀ i g T, (m ++ g)[i]? = some ⟨(putL8 k r s p w).map (Value.int .i64 ·), T, 1, 0, .own⟩ → K (.slice (some ⟨i, 0, none⟩) (putL8 k r s p w).length (putL8 k r s p w).length) (m ++ g)) :
    LCall Tryd.prog 63 [ctlV k r s p, .bool w] m K := by
  obtain ⟨hkk, hs, hrr, hk1, hk5⟩ := right_of h
  refine LCall_enter Tryd.func63 c63 ?_
  by_cases h6 : 6 ≤ k
  · have e : putL8 k r s p w = [baseL.getD (k - 6).toNat 0 + sixt p] := if_pos h6
    rw [e] at hk
    have h5 : ((5 : Int) < k) = True := eq_true (by omega)
    rcases nine_cases h6 hkk.2 with rfl | rfl | rfl | rfl | rfl | rfl | rfl | rfl | rfl <;> cases p <;>
    · simp (contextual := true) (implicitDefEqProofs := false) (maxSteps := 2000000) (disch := first | rfl | exact NB rfl | omega | (simp only [XL]; omega)) only [L63, h5, XW, undef_eq, Nat.reduceAdd, Nat.reduceSub, ↓reduceIte, basic, cellsL, resOf, setAt, below, belowB, belowA, atomB, Nat.reduceLeDiff, Nat.reduceMul, Int.reduceToNat, Int.reduceLT, Int.reduceLE, Int.reduceAdd, Int.reduceNeg, Int.reduceEq, splice, Nat.reduceEqDiff, Nat.reduceLT, isAtom, Int.reduceSub, Int.reduceMul, implies_true]
      exact hk (m.length + 2) _ 3 (by rw [List.getElem?_append_right (by omega)]; simp; rfl)
  · have h5 : ((5 : Int) < k) = False := eq_false (by omega)
    have hf := first_facts (k := k) (s := s) (by omega) hs.1 hk1
    have hm : m8 w ≤ 128 := by cases w <;> decide
    rcases (show k = 1 ∨ k = 2 ∨ k = 3 ∨ k = 4 ∨ k = 5 by omega) with rfl | rfl | rfl | rfl | rfl
    · cases w
      · rw [m8_f] at hs hrr
        cases p
        · have e : putL8 1 r s false false = [32 * r + 2 * s] := by simp [putL8, sixt, onee, firstC]
          rw [e] at hk
          simp (contextual := true) (implicitDefEqProofs := false) (maxSteps := 2000000) (disch := first | rfl | exact NB rfl | omega | (simp only [XL]; omega)) only [L63, h5, XW, undef_eq, Nat.reduceAdd, Nat.reduceSub, ↓reduceIte, basic, cellsL, resOf, setAt, below, belowB, belowA, atomB, Nat.reduceLeDiff, Nat.reduceMul, Int.reduceToNat, Int.reduceLT, Int.reduceLE, Int.reduceAdd, Int.reduceNeg, Int.reduceEq, splice, Nat.reduceEqDiff, Nat.reduceLT, isAtom, Int.reduceSub, Int.reduceMul, implies_true]
          exact hk (m.length + 1) _ 3 (by rw [List.getElem?_append_right (by omega)]; simp)
        · have e : putL8 1 r s true false = [32 * r + 16 + 2 * s] := by simp [putL8, sixt, onee, firstC]
          rw [e] at hk
          simp (contextual := true) (implicitDefEqProofs := false) (maxSteps := 2000000) (disch := first | rfl | exact NB rfl | omega | (simp only [XL]; omega)) only [L63, h5, XW, undef_eq, Nat.reduceAdd, Nat.reduceSub, ↓reduceIte, basic, cellsL, resOf, setAt, below, belowB, belowA, atomB, Nat.reduceLeDiff, Nat.reduceMul, Int.reduceToNat, Int.reduceLT, Int.reduceLE, Int.reduceAdd, Int.reduceNeg, Int.reduceEq, splice, Nat.reduceEqDiff, Nat.reduceLT, isAtom, Int.reduceSub, Int.reduceMul, implies_true]
          exact hk (m.length + 1) _ 3 (by rw [List.getElem?_append_right (by omega)]; simp)
      · rw [m8_t] at hs hrr
        cases p
        · have e : putL8 1 r s false true = [2 * s, 2 * r] := by simp [putL8, sixt, onee, firstC]
          rw [e] at hk
          simp (contextual := true) (implicitDefEqProofs := false) (maxSteps := 2000000) (disch := first | rfl | exact NB rfl | omega | (simp only [XL]; omega)) only [L63, h5, XW, undef_eq, Nat.reduceAdd, Nat.reduceSub, ↓reduceIte, basic, cellsL, resOf, setAt, below, belowB, belowA, atomB, Nat.reduceLeDiff, Nat.reduceMul, Int.reduceToNat, Int.reduceLT, Int.reduceLE, Int.reduceAdd, Int.reduceNeg, Int.reduceEq, splice, Nat.reduceEqDiff, Nat.reduceLT, isAtom, Int.reduceSub, Int.reduceMul, implies_true]
          exact hk (m.length + 1) _ 3 (by rw [List.getElem?_append_right (by omega)]; simp)
        · have e : putL8 1 r s true true = [2 * s, 2 * r + 1] := by simp [putL8, sixt, onee, firstC]
          rw [e] at hk
          simp (contextual := true) (implicitDefEqProofs := false) (maxSteps := 2000000) (disch := first | rfl | exact NB rfl | omega | (simp only [XL]; omega)) only [L63, h5, XW, undef_eq, Nat.reduceAdd, Nat.reduceSub, ↓reduceIte, basic, cellsL, resOf, setAt, below, belowB, belowA, atomB, Nat.reduceLeDiff, Nat.reduceMul, Int.reduceToNat, Int.reduceLT, Int.reduceLE, Int.reduceAdd, Int.reduceNeg, Int.reduceEq, splice, Nat.reduceEqDiff, Nat.reduceLT, isAtom, Int.reduceSub, Int.reduceMul, implies_true]
          exact hk (m.length + 1) _ 3 (by rw [List.getElem?_append_right (by omega)]; simp)
    · cases w
      · rw [m8_f] at hs hrr
        cases p
        · have e : putL8 2 r s false false = [32 * r + 1] := by simp [putL8, sixt, onee, firstC]
          rw [e] at hk
          simp (contextual := true) (implicitDefEqProofs := false) (maxSteps := 2000000) (disch := first | rfl | exact NB rfl | omega | (simp only [XL]; omega)) only [L63, h5, XW, undef_eq, Nat.reduceAdd, Nat.reduceSub, ↓reduceIte, basic, cellsL, resOf, setAt, below, belowB, belowA, atomB, Nat.reduceLeDiff, Nat.reduceMul, Int.reduceToNat, Int.reduceLT, Int.reduceLE, Int.reduceAdd, Int.reduceNeg, Int.reduceEq, splice, Nat.reduceEqDiff, Nat.reduceLT, isAtom, Int.reduceSub, Int.reduceMul, implies_true]
          exact hk (m.length + 2) _ 3 (by rw [List.getElem?_append_right (by omega)]; simp)
        · have e : putL8 2 r s true false = [32 * r + 16 + 1] := by simp [putL8, sixt, onee, firstC]
          rw [e] at hk
          simp (contextual := true) (implicitDefEqProofs := false) (maxSteps := 2000000) (disch := first | rfl | exact NB rfl | omega | (simp only [XL]; omega)) only [L63, h5, XW, undef_eq, Nat.reduceAdd, Nat.reduceSub, ↓reduceIte, basic, cellsL, resOf, setAt, below, belowB, belowA, atomB, Nat.reduceLeDiff, Nat.reduceMul, Int.reduceToNat, Int.reduceLT, Int.reduceLE, Int.reduceAdd, Int.reduceNeg, Int.reduceEq, splice, Nat.reduceEqDiff, Nat.reduceLT, isAtom, Int.reduceSub, Int.reduceMul, implies_true]
          exact hk (m.length + 2) _ 3 (by rw [List.getElem?_append_right (by omega)]; simp)
      · rw [m8_t] at hs hrr
        cases p
        · have e : putL8 2 r s false true = [1, 2 * r] := by simp [putL8, sixt, onee, firstC]
          rw [e] at hk
          simp (contextual := true) (implicitDefEqProofs := false) (maxSteps := 2000000) (disch := first | rfl | exact NB rfl | omega | (simp only [XL]; omega)) only [L63, h5, XW, undef_eq, Nat.reduceAdd, Nat.reduceSub, ↓reduceIte, basic, cellsL, resOf, setAt, below, belowB, belowA, atomB, Nat.reduceLeDiff, Nat.reduceMul, Int.reduceToNat, Int.reduceLT, Int.reduceLE, Int.reduceAdd, Int.reduceNeg, Int.reduceEq, splice, Nat.reduceEqDiff, Nat.reduceLT, isAtom, Int.reduceSub, Int.reduceMul, implies_true]
          exact hk (m.length + 2) _ 3 (by rw [List.getElem?_append_right (by omega)]; simp)
        · have e : putL8 2 r s true true = [1, 2 * r + 1] := by simp [putL8, sixt, onee, firstC]
          rw [e] at hk
          simp (contextual := true) (implicitDefEqProofs := false) (maxSteps := 2000000) (disch := first | rfl | exact NB rfl | omega | (simp only [XL]; omega)) only [L63, h5, XW, undef_eq, Nat.reduceAdd, Nat.reduceSub, ↓reduceIte, basic, cellsL, resOf, setAt, below, belowB, belowA, atomB, Nat.reduceLeDiff, Nat.reduceMul, Int.reduceToNat, Int.reduceLT, Int.reduceLE, Int.reduceAdd, Int.reduceNeg, Int.reduceEq, splice, Nat.reduceEqDiff, Nat.reduceLT, isAtom, Int.reduceSub, Int.reduceMul, implies_true]
          exact hk (m.length + 2) _ 3 (by rw [List.getElem?_append_right (by omega)]; simp)
    · cases w
      · rw [m8_f] at hs hrr
        cases p
        · have e : putL8 3 r s false false = [32 * r + 5] := by simp [putL8, sixt, onee, firstC]
          rw [e] at hk
          simp (contextual := true) (implicitDefEqProofs := false) (maxSteps := 2000000) (disch := first | rfl | exact NB rfl | omega | (simp only [XL]; omega)) only [L63, h5, XW, undef_eq, Nat.reduceAdd, Nat.reduceSub, ↓reduceIte, basic, cellsL, resOf, setAt, below, belowB, belowA, atomB, Nat.reduceLeDiff, Nat.reduceMul, Int.reduceToNat, Int.reduceLT, Int.reduceLE, Int.reduceAdd, Int.reduceNeg, Int.reduceEq, splice, Nat.reduceEqDiff, Nat.reduceLT, isAtom, Int.reduceSub, Int.reduceMul, implies_true]
          exact hk (m.length + 2) _ 3 (by rw [List.getElem?_append_right (by omega)]; simp)
        · have e : putL8 3 r s true false = [32 * r + 16 + 5] := by simp [putL8, sixt, onee, firstC]
          rw [e] at hk
          simp (contextual := true) (implicitDefEqProofs := false) (maxSteps := 2000000) (disch := first | rfl | exact NB rfl | omega | (simp only [XL]; omega)) only [L63, h5, XW, undef_eq, Nat.reduceAdd, Nat.reduceSub, ↓reduceIte, basic, cellsL, resOf, setAt, below, belowB, belowA, atomB, Nat.reduceLeDiff, Nat.reduceMul, Int.reduceToNat, Int.reduceLT, Int.reduceLE, Int.reduceAdd, Int.reduceNeg, Int.reduceEq, splice, Nat.reduceEqDiff, Nat.reduceLT, isAtom, Int.reduceSub, Int.reduceMul, implies_true]
          exact hk (m.length + 2) _ 3 (by rw [List.getElem?_append_right (by omega)]; simp)
      · rw [m8_t] at hs hrr
        cases p
        · have e : putL8 3 r s false true = [5, 2 * r] := by simp [putL8, sixt, onee, firstC]
          rw [e] at hk
          simp (contextual := true) (implicitDefEqProofs := false) (maxSteps := 2000000) (disch := first | rfl | exact NB rfl | omega | (simp only [XL]; omega)) only [L63, h5, XW, undef_eq, Nat.reduceAdd, Nat.reduceSub, ↓reduceIte, basic, cellsL, resOf, setAt, below, belowB, belowA, atomB, Nat.reduceLeDiff, Nat.reduceMul, Int.reduceToNat, Int.reduceLT, Int.reduceLE, Int.reduceAdd, Int.reduceNeg, Int.reduceEq, splice, Nat.reduceEqDiff, Nat.reduceLT, isAtom, Int.reduceSub, Int.reduceMul, implies_true]
          exact hk (m.length + 2) _ 3 (by rw [List.getElem?_append_right (by omega)]; simp)
        · have e : putL8 3 r s true true = [5, 2 * r + 1] := by simp [putL8, sixt, onee, firstC]
          rw [e] at hk
          simp (contextual := true) (implicitDefEqProofs := false) (maxSteps := 2000000) (disch := first | rfl | exact NB rfl | omega | (simp only [XL]; omega)) only [L63, h5, XW, undef_eq, Nat.reduceAdd, Nat.reduceSub, ↓reduceIte, basic, cellsL, resOf, setAt, below, belowB, belowA, atomB, Nat.reduceLeDiff, Nat.reduceMul, Int.reduceToNat, Int.reduceLT, Int.reduceLE, Int.reduceAdd, Int.reduceNeg, Int.reduceEq, splice, Nat.reduceEqDiff, Nat.reduceLT, isAtom, Int.reduceSub, Int.reduceMul, implies_true]
          exact hk (m.length + 2) _ 3 (by rw [List.getElem?_append_right (by omega)]; simp)
    · cases w
      · rw [m8_f] at hs hrr
        cases p
        · have e : putL8 4 r s false false = [32 * r + 9] := by simp [putL8, sixt, onee, firstC]
          rw [e] at hk
          simp (contextual := true) (implicitDefEqProofs := false) (maxSteps := 2000000) (disch := first | rfl | exact NB rfl | omega | (simp only [XL]; omega)) only [L63, h5, XW, undef_eq, Nat.reduceAdd, Nat.reduceSub, ↓reduceIte, basic, cellsL, resOf, setAt, below, belowB, belowA, atomB, Nat.reduceLeDiff, Nat.reduceMul, Int.reduceToNat, Int.reduceLT, Int.reduceLE, Int.reduceAdd, Int.reduceNeg, Int.reduceEq, splice, Nat.reduceEqDiff, Nat.reduceLT, isAtom, Int.reduceSub, Int.reduceMul, implies_true]
          exact hk (m.length + 2) _ 3 (by rw [List.getElem?_append_right (by omega)]; simp)
        · have e : putL8 4 r s true false = [32 * r + 16 + 9] := by simp [putL8, sixt, onee, firstC]
          rw [e] at hk
          simp (contextual := true) (implicitDefEqProofs := false) (maxSteps := 2000000) (disch := first | rfl | exact NB rfl | omega | (simp only [XL]; omega)) only [L63, h5, XW, undef_eq, Nat.reduceAdd, Nat.reduceSub, ↓reduceIte, basic, cellsL, resOf, setAt, below, belowB, belowA, atomB, Nat.reduceLeDiff, Nat.reduceMul, Int.reduceToNat, Int.reduceLT, Int.reduceLE, Int.reduceAdd, Int.reduceNeg, Int.reduceEq, splice, Nat.reduceEqDiff, Nat.reduceLT, isAtom, Int.reduceSub, Int.reduceMul, implies_true]
          exact hk (m.length + 2) _ 3 (by rw [List.getElem?_append_right (by omega)]; simp)
      · rw [m8_t] at hs hrr
        cases p
        · have e : putL8 4 r s false true = [9, 2 * r] := by simp [putL8, sixt, onee, firstC]
          rw [e] at hk
          simp (contextual := true) (implicitDefEqProofs := false) (maxSteps := 2000000) (disch := first | rfl | exact NB rfl | omega | (simp only [XL]; omega)) only [L63, h5, XW, undef_eq, Nat.reduceAdd, Nat.reduceSub, ↓reduceIte, basic, cellsL, resOf, setAt, below, belowB, belowA, atomB, Nat.reduceLeDiff, Nat.reduceMul, Int.reduceToNat, Int.reduceLT, Int.reduceLE, Int.reduceAdd, Int.reduceNeg, Int.reduceEq, splice, Nat.reduceEqDiff, Nat.reduceLT, isAtom, Int.reduceSub, Int.reduceMul, implies_true]
          exact hk (m.length + 2) _ 3 (by rw [List.getElem?_append_right (by omega)]; simp)
        · have e : putL8 4 r s true true = [9, 2 * r + 1] := by simp [putL8, sixt, onee, firstC]
          rw [e] at hk
          simp (contextual := true) (implicitDefEqProofs := false) (maxSteps := 2000000) (disch := first | rfl | exact NB rfl | omega | (simp only [XL]; omega)) only [L63, h5, XW, undef_eq, Nat.reduceAdd, Nat.reduceSub, ↓reduceIte, basic, cellsL, resOf, setAt, below, belowB, belowA, atomB, Nat.reduceLeDiff, Nat.reduceMul, Int.reduceToNat, Int.reduceLT, Int.reduceLE, Int.reduceAdd, Int.reduceNeg, Int.reduceEq, splice, Nat.reduceEqDiff, Nat.reduceLT, isAtom, Int.reduceSub, Int.reduceMul, implies_true]
          exact hk (m.length + 2) _ 3 (by rw [List.getElem?_append_right (by omega)]; simp)
    · cases w
      · rw [m8_f] at hs hrr
        cases p
        · have e : putL8 5 r s false false = [32 * r + 13] := by simp [putL8, sixt, onee, firstC]
          rw [e] at hk
          simp (contextual := true) (implicitDefEqProofs := false) (maxSteps := 2000000) (disch := first | rfl | exact NB rfl | omega | (simp only [XL]; omega)) only [L63, h5, XW, undef_eq, Nat.reduceAdd, Nat.reduceSub, ↓reduceIte, basic, cellsL, resOf, setAt, below, belowB, belowA, atomB, Nat.reduceLeDiff, Nat.reduceMul, Int.reduceToNat, Int.reduceLT, Int.reduceLE, Int.reduceAdd, Int.reduceNeg, Int.reduceEq, splice, Nat.reduceEqDiff, Nat.reduceLT, isAtom, Int.reduceSub, Int.reduceMul, implies_true]
          exact hk (m.length + 2) _ 3 (by rw [List.getElem?_append_right (by omega)]; simp)
        · have e : putL8 5 r s true false = [32 * r + 16 + 13] := by simp [putL8, sixt, onee, firstC]
          rw [e] at hk
          simp (contextual := true) (implicitDefEqProofs := false) (maxSteps := 2000000) (disch := first | rfl | exact NB rfl | omega | (simp only [XL]; omega)) only [L63, h5, XW, undef_eq, Nat.reduceAdd, Nat.reduceSub, ↓reduceIte, basic, cellsL, resOf, setAt, below, belowB, belowA, atomB, Nat.reduceLeDiff, Nat.reduceMul, Int.reduceToNat, Int.reduceLT, Int.reduceLE, Int.reduceAdd, Int.reduceNeg, Int.reduceEq, splice, Nat.reduceEqDiff, Nat.reduceLT, isAtom, Int.reduceSub, Int.reduceMul, implies_true]
          exact hk (m.length + 2) _ 3 (by rw [List.getElem?_append_right (by omega)]; simp)
      · rw [m8_t] at hs hrr
        cases p
        · have e : putL8 5 r s false true = [13, 2 * r] := by simp [putL8, sixt, onee, firstC]
          rw [e] at hk
          simp (contextual := true) (implicitDefEqProofs := false) (maxSteps := 2000000) (disch := first | rfl | exact NB rfl | omega | (simp only [XL]; omega)) only [L63, h5, XW, undef_eq, Nat.reduceAdd, Nat.reduceSub, ↓reduceIte, basic, cellsL, resOf, setAt, below, belowB, belowA, atomB, Nat.reduceLeDiff, Nat.reduceMul, Int.reduceToNat, Int.reduceLT, Int.reduceLE, Int.reduceAdd, Int.reduceNeg, Int.reduceEq, splice, Nat.reduceEqDiff, Nat.reduceLT, isAtom, Int.reduceSub, Int.reduceMul, implies_true]
          exact hk (m.length + 2) _ 3 (by rw [List.getElem?_append_right (by omega)]; simp)
        · have e : putL8 5 r s true true = [13, 2 * r + 1] := by simp [putL8, sixt, onee, firstC]
          rw [e] at hk
          simp (contextual := true) (implicitDefEqProofs := false) (maxSteps := 2000000) (disch := first | rfl | exact NB rfl | omega | (simp only [XL]; omega)) only [L63, h5, XW, undef_eq, Nat.reduceAdd, Nat.reduceSub, ↓reduceIte, basic, cellsL, resOf, setAt, below, belowB, belowA, atomB, Nat.reduceLeDiff, Nat.reduceMul, Int.reduceToNat, Int.reduceLT, Int.reduceLE, Int.reduceAdd, Int.reduceNeg, Int.reduceEq, splice, Nat.reduceEqDiff, Nat.reduceLT, isAtom, Int.reduceSub, Int.reduceMul, implies_true]
          exact hk (m.length + 2) _ 3 (by rw [List.getElem?_append_right (by omega)]; simp)
end Go.Proofs.YtadkdihbbngbfaaDoor.K
/- The control of any bytes, walked. -/
namespace Go.Proofs.YtadkdihbbngbfaaDoor.K
open Go.Lg
set_option maxRecDepth 8000
set_option maxHeartbeats 8000000
def rest16 (n : Nat) : Nat := n - 16 * (n / 16 % 2)
theorem andNot16 {n : Nat} (h : n < 256) : binV .andNot (.int .i64 (n : Int)) (.int .i64 16) = some (.int .i64 ((rest16 n : Nat) : Int)) := by
  have key : ∀ n : Fin 256, IntKind.i64.wrap ((BitVec.ofInt IntKind.i64.bits ((n.1 : Nat) : Int) &&& ~~~ BitVec.ofInt IntKind.i64.bits 16).toNat : Int) = ((rest16 n.1 : Nat) : Int) := by decide +kernel
  rw [bin_andNot]
  exact congrArg (fun y => some (Value.int .i64 y)) (key ⟨n, h⟩)
theorem rest_base : ∀ i, i < 9 → ∀ p, ((rest16 (baseL.getD i 0 + sixt p).toNat : Nat) : Int) = baseL.getD i 0 := by decide
theorem base_mem : ∀ i, i < 9 → baseL.getD i 0 ∈ baseL := by decide
theorem base_get : ∀ i, i < 9 → ∀ v, baseL[i]? = some v → baseL.getD i 0 = v := by
  intro i _ v h
  rw [List.getD_eq_getElem?_getD, h]; rfl
theorem plainAll_spec {n : Nat} (hn : n < 256) (m : Mem) : Ret Tryd.prog 71 [.int .i64 (n : Int)] m (.tuple #[(plainC n).2.1.val, .int .i64 (((plainC n).2.2 : Nat) : Int), .int .i64 (plainC n).1]) m := by
  rcases plainC_some hn with h | ⟨i, hi, p, h⟩
  · rw [h]
    refine LCall_drop (LCall_enter Tryd.func71 c71 ?_)
    simp (contextual := true) (implicitDefEqProofs := false) (maxSteps := 2000000) (disch := first | rfl | exact NB rfl | omega | (simp only [XL]; omega)) only [L71, XW, undef_eq, Nat.reduceAdd, Nat.reduceSub, ↓reduceIte, basic, cellsL, resOf, setAt, below, belowB, belowA, atomB, Nat.reduceLeDiff, Nat.reduceMul, Int.reduceToNat, Int.reduceLT, Int.reduceLE, Int.reduceAdd, Int.reduceNeg, Int.reduceEq, splice, Nat.reduceEqDiff, Nat.reduceLT, isAtom, Int.reduceSub, Int.reduceMul, implies_true]
    refine (bases_spec _).use ?_
    simp (contextual := true) (implicitDefEqProofs := false) (maxSteps := 2000000) (disch := first | rfl | exact NB rfl | omega | (simp only [XL]; omega)) only [andNot16 hn, XX, XA, bin_add, bin_sub, bin_mul, bin_quo, bin_rem, bin_or, bin_xor, bin_eql, bin_neq, bin_lss, bin_leq, bin_gtr, bin_geq, bin_shl, bin_shr, bin_sadd, bin_seql, bin_sneq, lc_block, lc_cond, XZ, undef_eq, Nat.reduceAdd, Nat.reduceSub, ↓reduceIte, basic, cellsL, resOf, setAt, below, belowB, belowA, atomB, Nat.reduceLeDiff, Nat.reduceMul, Int.reduceToNat, Int.reduceLT, Int.reduceLE, Int.reduceAdd, Int.reduceNeg, Int.reduceEq, splice, Nat.reduceEqDiff, Nat.reduceLT, isAtom, Int.reduceSub, Int.reduceMul, implies_true]
    refine arr_full (cs := baseL.map (Value.int .i64 ·)) (T := 123) (f := 0) rfl (by simp [baseL]) (by decide) ?_
    simp (contextual := true) (implicitDefEqProofs := false) (maxSteps := 2000000) (disch := first | rfl | exact NB rfl | omega | (simp only [XL]; omega)) only [andNot16 hn, XX, XA, bin_add, bin_sub, bin_mul, bin_quo, bin_rem, bin_or, bin_xor, bin_eql, bin_neq, bin_lss, bin_leq, bin_gtr, bin_geq, bin_shl, bin_shr, bin_sadd, bin_seql, bin_sneq, lc_block, lc_cond, XZ, undef_eq, Nat.reduceAdd, Nat.reduceSub, ↓reduceIte, basic, cellsL, resOf, setAt, below, belowB, belowA, atomB, Nat.reduceLeDiff, Nat.reduceMul, Int.reduceToNat, Int.reduceLT, Int.reduceLE, Int.reduceAdd, Int.reduceNeg, Int.reduceEq, splice, Nat.reduceEqDiff, Nat.reduceLT, isAtom, Int.reduceSub, Int.reduceMul, implies_true]
    refine index_spec (m.length + 1) 123 baseL _ _ (by simp [baseL]) (by decide) _ (fun k hk _ => ?_) (fun hm => ?_)
    · exfalso
      have hk9 : k < 9 := (List.getElem?_eq_some_iff.mp hk).1
      have h1 := base_get k hk9 _ hk
      have : (List.range 9).find? (fun i => decide (baseL.getD i 0 = ((n - 16 * (n / 16 % 2) : Nat) : Int))) ≠ none := by
        intro hnone
        rw [List.find?_eq_none] at hnone
        exact hnone k (by simpa using hk9) (decide_eq_true h1)
      unfold plainC at h
      split at h
      · cases h
      · rename_i h2; exact this h2
    · simp (contextual := true) (implicitDefEqProofs := false) (maxSteps := 2000000) (disch := first | rfl | exact NB rfl | omega | (simp only [XL]; omega)) only [czero, Ct.val, XW, undef_eq, Nat.reduceAdd, Nat.reduceSub, ↓reduceIte, basic, cellsL, resOf, setAt, below, belowB, belowA, atomB, Nat.reduceLeDiff, Nat.reduceMul, Int.reduceToNat, Int.reduceLT, Int.reduceLE, Int.reduceAdd, Int.reduceNeg, Int.reduceEq, splice, Nat.reduceEqDiff, Nat.reduceLT, isAtom, Int.reduceSub, Int.reduceMul, implies_true]
  · have hpn : plainC n = (0, ⟨6 + (i : Int), 0, 0, p⟩, 1) := by
      have := plainC_at hi p
      rw [← h] at this
      simpa using this
    rw [hpn, h]
    exact plain52_spec hi p m
theorem empty_get (w : Bool) (m : Mem) : Ret Tryd.prog 53 [str [], .bool w] m (.tuple #[czero.val, .int .i64 0, .int .i64 4]) m := by
  refine LCall_drop (LCall_enter Tryd.func53 c53 ?_)
  simp (contextual := true) (implicitDefEqProofs := false) (maxSteps := 2000000) (disch := first | rfl | exact NB rfl | omega | (simp only [XL]; omega)) only [L53, bin_ladd, str_cut, str_app, str_eq, string_mk_size, string_mk, czero, Ct.val, XW, undef_eq, Nat.reduceAdd, Nat.reduceSub, ↓reduceIte, basic, cellsL, resOf, setAt, below, belowB, belowA, atomB, Nat.reduceLeDiff, Nat.reduceMul, Int.reduceToNat, Int.reduceLT, Int.reduceLE, Int.reduceAdd, Int.reduceNeg, Int.reduceEq, splice, Nat.reduceEqDiff, Nat.reduceLT, isAtom, Int.reduceSub, Int.reduceMul, implies_true]
theorem getK_spec (s : List UInt8) (w : Bool) (m : Mem) (hl : s.length ≤ 140737488355328) : Ret Tryd.prog 53 [str s, .bool w] m (.tuple #[(getC s w).2.1.val, .int .i64 (((getC s w).2.2 : Nat) : Int), .int .i64 (getC s w).1]) m := by
  match s, hl with
  | [], _ => exact empty_get w m
  | b :: r, hl =>
    have hn := b.toNat_lt
    have ht : (⟨(b :: r).toArray⟩ : ByteArray).data.toList[0]? = some b := by simp
    by_cases h3 : b.toNat % 4 = 3
    · have e : getC (b :: r) w = plainC b.toNat := by rw [getC, if_pos h3]
      rw [e]
      refine LCall_drop (LCall_enter Tryd.func53 c53 ?_)
      have h3' : (((b.toNat % 4 : Nat) : Int) = 3) = True := eq_true (by omega)
      simp (contextual := true) (implicitDefEqProofs := false) (maxSteps := 2000000) (disch := first | rfl | exact NB rfl | omega | (simp only [XL]; omega)) only [L53, ne_empty ht, ht, u8_wrap, b_and3 hn, h3', XX, XA, bin_add, bin_sub, bin_mul, bin_quo, bin_rem, bin_or, bin_xor, bin_andNot, bin_eql, bin_neq, bin_lss, bin_leq, bin_gtr, bin_geq, bin_shl, bin_sadd, bin_seql, bin_sneq, lc_block, lc_cond, XZ, undef_eq, Nat.reduceAdd, Nat.reduceSub, ↓reduceIte, basic, cellsL, resOf, setAt, below, belowB, belowA, atomB, Nat.reduceLeDiff, Nat.reduceMul, Int.reduceToNat, Int.reduceLT, Int.reduceLE, Int.reduceAdd, Int.reduceNeg, Int.reduceEq, splice, Nat.reduceEqDiff, Nat.reduceLT, isAtom, Int.reduceSub, Int.reduceMul, implies_true]
      refine (plainAll_spec hn _).use ?_
      simp (contextual := true) (implicitDefEqProofs := false) (maxSteps := 2000000) (disch := first | rfl | exact NB rfl | omega | (simp only [XL]; omega)) only [Ct.val, XW, undef_eq, Nat.reduceAdd, Nat.reduceSub, ↓reduceIte, basic, cellsL, resOf, setAt, below, belowB, belowA, atomB, Nat.reduceLeDiff, Nat.reduceMul, Int.reduceToNat, Int.reduceLT, Int.reduceLE, Int.reduceAdd, Int.reduceNeg, Int.reduceEq, splice, Nat.reduceEqDiff, Nat.reduceLT, isAtom, Int.reduceSub, Int.reduceMul, implies_true]
    · cases w with
      | false =>
        have e : getC (b :: r) false = (0, narC b.toNat, 1) := by rw [getC, if_neg h3, if_pos rfl]
        rw [e]
        exact get_narrow _ b ht h3 m
      | true =>
        have e : getC (b :: r) true = wOf b.toNat r := by rw [getC, if_neg h3, if_neg (by decide)]
        rw [e]
        have h3' : (((b.toNat % 4 : Nat) : Int) = 3) = False := eq_false (by omega)
        match r, hl with
        | [], hl =>
          refine LCall_drop (LCall_enter Tryd.func53 c53 ?_)
          simp (contextual := true) (implicitDefEqProofs := false) (maxSteps := 2000000) (disch := first | rfl | exact NB rfl | omega | (simp only [XL]; omega)) only [L53, ne_empty ht, ht, u8_wrap, b_and3 hn, h3', bin_ladd, str_cut, str_app, str_eq, string_mk_size, string_mk, wOf, czero, Ct.val, XX, XA, bin_add, bin_sub, bin_mul, bin_quo, bin_rem, bin_or, bin_xor, bin_andNot, bin_eql, bin_neq, bin_lss, bin_leq, bin_gtr, bin_geq, bin_shl, bin_sadd, bin_seql, bin_sneq, lc_block, lc_cond, XZ, undef_eq, Nat.reduceAdd, Nat.reduceSub, ↓reduceIte, basic, cellsL, resOf, setAt, below, belowB, belowA, atomB, Nat.reduceLeDiff, Nat.reduceMul, Int.reduceToNat, Int.reduceLT, Int.reduceLE, Int.reduceAdd, Int.reduceNeg, Int.reduceEq, splice, Nat.reduceEqDiff, Nat.reduceLT, isAtom, Int.reduceSub, Int.reduceMul, implies_true]
        | c :: r, hl =>
          have hc : (⟨(b :: c :: r).toArray⟩ : ByteArray).data.toList[1]? = some c := by simp
          by_cases h15 : b.toNat % 2 = 0 ∨ b.toNat ≤ 15
          · rw [wOf, if_pos h15]
            exact get_wide _ b c ht hc h3 h15 m
          · rw [wOf, if_neg h15]
            have hnc := c.toNat_lt
            have hsz : (((r.length + 1 + 1 : Nat) : Int) < 2) = False := eq_false (by omega)
            have h2' : (((b.toNat % 2 : Nat) : Int) = 0) = False := eq_false (by omega)
            have h15' : ((15 : Int) < ((b.toNat : Nat) : Int)) = True := eq_true (by omega)
            refine LCall_drop (LCall_enter Tryd.func53 c53 ?_)
            simp (contextual := true) (implicitDefEqProofs := false) (maxSteps := 2000000) (disch := first | rfl | exact NB rfl | omega | (simp only [XL]; omega)) only [L53, ne_empty ht, ht, hc, string_mk_size, hsz, u8_wrap, b_and3 hn, h3', b_and1 hn, b_and1u hnc, b_shr1, b_shr2, h2', h15', czero, Ct.val, XX, XA, bin_add, bin_sub, bin_mul, bin_quo, bin_rem, bin_or, bin_xor, bin_andNot, bin_eql, bin_neq, bin_lss, bin_leq, bin_gtr, bin_geq, bin_shl, bin_sadd, bin_seql, bin_sneq, lc_block, lc_cond, XZ, undef_eq, Nat.reduceAdd, Nat.reduceSub, ↓reduceIte, basic, cellsL, resOf, setAt, below, belowB, belowA, atomB, Nat.reduceLeDiff, Nat.reduceMul, Int.reduceToNat, Int.reduceLT, Int.reduceLE, Int.reduceAdd, Int.reduceNeg, Int.reduceEq, splice, Nat.reduceEqDiff, Nat.reduceLT, isAtom, Int.reduceSub, Int.reduceMul, implies_true]
end Go.Proofs.YtadkdihbbngbfaaDoor.K
/- Frames read: walked; kinds by the document. -/
namespace Go.Proofs.YtadkdihbbngbfaaDoor
open Go.Lg
set_option maxRecDepth 8000
set_option maxHeartbeats 8000000
theorem hasPid_spec (k : Int) (m : Mem) : Ret Tryd.prog 43 [.int .i64 k] m (.bool (K.pidB k)) m := by
  refine LCall_drop (LCall_enter Tryd.func43 c43 ?_)
  by_cases h1 : k = 1 <;> by_cases h2 : k = 12 <;> simp (contextual := true) (implicitDefEqProofs := false) (maxSteps := 2000000) (disch := first | rfl | exact NB rfl | omega | (simp only [XL]; omega)) only [L43, h1, h2, K.pidB, XW, undef_eq, Nat.reduceAdd, Nat.reduceSub, ↓reduceIte, basic, cellsL, resOf, setAt, below, belowB, belowA, atomB, Nat.reduceLeDiff, Nat.reduceMul, Int.reduceToNat, Int.reduceLT, Int.reduceLE, Int.reduceAdd, Int.reduceNeg, Int.reduceEq, splice, Nat.reduceEqDiff, Nat.reduceLT, isAtom, Int.reduceSub, Int.reduceMul, implies_true]
  all_goals simp_all [K.pidB]
theorem hasInfo_spec (k : Int) (m : Mem) : Ret Tryd.prog 65 [.int .i64 k] m (.bool (K.infoB k)) m := by
  refine LCall_drop (LCall_enter Tryd.func65 c65 ?_)
  by_cases h1 : k = 1
  · simp (contextual := true) (implicitDefEqProofs := false) (maxSteps := 2000000) (disch := first | rfl | exact NB rfl | omega | (simp only [XL]; omega)) only [L65, h1, K.infoB, XW, undef_eq, Nat.reduceAdd, Nat.reduceSub, ↓reduceIte, basic, cellsL, resOf, setAt, below, belowB, belowA, atomB, Nat.reduceLeDiff, Nat.reduceMul, Int.reduceToNat, Int.reduceLT, Int.reduceLE, Int.reduceAdd, Int.reduceNeg, Int.reduceEq, splice, Nat.reduceEqDiff, Nat.reduceLT, isAtom, Int.reduceSub, Int.reduceMul, implies_true]
  · by_cases h2 : 11 ≤ k
    · have e : K.infoB k = decide (k ≤ 14) := by
        unfold K.infoB
        by_cases h3 : k ≤ 14
        · rw [decide_eq_true h3, decide_eq_true (by omega)]
        · rw [decide_eq_false h3, decide_eq_false (by omega)]
      rw [e]
      simp (contextual := true) (implicitDefEqProofs := false) (maxSteps := 2000000) (disch := first | rfl | exact NB rfl | omega | (simp only [XL]; omega)) only [L65, h1, h2, XW, undef_eq, Nat.reduceAdd, Nat.reduceSub, ↓reduceIte, basic, cellsL, resOf, setAt, below, belowB, belowA, atomB, Nat.reduceLeDiff, Nat.reduceMul, Int.reduceToNat, Int.reduceLT, Int.reduceLE, Int.reduceAdd, Int.reduceNeg, Int.reduceEq, splice, Nat.reduceEqDiff, Nat.reduceLT, isAtom, Int.reduceSub, Int.reduceMul, implies_true]
    · have e : K.infoB k = false := by unfold K.infoB; exact decide_eq_false (by omega)
      rw [e]
      simp (contextual := true) (implicitDefEqProofs := false) (maxSteps := 2000000) (disch := first | rfl | exact NB rfl | omega | (simp only [XL]; omega)) only [L65, h1, h2, XW, undef_eq, Nat.reduceAdd, Nat.reduceSub, ↓reduceIte, basic, cellsL, resOf, setAt, below, belowB, belowA, atomB, Nat.reduceLeDiff, Nat.reduceMul, Int.reduceToNat, Int.reduceLT, Int.reduceLE, Int.reduceAdd, Int.reduceNeg, Int.reduceEq, splice, Nat.reduceEqDiff, Nat.reduceLT, isAtom, Int.reduceSub, Int.reduceMul, implies_true]
structure Fr where
  L : List En
  c : Ct
  pid : Int
  info : List UInt8
def Fr.zero : Fr := ⟨[], K.czero, 0, []⟩
def decP (c : Ct) (s : List UInt8) : Option (Int × List UInt8) :=
  if K.pidB c.k = true then (match s with
    | [] => none
    | x :: r => some ((x.toNat : Int), r)) else some (0, s)
def decE (L : List En) (c : Ct) : Option (Int × List UInt8) → Int × Fr
  | none => (4, Fr.zero)
  | some (pid, info) => if infoE (K.infoB c.k) info = 0 then (0, ⟨L, c, pid, info⟩) else (infoE (K.infoB c.k) info, Fr.zero)
theorem decE_s {L : List En} {c : Ct} {pid : Int} {info : List UInt8} : decE L c (some (pid, info)) = if infoE (K.infoB c.k) info = 0 then (0, ⟨L, c, pid, info⟩) else (infoE (K.infoB c.k) info, Fr.zero) := rfl
theorem decP_f {c : Ct} {s : List UInt8} (h : K.pidB c.k = false) : decP c s = some (0, s) := by unfold decP; rw [if_neg (by rw [h]; decide)]
theorem decP_n {c : Ct} (h : K.pidB c.k = true) : decP c [] = none := by unfold decP; rw [if_pos h]
theorem decP_c {c : Ct} {q : UInt8} {s : List UInt8} (h : K.pidB c.k = true) : decP c (q :: s) = some ((q.toNat : Int), s) := by unfold decP; rw [if_pos h]
def decF (s : List UInt8) (w : Bool) : Int × Fr :=
  if (getP s 11 []).1 = 0 then
    (if (K.getC (s.drop (7 * (getP s 11 []).2.length)) w).1 = 0 then
      decE (getP s 11 []).2 (K.getC (s.drop (7 * (getP s 11 []).2.length)) w).2.1 (decP (K.getC (s.drop (7 * (getP s 11 []).2.length)) w).2.1 (s.drop (7 * (getP s 11 []).2.length + (K.getC (s.drop (7 * (getP s 11 []).2.length)) w).2.2)))
    else ((K.getC (s.drop (7 * (getP s 11 []).2.length)) w).1, Fr.zero))
  else ((getP s 11 []).1, Fr.zero)
abbrev frV (x y : En) (sv : Value) (f : Fr) : Value := frameV x.b x.s y.b y.s x.k y.k sv f.c f.pid f.info
def zFrame : Value := .agg #[str [], .int .i64 0, str [], .int .i64 0, .bool false, .bool false, .slice none 0 0, .int .i64 0, .int .i64 0, .int .i64 0, .bool false, .int .i64 0, str []]
theorem decode_spec (s : List UInt8) (w : Bool) (hl : s.length ≤ 100000) (m : Mem) : LCall Tryd.prog 30 [str s, .bool w] m fun v M => Frm [] m M ∧
    if (decF s w).1 = 0 then ∃ x y l sv F, (decF s w).2.L = x :: y :: l ∧ v = .tuple #[frV x y sv (decF s w).2, .int .i64 0] ∧ Sl M 89 3 sv F (l.map En.row) ∧ ∀ x ∈ F, m.length ≤ x
    else v = .tuple #[zFrame, .int .i64 (decF s w).1] := by
  refine LCall_enter Tryd.func30 c30 ?_
  simp (contextual := true) (implicitDefEqProofs := false) (maxSteps := 2000000) (disch := first | rfl | exact NB rfl | omega | (simp only [XL]; omega)) only [L30, XW, undef_eq, Nat.reduceAdd, Nat.reduceSub, ↓reduceIte, basic, cellsL, resOf, setAt, below, belowB, belowA, atomB, Nat.reduceLeDiff, Nat.reduceMul, Int.reduceToNat, Int.reduceLT, Int.reduceLE, Int.reduceAdd, Int.reduceNeg, Int.reduceEq, splice, Nat.reduceEqDiff, Nat.reduceLT, isAtom, Int.reduceSub, Int.reduceMul, implies_true]
  refine (getP_spec s hl _).mono ?_
  rintro v M ⟨hf, hv⟩
  have hb0 := hf.get0 (i := m.length) (b := ⟨[.string ⟨#[]⟩, .int .i64 0, .string ⟨#[]⟩, .int .i64 0, .bool false, .bool false, .slice none 0 0, .int .i64 0, .int .i64 0, .int .i64 0, .bool false, .int .i64 0, .string ⟨#[]⟩], 63, 1, 0, .own⟩) (by simp)
  have l0 := lt_of_some hb0
  have hfm : Frm [] m M := (Frm.refl (F := []) (m := m)).app.nil_trans hf
  by_cases h1 : (getP s 11 []).1 = 0
  · have hsh := getP_shape (s := s) (n := 11) (L := []) rfl (by simp) h1
    rw [if_pos h1] at hv
    obtain ⟨x, y, l, sv, F, hL, rfl, hs, hF⟩ := hv
    obtain ⟨sa, rfl, _⟩ := hs.form
    have hdec : decF s w = if (K.getC (s.drop (7 * (getP s 11 []).2.length)) w).1 = 0 then
      decE (getP s 11 []).2 (K.getC (s.drop (7 * (getP s 11 []).2.length)) w).2.1 (decP (K.getC (s.drop (7 * (getP s 11 []).2.length)) w).2.1 (s.drop (7 * (getP s 11 []).2.length + (K.getC (s.drop (7 * (getP s 11 []).2.length)) w).2.2)))
      else ((K.getC (s.drop (7 * (getP s 11 []).2.length)) w).1, Fr.zero) := by rw [decF, if_pos h1]
    rw [hdec]
    clear hdec
    generalize (getP s 11 []).2 = L at hL hsh ⊢
    obtain ⟨hn2, hn10, hns, _, _⟩ := hsh
    obtain ⟨N, hN⟩ : ∃ N, 7 * L.length = N := ⟨_, rfl⟩
    rw [hN] at hns ⊢
    have hc0 : ((0 : Int) ≤ (N : Int)) = True := eq_true (by omega)
    have hc1 : ((N : Int) ≤ (s.length : Int)) = True := eq_true (by omega)
    have hcut : List.take (s.length - N) (List.drop N s) = s.drop N := List.take_of_length_le (by rw [List.length_drop]; exact Nat.le_refl _)
    simp (contextual := true) (implicitDefEqProofs := false) (maxSteps := 2000000) (disch := first | rfl | exact NB rfl | omega | (simp only [XL]; omega)) only [hb0, bin_ladd, str_cut, str_app, str_eq, string_mk_size, string_mk, hc0, hc1, hcut, Int.toNat_natCast, XW, undef_eq, Nat.reduceAdd, Nat.reduceSub, ↓reduceIte, basic, cellsL, resOf, setAt, below, belowB, belowA, atomB, Nat.reduceLeDiff, Nat.reduceMul, Int.reduceToNat, Int.reduceLT, Int.reduceLE, Int.reduceAdd, Int.reduceNeg, Int.reduceEq, splice, Nat.reduceEqDiff, Nat.reduceLT, isAtom, Int.reduceSub, Int.reduceMul, implies_true]
    refine (K.getK_spec (s.drop N) w _ (by rw [List.length_drop]; omega)).use ?_
    have hlen := K.getC_len (s := s.drop N) (w := w)
    have hlen3 := hlen.1
    rw [List.length_drop] at hlen
    generalize K.getC (s.drop N) w = kk at hlen hlen3 ⊢
    obtain ⟨ke, c, n⟩ := kk
    simp only at hlen hlen3 ⊢
    have hfA : ∀ B g, Frm [] m (M.set m.length B ++ g) := fun B g => (hfm.set (i := m.length) (.inr (Nat.le_refl _))).app
    have hsA : ∀ B g, Sl (M.set m.length B ++ g) 89 3 (.slice sa (l.map En.row).length (l.map En.row).length) F (l.map En.row) := fun B g => (hs.setb (fun hx => by have := hF _ hx; simp only [List.length_append, List.length_cons, List.length_nil] at this; omega)).frm0 Frm.refl.app
    by_cases h2 : ke = 0
    · subst h2
      rw [if_pos rfl]
      have hn0 : ((0 : Int) ≤ (n : Int)) = True := eq_true (by omega)
      have hn1 : ((n : Int) ≤ ((s.drop N).length : Int)) = True := eq_true (by rw [List.length_drop]; omega)
      have hcut2 : List.take ((s.drop N).length - n) (List.drop n (s.drop N)) = s.drop (N + n) := by
        rw [List.drop_drop, List.take_of_length_le (by rw [List.length_drop, List.length_drop]; omega)]
      simp (contextual := true) (implicitDefEqProofs := false) (maxSteps := 2000000) (disch := first | rfl | exact NB rfl | omega | (simp only [XL]; omega)) only [hb0, bin_ladd, str_cut, str_app, str_eq, string_mk_size, string_mk, hn0, hn1, hcut2, Int.toNat_natCast, Ct.val, XW, undef_eq, Nat.reduceAdd, Nat.reduceSub, ↓reduceIte, basic, cellsL, resOf, setAt, below, belowB, belowA, atomB, Nat.reduceLeDiff, Nat.reduceMul, Int.reduceToNat, Int.reduceLT, Int.reduceLE, Int.reduceAdd, Int.reduceNeg, Int.reduceEq, splice, Nat.reduceEqDiff, Nat.reduceLT, isAtom, Int.reduceSub, Int.reduceMul, implies_true]
      refine (K.pid_spec _ _).use ?_
      have hFm : ∀ z ∈ F, m.length ≤ z := fun z hz => by have := hF z hz; simp only [List.length_append, List.length_cons, List.length_nil] at this; omega
      have hdl : (s.drop (N + n)).length ≤ 100000 := by rw [List.length_drop]; omega
      cases hb : K.pidB c.k with
      | false =>
        have hdp : decP c (s.drop (N + n)) = some (0, s.drop (N + n)) := decP_f hb
        rw [hdp]
        generalize s.drop (N + n) = info at hdl ⊢
        simp (contextual := true) (implicitDefEqProofs := false) (maxSteps := 2000000) (disch := first | rfl | exact NB rfl | omega | (simp only [XL]; omega)) only [hb0, bin_ladd, str_cut, str_app, str_eq, string_mk_size, string_mk, XW, undef_eq, Nat.reduceAdd, Nat.reduceSub, ↓reduceIte, basic, cellsL, resOf, setAt, below, belowB, belowA, atomB, Nat.reduceLeDiff, Nat.reduceMul, Int.reduceToNat, Int.reduceLT, Int.reduceLE, Int.reduceAdd, Int.reduceNeg, Int.reduceEq, splice, Nat.reduceEqDiff, Nat.reduceLT, isAtom, Int.reduceSub, Int.reduceMul, implies_true]
        refine (info_spec (c := c) (fun m => K.info_spec _ m) (by omega)).use ?_
        rw [decE_s]
        by_cases hi : infoE (K.infoB c.k) info = 0
        · rw [if_pos hi, hi]
          simp (contextual := true) (implicitDefEqProofs := false) (maxSteps := 2000000) (disch := first | rfl | exact NB rfl | omega | (simp only [XL]; omega)) only [hb0, XW, undef_eq, Nat.reduceAdd, Nat.reduceSub, ↓reduceIte, basic, cellsL, resOf, setAt, below, belowB, belowA, atomB, Nat.reduceLeDiff, Nat.reduceMul, Int.reduceToNat, Int.reduceLT, Int.reduceLE, Int.reduceAdd, Int.reduceNeg, Int.reduceEq, splice, Nat.reduceEqDiff, Nat.reduceLT, isAtom, Int.reduceSub, Int.reduceMul, implies_true]
          exact ⟨hfA _ _, x, y, l, _, F, hL, rfl, hsA _ _, hFm⟩
        · rw [if_neg hi]
          have hi' : (infoE (K.infoB c.k) info = 0) = False := eq_false hi
          simp (contextual := true) (implicitDefEqProofs := false) (maxSteps := 2000000) (disch := first | rfl | exact NB rfl | omega | (simp only [XL]; omega)) only [hb0, hi', zFrame, XW, undef_eq, Nat.reduceAdd, Nat.reduceSub, ↓reduceIte, basic, cellsL, resOf, setAt, below, belowB, belowA, atomB, Nat.reduceLeDiff, Nat.reduceMul, Int.reduceToNat, Int.reduceLT, Int.reduceLE, Int.reduceAdd, Int.reduceNeg, Int.reduceEq, splice, Nat.reduceEqDiff, Nat.reduceLT, isAtom, Int.reduceSub, Int.reduceMul, implies_true]
          exact hfA _ _
      | true =>
        match hd : s.drop (N + n), hdl with
        | [], _ =>
          have hdp : decP c [] = none := decP_n hb
          rw [hdp]
          simp (contextual := true) (implicitDefEqProofs := false) (maxSteps := 2000000) (disch := first | rfl | exact NB rfl | omega | (simp only [XL]; omega)) only [hb0, bin_ladd, str_cut, str_app, str_eq, string_mk_size, string_mk, decE, zFrame, XW, undef_eq, Nat.reduceAdd, Nat.reduceSub, ↓reduceIte, basic, cellsL, resOf, setAt, below, belowB, belowA, atomB, Nat.reduceLeDiff, Nat.reduceMul, Int.reduceToNat, Int.reduceLT, Int.reduceLE, Int.reduceAdd, Int.reduceNeg, Int.reduceEq, splice, Nat.reduceEqDiff, Nat.reduceLT, isAtom, Int.reduceSub, Int.reduceMul, implies_true]
          exact hfA _ _
        | q :: info, hdl =>
          have hdp : decP c (q :: info) = some ((q.toNat : Int), info) := decP_c hb
          rw [hdp]
          have hx0 : (⟨(q :: info).toArray⟩ : ByteArray).data.toList[0]? = some q := by simp
          have hne : (q :: info = []) = False := by simp
          have h1l : ((1 : Int) ≤ (((q :: info).length : Nat) : Int)) = True := eq_true (by simp only [List.length_cons]; omega)
          have hwq : IntKind.i64.wrap (q.toNat : Int) = (q.toNat : Int) := K.u8_wrap q
          have hcut3 : List.take ((q :: info).length - 1) (List.drop 1 (q :: info)) = info := by simp
          have hl1 : info.length + 1 - 1 = info.length := rfl
          have htk : List.take info.length info = info := List.take_of_length_le (Nat.le_refl _)
          simp (contextual := true) (implicitDefEqProofs := false) (maxSteps := 2000000) (disch := first | rfl | exact NB rfl | omega | (simp only [XL]; omega)) only [hb0, bin_ladd, str_cut, str_app, str_eq, string_mk_size, string_mk, hx0, hne, h1l, hwq, hcut3, hl1, htk, Int.toNat_natCast, XW, undef_eq, Nat.reduceAdd, Nat.reduceSub, ↓reduceIte, basic, cellsL, resOf, setAt, below, belowB, belowA, atomB, Nat.reduceLeDiff, Nat.reduceMul, Int.reduceToNat, Int.reduceLT, Int.reduceLE, Int.reduceAdd, Int.reduceNeg, Int.reduceEq, splice, Nat.reduceEqDiff, Nat.reduceLT, isAtom, Int.reduceSub, Int.reduceMul, implies_true]
          simp only [List.length_cons] at hdl
          refine (info_spec (c := c) (fun m => K.info_spec _ m) (by omega)).use ?_
          rw [decE_s]
          by_cases hi : infoE (K.infoB c.k) info = 0
          · rw [if_pos hi, hi]
            simp (contextual := true) (implicitDefEqProofs := false) (maxSteps := 2000000) (disch := first | rfl | exact NB rfl | omega | (simp only [XL]; omega)) only [hb0, XW, undef_eq, Nat.reduceAdd, Nat.reduceSub, ↓reduceIte, basic, cellsL, resOf, setAt, below, belowB, belowA, atomB, Nat.reduceLeDiff, Nat.reduceMul, Int.reduceToNat, Int.reduceLT, Int.reduceLE, Int.reduceAdd, Int.reduceNeg, Int.reduceEq, splice, Nat.reduceEqDiff, Nat.reduceLT, isAtom, Int.reduceSub, Int.reduceMul, implies_true]
            exact ⟨hfA _ _, x, y, l, _, F, hL, rfl, hsA _ _, hFm⟩
          · rw [if_neg hi]
            have hi' : (infoE (K.infoB c.k) info = 0) = False := eq_false hi
            simp (contextual := true) (implicitDefEqProofs := false) (maxSteps := 2000000) (disch := first | rfl | exact NB rfl | omega | (simp only [XL]; omega)) only [hb0, hi', zFrame, XW, undef_eq, Nat.reduceAdd, Nat.reduceSub, ↓reduceIte, basic, cellsL, resOf, setAt, below, belowB, belowA, atomB, Nat.reduceLeDiff, Nat.reduceMul, Int.reduceToNat, Int.reduceLT, Int.reduceLE, Int.reduceAdd, Int.reduceNeg, Int.reduceEq, splice, Nat.reduceEqDiff, Nat.reduceLT, isAtom, Int.reduceSub, Int.reduceMul, implies_true]
            exact hfA _ _
    · rw [if_neg h2]
      have h2' : (ke = 0) = False := eq_false h2
      simp (contextual := true) (implicitDefEqProofs := false) (maxSteps := 2000000) (disch := first | rfl | exact NB rfl | omega | (simp only [XL]; omega)) only [hb0, bin_ladd, str_cut, str_app, str_eq, string_mk_size, string_mk, h2', zFrame, Ct.val, XW, undef_eq, Nat.reduceAdd, Nat.reduceSub, ↓reduceIte, basic, cellsL, resOf, setAt, below, belowB, belowA, atomB, Nat.reduceLeDiff, Nat.reduceMul, Int.reduceToNat, Int.reduceLT, Int.reduceLE, Int.reduceAdd, Int.reduceNeg, Int.reduceEq, splice, Nat.reduceEqDiff, Nat.reduceLT, isAtom, Int.reduceSub, Int.reduceMul, implies_true]
      exact hfA _ _
  · rw [if_neg h1] at hv
    have hdec : decF s w = ((getP s 11 []).1, Fr.zero) := by rw [decF, if_neg h1]
    have h1' : ((getP s 11 []).1 = 0) = False := eq_false h1
    subst hv
    rw [hdec]
    simp (contextual := true) (implicitDefEqProofs := false) (maxSteps := 2000000) (disch := first | rfl | exact NB rfl | omega | (simp only [XL]; omega)) only [hb0, h1', bin_ladd, str_cut, str_app, str_eq, string_mk_size, string_mk, zFrame, Fr.zero, XW, undef_eq, Nat.reduceAdd, Nat.reduceSub, ↓reduceIte, basic, cellsL, resOf, setAt, below, belowB, belowA, atomB, Nat.reduceLeDiff, Nat.reduceMul, Int.reduceToNat, Int.reduceLT, Int.reduceLE, Int.reduceAdd, Int.reduceNeg, Int.reduceEq, splice, Nat.reduceEqDiff, Nat.reduceLT, isAtom, Int.reduceSub, Int.reduceMul, implies_true]
    exact (hfm.set (i := m.length) (.inr (Nat.le_refl _))).app
end Go.Proofs.YtadkdihbbngbfaaDoor
/- What was encoded is read: frames; plain. -/
namespace Go.Proofs.YtadkdihbbngbfaaDoor
open Go.Lg
set_option maxRecDepth 8000
def Ct.bytes (c : Ct) (w : Bool) : List UInt8 := K.strL (K.putL8 c.k c.ns c.nr c.pf w)
def Ct.right (c : Ct) (w : Bool) : Bool := K.rightC c.k c.ns c.nr w
theorem decF_enc {L : List En} {c : Ct} {w : Bool} {pid : Int} {info : List UInt8} (hok : ∀ e ∈ L, e.ok = true) (h2 : 2 ≤ L.length) (h10 : L.length ≤ 10) (hB : ordB (L.drop 2) = true)
    (hc : c.right w = true) (hp : 0 ≤ pid ∧ pid ≤ 255) (hp0 : pid ≠ 0 → K.pidB c.k = true) (hi : infoE (K.infoB c.k) info = 0) :
    decF (encF L (c.bytes w) (K.pidB c.k) pid info) w = (0, ⟨L, c, pid, info⟩) := by
  have e0 : encF L (c.bytes w) (K.pidB c.k) pid info = putE L ++ (c.bytes w ++ ((if K.pidB c.k = true then [UInt8.ofNat pid.toNat] else []) ++ info)) := by
    unfold encF; simp only [List.append_assoc]
  have hg := getP_put (rest := c.bytes w ++ ((if K.pidB c.k = true then [UInt8.ofNat pid.toNat] else []) ++ info)) hok h2 h10 hB
  have hd : (putE L ++ (c.bytes w ++ ((if K.pidB c.k = true then [UInt8.ofNat pid.toNat] else []) ++ info))).drop (7 * L.length) = c.bytes w ++ ((if K.pidB c.k = true then [UInt8.ofNat pid.toNat] else []) ++ info) := List.drop_left' putE_len
  have hk := K.getC_put (p := c.pf) hc ((if K.pidB c.k = true then [UInt8.ofNat pid.toNat] else []) ++ info)
  have hl : (c.bytes w).length = (K.putL8 c.k c.ns c.nr c.pf w).length := K.strL_len
  have hd2 : (putE L ++ (c.bytes w ++ ((if K.pidB c.k = true then [UInt8.ofNat pid.toNat] else []) ++ info))).drop (7 * L.length + (K.putL8 c.k c.ns c.nr c.pf w).length) = (if K.pidB c.k = true then [UInt8.ofNat pid.toNat] else []) ++ info := by
    rw [← List.drop_drop, hd, ← hl, List.drop_left]
  rw [e0, decF, hg]
  simp only [if_true]
  rw [hd]
  change (if (K.getC (K.strL (K.putL8 c.k c.ns c.nr c.pf w) ++ ((if K.pidB c.k = true then [UInt8.ofNat pid.toNat] else []) ++ info)) w).1 = 0 then _ else _) = _
  have hk2 : K.getC (c.bytes w ++ ((if K.pidB c.k = true then [UInt8.ofNat pid.toNat] else []) ++ info)) w = (0, ⟨c.k, c.ns, c.nr, c.pf⟩, (K.putL8 c.k c.ns c.nr c.pf w).length) := hk
  rw [hk2, hk, if_pos rfl, hd2]
  cases hb : K.pidB c.k with
  | true =>
    have e1 : decP (⟨c.k, c.ns, c.nr, c.pf⟩ : Ct) ((if true = true then [UInt8.ofNat pid.toNat] else []) ++ info) = some (pid, info) := by
      unfold decP
      rw [if_pos hb, if_pos rfl]
      show some (((UInt8.ofNat pid.toNat).toNat : Int), info) = _
      rw [u8_of (by omega), show ((pid.toNat : Nat) : Int) = pid by omega]
    show decE L (⟨c.k, c.ns, c.nr, c.pf⟩ : Ct) (decP (⟨c.k, c.ns, c.nr, c.pf⟩ : Ct) ((if true = true then [UInt8.ofNat pid.toNat] else []) ++ info)) = _
    rw [e1]
    show (if infoE (K.infoB c.k) info = 0 then _ else _) = _
    rw [if_pos hi]
  | false =>
    have hpz : pid = 0 := by
      by_cases h : pid = 0
      · exact h
      · have := hp0 h; rw [hb] at this; cases this
    have e1 : decP (⟨c.k, c.ns, c.nr, c.pf⟩ : Ct) ((if false = true then [UInt8.ofNat pid.toNat] else []) ++ info) = some (0, info) := by
      unfold decP
      rw [if_neg (by rw [hb]; decide), if_neg (by decide)]; rfl
    show decE L (⟨c.k, c.ns, c.nr, c.pf⟩ : Ct) (decP (⟨c.k, c.ns, c.nr, c.pf⟩ : Ct) ((if false = true then [UInt8.ofNat pid.toNat] else []) ++ info)) = _
    rw [e1]
    show (if infoE (K.infoB c.k) info = 0 then _ else _) = _
    rw [if_pos hi, hpz]
theorem decE_some {L : List En} {c : Ct} {o : Option (Int × List UInt8)} (h : (decE L c o).1 = 0) : ∃ pid info, o = some (pid, info) ∧ (decE L c o).2 = ⟨L, c, pid, info⟩ ∧ infoE (K.infoB c.k) info = 0 := by
  match o, h with
  | none, h => cases h
  | some (pid, info), h =>
    simp only [decE] at h ⊢
    by_cases hi : infoE (K.infoB c.k) info = 0
    · rw [if_pos hi]; exact ⟨pid, info, rfl, rfl, hi⟩
    · rw [if_neg hi] at h; exact absurd h hi
theorem decF_ok {s : List UInt8} {w : Bool} (h : (decF s w).1 = 0) : (getP s 11 []).1 = 0 ∧ (decF s w).2.L = (getP s 11 []).2 ∧ (K.getC (s.drop (7 * (getP s 11 []).2.length)) w).1 = 0 ∧ (decF s w).2.c = (K.getC (s.drop (7 * (getP s 11 []).2.length)) w).2.1 := by
  by_cases h1 : (getP s 11 []).1 = 0
  · by_cases h2 : (K.getC (s.drop (7 * (getP s 11 []).2.length)) w).1 = 0
    · rw [decF, if_pos h1, if_pos h2] at h ⊢
      obtain ⟨pid, info, _, e, _⟩ := decE_some h
      rw [e]
      exact ⟨h1, rfl, h2, rfl⟩
    · rw [decF, if_pos h1, if_neg h2] at h
      exact absurd h h2
  · rw [decF, if_neg h1] at h
    exact absurd h h1
end Go.Proofs.YtadkdihbbngbfaaDoor
/- Paths and frames by the document: walked. -/
namespace Go.Proofs.YtadkdihbbngbfaaDoor
open Go.Lg
set_option maxRecDepth 8000
set_option maxHeartbeats 8000000
theorem kAt_up {x y : En} {l : List En} {i : Nat} : kAtE (x :: y :: l) (i + 2) = kAtE l i := by simp [kAtE]
theorem reford_spec {x y : En} {l : List En} {v : Value} {m : Mem} (h : Rd m 3 v ((x :: y :: l).map En.row)) (hn : l.length ≤ 1000000) : Ret Tryd.prog 24 [v] m (.bool (ordB l)) m := by
  obtain ⟨L, hL⟩ : ∃ L, x :: y :: l = L := ⟨_, rfl⟩
  have hLl : L.length = l.length + 2 := by rw [← hL]; rfl
  have hk : ∀ i, kAtE L (i + 2) = kAtE l i := fun i => by rw [← hL]; exact kAt_up
  rw [hL] at h
  obtain ⟨a, rfl, hform⟩ := h
  simp only [List.length_map] at hform ⊢
  refine LCall_drop (LCall_enter Tryd.func24 c24 ?_)
  simp (contextual := true) (implicitDefEqProofs := false) (maxSteps := 2000000) (disch := first | rfl | exact NB rfl | omega | (simp only [XL]; omega)) only [L24, XW, undef_eq, Nat.reduceAdd, Nat.reduceSub, ↓reduceIte, basic, cellsL, resOf, setAt, below, belowB, belowA, atomB, Nat.reduceLeDiff, Nat.reduceMul, Int.reduceToNat, Int.reduceLT, Int.reduceLE, Int.reduceAdd, Int.reduceNeg, Int.reduceEq, splice, Nat.reduceEqDiff, Nat.reduceLT, isAtom, Int.reduceSub, Int.reduceMul, implies_true]
  have h1 : ∀ l : List En, ordTo l 1 = true := fun l => rfl
  refine loop_inv (fun n t M => ∃ (j : Nat), n = L.length + 1 - (j + 2) ∧ 1 ≤ j ∧ (j ≤ l.length ∨ j = 1) ∧ ordTo l j = true ∧ M = m ∧
    Tab 24 [(0, .slice a L.length L.length), (3, .int .i64 ((j + 2 : Nat) : Int))] t) (n := L.length + 1 - 3) ?_ ?_
  · exact ⟨1, rfl, Nat.le_refl _, .inr rfl, h1 _, rfl, ⟨rfl, by simp⟩⟩
  rintro N t m ⟨j, rfl, hj1, hj, hx, rfl, ht⟩
  obtain ⟨f, rfl⟩ : ∃ f' : Nat → Value, t = [.slice a L.length L.length, f' 1, f' 2, .int .i64 ((j + 2 : Nat) : Int), f' 4, f' 5, f' 6, f' 7, f' 8, f' 9, f' 10, f' 11, f' 12, f' 13, f' 14, f' 15, f' 16, f' 17, f' 18, f' 19, f' 20, f' 21, f' 22, f' 23] := ht.open fun f' => rfl
  by_cases hlt : j + 2 < L.length
  · have hlt' : (((j + 2 : Nat) : Int) < (L.length : Int)) = True := eq_true (by omega)
    have h0' : ((0 : Int) ≤ ((j + 2 : Nat) : Int)) = True := eq_true (by omega)
    have hwj : IntKind.i64.wrap (((j + 2 : Nat) : Int) + 1) = ((j + 1 + 2 : Nat) : Int) := by rw [wrap_i64 (by omega) (by omega)]; omega
    have hwm : IntKind.i64.wrap (((j + 2 : Nat) : Int) - 1) = ((j + 1 : Nat) : Int) := by rw [wrap_i64 (by omega) (by omega)]; omega
    obtain ⟨b, o, cs, T, fz, kd, rfl, hb, hkd, hl, hrow⟩ := hform (by omega)
    obtain ⟨e, he⟩ : ∃ r, L[j + 2]? = some r := ⟨L[j + 2], List.getElem?_eq_getElem hlt⟩
    obtain ⟨e2, he2⟩ : ∃ r, L[j + 1]? = some r := ⟨L[j + 1], List.getElem?_eq_getElem (by omega)⟩
    have hr : (cs.drop (o + (j + 2) * 3)).take 3 = [str e.b, .int .i64 e.s, .bool e.k] := hrow (j + 2) e.row (by simp [he])
    have hr2 : (cs.drop (o + (j + 1) * 3)).take 3 = [str e2.b, .int .i64 e2.s, .bool e2.k] := hrow (j + 1) e2.row (by simp [he2])
    have hc1 : cs[o + (j + 2) * 3 + 2]? = some (.bool e.k) := row_cell hr (j := 2) (by omega)
    have hc2 : cs[o + (j + 1) * 3 + 2]? = some (.bool e2.k) := row_cell hr2 (j := 2) (by omega)
    have hb0 := lt_of_some hb
    have hke : kAtE l j = e.k := by rw [← hk]; simp [kAtE, he]
    have hke2 : kAtE l (j - 1) = e2.k := by rw [← hk, show j - 1 + 2 = j + 1 by omega]; simp [kAtE, he2]
    have hlt2 : (((j + 1 : Nat) : Int) < (L.length : Int)) = True := eq_true (by omega)
    have h02 : ((0 : Int) ≤ ((j + 1 : Nat) : Int)) = True := eq_true (by omega)
    cases hek : e.k with
    | false =>
      simp (contextual := true) (implicitDefEqProofs := false) (maxSteps := 2000000) (disch := first | rfl | exact NB rfl | omega | (simp only [XL]; omega)) only [hb, hlt', h0', hc1, hek, cellB_l hkd, Int.toNat_natCast, XW, undef_eq, Nat.reduceAdd, Nat.reduceSub, ↓reduceIte, basic, cellsL, resOf, setAt, below, belowB, belowA, atomB, Nat.reduceLeDiff, Nat.reduceMul, Int.reduceToNat, Int.reduceLT, Int.reduceLE, Int.reduceAdd, Int.reduceNeg, Int.reduceEq, splice, Nat.reduceEqDiff, Nat.reduceLT, isAtom, Int.reduceSub, Int.reduceMul, implies_true]
      exact kInv_go ⟨j + 1, rfl, by omega, .inl (by omega), by rw [ordTo_succ, hx, hke, hek]; simp, rfl, ⟨rfl, by simp [hwj]; omega⟩⟩ (by omega)
    | true =>
      cases hek2 : e2.k with
      | true =>
        simp (contextual := true) (implicitDefEqProofs := false) (maxSteps := 2000000) (disch := first | rfl | exact NB rfl | omega | (simp only [XL]; omega)) only [hb, hlt', h0', hc1, hek, hwm, hlt2, h02, hc2, hek2, cellB_l hkd, Int.toNat_natCast, XW, undef_eq, Nat.reduceAdd, Nat.reduceSub, ↓reduceIte, basic, cellsL, resOf, setAt, below, belowB, belowA, atomB, Nat.reduceLeDiff, Nat.reduceMul, Int.reduceToNat, Int.reduceLT, Int.reduceLE, Int.reduceAdd, Int.reduceNeg, Int.reduceEq, splice, Nat.reduceEqDiff, Nat.reduceLT, isAtom, Int.reduceSub, Int.reduceMul, implies_true]
        exact kInv_go ⟨j + 1, rfl, by omega, .inl (by omega), by rw [ordTo_succ, hx, hke2, hek2]; simp, rfl, ⟨rfl, by simp [hwj]; omega⟩⟩ (by omega)
      | false =>
        have hbad : ordTo l (j + 1) = false := by rw [ordTo_succ, hx, hke, hek, hke2, hek2]; simp; omega
        have hB : ordB l = false := ordTo_le (by omega) hbad
        rw [hB]
        simp (contextual := true) (implicitDefEqProofs := false) (maxSteps := 2000000) (disch := first | rfl | exact NB rfl | omega | (simp only [XL]; omega)) only [hb, hlt', h0', hc1, hek, hwm, hlt2, h02, hc2, hek2, cellB_l hkd, Int.toNat_natCast, XW, undef_eq, Nat.reduceAdd, Nat.reduceSub, ↓reduceIte, basic, cellsL, resOf, setAt, below, belowB, belowA, atomB, Nat.reduceLeDiff, Nat.reduceMul, Int.reduceToNat, Int.reduceLT, Int.reduceLE, Int.reduceAdd, Int.reduceNeg, Int.reduceEq, splice, Nat.reduceEqDiff, Nat.reduceLT, isAtom, Int.reduceSub, Int.reduceMul, implies_true]
  · have hlt' : (((j + 2 : Nat) : Int) < (L.length : Int)) = False := eq_false (by omega)
    have hB : ordB l = true := by
      rcases hj with hj | hj
      · rw [ordB, show l.length = j by omega]; exact hx
      · subst hj
        cases hB : ordB l with
        | true => rfl
        | false =>
          rw [ordB] at hB
          match hl0 : l.length, hB with
          | 0, hB => exact absurd hB (by simp [ordTo])
          | 1, hB => rw [h1] at hB; cases hB
          | n + 2, _ => omega
    rw [hB]
    simp (contextual := true) (implicitDefEqProofs := false) (maxSteps := 2000000) (disch := first | rfl | exact NB rfl | omega | (simp only [XL]; omega)) only [hlt', XW, undef_eq, Nat.reduceAdd, Nat.reduceSub, ↓reduceIte, basic, cellsL, resOf, setAt, below, belowB, belowA, atomB, Nat.reduceLeDiff, Nat.reduceMul, Int.reduceToNat, Int.reduceLT, Int.reduceLE, Int.reduceAdd, Int.reduceNeg, Int.reduceEq, splice, Nat.reduceEqDiff, Nat.reduceLT, isAtom, Int.reduceSub, Int.reduceMul, implies_true]
theorem rightP_all {x y : En} {l : List En} : rightP x.b x.s y.b y.s l = ((x :: y :: l).all En.ok && (ordB l && decide (l.length ≤ 8))) := by
  have h : (!(l.any fun e => !e.ok)) = l.all En.ok := by
    rw [List.any_eq_not_all_not]; simp
  rw [rightP, h, List.all_cons, List.all_cons]
  simp only [En.ok, Bool.and_assoc]
theorem refputP_spec {L : List En} {v : Value} {m : Mem} (h : Rd m 3 v (L.map En.row)) (hn : L.length ≤ 10) (hok : ∀ e ∈ L, e.ok = true) : Ret Tryd.prog 33 [.agg #[v]] m (str (putE L)) m := by
  obtain ⟨a, rfl, hform⟩ := h
  simp only [List.length_map] at hform ⊢
  refine LCall_drop (LCall_enter Tryd.func33 c33 ?_)
  simp (contextual := true) (implicitDefEqProofs := false) (maxSteps := 2000000) (disch := first | rfl | exact NB rfl | omega | (simp only [XL]; omega)) only [L33, XW, undef_eq, Nat.reduceAdd, Nat.reduceSub, ↓reduceIte, basic, cellsL, resOf, setAt, below, belowB, belowA, atomB, Nat.reduceLeDiff, Nat.reduceMul, Int.reduceToNat, Int.reduceLT, Int.reduceLE, Int.reduceAdd, Int.reduceNeg, Int.reduceEq, splice, Nat.reduceEqDiff, Nat.reduceLT, isAtom, Int.reduceSub, Int.reduceMul, implies_true]
  obtain ⟨M0, hM, hf0, hb0⟩ : ∃ M0, m ++ [⟨[.slice a L.length L.length], 28, 1, 0, .own⟩] = M0 ∧ Frm [] m M0 ∧ M0[m.length]? = some ⟨[.slice a L.length L.length], 28, 1, 0, .own⟩ := ⟨_, rfl, Frm.refl.app, by simp⟩
  rw [hM]
  have hext : ext m M0 := ⟨_, hM.symm⟩
  clear hM
  have l0 := lt_of_some hb0
  refine loop_inv (fun n t M => ∃ (j : Nat), n = L.length - j ∧ j ≤ L.length ∧ M = M0 ∧
    Tab 34 [(1, .pointer (some ⟨m.length, 0, none⟩)), (3, str (putTo L j)), (4, .int .i64 (j : Int))] t) (n := L.length) ?_ ?_
  · exact ⟨0, rfl, Nat.zero_le _, rfl, ⟨rfl, by simp [putTo]⟩⟩
  rintro N t M ⟨j, rfl, hj, rfl, ht⟩
  obtain ⟨f, rfl⟩ : ∃ f' : Nat → Value, t = [f' 0, .pointer (some ⟨m.length, 0, none⟩), f' 2, str (putTo L j), .int .i64 (j : Int), f' 5, f' 6, f' 7, f' 8, f' 9, f' 10, f' 11, f' 12, f' 13, f' 14, f' 15, f' 16, f' 17, f' 18, f' 19, f' 20, f' 21, f' 22, f' 23, f' 24, f' 25, f' 26, f' 27, f' 28, f' 29, f' 30, f' 31, f' 32, f' 33] := ht.open fun f' => rfl
  by_cases hlt : j < L.length
  · have hlt' : ((j : Int) < (L.length : Int)) = True := by simp [hlt]
    have h0' : ((0 : Int) ≤ (j : Int)) = True := by simp
    have hwj : IntKind.i64.wrap ((j : Int) + 1) = ((j + 1 : Nat) : Int) := by rw [wrap_i64 (by omega) (by omega)]; omega
    obtain ⟨b, o, cs, T, fz, kd, rfl, hb, hkd, hl, hrow⟩ := hform (by omega)
    obtain ⟨e, he⟩ : ∃ r, L[j]? = some r := ⟨L[j], List.getElem?_eq_getElem hlt⟩
    have hr : (cs.drop (o + j * 3)).take 3 = [str e.b, .int .i64 e.s, .bool e.k] := hrow j e.row (by simp [he])
    have hr2 : (cs.drop (o + j * 3)).take 2 = [str e.b, .int .i64 e.s] := by
      have := congrArg (List.take 2) hr
      rwa [List.take_take] at this
    have hc2 : cs[o + j * 3 + 2]? = some (.bool e.k) := row_cell hr (j := 2) (by omega)
    have hlen : o + j * 3 + 2 ≤ cs.length := by omega
    have hbM := hf0.get0 hb
    have hbl := lt_of_some hbM
    have heq : ((j : Int) = (L.length : Int) - 1) = (j + 1 = L.length) := by apply propext; omega
    have hpl := putTo_len (L := L) (j := j) (by omega)
    have hcl : (putC e.b e.s e.k (decide (j + 1 = L.length))).length = 7 := putC_len
    simp (contextual := true) (implicitDefEqProofs := false) (maxSteps := 2000000) (disch := first | rfl | exact NB rfl | omega | (simp only [XL]; omega)) only [hb0, hbM, hlt', h0', hr2, hc2, heq, cellsB_l hkd hlen, cellB_l hkd, Int.toNat_natCast, XW, undef_eq, Nat.reduceAdd, Nat.reduceSub, ↓reduceIte, basic, cellsL, resOf, setAt, below, belowB, belowA, atomB, Nat.reduceLeDiff, Nat.reduceMul, Int.reduceToNat, Int.reduceLT, Int.reduceLE, Int.reduceAdd, Int.reduceNeg, Int.reduceEq, splice, Nat.reduceEqDiff, Nat.reduceLT, isAtom, Int.reduceSub, Int.reduceMul, implies_true]
    refine (refput_spec e.b e.s e.k (decide (j + 1 = L.length)) (hok e (List.mem_of_getElem? he)) _).use ?_
    simp (contextual := true) (implicitDefEqProofs := false) (maxSteps := 2000000) (disch := first | rfl | exact NB rfl | omega | (simp only [XL]; omega)) only [hb0, hbM, hlt', h0', hr2, hc2, heq, cellsB_l hkd hlen, cellB_l hkd, hpl, hcl, bin_ladd, str_cut, str_app, str_eq, string_mk_size, string_mk, Int.toNat_natCast, XW, undef_eq, Nat.reduceAdd, Nat.reduceSub, ↓reduceIte, basic, cellsL, resOf, setAt, below, belowB, belowA, atomB, Nat.reduceLeDiff, Nat.reduceMul, Int.reduceToNat, Int.reduceLT, Int.reduceLE, Int.reduceAdd, Int.reduceNeg, Int.reduceEq, splice, Nat.reduceEqDiff, Nat.reduceLT, isAtom, Int.reduceSub, Int.reduceMul, implies_true]
    exact kInv_go ⟨j + 1, rfl, by omega, rfl, ⟨rfl, by simp [hwj, putTo_succ he]⟩⟩ (by omega)
  · have hlt' : ((j : Int) < (L.length : Int)) = False := by simp; omega
    have hjl : j = L.length := by omega
    subst hjl
    simp (contextual := true) (implicitDefEqProofs := false) (maxSteps := 2000000) (disch := first | rfl | exact NB rfl | omega | (simp only [XL]; omega)) only [hlt', hb0, putE, XW, undef_eq, Nat.reduceAdd, Nat.reduceSub, ↓reduceIte, basic, cellsL, resOf, setAt, below, belowB, belowA, atomB, Nat.reduceLeDiff, Nat.reduceMul, Int.reduceToNat, Int.reduceLT, Int.reduceLE, Int.reduceAdd, Int.reduceNeg, Int.reduceEq, splice, Nat.reduceEqDiff, Nat.reduceLT, isAtom, Int.reduceSub, Int.reduceMul, implies_true]
    exact hext
end Go.Proofs.YtadkdihbbngbfaaDoor
/- Information by the document: walked. -/
namespace Go.Proofs.YtadkdihbbngbfaaDoor
open Go.Lg
set_option maxRecDepth 8000
set_option maxHeartbeats 8000000
abbrev rframeV (v : Value) (c : Ct) (pid : Int) (info : List UInt8) : Value := .agg #[v, .int .i64 c.k, .int .i64 c.ns, .int .i64 c.nr, .bool c.pf, .int .i64 pid, str info]
theorem rinfo_spec {sa : Option Addr} {n : Nat} {c : Ct} {pid : Int} {info : List UInt8} {ib : Bool} {m : Mem} (hI : ∀ m, Ret Tryd.prog 65 [.int .i64 c.k] m (.bool ib) m) (hl : info.length ≤ 140737488355328) :
    Ret Tryd.prog 44 [rframeV (.slice sa n n) c pid info] m (.int .i64 (infoE ib info)) m := by
  refine LCall_drop (LCall_enter Tryd.func44 c44 ?_)
  by_cases h : info = []
  · subst h
    simp (contextual := true) (implicitDefEqProofs := false) (maxSteps := 2000000) (disch := first | rfl | exact NB rfl | omega | (simp only [XL]; omega)) only [L44, bin_ladd, str_cut, str_app, str_eq, string_mk_size, string_mk, XW, undef_eq, Nat.reduceAdd, Nat.reduceSub, ↓reduceIte, basic, cellsL, resOf, setAt, below, belowB, belowA, atomB, Nat.reduceLeDiff, Nat.reduceMul, Int.reduceToNat, Int.reduceLT, Int.reduceLE, Int.reduceAdd, Int.reduceNeg, Int.reduceEq, splice, Nat.reduceEqDiff, Nat.reduceLT, isAtom, Int.reduceSub, Int.reduceMul, implies_true]
    simp [infoE]
  · have h' : (info = []) = False := eq_false h
    simp (contextual := true) (implicitDefEqProofs := false) (maxSteps := 2000000) (disch := first | rfl | exact NB rfl | omega | (simp only [XL]; omega)) only [L44, bin_ladd, str_cut, str_app, str_eq, string_mk_size, string_mk, h', XW, undef_eq, Nat.reduceAdd, Nat.reduceSub, ↓reduceIte, basic, cellsL, resOf, setAt, below, belowB, belowA, atomB, Nat.reduceLeDiff, Nat.reduceMul, Int.reduceToNat, Int.reduceLT, Int.reduceLE, Int.reduceAdd, Int.reduceNeg, Int.reduceEq, splice, Nat.reduceEqDiff, Nat.reduceLT, isAtom, Int.reduceSub, Int.reduceMul, implies_true]
    refine (hI _).use ?_
    cases ib with
    | false =>
      simp (contextual := true) (implicitDefEqProofs := false) (maxSteps := 2000000) (disch := first | rfl | exact NB rfl | omega | (simp only [XL]; omega)) only [bin_ladd, str_cut, str_app, str_eq, string_mk_size, string_mk, XW, undef_eq, Nat.reduceAdd, Nat.reduceSub, ↓reduceIte, basic, cellsL, resOf, setAt, below, belowB, belowA, atomB, Nat.reduceLeDiff, Nat.reduceMul, Int.reduceToNat, Int.reduceLT, Int.reduceLE, Int.reduceAdd, Int.reduceNeg, Int.reduceEq, splice, Nat.reduceEqDiff, Nat.reduceLT, isAtom, Int.reduceSub, Int.reduceMul, implies_true]
      simp [infoE, h]
    | true =>
      by_cases h2 : 256 < info.length
      · have h2' : ((256 : Int) < (info.length : Int)) = True := eq_true (by omega)
        simp (contextual := true) (implicitDefEqProofs := false) (maxSteps := 2000000) (disch := first | rfl | exact NB rfl | omega | (simp only [XL]; omega)) only [bin_ladd, str_cut, str_app, str_eq, string_mk_size, string_mk, h2', XW, undef_eq, Nat.reduceAdd, Nat.reduceSub, ↓reduceIte, basic, cellsL, resOf, setAt, below, belowB, belowA, atomB, Nat.reduceLeDiff, Nat.reduceMul, Int.reduceToNat, Int.reduceLT, Int.reduceLE, Int.reduceAdd, Int.reduceNeg, Int.reduceEq, splice, Nat.reduceEqDiff, Nat.reduceLT, isAtom, Int.reduceSub, Int.reduceMul, implies_true]
        simp [infoE, h2]
      · have h2' : ((256 : Int) < (info.length : Int)) = False := eq_false (by omega)
        simp (contextual := true) (implicitDefEqProofs := false) (maxSteps := 2000000) (disch := first | rfl | exact NB rfl | omega | (simp only [XL]; omega)) only [bin_ladd, str_cut, str_app, str_eq, string_mk_size, string_mk, h2', XW, undef_eq, Nat.reduceAdd, Nat.reduceSub, ↓reduceIte, basic, cellsL, resOf, setAt, below, belowB, belowA, atomB, Nat.reduceLeDiff, Nat.reduceMul, Int.reduceToNat, Int.reduceLT, Int.reduceLE, Int.reduceAdd, Int.reduceNeg, Int.reduceEq, splice, Nat.reduceEqDiff, Nat.reduceLT, isAtom, Int.reduceSub, Int.reduceMul, implies_true]
        simp [infoE, h2]
end Go.Proofs.YtadkdihbbngbfaaDoor
/- The control of any bytes, by the document: walked. -/
namespace Go.Proofs.YtadkdihbbngbfaaDoor.K
open Go.Lg
set_option maxRecDepth 8000
set_option maxHeartbeats 8000000
theorem rem4 (n : Nat) : binV .rem (.int .i64 (n : Int)) (.int .i64 4) = some (.int .i64 ((n % 4 : Nat) : Int)) := by
  rw [bin_rem (by decide)]; rfl
theorem rem16 (n : Nat) : binV .rem (.int .i64 (n : Int)) (.int .i64 16) = some (.int .i64 ((n % 16 : Nat) : Int)) := by
  rw [bin_rem (by decide)]; rfl
theorem quo2 {n : Nat} (h : n < 256) : binV .quo (.int .i64 (n : Int)) (.int .i64 2) = some (.int .i64 ((n / 2 : Nat) : Int)) := by
  rw [bin_quo (by decide), show (n : Int).tdiv 2 = ((n / 2 : Nat) : Int) from rfl, wrap_i64 (by omega) (by omega)]
theorem quo32 {n : Nat} (h : n < 256) : binV .quo (.int .i64 (n : Int)) (.int .i64 32) = some (.int .i64 ((n / 32 : Nat) : Int)) := by
  rw [bin_quo (by decide), show (n : Int).tdiv 32 = ((n / 32 : Nat) : Int) from rfl, wrap_i64 (by omega) (by omega)]
theorem putL8_len {k r s : Int} {p w : Bool} : 1 ≤ (putL8 k r s p w).length ∧ (putL8 k r s p w).length ≤ 2 := by
  unfold putL8; split
  · simp
  · split <;> simp
theorem hit_iff {s : List UInt8} {w p : Bool} {k : Int} (h2 : w = true → k ≤ 5 → 2 ≤ s.length) : hit s w k p ↔ (putL8 k (cR s w k) (cS s w k) p w).length ≤ s.length ∧ strL (putL8 k (cR s w k) (cS s w k) p w) = s.take (putL8 k (cR s w k) (cS s w k) p w).length := by
  constructor
  · rintro ⟨_, rest, hs⟩
    generalize putL8 k (cR s w k) (cS s w k) p w = l at hs ⊢
    have hl : (strL l).length = l.length := strL_len
    rw [hs]
    constructor
    · rw [List.length_append]; omega
    · rw [List.take_left' hl]
  · rintro ⟨h1, h3⟩
    exact ⟨h2, s.drop (putL8 k (cR s w k) (cS s w k) p w).length, by rw [h3, List.take_append_drop]⟩
theorem rget_empty (w : Bool) (m : Mem) : Ret Tryd.prog 42 [str [], .bool w] m (.tuple #[czero.val, .int .i64 0, .int .i64 4]) m := by
  refine LCall_drop (LCall_enter Tryd.func42 c42 ?_)
  simp (contextual := true) (implicitDefEqProofs := false) (maxSteps := 2000000) (disch := first | rfl | exact NB rfl | omega | (simp only [XL]; omega)) only [L42, bin_ladd, str_cut, str_app, str_eq, string_mk_size, string_mk, czero, Ct.val, XW, undef_eq, Nat.reduceAdd, Nat.reduceSub, ↓reduceIte, basic, cellsL, resOf, setAt, below, belowB, belowA, atomB, Nat.reduceLeDiff, Nat.reduceMul, Int.reduceToNat, Int.reduceLT, Int.reduceLE, Int.reduceAdd, Int.reduceNeg, Int.reduceEq, splice, Nat.reduceEqDiff, Nat.reduceLT, isAtom, Int.reduceSub, Int.reduceMul, implies_true]
theorem rget_short (b : UInt8) (h3 : b.toNat % 4 ≠ 3) (m : Mem) : Ret Tryd.prog 42 [str [b], .bool true] m (.tuple #[czero.val, .int .i64 0, .int .i64 4]) m := by
  refine LCall_drop (LCall_enter Tryd.func42 c42 ?_)
  have ht : (⟨[b].toArray⟩ : ByteArray).data.toList[0]? = some b := by simp
  have h3' : (((b.toNat % 4 : Nat) : Int) = 3) = False := eq_false (by omega)
  simp (contextual := true) (implicitDefEqProofs := false) (maxSteps := 2000000) (disch := first | rfl | exact NB rfl | omega | (simp only [XL]; omega)) only [L42, ne_empty ht, ht, u8_wrap, rem4, h3', string_mk_size, czero, Ct.val, XX, XA, bin_add, bin_sub, bin_mul, bin_quo, bin_and, bin_or, bin_xor, bin_andNot, bin_eql, bin_neq, bin_lss, bin_leq, bin_gtr, bin_geq, bin_shl, bin_shr, bin_sadd, bin_seql, bin_sneq, lc_block, lc_cond, XZ, undef_eq, Nat.reduceAdd, Nat.reduceSub, ↓reduceIte, basic, cellsL, resOf, setAt, below, belowB, belowA, atomB, Nat.reduceLeDiff, Nat.reduceMul, Int.reduceToNat, Int.reduceLT, Int.reduceLE, Int.reduceAdd, Int.reduceNeg, Int.reduceEq, splice, Nat.reduceEqDiff, Nat.reduceLT, isAtom, Int.reduceSub, Int.reduceMul, implies_true]
theorem rget_loop (b : UInt8) (r : List UInt8) (w : Bool) (hl : (b :: r).length ≤ 100000) (hr : w = true → b.toNat % 4 ≠ 3 → 2 ≤ (b :: r).length) (m : Mem) : Ret Tryd.prog 42 [str (b :: r), .bool w] m (.tuple #[(getC (b :: r) w).2.1.val, .int .i64 (((getC (b :: r) w).2.2 : Nat) : Int), .int .i64 (getC (b :: r) w).1]) m := by
  refine LCall_drop (LCall_enter Tryd.func42 c42 ?_)
  have hn := b.toNat_lt
  have ht : (⟨(b :: r).toArray⟩ : ByteArray).data.toList[0]? = some b := by simp
  have hempty := ne_empty ht
  simp only [List.length_cons] at hl
  cases w with
  | false =>
    clear hr
    simp (contextual := true) (implicitDefEqProofs := false) (maxSteps := 2000000) (disch := first | rfl | exact NB rfl | omega | (simp only [XL]; omega)) only [L42, hempty, ht, u8_wrap, rem4, string_mk_size, XX, XA, bin_add, bin_sub, bin_mul, bin_quo, bin_and, bin_or, bin_xor, bin_andNot, bin_eql, bin_neq, bin_lss, bin_leq, bin_gtr, bin_geq, bin_shl, bin_shr, bin_sadd, bin_seql, bin_sneq, lc_block, lc_cond, XZ, undef_eq, Nat.reduceAdd, Nat.reduceSub, ↓reduceIte, basic, cellsL, resOf, setAt, below, belowB, belowA, atomB, Nat.reduceLeDiff, Nat.reduceMul, Int.reduceToNat, Int.reduceLT, Int.reduceLE, Int.reduceAdd, Int.reduceNeg, Int.reduceEq, splice, Nat.reduceEqDiff, Nat.reduceLT, isAtom, Int.reduceSub, Int.reduceMul, implies_true]
    refine loop_inv (fun n t M => ∃ (k : Nat), n = 15 - k ∧ 1 ≤ k ∧ k ≤ 15 ∧ (∀ k' : Int, ∀ p, 1 ≤ k' → k' < (k : Int) → ¬ hit (b :: r) false k' p) ∧ Frm [] m M ∧ M[m.length]? = some ⟨[.int .i64 0, .int .i64 0, .int .i64 0, .bool false], 64, 1, 0, .own⟩ ∧ Tab 103 [(0, str (b :: r)), (1, .bool false), (4, .pointer (some ⟨m.length, 0, none⟩)), (7, .int .i64 (b.toNat : Int)), (8, .int .i64 (k : Int))] t) (n := 14) ?_ ?_
    · exact ⟨1, rfl, Nat.le_refl _, by omega, fun k' p h1 h2 => by omega, Frm.refl.app, by simp, ⟨rfl, by simp⟩⟩
    rintro N t M ⟨k, rfl, hk1, hk, hno, hfm, hb0, ht0⟩
    obtain ⟨f, rfl⟩ : ∃ f' : Nat → Value, t = [str (b :: r), .bool false, f' 2, f' 3, .pointer (some ⟨m.length, 0, none⟩), f' 5, f' 6, .int .i64 (b.toNat : Int), .int .i64 (k : Int), f' 9, f' 10, f' 11, f' 12, f' 13, f' 14, f' 15, f' 16, f' 17, f' 18, f' 19, f' 20, f' 21, f' 22, f' 23, f' 24, f' 25, f' 26, f' 27, f' 28, f' 29, f' 30, f' 31, f' 32, f' 33, f' 34, f' 35, f' 36, f' 37, f' 38, f' 39, f' 40, f' 41, f' 42, f' 43, f' 44, f' 45, f' 46, f' 47, f' 48, f' 49, f' 50, f' 51, f' 52, f' 53, f' 54, f' 55, f' 56, f' 57, f' 58, f' 59, f' 60, f' 61, f' 62, f' 63, f' 64, f' 65, f' 66, f' 67, f' 68, f' 69, f' 70, f' 71, f' 72, f' 73, f' 74, f' 75, f' 76, f' 77, f' 78, f' 79, f' 80, f' 81, f' 82, f' 83, f' 84, f' 85, f' 86, f' 87, f' 88, f' 89, f' 90, f' 91, f' 92, f' 93, f' 94, f' 95, f' 96, f' 97, f' 98, f' 99, f' 100, f' 101, f' 102] := ht0.open fun f' => rfl
    have l0 := lt_of_some hb0
    by_cases hlt : k ≤ 14
    · have hlt' : ((k : Int) ≤ 14) = True := eq_true (by omega)
      have hwk : IntKind.i64.wrap ((k : Int) + 1) = ((k + 1 : Nat) : Int) := by rw [wrap_i64 (by omega) (by omega)]; omega
      simp (contextual := true) (implicitDefEqProofs := false) (maxSteps := 2000000) (disch := first | rfl | exact NB rfl | omega | (simp only [XL]; omega)) only [hlt', XW, undef_eq, Nat.reduceAdd, Nat.reduceSub, ↓reduceIte, basic, cellsL, resOf, setAt, below, belowB, belowA, atomB, Nat.reduceLeDiff, Nat.reduceMul, Int.reduceToNat, Int.reduceLT, Int.reduceLE, Int.reduceAdd, Int.reduceNeg, Int.reduceEq, splice, Nat.reduceEqDiff, Nat.reduceLT, isAtom, Int.reduceSub, Int.reduceMul, implies_true]
      refine loop_inv (fun n t M => ∃ (p : Nat), n = 2 - p ∧ p ≤ 2 ∧ (∀ p' : Nat, p' < p → ¬ hit (b :: r) false (k : Int) (decide (p' = 1))) ∧ Frm [] m M ∧ M[m.length]? = some ⟨[.int .i64 0, .int .i64 0, .int .i64 0, .bool false], 64, 1, 0, .own⟩ ∧ Tab 103 [(0, str (b :: r)), (1, .bool false), (4, .pointer (some ⟨m.length, 0, none⟩)), (7, .int .i64 (b.toNat : Int)), (8, .int .i64 (k : Int)), (9, .int .i64 (p : Int))] t) (n := 2) ?_ ?_
      · exact ⟨0, rfl, Nat.zero_le _, fun p' h => by omega, hfm, hb0, ⟨rfl, by simp⟩⟩
      clear hfm hb0 l0
      rintro N t M ⟨p, rfl, hp, hnp, hfm, hb0, ht0⟩
      obtain ⟨f, rfl⟩ : ∃ f' : Nat → Value, t = [str (b :: r), .bool false, f' 2, f' 3, .pointer (some ⟨m.length, 0, none⟩), f' 5, f' 6, .int .i64 (b.toNat : Int), .int .i64 (k : Int), .int .i64 (p : Int), f' 10, f' 11, f' 12, f' 13, f' 14, f' 15, f' 16, f' 17, f' 18, f' 19, f' 20, f' 21, f' 22, f' 23, f' 24, f' 25, f' 26, f' 27, f' 28, f' 29, f' 30, f' 31, f' 32, f' 33, f' 34, f' 35, f' 36, f' 37, f' 38, f' 39, f' 40, f' 41, f' 42, f' 43, f' 44, f' 45, f' 46, f' 47, f' 48, f' 49, f' 50, f' 51, f' 52, f' 53, f' 54, f' 55, f' 56, f' 57, f' 58, f' 59, f' 60, f' 61, f' 62, f' 63, f' 64, f' 65, f' 66, f' 67, f' 68, f' 69, f' 70, f' 71, f' 72, f' 73, f' 74, f' 75, f' 76, f' 77, f' 78, f' 79, f' 80, f' 81, f' 82, f' 83, f' 84, f' 85, f' 86, f' 87, f' 88, f' 89, f' 90, f' 91, f' 92, f' 93, f' 94, f' 95, f' 96, f' 97, f' 98, f' 99, f' 100, f' 101, f' 102] := ht0.open fun f' => rfl
      have l0 := lt_of_some hb0
      by_cases hp2 : p < 2
      · have hp' : ((p : Int) < 2) = True := eq_true (by omega)
        have hwp : IntKind.i64.wrap ((p : Int) + 1) = ((p + 1 : Nat) : Int) := by rw [wrap_i64 (by omega) (by omega)]; omega
        have hpe : ((p : Int) = 1) = (p = 1) := by apply propext; omega
        have h16 : b.toNat % 16 < 256 := by omega
        have hstep : ∀ p' : Nat, p' < p + 1 → ¬ hit (b :: r) false (k : Int) (decide (p = 1)) → ¬ hit (b :: r) false (k : Int) (decide (p' = 1)) := fun p' h1 h2 => by
          by_cases e : p' = p
          · rw [e]; exact h2
          · exact hnp p' (by omega)
        have happ : ∀ g : Mem, (M ++ g)[m.length]? = some ⟨[.int .i64 0, .int .i64 0, .int .i64 0, .bool false], 64, 1, 0, .own⟩ := fun g => by rw [List.getElem?_append_left l0]; exact hb0
        by_cases hka : k = 1
        · have hk1 : ((k : Int) = 1) = True := eq_true (by omega)
          have hk5 : ((k : Int) ≤ 5) = True := eq_true (by omega)
          have hcR : cR (b :: r) false (k : Int) = ((b.toNat / 32 : Nat) : Int) := by unfold cR; rw [if_neg (by omega), if_neg (by decide)]; rfl
          have hcS : cS (b :: r) false (k : Int) = ((b.toNat % 16 / 2 : Nat) : Int) := by unfold cS; rw [if_pos (by omega), if_neg (by decide)]; rfl
          simp (contextual := true) (implicitDefEqProofs := false) (maxSteps := 2000000) (disch := first | rfl | exact NB rfl | omega | (simp only [XL]; omega)) only [hb0, hlt', hp', hk1, hk5, rem4, rem16 b.toNat, quo2 hn, quo2 h16, quo32 hn, string_mk_size, hpe, ht, u8_wrap, XX, XA, bin_add, bin_sub, bin_mul, bin_and, bin_or, bin_xor, bin_andNot, bin_eql, bin_neq, bin_lss, bin_leq, bin_gtr, bin_geq, bin_shl, bin_shr, bin_sadd, bin_seql, bin_sneq, lc_block, lc_cond, XZ, undef_eq, Nat.reduceAdd, Nat.reduceSub, ↓reduceIte, basic, cellsL, resOf, setAt, below, belowB, belowA, atomB, Nat.reduceLeDiff, Nat.reduceMul, Int.reduceToNat, Int.reduceLT, Int.reduceLE, Int.reduceAdd, Int.reduceNeg, Int.reduceEq, splice, Nat.reduceEqDiff, Nat.reduceLT, isAtom, Int.reduceSub, Int.reduceMul, implies_true]
          have hcand := cand_right (s := b :: r) (w := false) (k := (k : Int)) (by omega)
          have hiff := hit_iff (s := b :: r) (w := false) (p := decide (p = 1)) (k := (k : Int)) (fun hw h5 => by cases hw)
          have hget := hit_get (s := b :: r) (w := false) (p := decide (p = 1)) (k := (k : Int)) (by omega)
          rw [hcR, hcS] at hcand hiff hget
          have hl12 := putL8_len (k := (k : Int)) (r := ((b.toNat / 32 : Nat) : Int)) (s := ((b.toNat % 16 / 2 : Nat) : Int)) (p := decide (p = 1)) (w := false)
          refine refput_spec (k : Int) (((b.toNat / 32 : Nat) : Int)) (((b.toNat % 16 / 2 : Nat) : Int)) (decide (p = 1)) false hcand _ _ fun i g T hm => ?_
          have hin := put_inB (p := decide (p = 1)) hcand
          generalize putL8 (k : Int) (((b.toNat / 32 : Nat) : Int)) (((b.toNat % 16 / 2 : Nat) : Int)) (decide (p = 1)) false = l at hm hiff hget hl12 hin ⊢
          simp only [List.append_assoc, List.cons_append, List.nil_append] at hm ⊢
          have hi := lt_of_some hm
          have hb02 := (Frm.refl (F := []) (m := M)).app.get0 (m' := M ++ (⟨[.int .i64 (k : Int), .int .i64 (((b.toNat / 32 : Nat) : Int)), .int .i64 (((b.toNat % 16 / 2 : Nat) : Int)), .bool (decide (p = 1))], 64, 1, 0, .own⟩ :: g)) hb0
          have hb1 : (M ++ (⟨[.int .i64 (k : Int), .int .i64 (((b.toNat / 32 : Nat) : Int)), .int .i64 (((b.toNat % 16 / 2 : Nat) : Int)), .bool (decide (p = 1))], 64, 1, 0, .own⟩ :: g))[M.length]? = some ⟨[.int .i64 (k : Int), .int .i64 (((b.toNat / 32 : Nat) : Int)), .int .i64 (((b.toNat % 16 / 2 : Nat) : Int)), .bool (decide (p = 1))], 64, 1, 0, .own⟩ := by rw [List.getElem?_append_right (Nat.le_refl _), Nat.sub_self]; rfl
          have hfm2 : Frm [] m (M ++ (⟨[.int .i64 (k : Int), .int .i64 (((b.toNat / 32 : Nat) : Int)), .int .i64 (((b.toNat % 16 / 2 : Nat) : Int)), .bool (decide (p = 1))], 64, 1, 0, .own⟩ :: g)) := hfm.app
          generalize M ++ ((⟨[.int .i64 (k : Int), .int .i64 (((b.toNat / 32 : Nat) : Int)), .int .i64 (((b.toNat % 16 / 2 : Nat) : Int)), .bool (decide (p = 1))], 64, 1, 0, .own⟩ : Blk) :: g) = M2 at hm hi hb02 hb1 hfm2 ⊢
          have l02 := lt_of_some hb02
          have l12 := lt_of_some hb1
          by_cases hle : l.length ≤ r.length + 1
          · have hle' : ((l.length : Int) ≤ ((r.length + 1 : Nat) : Int)) = True := eq_true (by omega)
            simp (contextual := true) (implicitDefEqProofs := false) (maxSteps := 2000000) (disch := first | rfl | exact NB rfl | omega | (simp only [XL]; omega)) only [hle', string_mk_size, XW, undef_eq, Nat.reduceAdd, Nat.reduceSub, ↓reduceIte, basic, cellsL, resOf, setAt, below, belowB, belowA, atomB, Nat.reduceLeDiff, Nat.reduceMul, Int.reduceToNat, Int.reduceLT, Int.reduceLE, Int.reduceAdd, Int.reduceNeg, Int.reduceEq, splice, Nat.reduceEqDiff, Nat.reduceLT, isAtom, Int.reduceSub, Int.reduceMul, implies_true]
            refine (text_spec i T l _ hm (by omega) hin).use ?_
            have htk : List.take (l.length - 0) (List.drop 0 (b :: r)) = (b :: r).take l.length := by simp
            by_cases heq : strL l = (b :: r).take l.length
            · have hh := hget (hiff.mpr ⟨hle, heq⟩)
              rw [hh]
              have heq' : (strL l = (b :: r).take l.length) = True := eq_true heq
              simp (contextual := true) (implicitDefEqProofs := false) (maxSteps := 2000000) (disch := first | rfl | exact NB rfl | omega | (simp only [XL]; omega)) only [hb02, hb1, hle', str_cut, str_eq, strOf, htk, heq', Int.toNat_natCast, string_mk_size, Ct.val, XW, undef_eq, Nat.reduceAdd, Nat.reduceSub, ↓reduceIte, basic, cellsL, resOf, setAt, below, belowB, belowA, atomB, Nat.reduceLeDiff, Nat.reduceMul, Int.reduceToNat, Int.reduceLT, Int.reduceLE, Int.reduceAdd, Int.reduceNeg, Int.reduceEq, splice, Nat.reduceEqDiff, Nat.reduceLT, isAtom, Int.reduceSub, Int.reduceMul, implies_true]
              exact (hfm2.set (i := m.length) (.inr (Nat.le_refl _))).ext (by simp)
            · have heq' : (strL l = (b :: r).take l.length) = False := eq_false heq
              simp (contextual := true) (implicitDefEqProofs := false) (maxSteps := 2000000) (disch := first | rfl | exact NB rfl | omega | (simp only [XL]; omega)) only [hb02, hb1, hle', str_cut, str_eq, strOf, htk, heq', Int.toNat_natCast, string_mk_size, XW, undef_eq, Nat.reduceAdd, Nat.reduceSub, ↓reduceIte, basic, cellsL, resOf, setAt, below, belowB, belowA, atomB, Nat.reduceLeDiff, Nat.reduceMul, Int.reduceToNat, Int.reduceLT, Int.reduceLE, Int.reduceAdd, Int.reduceNeg, Int.reduceEq, splice, Nat.reduceEqDiff, Nat.reduceLT, isAtom, Int.reduceSub, Int.reduceMul, implies_true]
              exact kInv_go ⟨p + 1, rfl, by omega, fun p' hp1 => hstep p' hp1 fun hh => heq (hiff.mp hh).2, hfm2, hb02, ⟨rfl, by simp [hwp]⟩⟩ (by omega)
          · have hle' : ((l.length : Int) ≤ ((r.length + 1 : Nat) : Int)) = False := eq_false (by omega)
            simp (contextual := true) (implicitDefEqProofs := false) (maxSteps := 2000000) (disch := first | rfl | exact NB rfl | omega | (simp only [XL]; omega)) only [hle', string_mk_size, XW, undef_eq, Nat.reduceAdd, Nat.reduceSub, ↓reduceIte, basic, cellsL, resOf, setAt, below, belowB, belowA, atomB, Nat.reduceLeDiff, Nat.reduceMul, Int.reduceToNat, Int.reduceLT, Int.reduceLE, Int.reduceAdd, Int.reduceNeg, Int.reduceEq, splice, Nat.reduceEqDiff, Nat.reduceLT, isAtom, Int.reduceSub, Int.reduceMul, implies_true]
            exact kInv_go ⟨p + 1, rfl, by omega, fun p' hp1 => hstep p' hp1 fun hh => hle (hiff.mp hh).1, hfm2, hb02, ⟨rfl, by simp [hwp]⟩⟩ (by omega)
        by_cases hkb : k ≤ 5
        · have hk1 : ((k : Int) = 1) = False := eq_false (by omega)
          have hk5 : ((k : Int) ≤ 5) = True := eq_true (by omega)
          have hcR : cR (b :: r) false (k : Int) = ((b.toNat / 32 : Nat) : Int) := by unfold cR; rw [if_neg (by omega), if_neg (by decide)]; rfl
          have hcS : cS (b :: r) false (k : Int) = 0 := by unfold cS; rw [if_neg (by omega)]
          simp (contextual := true) (implicitDefEqProofs := false) (maxSteps := 2000000) (disch := first | rfl | exact NB rfl | omega | (simp only [XL]; omega)) only [hb0, hlt', hp', hk1, hk5, rem4, rem16 b.toNat, quo2 hn, quo2 h16, quo32 hn, string_mk_size, hpe, ht, u8_wrap, XX, XA, bin_add, bin_sub, bin_mul, bin_and, bin_or, bin_xor, bin_andNot, bin_eql, bin_neq, bin_lss, bin_leq, bin_gtr, bin_geq, bin_shl, bin_shr, bin_sadd, bin_seql, bin_sneq, lc_block, lc_cond, XZ, undef_eq, Nat.reduceAdd, Nat.reduceSub, ↓reduceIte, basic, cellsL, resOf, setAt, below, belowB, belowA, atomB, Nat.reduceLeDiff, Nat.reduceMul, Int.reduceToNat, Int.reduceLT, Int.reduceLE, Int.reduceAdd, Int.reduceNeg, Int.reduceEq, splice, Nat.reduceEqDiff, Nat.reduceLT, isAtom, Int.reduceSub, Int.reduceMul, implies_true]
          have hcand := cand_right (s := b :: r) (w := false) (k := (k : Int)) (by omega)
          have hiff := hit_iff (s := b :: r) (w := false) (p := decide (p = 1)) (k := (k : Int)) (fun hw h5 => by cases hw)
          have hget := hit_get (s := b :: r) (w := false) (p := decide (p = 1)) (k := (k : Int)) (by omega)
          rw [hcR, hcS] at hcand hiff hget
          have hl12 := putL8_len (k := (k : Int)) (r := ((b.toNat / 32 : Nat) : Int)) (s := 0) (p := decide (p = 1)) (w := false)
          refine refput_spec (k : Int) (((b.toNat / 32 : Nat) : Int)) (0) (decide (p = 1)) false hcand _ _ fun i g T hm => ?_
          have hin := put_inB (p := decide (p = 1)) hcand
          generalize putL8 (k : Int) (((b.toNat / 32 : Nat) : Int)) (0) (decide (p = 1)) false = l at hm hiff hget hl12 hin ⊢
          simp only [List.append_assoc, List.cons_append, List.nil_append] at hm ⊢
          have hi := lt_of_some hm
          have hb02 := (Frm.refl (F := []) (m := M)).app.get0 (m' := M ++ (⟨[.int .i64 (k : Int), .int .i64 (((b.toNat / 32 : Nat) : Int)), .int .i64 (0), .bool (decide (p = 1))], 64, 1, 0, .own⟩ :: g)) hb0
          have hb1 : (M ++ (⟨[.int .i64 (k : Int), .int .i64 (((b.toNat / 32 : Nat) : Int)), .int .i64 (0), .bool (decide (p = 1))], 64, 1, 0, .own⟩ :: g))[M.length]? = some ⟨[.int .i64 (k : Int), .int .i64 (((b.toNat / 32 : Nat) : Int)), .int .i64 (0), .bool (decide (p = 1))], 64, 1, 0, .own⟩ := by rw [List.getElem?_append_right (Nat.le_refl _), Nat.sub_self]; rfl
          have hfm2 : Frm [] m (M ++ (⟨[.int .i64 (k : Int), .int .i64 (((b.toNat / 32 : Nat) : Int)), .int .i64 (0), .bool (decide (p = 1))], 64, 1, 0, .own⟩ :: g)) := hfm.app
          generalize M ++ ((⟨[.int .i64 (k : Int), .int .i64 (((b.toNat / 32 : Nat) : Int)), .int .i64 (0), .bool (decide (p = 1))], 64, 1, 0, .own⟩ : Blk) :: g) = M2 at hm hi hb02 hb1 hfm2 ⊢
          have l02 := lt_of_some hb02
          have l12 := lt_of_some hb1
          by_cases hle : l.length ≤ r.length + 1
          · have hle' : ((l.length : Int) ≤ ((r.length + 1 : Nat) : Int)) = True := eq_true (by omega)
            simp (contextual := true) (implicitDefEqProofs := false) (maxSteps := 2000000) (disch := first | rfl | exact NB rfl | omega | (simp only [XL]; omega)) only [hle', string_mk_size, XW, undef_eq, Nat.reduceAdd, Nat.reduceSub, ↓reduceIte, basic, cellsL, resOf, setAt, below, belowB, belowA, atomB, Nat.reduceLeDiff, Nat.reduceMul, Int.reduceToNat, Int.reduceLT, Int.reduceLE, Int.reduceAdd, Int.reduceNeg, Int.reduceEq, splice, Nat.reduceEqDiff, Nat.reduceLT, isAtom, Int.reduceSub, Int.reduceMul, implies_true]
            refine (text_spec i T l _ hm (by omega) hin).use ?_
            have htk : List.take (l.length - 0) (List.drop 0 (b :: r)) = (b :: r).take l.length := by simp
            by_cases heq : strL l = (b :: r).take l.length
            · have hh := hget (hiff.mpr ⟨hle, heq⟩)
              rw [hh]
              have heq' : (strL l = (b :: r).take l.length) = True := eq_true heq
              simp (contextual := true) (implicitDefEqProofs := false) (maxSteps := 2000000) (disch := first | rfl | exact NB rfl | omega | (simp only [XL]; omega)) only [hb02, hb1, hle', str_cut, str_eq, strOf, htk, heq', Int.toNat_natCast, string_mk_size, Ct.val, XW, undef_eq, Nat.reduceAdd, Nat.reduceSub, ↓reduceIte, basic, cellsL, resOf, setAt, below, belowB, belowA, atomB, Nat.reduceLeDiff, Nat.reduceMul, Int.reduceToNat, Int.reduceLT, Int.reduceLE, Int.reduceAdd, Int.reduceNeg, Int.reduceEq, splice, Nat.reduceEqDiff, Nat.reduceLT, isAtom, Int.reduceSub, Int.reduceMul, implies_true]
              exact (hfm2.set (i := m.length) (.inr (Nat.le_refl _))).ext (by simp)
            · have heq' : (strL l = (b :: r).take l.length) = False := eq_false heq
              simp (contextual := true) (implicitDefEqProofs := false) (maxSteps := 2000000) (disch := first | rfl | exact NB rfl | omega | (simp only [XL]; omega)) only [hb02, hb1, hle', str_cut, str_eq, strOf, htk, heq', Int.toNat_natCast, string_mk_size, XW, undef_eq, Nat.reduceAdd, Nat.reduceSub, ↓reduceIte, basic, cellsL, resOf, setAt, below, belowB, belowA, atomB, Nat.reduceLeDiff, Nat.reduceMul, Int.reduceToNat, Int.reduceLT, Int.reduceLE, Int.reduceAdd, Int.reduceNeg, Int.reduceEq, splice, Nat.reduceEqDiff, Nat.reduceLT, isAtom, Int.reduceSub, Int.reduceMul, implies_true]
              exact kInv_go ⟨p + 1, rfl, by omega, fun p' hp1 => hstep p' hp1 fun hh => heq (hiff.mp hh).2, hfm2, hb02, ⟨rfl, by simp [hwp]⟩⟩ (by omega)
          · have hle' : ((l.length : Int) ≤ ((r.length + 1 : Nat) : Int)) = False := eq_false (by omega)
            simp (contextual := true) (implicitDefEqProofs := false) (maxSteps := 2000000) (disch := first | rfl | exact NB rfl | omega | (simp only [XL]; omega)) only [hle', string_mk_size, XW, undef_eq, Nat.reduceAdd, Nat.reduceSub, ↓reduceIte, basic, cellsL, resOf, setAt, below, belowB, belowA, atomB, Nat.reduceLeDiff, Nat.reduceMul, Int.reduceToNat, Int.reduceLT, Int.reduceLE, Int.reduceAdd, Int.reduceNeg, Int.reduceEq, splice, Nat.reduceEqDiff, Nat.reduceLT, isAtom, Int.reduceSub, Int.reduceMul, implies_true]
            exact kInv_go ⟨p + 1, rfl, by omega, fun p' hp1 => hstep p' hp1 fun hh => hle (hiff.mp hh).1, hfm2, hb02, ⟨rfl, by simp [hwp]⟩⟩ (by omega)
        have hk1 : ((k : Int) = 1) = False := eq_false (by omega)
        have hk5 : ((k : Int) ≤ 5) = False := eq_false (by omega)
        have hcR : cR (b :: r) false (k : Int) = 0 := by unfold cR; rw [if_pos (by omega)]
        have hcS : cS (b :: r) false (k : Int) = 0 := by unfold cS; rw [if_neg (by omega)]
        simp (contextual := true) (implicitDefEqProofs := false) (maxSteps := 2000000) (disch := first | rfl | exact NB rfl | omega | (simp only [XL]; omega)) only [hb0, hlt', hp', hk1, hk5, rem4, rem16 b.toNat, quo2 hn, quo2 h16, quo32 hn, string_mk_size, hpe, ht, u8_wrap, XX, XA, bin_add, bin_sub, bin_mul, bin_and, bin_or, bin_xor, bin_andNot, bin_eql, bin_neq, bin_lss, bin_leq, bin_gtr, bin_geq, bin_shl, bin_shr, bin_sadd, bin_seql, bin_sneq, lc_block, lc_cond, XZ, undef_eq, Nat.reduceAdd, Nat.reduceSub, ↓reduceIte, basic, cellsL, resOf, setAt, below, belowB, belowA, atomB, Nat.reduceLeDiff, Nat.reduceMul, Int.reduceToNat, Int.reduceLT, Int.reduceLE, Int.reduceAdd, Int.reduceNeg, Int.reduceEq, splice, Nat.reduceEqDiff, Nat.reduceLT, isAtom, Int.reduceSub, Int.reduceMul, implies_true]
        have hcand := cand_right (s := b :: r) (w := false) (k := (k : Int)) (by omega)
        have hiff := hit_iff (s := b :: r) (w := false) (p := decide (p = 1)) (k := (k : Int)) (fun hw h5 => by cases hw)
        have hget := hit_get (s := b :: r) (w := false) (p := decide (p = 1)) (k := (k : Int)) (by omega)
        rw [hcR, hcS] at hcand hiff hget
        have hl12 := putL8_len (k := (k : Int)) (r := 0) (s := 0) (p := decide (p = 1)) (w := false)
        refine refput_spec (k : Int) (0) (0) (decide (p = 1)) false hcand _ _ fun i g T hm => ?_
        have hin := put_inB (p := decide (p = 1)) hcand
        generalize putL8 (k : Int) (0) (0) (decide (p = 1)) false = l at hm hiff hget hl12 hin ⊢
        simp only [List.append_assoc, List.cons_append, List.nil_append] at hm ⊢
        have hi := lt_of_some hm
        have hb02 := (Frm.refl (F := []) (m := M)).app.get0 (m' := M ++ (⟨[.int .i64 (k : Int), .int .i64 (0), .int .i64 (0), .bool (decide (p = 1))], 64, 1, 0, .own⟩ :: g)) hb0
        have hb1 : (M ++ (⟨[.int .i64 (k : Int), .int .i64 (0), .int .i64 (0), .bool (decide (p = 1))], 64, 1, 0, .own⟩ :: g))[M.length]? = some ⟨[.int .i64 (k : Int), .int .i64 (0), .int .i64 (0), .bool (decide (p = 1))], 64, 1, 0, .own⟩ := by rw [List.getElem?_append_right (Nat.le_refl _), Nat.sub_self]; rfl
        have hfm2 : Frm [] m (M ++ (⟨[.int .i64 (k : Int), .int .i64 (0), .int .i64 (0), .bool (decide (p = 1))], 64, 1, 0, .own⟩ :: g)) := hfm.app
        generalize M ++ ((⟨[.int .i64 (k : Int), .int .i64 (0), .int .i64 (0), .bool (decide (p = 1))], 64, 1, 0, .own⟩ : Blk) :: g) = M2 at hm hi hb02 hb1 hfm2 ⊢
        have l02 := lt_of_some hb02
        have l12 := lt_of_some hb1
        by_cases hle : l.length ≤ r.length + 1
        · have hle' : ((l.length : Int) ≤ ((r.length + 1 : Nat) : Int)) = True := eq_true (by omega)
          simp (contextual := true) (implicitDefEqProofs := false) (maxSteps := 2000000) (disch := first | rfl | exact NB rfl | omega | (simp only [XL]; omega)) only [hle', string_mk_size, XW, undef_eq, Nat.reduceAdd, Nat.reduceSub, ↓reduceIte, basic, cellsL, resOf, setAt, below, belowB, belowA, atomB, Nat.reduceLeDiff, Nat.reduceMul, Int.reduceToNat, Int.reduceLT, Int.reduceLE, Int.reduceAdd, Int.reduceNeg, Int.reduceEq, splice, Nat.reduceEqDiff, Nat.reduceLT, isAtom, Int.reduceSub, Int.reduceMul, implies_true]
          refine (text_spec i T l _ hm (by omega) hin).use ?_
          have htk : List.take (l.length - 0) (List.drop 0 (b :: r)) = (b :: r).take l.length := by simp
          by_cases heq : strL l = (b :: r).take l.length
          · have hh := hget (hiff.mpr ⟨hle, heq⟩)
            rw [hh]
            have heq' : (strL l = (b :: r).take l.length) = True := eq_true heq
            simp (contextual := true) (implicitDefEqProofs := false) (maxSteps := 2000000) (disch := first | rfl | exact NB rfl | omega | (simp only [XL]; omega)) only [hb02, hb1, hle', str_cut, str_eq, strOf, htk, heq', Int.toNat_natCast, string_mk_size, Ct.val, XW, undef_eq, Nat.reduceAdd, Nat.reduceSub, ↓reduceIte, basic, cellsL, resOf, setAt, below, belowB, belowA, atomB, Nat.reduceLeDiff, Nat.reduceMul, Int.reduceToNat, Int.reduceLT, Int.reduceLE, Int.reduceAdd, Int.reduceNeg, Int.reduceEq, splice, Nat.reduceEqDiff, Nat.reduceLT, isAtom, Int.reduceSub, Int.reduceMul, implies_true]
            exact (hfm2.set (i := m.length) (.inr (Nat.le_refl _))).ext (by simp)
          · have heq' : (strL l = (b :: r).take l.length) = False := eq_false heq
            simp (contextual := true) (implicitDefEqProofs := false) (maxSteps := 2000000) (disch := first | rfl | exact NB rfl | omega | (simp only [XL]; omega)) only [hb02, hb1, hle', str_cut, str_eq, strOf, htk, heq', Int.toNat_natCast, string_mk_size, XW, undef_eq, Nat.reduceAdd, Nat.reduceSub, ↓reduceIte, basic, cellsL, resOf, setAt, below, belowB, belowA, atomB, Nat.reduceLeDiff, Nat.reduceMul, Int.reduceToNat, Int.reduceLT, Int.reduceLE, Int.reduceAdd, Int.reduceNeg, Int.reduceEq, splice, Nat.reduceEqDiff, Nat.reduceLT, isAtom, Int.reduceSub, Int.reduceMul, implies_true]
            exact kInv_go ⟨p + 1, rfl, by omega, fun p' hp1 => hstep p' hp1 fun hh => heq (hiff.mp hh).2, hfm2, hb02, ⟨rfl, by simp [hwp]⟩⟩ (by omega)
        · have hle' : ((l.length : Int) ≤ ((r.length + 1 : Nat) : Int)) = False := eq_false (by omega)
          simp (contextual := true) (implicitDefEqProofs := false) (maxSteps := 2000000) (disch := first | rfl | exact NB rfl | omega | (simp only [XL]; omega)) only [hle', string_mk_size, XW, undef_eq, Nat.reduceAdd, Nat.reduceSub, ↓reduceIte, basic, cellsL, resOf, setAt, below, belowB, belowA, atomB, Nat.reduceLeDiff, Nat.reduceMul, Int.reduceToNat, Int.reduceLT, Int.reduceLE, Int.reduceAdd, Int.reduceNeg, Int.reduceEq, splice, Nat.reduceEqDiff, Nat.reduceLT, isAtom, Int.reduceSub, Int.reduceMul, implies_true]
          exact kInv_go ⟨p + 1, rfl, by omega, fun p' hp1 => hstep p' hp1 fun hh => hle (hiff.mp hh).1, hfm2, hb02, ⟨rfl, by simp [hwp]⟩⟩ (by omega)
      · have hp' : ((p : Int) < 2) = False := eq_false (by omega)
        have hp2' : p = 2 := by omega
        subst hp2'
        simp (contextual := true) (implicitDefEqProofs := false) (maxSteps := 2000000) (disch := first | rfl | exact NB rfl | omega | (simp only [XL]; omega)) only [hp', XW, undef_eq, Nat.reduceAdd, Nat.reduceSub, ↓reduceIte, basic, cellsL, resOf, setAt, below, belowB, belowA, atomB, Nat.reduceLeDiff, Nat.reduceMul, Int.reduceToNat, Int.reduceLT, Int.reduceLE, Int.reduceAdd, Int.reduceNeg, Int.reduceEq, splice, Nat.reduceEqDiff, Nat.reduceLT, isAtom, Int.reduceSub, Int.reduceMul, implies_true]
        refine kInv_go ⟨k + 1, rfl, by omega, by omega, fun k' p h1 h2 => ?_, hfm, hb0, ⟨rfl, by simp [hwk]⟩⟩ (by omega)
        by_cases e : k' = (k : Int)
        · rw [e]; cases p with | false => exact hnp 0 (by omega) | true => exact hnp 1 (by omega)
        · exact hno k' p h1 (by omega)
    · have hlt' : ((k : Int) ≤ 14) = False := eq_false (by omega)
      have hnone : getC (b :: r) false = (2, czero, 0) := by
        rcases get_none (s := b :: r) (w := false) (fun k' p h1 h2 => hno k' p h1 (by omega)) with h | h | ⟨h1, h2, h3⟩
        · exact h
        · cases h
        · cases h1
      rw [hnone]
      simp (contextual := true) (implicitDefEqProofs := false) (maxSteps := 2000000) (disch := first | rfl | exact NB rfl | omega | (simp only [XL]; omega)) only [hlt', hb0, czero, Ct.val, XW, undef_eq, Nat.reduceAdd, Nat.reduceSub, ↓reduceIte, basic, cellsL, resOf, setAt, below, belowB, belowA, atomB, Nat.reduceLeDiff, Nat.reduceMul, Int.reduceToNat, Int.reduceLT, Int.reduceLE, Int.reduceAdd, Int.reduceNeg, Int.reduceEq, splice, Nat.reduceEqDiff, Nat.reduceLT, isAtom, Int.reduceSub, Int.reduceMul, implies_true]
      exact (hfm.set (i := m.length) (.inr (Nat.le_refl _))).ext (by simp)
  | true =>
    by_cases h3 : ((b.toNat % 4 : Nat) : Int) = 3
    · simp (contextual := true) (implicitDefEqProofs := false) (maxSteps := 2000000) (disch := first | rfl | exact NB rfl | omega | (simp only [XL]; omega)) only [L42, hempty, ht, u8_wrap, rem4, string_mk_size, eq_true h3, XX, XA, bin_add, bin_sub, bin_mul, bin_quo, bin_and, bin_or, bin_xor, bin_andNot, bin_eql, bin_neq, bin_lss, bin_leq, bin_gtr, bin_geq, bin_shl, bin_shr, bin_sadd, bin_seql, bin_sneq, lc_block, lc_cond, XZ, undef_eq, Nat.reduceAdd, Nat.reduceSub, ↓reduceIte, basic, cellsL, resOf, setAt, below, belowB, belowA, atomB, Nat.reduceLeDiff, Nat.reduceMul, Int.reduceToNat, Int.reduceLT, Int.reduceLE, Int.reduceAdd, Int.reduceNeg, Int.reduceEq, splice, Nat.reduceEqDiff, Nat.reduceLT, isAtom, Int.reduceSub, Int.reduceMul, implies_true]
      refine loop_inv (fun n t M => ∃ (k : Nat), n = 15 - k ∧ 1 ≤ k ∧ k ≤ 15 ∧ (∀ k' : Int, ∀ p, 1 ≤ k' → k' < (k : Int) → ¬ hit (b :: r) true k' p) ∧ Frm [] m M ∧ M[m.length]? = some ⟨[.int .i64 0, .int .i64 0, .int .i64 0, .bool false], 64, 1, 0, .own⟩ ∧ Tab 103 [(0, str (b :: r)), (1, .bool true), (4, .pointer (some ⟨m.length, 0, none⟩)), (7, .int .i64 (b.toNat : Int)), (8, .int .i64 (k : Int))] t) (n := 14) ?_ ?_
      · exact ⟨1, rfl, Nat.le_refl _, by omega, fun k' p h1 h2 => by omega, Frm.refl.app, by simp, ⟨rfl, by simp⟩⟩
      rintro N t M ⟨k, rfl, hk1, hk, hno, hfm, hb0, ht0⟩
      obtain ⟨f, rfl⟩ : ∃ f' : Nat → Value, t = [str (b :: r), .bool true, f' 2, f' 3, .pointer (some ⟨m.length, 0, none⟩), f' 5, f' 6, .int .i64 (b.toNat : Int), .int .i64 (k : Int), f' 9, f' 10, f' 11, f' 12, f' 13, f' 14, f' 15, f' 16, f' 17, f' 18, f' 19, f' 20, f' 21, f' 22, f' 23, f' 24, f' 25, f' 26, f' 27, f' 28, f' 29, f' 30, f' 31, f' 32, f' 33, f' 34, f' 35, f' 36, f' 37, f' 38, f' 39, f' 40, f' 41, f' 42, f' 43, f' 44, f' 45, f' 46, f' 47, f' 48, f' 49, f' 50, f' 51, f' 52, f' 53, f' 54, f' 55, f' 56, f' 57, f' 58, f' 59, f' 60, f' 61, f' 62, f' 63, f' 64, f' 65, f' 66, f' 67, f' 68, f' 69, f' 70, f' 71, f' 72, f' 73, f' 74, f' 75, f' 76, f' 77, f' 78, f' 79, f' 80, f' 81, f' 82, f' 83, f' 84, f' 85, f' 86, f' 87, f' 88, f' 89, f' 90, f' 91, f' 92, f' 93, f' 94, f' 95, f' 96, f' 97, f' 98, f' 99, f' 100, f' 101, f' 102] := ht0.open fun f' => rfl
      have l0 := lt_of_some hb0
      by_cases hlt : k ≤ 14
      · have hlt' : ((k : Int) ≤ 14) = True := eq_true (by omega)
        have hwk : IntKind.i64.wrap ((k : Int) + 1) = ((k + 1 : Nat) : Int) := by rw [wrap_i64 (by omega) (by omega)]; omega
        simp (contextual := true) (implicitDefEqProofs := false) (maxSteps := 2000000) (disch := first | rfl | exact NB rfl | omega | (simp only [XL]; omega)) only [hlt', XW, undef_eq, Nat.reduceAdd, Nat.reduceSub, ↓reduceIte, basic, cellsL, resOf, setAt, below, belowB, belowA, atomB, Nat.reduceLeDiff, Nat.reduceMul, Int.reduceToNat, Int.reduceLT, Int.reduceLE, Int.reduceAdd, Int.reduceNeg, Int.reduceEq, splice, Nat.reduceEqDiff, Nat.reduceLT, isAtom, Int.reduceSub, Int.reduceMul, implies_true]
        refine loop_inv (fun n t M => ∃ (p : Nat), n = 2 - p ∧ p ≤ 2 ∧ (∀ p' : Nat, p' < p → ¬ hit (b :: r) true (k : Int) (decide (p' = 1))) ∧ Frm [] m M ∧ M[m.length]? = some ⟨[.int .i64 0, .int .i64 0, .int .i64 0, .bool false], 64, 1, 0, .own⟩ ∧ Tab 103 [(0, str (b :: r)), (1, .bool true), (4, .pointer (some ⟨m.length, 0, none⟩)), (7, .int .i64 (b.toNat : Int)), (8, .int .i64 (k : Int)), (9, .int .i64 (p : Int))] t) (n := 2) ?_ ?_
        · exact ⟨0, rfl, Nat.zero_le _, fun p' h => by omega, hfm, hb0, ⟨rfl, by simp⟩⟩
        clear hfm hb0 l0
        rintro N t M ⟨p, rfl, hp, hnp, hfm, hb0, ht0⟩
        obtain ⟨f, rfl⟩ : ∃ f' : Nat → Value, t = [str (b :: r), .bool true, f' 2, f' 3, .pointer (some ⟨m.length, 0, none⟩), f' 5, f' 6, .int .i64 (b.toNat : Int), .int .i64 (k : Int), .int .i64 (p : Int), f' 10, f' 11, f' 12, f' 13, f' 14, f' 15, f' 16, f' 17, f' 18, f' 19, f' 20, f' 21, f' 22, f' 23, f' 24, f' 25, f' 26, f' 27, f' 28, f' 29, f' 30, f' 31, f' 32, f' 33, f' 34, f' 35, f' 36, f' 37, f' 38, f' 39, f' 40, f' 41, f' 42, f' 43, f' 44, f' 45, f' 46, f' 47, f' 48, f' 49, f' 50, f' 51, f' 52, f' 53, f' 54, f' 55, f' 56, f' 57, f' 58, f' 59, f' 60, f' 61, f' 62, f' 63, f' 64, f' 65, f' 66, f' 67, f' 68, f' 69, f' 70, f' 71, f' 72, f' 73, f' 74, f' 75, f' 76, f' 77, f' 78, f' 79, f' 80, f' 81, f' 82, f' 83, f' 84, f' 85, f' 86, f' 87, f' 88, f' 89, f' 90, f' 91, f' 92, f' 93, f' 94, f' 95, f' 96, f' 97, f' 98, f' 99, f' 100, f' 101, f' 102] := ht0.open fun f' => rfl
        have l0 := lt_of_some hb0
        by_cases hp2 : p < 2
        · have hp' : ((p : Int) < 2) = True := eq_true (by omega)
          have hwp : IntKind.i64.wrap ((p : Int) + 1) = ((p + 1 : Nat) : Int) := by rw [wrap_i64 (by omega) (by omega)]; omega
          have hpe : ((p : Int) = 1) = (p = 1) := by apply propext; omega
          have h16 : b.toNat % 16 < 256 := by omega
          have hstep : ∀ p' : Nat, p' < p + 1 → ¬ hit (b :: r) true (k : Int) (decide (p = 1)) → ¬ hit (b :: r) true (k : Int) (decide (p' = 1)) := fun p' h1 h2 => by
            by_cases e : p' = p
            · rw [e]; exact h2
            · exact hnp p' (by omega)
          have happ : ∀ g : Mem, (M ++ g)[m.length]? = some ⟨[.int .i64 0, .int .i64 0, .int .i64 0, .bool false], 64, 1, 0, .own⟩ := fun g => by rw [List.getElem?_append_left l0]; exact hb0
          by_cases hka : k = 1
          · have hk1 : ((k : Int) = 1) = True := eq_true (by omega)
            have hk5 : ((k : Int) ≤ 5) = True := eq_true (by omega)
            by_cases h2 : r.length + 1 < 2
            · have h2' : (((r.length + 1 : Nat) : Int) < 2) = True := eq_true (by omega)
              simp (contextual := true) (implicitDefEqProofs := false) (maxSteps := 2000000) (disch := first | rfl | exact NB rfl | omega | (simp only [XL]; omega)) only [hb0, hlt', hp', hk1, hk5, rem4, rem16 b.toNat, quo2 hn, quo2 h16, quo32 hn, string_mk_size, h2', hpe, ht, XX, XA, bin_add, bin_sub, bin_mul, bin_and, bin_or, bin_xor, bin_andNot, bin_eql, bin_neq, bin_lss, bin_leq, bin_gtr, bin_geq, bin_shl, bin_shr, bin_sadd, bin_seql, bin_sneq, lc_block, lc_cond, XZ, undef_eq, Nat.reduceAdd, Nat.reduceSub, ↓reduceIte, basic, cellsL, resOf, setAt, below, belowB, belowA, atomB, Nat.reduceLeDiff, Nat.reduceMul, Int.reduceToNat, Int.reduceLT, Int.reduceLE, Int.reduceAdd, Int.reduceNeg, Int.reduceEq, splice, Nat.reduceEqDiff, Nat.reduceLT, isAtom, Int.reduceSub, Int.reduceMul, implies_true]
              exact kInv_go ⟨p + 1, rfl, by omega, fun p' hp1 => hstep p' hp1 fun hh => by have := hh.1 rfl (by omega); simp only [List.length_cons] at this; omega, hfm.app, happ _, ⟨rfl, by simp [hwp]⟩⟩ (by omega)
            have h2' : (((r.length + 1 : Nat) : Int) < 2) = False := eq_false (by omega)
            obtain ⟨c1, r1, hr1⟩ : ∃ c1 r1, r = c1 :: r1 := by cases r with | nil => exact absurd (by simp) h2 | cons c1 r1 => exact ⟨c1, r1, rfl⟩
            have ht1 : (⟨(b :: r).toArray⟩ : ByteArray).data.toList[1]? = some c1 := by rw [hr1]; simp
            have hc1 := c1.toNat_lt
            have hcR : cR (b :: r) true (k : Int) = ((c1.toNat / 2 : Nat) : Int) := by unfold cR; rw [if_neg (by omega), if_pos rfl, hr1]; rfl
            have hcS : cS (b :: r) true (k : Int) = ((b.toNat / 2 : Nat) : Int) := by unfold cS; rw [if_pos (by omega), if_pos rfl]; rfl
            simp (contextual := true) (implicitDefEqProofs := false) (maxSteps := 2000000) (disch := first | rfl | exact NB rfl | omega | (simp only [XL]; omega)) only [hb0, hlt', hp', hk1, hk5, rem4, rem16 b.toNat, quo2 hn, quo2 h16, quo32 hn, string_mk_size, hpe, ht, u8_wrap, h2', ht1, quo2 hc1, XX, XA, bin_add, bin_sub, bin_mul, bin_and, bin_or, bin_xor, bin_andNot, bin_eql, bin_neq, bin_lss, bin_leq, bin_gtr, bin_geq, bin_shl, bin_shr, bin_sadd, bin_seql, bin_sneq, lc_block, lc_cond, XZ, undef_eq, Nat.reduceAdd, Nat.reduceSub, ↓reduceIte, basic, cellsL, resOf, setAt, below, belowB, belowA, atomB, Nat.reduceLeDiff, Nat.reduceMul, Int.reduceToNat, Int.reduceLT, Int.reduceLE, Int.reduceAdd, Int.reduceNeg, Int.reduceEq, splice, Nat.reduceEqDiff, Nat.reduceLT, isAtom, Int.reduceSub, Int.reduceMul, implies_true]
            have hcand := cand_right (s := b :: r) (w := true) (k := (k : Int)) (by omega)
            have hiff := hit_iff (s := b :: r) (w := true) (p := decide (p = 1)) (k := (k : Int)) (fun hw h5 => by simp only [List.length_cons]; omega)
            have hget := hit_get (s := b :: r) (w := true) (p := decide (p = 1)) (k := (k : Int)) (by omega)
            rw [hcR, hcS] at hcand hiff hget
            have hl12 := putL8_len (k := (k : Int)) (r := ((c1.toNat / 2 : Nat) : Int)) (s := ((b.toNat / 2 : Nat) : Int)) (p := decide (p = 1)) (w := true)
            refine refput_spec (k : Int) (((c1.toNat / 2 : Nat) : Int)) (((b.toNat / 2 : Nat) : Int)) (decide (p = 1)) true hcand _ _ fun i g T hm => ?_
            have hin := put_inB (p := decide (p = 1)) hcand
            generalize putL8 (k : Int) (((c1.toNat / 2 : Nat) : Int)) (((b.toNat / 2 : Nat) : Int)) (decide (p = 1)) true = l at hm hiff hget hl12 hin ⊢
            simp only [List.append_assoc, List.cons_append, List.nil_append] at hm ⊢
            have hi := lt_of_some hm
            have hb02 := (Frm.refl (F := []) (m := M)).app.get0 (m' := M ++ (⟨[.int .i64 (k : Int), .int .i64 (((c1.toNat / 2 : Nat) : Int)), .int .i64 (((b.toNat / 2 : Nat) : Int)), .bool (decide (p = 1))], 64, 1, 0, .own⟩ :: g)) hb0
            have hb1 : (M ++ (⟨[.int .i64 (k : Int), .int .i64 (((c1.toNat / 2 : Nat) : Int)), .int .i64 (((b.toNat / 2 : Nat) : Int)), .bool (decide (p = 1))], 64, 1, 0, .own⟩ :: g))[M.length]? = some ⟨[.int .i64 (k : Int), .int .i64 (((c1.toNat / 2 : Nat) : Int)), .int .i64 (((b.toNat / 2 : Nat) : Int)), .bool (decide (p = 1))], 64, 1, 0, .own⟩ := by rw [List.getElem?_append_right (Nat.le_refl _), Nat.sub_self]; rfl
            have hfm2 : Frm [] m (M ++ (⟨[.int .i64 (k : Int), .int .i64 (((c1.toNat / 2 : Nat) : Int)), .int .i64 (((b.toNat / 2 : Nat) : Int)), .bool (decide (p = 1))], 64, 1, 0, .own⟩ :: g)) := hfm.app
            generalize M ++ ((⟨[.int .i64 (k : Int), .int .i64 (((c1.toNat / 2 : Nat) : Int)), .int .i64 (((b.toNat / 2 : Nat) : Int)), .bool (decide (p = 1))], 64, 1, 0, .own⟩ : Blk) :: g) = M2 at hm hi hb02 hb1 hfm2 ⊢
            have l02 := lt_of_some hb02
            have l12 := lt_of_some hb1
            by_cases hle : l.length ≤ r.length + 1
            · have hle' : ((l.length : Int) ≤ ((r.length + 1 : Nat) : Int)) = True := eq_true (by omega)
              simp (contextual := true) (implicitDefEqProofs := false) (maxSteps := 2000000) (disch := first | rfl | exact NB rfl | omega | (simp only [XL]; omega)) only [hle', string_mk_size, XW, undef_eq, Nat.reduceAdd, Nat.reduceSub, ↓reduceIte, basic, cellsL, resOf, setAt, below, belowB, belowA, atomB, Nat.reduceLeDiff, Nat.reduceMul, Int.reduceToNat, Int.reduceLT, Int.reduceLE, Int.reduceAdd, Int.reduceNeg, Int.reduceEq, splice, Nat.reduceEqDiff, Nat.reduceLT, isAtom, Int.reduceSub, Int.reduceMul, implies_true]
              refine (text_spec i T l _ hm (by omega) hin).use ?_
              have htk : List.take (l.length - 0) (List.drop 0 (b :: r)) = (b :: r).take l.length := by simp
              by_cases heq : strL l = (b :: r).take l.length
              · have hh := hget (hiff.mpr ⟨hle, heq⟩)
                rw [hh]
                have heq' : (strL l = (b :: r).take l.length) = True := eq_true heq
                simp (contextual := true) (implicitDefEqProofs := false) (maxSteps := 2000000) (disch := first | rfl | exact NB rfl | omega | (simp only [XL]; omega)) only [hb02, hb1, hle', str_cut, str_eq, strOf, htk, heq', Int.toNat_natCast, string_mk_size, Ct.val, XW, undef_eq, Nat.reduceAdd, Nat.reduceSub, ↓reduceIte, basic, cellsL, resOf, setAt, below, belowB, belowA, atomB, Nat.reduceLeDiff, Nat.reduceMul, Int.reduceToNat, Int.reduceLT, Int.reduceLE, Int.reduceAdd, Int.reduceNeg, Int.reduceEq, splice, Nat.reduceEqDiff, Nat.reduceLT, isAtom, Int.reduceSub, Int.reduceMul, implies_true]
                exact (hfm2.set (i := m.length) (.inr (Nat.le_refl _))).ext (by simp)
              · have heq' : (strL l = (b :: r).take l.length) = False := eq_false heq
                simp (contextual := true) (implicitDefEqProofs := false) (maxSteps := 2000000) (disch := first | rfl | exact NB rfl | omega | (simp only [XL]; omega)) only [hb02, hb1, hle', str_cut, str_eq, strOf, htk, heq', Int.toNat_natCast, string_mk_size, XW, undef_eq, Nat.reduceAdd, Nat.reduceSub, ↓reduceIte, basic, cellsL, resOf, setAt, below, belowB, belowA, atomB, Nat.reduceLeDiff, Nat.reduceMul, Int.reduceToNat, Int.reduceLT, Int.reduceLE, Int.reduceAdd, Int.reduceNeg, Int.reduceEq, splice, Nat.reduceEqDiff, Nat.reduceLT, isAtom, Int.reduceSub, Int.reduceMul, implies_true]
                exact kInv_go ⟨p + 1, rfl, by omega, fun p' hp1 => hstep p' hp1 fun hh => heq (hiff.mp hh).2, hfm2, hb02, ⟨rfl, by simp [hwp]⟩⟩ (by omega)
            · have hle' : ((l.length : Int) ≤ ((r.length + 1 : Nat) : Int)) = False := eq_false (by omega)
              simp (contextual := true) (implicitDefEqProofs := false) (maxSteps := 2000000) (disch := first | rfl | exact NB rfl | omega | (simp only [XL]; omega)) only [hle', string_mk_size, XW, undef_eq, Nat.reduceAdd, Nat.reduceSub, ↓reduceIte, basic, cellsL, resOf, setAt, below, belowB, belowA, atomB, Nat.reduceLeDiff, Nat.reduceMul, Int.reduceToNat, Int.reduceLT, Int.reduceLE, Int.reduceAdd, Int.reduceNeg, Int.reduceEq, splice, Nat.reduceEqDiff, Nat.reduceLT, isAtom, Int.reduceSub, Int.reduceMul, implies_true]
              exact kInv_go ⟨p + 1, rfl, by omega, fun p' hp1 => hstep p' hp1 fun hh => hle (hiff.mp hh).1, hfm2, hb02, ⟨rfl, by simp [hwp]⟩⟩ (by omega)
          by_cases hkb : k ≤ 5
          · have hk1 : ((k : Int) = 1) = False := eq_false (by omega)
            have hk5 : ((k : Int) ≤ 5) = True := eq_true (by omega)
            by_cases h2 : r.length + 1 < 2
            · have h2' : (((r.length + 1 : Nat) : Int) < 2) = True := eq_true (by omega)
              simp (contextual := true) (implicitDefEqProofs := false) (maxSteps := 2000000) (disch := first | rfl | exact NB rfl | omega | (simp only [XL]; omega)) only [hb0, hlt', hp', hk1, hk5, rem4, rem16 b.toNat, quo2 hn, quo2 h16, quo32 hn, string_mk_size, h2', hpe, ht, XX, XA, bin_add, bin_sub, bin_mul, bin_and, bin_or, bin_xor, bin_andNot, bin_eql, bin_neq, bin_lss, bin_leq, bin_gtr, bin_geq, bin_shl, bin_shr, bin_sadd, bin_seql, bin_sneq, lc_block, lc_cond, XZ, undef_eq, Nat.reduceAdd, Nat.reduceSub, ↓reduceIte, basic, cellsL, resOf, setAt, below, belowB, belowA, atomB, Nat.reduceLeDiff, Nat.reduceMul, Int.reduceToNat, Int.reduceLT, Int.reduceLE, Int.reduceAdd, Int.reduceNeg, Int.reduceEq, splice, Nat.reduceEqDiff, Nat.reduceLT, isAtom, Int.reduceSub, Int.reduceMul, implies_true]
              exact kInv_go ⟨p + 1, rfl, by omega, fun p' hp1 => hstep p' hp1 fun hh => by have := hh.1 rfl (by omega); simp only [List.length_cons] at this; omega, hfm.app, happ _, ⟨rfl, by simp [hwp]⟩⟩ (by omega)
            have h2' : (((r.length + 1 : Nat) : Int) < 2) = False := eq_false (by omega)
            obtain ⟨c1, r1, hr1⟩ : ∃ c1 r1, r = c1 :: r1 := by cases r with | nil => exact absurd (by simp) h2 | cons c1 r1 => exact ⟨c1, r1, rfl⟩
            have ht1 : (⟨(b :: r).toArray⟩ : ByteArray).data.toList[1]? = some c1 := by rw [hr1]; simp
            have hc1 := c1.toNat_lt
            have hcR : cR (b :: r) true (k : Int) = ((c1.toNat / 2 : Nat) : Int) := by unfold cR; rw [if_neg (by omega), if_pos rfl, hr1]; rfl
            have hcS : cS (b :: r) true (k : Int) = 0 := by unfold cS; rw [if_neg (by omega)]
            simp (contextual := true) (implicitDefEqProofs := false) (maxSteps := 2000000) (disch := first | rfl | exact NB rfl | omega | (simp only [XL]; omega)) only [hb0, hlt', hp', hk1, hk5, rem4, rem16 b.toNat, quo2 hn, quo2 h16, quo32 hn, string_mk_size, hpe, ht, u8_wrap, h2', ht1, quo2 hc1, XX, XA, bin_add, bin_sub, bin_mul, bin_and, bin_or, bin_xor, bin_andNot, bin_eql, bin_neq, bin_lss, bin_leq, bin_gtr, bin_geq, bin_shl, bin_shr, bin_sadd, bin_seql, bin_sneq, lc_block, lc_cond, XZ, undef_eq, Nat.reduceAdd, Nat.reduceSub, ↓reduceIte, basic, cellsL, resOf, setAt, below, belowB, belowA, atomB, Nat.reduceLeDiff, Nat.reduceMul, Int.reduceToNat, Int.reduceLT, Int.reduceLE, Int.reduceAdd, Int.reduceNeg, Int.reduceEq, splice, Nat.reduceEqDiff, Nat.reduceLT, isAtom, Int.reduceSub, Int.reduceMul, implies_true]
            have hcand := cand_right (s := b :: r) (w := true) (k := (k : Int)) (by omega)
            have hiff := hit_iff (s := b :: r) (w := true) (p := decide (p = 1)) (k := (k : Int)) (fun hw h5 => by simp only [List.length_cons]; omega)
            have hget := hit_get (s := b :: r) (w := true) (p := decide (p = 1)) (k := (k : Int)) (by omega)
            rw [hcR, hcS] at hcand hiff hget
            have hl12 := putL8_len (k := (k : Int)) (r := ((c1.toNat / 2 : Nat) : Int)) (s := 0) (p := decide (p = 1)) (w := true)
            refine refput_spec (k : Int) (((c1.toNat / 2 : Nat) : Int)) (0) (decide (p = 1)) true hcand _ _ fun i g T hm => ?_
            have hin := put_inB (p := decide (p = 1)) hcand
            generalize putL8 (k : Int) (((c1.toNat / 2 : Nat) : Int)) (0) (decide (p = 1)) true = l at hm hiff hget hl12 hin ⊢
            simp only [List.append_assoc, List.cons_append, List.nil_append] at hm ⊢
            have hi := lt_of_some hm
            have hb02 := (Frm.refl (F := []) (m := M)).app.get0 (m' := M ++ (⟨[.int .i64 (k : Int), .int .i64 (((c1.toNat / 2 : Nat) : Int)), .int .i64 (0), .bool (decide (p = 1))], 64, 1, 0, .own⟩ :: g)) hb0
            have hb1 : (M ++ (⟨[.int .i64 (k : Int), .int .i64 (((c1.toNat / 2 : Nat) : Int)), .int .i64 (0), .bool (decide (p = 1))], 64, 1, 0, .own⟩ :: g))[M.length]? = some ⟨[.int .i64 (k : Int), .int .i64 (((c1.toNat / 2 : Nat) : Int)), .int .i64 (0), .bool (decide (p = 1))], 64, 1, 0, .own⟩ := by rw [List.getElem?_append_right (Nat.le_refl _), Nat.sub_self]; rfl
            have hfm2 : Frm [] m (M ++ (⟨[.int .i64 (k : Int), .int .i64 (((c1.toNat / 2 : Nat) : Int)), .int .i64 (0), .bool (decide (p = 1))], 64, 1, 0, .own⟩ :: g)) := hfm.app
            generalize M ++ ((⟨[.int .i64 (k : Int), .int .i64 (((c1.toNat / 2 : Nat) : Int)), .int .i64 (0), .bool (decide (p = 1))], 64, 1, 0, .own⟩ : Blk) :: g) = M2 at hm hi hb02 hb1 hfm2 ⊢
            have l02 := lt_of_some hb02
            have l12 := lt_of_some hb1
            by_cases hle : l.length ≤ r.length + 1
            · have hle' : ((l.length : Int) ≤ ((r.length + 1 : Nat) : Int)) = True := eq_true (by omega)
              simp (contextual := true) (implicitDefEqProofs := false) (maxSteps := 2000000) (disch := first | rfl | exact NB rfl | omega | (simp only [XL]; omega)) only [hle', string_mk_size, XW, undef_eq, Nat.reduceAdd, Nat.reduceSub, ↓reduceIte, basic, cellsL, resOf, setAt, below, belowB, belowA, atomB, Nat.reduceLeDiff, Nat.reduceMul, Int.reduceToNat, Int.reduceLT, Int.reduceLE, Int.reduceAdd, Int.reduceNeg, Int.reduceEq, splice, Nat.reduceEqDiff, Nat.reduceLT, isAtom, Int.reduceSub, Int.reduceMul, implies_true]
              refine (text_spec i T l _ hm (by omega) hin).use ?_
              have htk : List.take (l.length - 0) (List.drop 0 (b :: r)) = (b :: r).take l.length := by simp
              by_cases heq : strL l = (b :: r).take l.length
              · have hh := hget (hiff.mpr ⟨hle, heq⟩)
                rw [hh]
                have heq' : (strL l = (b :: r).take l.length) = True := eq_true heq
                simp (contextual := true) (implicitDefEqProofs := false) (maxSteps := 2000000) (disch := first | rfl | exact NB rfl | omega | (simp only [XL]; omega)) only [hb02, hb1, hle', str_cut, str_eq, strOf, htk, heq', Int.toNat_natCast, string_mk_size, Ct.val, XW, undef_eq, Nat.reduceAdd, Nat.reduceSub, ↓reduceIte, basic, cellsL, resOf, setAt, below, belowB, belowA, atomB, Nat.reduceLeDiff, Nat.reduceMul, Int.reduceToNat, Int.reduceLT, Int.reduceLE, Int.reduceAdd, Int.reduceNeg, Int.reduceEq, splice, Nat.reduceEqDiff, Nat.reduceLT, isAtom, Int.reduceSub, Int.reduceMul, implies_true]
                exact (hfm2.set (i := m.length) (.inr (Nat.le_refl _))).ext (by simp)
              · have heq' : (strL l = (b :: r).take l.length) = False := eq_false heq
                simp (contextual := true) (implicitDefEqProofs := false) (maxSteps := 2000000) (disch := first | rfl | exact NB rfl | omega | (simp only [XL]; omega)) only [hb02, hb1, hle', str_cut, str_eq, strOf, htk, heq', Int.toNat_natCast, string_mk_size, XW, undef_eq, Nat.reduceAdd, Nat.reduceSub, ↓reduceIte, basic, cellsL, resOf, setAt, below, belowB, belowA, atomB, Nat.reduceLeDiff, Nat.reduceMul, Int.reduceToNat, Int.reduceLT, Int.reduceLE, Int.reduceAdd, Int.reduceNeg, Int.reduceEq, splice, Nat.reduceEqDiff, Nat.reduceLT, isAtom, Int.reduceSub, Int.reduceMul, implies_true]
                exact kInv_go ⟨p + 1, rfl, by omega, fun p' hp1 => hstep p' hp1 fun hh => heq (hiff.mp hh).2, hfm2, hb02, ⟨rfl, by simp [hwp]⟩⟩ (by omega)
            · have hle' : ((l.length : Int) ≤ ((r.length + 1 : Nat) : Int)) = False := eq_false (by omega)
              simp (contextual := true) (implicitDefEqProofs := false) (maxSteps := 2000000) (disch := first | rfl | exact NB rfl | omega | (simp only [XL]; omega)) only [hle', string_mk_size, XW, undef_eq, Nat.reduceAdd, Nat.reduceSub, ↓reduceIte, basic, cellsL, resOf, setAt, below, belowB, belowA, atomB, Nat.reduceLeDiff, Nat.reduceMul, Int.reduceToNat, Int.reduceLT, Int.reduceLE, Int.reduceAdd, Int.reduceNeg, Int.reduceEq, splice, Nat.reduceEqDiff, Nat.reduceLT, isAtom, Int.reduceSub, Int.reduceMul, implies_true]
              exact kInv_go ⟨p + 1, rfl, by omega, fun p' hp1 => hstep p' hp1 fun hh => hle (hiff.mp hh).1, hfm2, hb02, ⟨rfl, by simp [hwp]⟩⟩ (by omega)
          have hk1 : ((k : Int) = 1) = False := eq_false (by omega)
          have hk5 : ((k : Int) ≤ 5) = False := eq_false (by omega)
          have hcR : cR (b :: r) true (k : Int) = 0 := by unfold cR; rw [if_pos (by omega)]
          have hcS : cS (b :: r) true (k : Int) = 0 := by unfold cS; rw [if_neg (by omega)]
          simp (contextual := true) (implicitDefEqProofs := false) (maxSteps := 2000000) (disch := first | rfl | exact NB rfl | omega | (simp only [XL]; omega)) only [hb0, hlt', hp', hk1, hk5, rem4, rem16 b.toNat, quo2 hn, quo2 h16, quo32 hn, string_mk_size, hpe, ht, u8_wrap, XX, XA, bin_add, bin_sub, bin_mul, bin_and, bin_or, bin_xor, bin_andNot, bin_eql, bin_neq, bin_lss, bin_leq, bin_gtr, bin_geq, bin_shl, bin_shr, bin_sadd, bin_seql, bin_sneq, lc_block, lc_cond, XZ, undef_eq, Nat.reduceAdd, Nat.reduceSub, ↓reduceIte, basic, cellsL, resOf, setAt, below, belowB, belowA, atomB, Nat.reduceLeDiff, Nat.reduceMul, Int.reduceToNat, Int.reduceLT, Int.reduceLE, Int.reduceAdd, Int.reduceNeg, Int.reduceEq, splice, Nat.reduceEqDiff, Nat.reduceLT, isAtom, Int.reduceSub, Int.reduceMul, implies_true]
          have hcand := cand_right (s := b :: r) (w := true) (k := (k : Int)) (by omega)
          have hiff := hit_iff (s := b :: r) (w := true) (p := decide (p = 1)) (k := (k : Int)) (fun hw h5 => by omega)
          have hget := hit_get (s := b :: r) (w := true) (p := decide (p = 1)) (k := (k : Int)) (by omega)
          rw [hcR, hcS] at hcand hiff hget
          have hl12 := putL8_len (k := (k : Int)) (r := 0) (s := 0) (p := decide (p = 1)) (w := true)
          refine refput_spec (k : Int) (0) (0) (decide (p = 1)) true hcand _ _ fun i g T hm => ?_
          have hin := put_inB (p := decide (p = 1)) hcand
          generalize putL8 (k : Int) (0) (0) (decide (p = 1)) true = l at hm hiff hget hl12 hin ⊢
          simp only [List.append_assoc, List.cons_append, List.nil_append] at hm ⊢
          have hi := lt_of_some hm
          have hb02 := (Frm.refl (F := []) (m := M)).app.get0 (m' := M ++ (⟨[.int .i64 (k : Int), .int .i64 (0), .int .i64 (0), .bool (decide (p = 1))], 64, 1, 0, .own⟩ :: g)) hb0
          have hb1 : (M ++ (⟨[.int .i64 (k : Int), .int .i64 (0), .int .i64 (0), .bool (decide (p = 1))], 64, 1, 0, .own⟩ :: g))[M.length]? = some ⟨[.int .i64 (k : Int), .int .i64 (0), .int .i64 (0), .bool (decide (p = 1))], 64, 1, 0, .own⟩ := by rw [List.getElem?_append_right (Nat.le_refl _), Nat.sub_self]; rfl
          have hfm2 : Frm [] m (M ++ (⟨[.int .i64 (k : Int), .int .i64 (0), .int .i64 (0), .bool (decide (p = 1))], 64, 1, 0, .own⟩ :: g)) := hfm.app
          generalize M ++ ((⟨[.int .i64 (k : Int), .int .i64 (0), .int .i64 (0), .bool (decide (p = 1))], 64, 1, 0, .own⟩ : Blk) :: g) = M2 at hm hi hb02 hb1 hfm2 ⊢
          have l02 := lt_of_some hb02
          have l12 := lt_of_some hb1
          by_cases hle : l.length ≤ r.length + 1
          · have hle' : ((l.length : Int) ≤ ((r.length + 1 : Nat) : Int)) = True := eq_true (by omega)
            simp (contextual := true) (implicitDefEqProofs := false) (maxSteps := 2000000) (disch := first | rfl | exact NB rfl | omega | (simp only [XL]; omega)) only [hle', string_mk_size, XW, undef_eq, Nat.reduceAdd, Nat.reduceSub, ↓reduceIte, basic, cellsL, resOf, setAt, below, belowB, belowA, atomB, Nat.reduceLeDiff, Nat.reduceMul, Int.reduceToNat, Int.reduceLT, Int.reduceLE, Int.reduceAdd, Int.reduceNeg, Int.reduceEq, splice, Nat.reduceEqDiff, Nat.reduceLT, isAtom, Int.reduceSub, Int.reduceMul, implies_true]
            refine (text_spec i T l _ hm (by omega) hin).use ?_
            have htk : List.take (l.length - 0) (List.drop 0 (b :: r)) = (b :: r).take l.length := by simp
            by_cases heq : strL l = (b :: r).take l.length
            · have hh := hget (hiff.mpr ⟨hle, heq⟩)
              rw [hh]
              have heq' : (strL l = (b :: r).take l.length) = True := eq_true heq
              simp (contextual := true) (implicitDefEqProofs := false) (maxSteps := 2000000) (disch := first | rfl | exact NB rfl | omega | (simp only [XL]; omega)) only [hb02, hb1, hle', str_cut, str_eq, strOf, htk, heq', Int.toNat_natCast, string_mk_size, Ct.val, XW, undef_eq, Nat.reduceAdd, Nat.reduceSub, ↓reduceIte, basic, cellsL, resOf, setAt, below, belowB, belowA, atomB, Nat.reduceLeDiff, Nat.reduceMul, Int.reduceToNat, Int.reduceLT, Int.reduceLE, Int.reduceAdd, Int.reduceNeg, Int.reduceEq, splice, Nat.reduceEqDiff, Nat.reduceLT, isAtom, Int.reduceSub, Int.reduceMul, implies_true]
              exact (hfm2.set (i := m.length) (.inr (Nat.le_refl _))).ext (by simp)
            · have heq' : (strL l = (b :: r).take l.length) = False := eq_false heq
              simp (contextual := true) (implicitDefEqProofs := false) (maxSteps := 2000000) (disch := first | rfl | exact NB rfl | omega | (simp only [XL]; omega)) only [hb02, hb1, hle', str_cut, str_eq, strOf, htk, heq', Int.toNat_natCast, string_mk_size, XW, undef_eq, Nat.reduceAdd, Nat.reduceSub, ↓reduceIte, basic, cellsL, resOf, setAt, below, belowB, belowA, atomB, Nat.reduceLeDiff, Nat.reduceMul, Int.reduceToNat, Int.reduceLT, Int.reduceLE, Int.reduceAdd, Int.reduceNeg, Int.reduceEq, splice, Nat.reduceEqDiff, Nat.reduceLT, isAtom, Int.reduceSub, Int.reduceMul, implies_true]
              exact kInv_go ⟨p + 1, rfl, by omega, fun p' hp1 => hstep p' hp1 fun hh => heq (hiff.mp hh).2, hfm2, hb02, ⟨rfl, by simp [hwp]⟩⟩ (by omega)
          · have hle' : ((l.length : Int) ≤ ((r.length + 1 : Nat) : Int)) = False := eq_false (by omega)
            simp (contextual := true) (implicitDefEqProofs := false) (maxSteps := 2000000) (disch := first | rfl | exact NB rfl | omega | (simp only [XL]; omega)) only [hle', string_mk_size, XW, undef_eq, Nat.reduceAdd, Nat.reduceSub, ↓reduceIte, basic, cellsL, resOf, setAt, below, belowB, belowA, atomB, Nat.reduceLeDiff, Nat.reduceMul, Int.reduceToNat, Int.reduceLT, Int.reduceLE, Int.reduceAdd, Int.reduceNeg, Int.reduceEq, splice, Nat.reduceEqDiff, Nat.reduceLT, isAtom, Int.reduceSub, Int.reduceMul, implies_true]
            exact kInv_go ⟨p + 1, rfl, by omega, fun p' hp1 => hstep p' hp1 fun hh => hle (hiff.mp hh).1, hfm2, hb02, ⟨rfl, by simp [hwp]⟩⟩ (by omega)
        · have hp' : ((p : Int) < 2) = False := eq_false (by omega)
          have hp2' : p = 2 := by omega
          subst hp2'
          simp (contextual := true) (implicitDefEqProofs := false) (maxSteps := 2000000) (disch := first | rfl | exact NB rfl | omega | (simp only [XL]; omega)) only [hp', XW, undef_eq, Nat.reduceAdd, Nat.reduceSub, ↓reduceIte, basic, cellsL, resOf, setAt, below, belowB, belowA, atomB, Nat.reduceLeDiff, Nat.reduceMul, Int.reduceToNat, Int.reduceLT, Int.reduceLE, Int.reduceAdd, Int.reduceNeg, Int.reduceEq, splice, Nat.reduceEqDiff, Nat.reduceLT, isAtom, Int.reduceSub, Int.reduceMul, implies_true]
          refine kInv_go ⟨k + 1, rfl, by omega, by omega, fun k' p h1 h2 => ?_, hfm, hb0, ⟨rfl, by simp [hwk]⟩⟩ (by omega)
          by_cases e : k' = (k : Int)
          · rw [e]; cases p with | false => exact hnp 0 (by omega) | true => exact hnp 1 (by omega)
          · exact hno k' p h1 (by omega)
      · have hlt' : ((k : Int) ≤ 14) = False := eq_false (by omega)
        have hnone : getC (b :: r) true = (2, czero, 0) := by
          rcases get_none (s := b :: r) (w := true) (fun k' p h1 h2 => hno k' p h1 (by omega)) with h | h | ⟨h1, h2, h3⟩
          · exact h
          · cases h
          · exact absurd (show b.toNat % 4 = 3 by omega) h3
        rw [hnone]
        simp (contextual := true) (implicitDefEqProofs := false) (maxSteps := 2000000) (disch := first | rfl | exact NB rfl | omega | (simp only [XL]; omega)) only [hlt', hb0, czero, Ct.val, XW, undef_eq, Nat.reduceAdd, Nat.reduceSub, ↓reduceIte, basic, cellsL, resOf, setAt, below, belowB, belowA, atomB, Nat.reduceLeDiff, Nat.reduceMul, Int.reduceToNat, Int.reduceLT, Int.reduceLE, Int.reduceAdd, Int.reduceNeg, Int.reduceEq, splice, Nat.reduceEqDiff, Nat.reduceLT, isAtom, Int.reduceSub, Int.reduceMul, implies_true]
        exact (hfm.set (i := m.length) (.inr (Nat.le_refl _))).ext (by simp)
    · have hs : (((r.length + 1 : Nat) : Int) < 2) = False := eq_false (by
        have := hr rfl (by omega)
        simp only [List.length_cons] at this; omega)
      simp (contextual := true) (implicitDefEqProofs := false) (maxSteps := 2000000) (disch := first | rfl | exact NB rfl | omega | (simp only [XL]; omega)) only [L42, hempty, ht, u8_wrap, rem4, string_mk_size, eq_false h3, hs, XX, XA, bin_add, bin_sub, bin_mul, bin_quo, bin_and, bin_or, bin_xor, bin_andNot, bin_eql, bin_neq, bin_lss, bin_leq, bin_gtr, bin_geq, bin_shl, bin_shr, bin_sadd, bin_seql, bin_sneq, lc_block, lc_cond, XZ, undef_eq, Nat.reduceAdd, Nat.reduceSub, ↓reduceIte, basic, cellsL, resOf, setAt, below, belowB, belowA, atomB, Nat.reduceLeDiff, Nat.reduceMul, Int.reduceToNat, Int.reduceLT, Int.reduceLE, Int.reduceAdd, Int.reduceNeg, Int.reduceEq, splice, Nat.reduceEqDiff, Nat.reduceLT, isAtom, Int.reduceSub, Int.reduceMul, implies_true]
      refine loop_inv (fun n t M => ∃ (k : Nat), n = 15 - k ∧ 1 ≤ k ∧ k ≤ 15 ∧ (∀ k' : Int, ∀ p, 1 ≤ k' → k' < (k : Int) → ¬ hit (b :: r) true k' p) ∧ Frm [] m M ∧ M[m.length]? = some ⟨[.int .i64 0, .int .i64 0, .int .i64 0, .bool false], 64, 1, 0, .own⟩ ∧ Tab 103 [(0, str (b :: r)), (1, .bool true), (4, .pointer (some ⟨m.length, 0, none⟩)), (7, .int .i64 (b.toNat : Int)), (8, .int .i64 (k : Int))] t) (n := 14) ?_ ?_
      · exact ⟨1, rfl, Nat.le_refl _, by omega, fun k' p h1 h2 => by omega, Frm.refl.app, by simp, ⟨rfl, by simp⟩⟩
      rintro N t M ⟨k, rfl, hk1, hk, hno, hfm, hb0, ht0⟩
      obtain ⟨f, rfl⟩ : ∃ f' : Nat → Value, t = [str (b :: r), .bool true, f' 2, f' 3, .pointer (some ⟨m.length, 0, none⟩), f' 5, f' 6, .int .i64 (b.toNat : Int), .int .i64 (k : Int), f' 9, f' 10, f' 11, f' 12, f' 13, f' 14, f' 15, f' 16, f' 17, f' 18, f' 19, f' 20, f' 21, f' 22, f' 23, f' 24, f' 25, f' 26, f' 27, f' 28, f' 29, f' 30, f' 31, f' 32, f' 33, f' 34, f' 35, f' 36, f' 37, f' 38, f' 39, f' 40, f' 41, f' 42, f' 43, f' 44, f' 45, f' 46, f' 47, f' 48, f' 49, f' 50, f' 51, f' 52, f' 53, f' 54, f' 55, f' 56, f' 57, f' 58, f' 59, f' 60, f' 61, f' 62, f' 63, f' 64, f' 65, f' 66, f' 67, f' 68, f' 69, f' 70, f' 71, f' 72, f' 73, f' 74, f' 75, f' 76, f' 77, f' 78, f' 79, f' 80, f' 81, f' 82, f' 83, f' 84, f' 85, f' 86, f' 87, f' 88, f' 89, f' 90, f' 91, f' 92, f' 93, f' 94, f' 95, f' 96, f' 97, f' 98, f' 99, f' 100, f' 101, f' 102] := ht0.open fun f' => rfl
      have l0 := lt_of_some hb0
      by_cases hlt : k ≤ 14
      · have hlt' : ((k : Int) ≤ 14) = True := eq_true (by omega)
        have hwk : IntKind.i64.wrap ((k : Int) + 1) = ((k + 1 : Nat) : Int) := by rw [wrap_i64 (by omega) (by omega)]; omega
        simp (contextual := true) (implicitDefEqProofs := false) (maxSteps := 2000000) (disch := first | rfl | exact NB rfl | omega | (simp only [XL]; omega)) only [hlt', XW, undef_eq, Nat.reduceAdd, Nat.reduceSub, ↓reduceIte, basic, cellsL, resOf, setAt, below, belowB, belowA, atomB, Nat.reduceLeDiff, Nat.reduceMul, Int.reduceToNat, Int.reduceLT, Int.reduceLE, Int.reduceAdd, Int.reduceNeg, Int.reduceEq, splice, Nat.reduceEqDiff, Nat.reduceLT, isAtom, Int.reduceSub, Int.reduceMul, implies_true]
        refine loop_inv (fun n t M => ∃ (p : Nat), n = 2 - p ∧ p ≤ 2 ∧ (∀ p' : Nat, p' < p → ¬ hit (b :: r) true (k : Int) (decide (p' = 1))) ∧ Frm [] m M ∧ M[m.length]? = some ⟨[.int .i64 0, .int .i64 0, .int .i64 0, .bool false], 64, 1, 0, .own⟩ ∧ Tab 103 [(0, str (b :: r)), (1, .bool true), (4, .pointer (some ⟨m.length, 0, none⟩)), (7, .int .i64 (b.toNat : Int)), (8, .int .i64 (k : Int)), (9, .int .i64 (p : Int))] t) (n := 2) ?_ ?_
        · exact ⟨0, rfl, Nat.zero_le _, fun p' h => by omega, hfm, hb0, ⟨rfl, by simp⟩⟩
        clear hfm hb0 l0
        rintro N t M ⟨p, rfl, hp, hnp, hfm, hb0, ht0⟩
        obtain ⟨f, rfl⟩ : ∃ f' : Nat → Value, t = [str (b :: r), .bool true, f' 2, f' 3, .pointer (some ⟨m.length, 0, none⟩), f' 5, f' 6, .int .i64 (b.toNat : Int), .int .i64 (k : Int), .int .i64 (p : Int), f' 10, f' 11, f' 12, f' 13, f' 14, f' 15, f' 16, f' 17, f' 18, f' 19, f' 20, f' 21, f' 22, f' 23, f' 24, f' 25, f' 26, f' 27, f' 28, f' 29, f' 30, f' 31, f' 32, f' 33, f' 34, f' 35, f' 36, f' 37, f' 38, f' 39, f' 40, f' 41, f' 42, f' 43, f' 44, f' 45, f' 46, f' 47, f' 48, f' 49, f' 50, f' 51, f' 52, f' 53, f' 54, f' 55, f' 56, f' 57, f' 58, f' 59, f' 60, f' 61, f' 62, f' 63, f' 64, f' 65, f' 66, f' 67, f' 68, f' 69, f' 70, f' 71, f' 72, f' 73, f' 74, f' 75, f' 76, f' 77, f' 78, f' 79, f' 80, f' 81, f' 82, f' 83, f' 84, f' 85, f' 86, f' 87, f' 88, f' 89, f' 90, f' 91, f' 92, f' 93, f' 94, f' 95, f' 96, f' 97, f' 98, f' 99, f' 100, f' 101, f' 102] := ht0.open fun f' => rfl
        have l0 := lt_of_some hb0
        by_cases hp2 : p < 2
        · have hp' : ((p : Int) < 2) = True := eq_true (by omega)
          have hwp : IntKind.i64.wrap ((p : Int) + 1) = ((p + 1 : Nat) : Int) := by rw [wrap_i64 (by omega) (by omega)]; omega
          have hpe : ((p : Int) = 1) = (p = 1) := by apply propext; omega
          have h16 : b.toNat % 16 < 256 := by omega
          have hstep : ∀ p' : Nat, p' < p + 1 → ¬ hit (b :: r) true (k : Int) (decide (p = 1)) → ¬ hit (b :: r) true (k : Int) (decide (p' = 1)) := fun p' h1 h2 => by
            by_cases e : p' = p
            · rw [e]; exact h2
            · exact hnp p' (by omega)
          have happ : ∀ g : Mem, (M ++ g)[m.length]? = some ⟨[.int .i64 0, .int .i64 0, .int .i64 0, .bool false], 64, 1, 0, .own⟩ := fun g => by rw [List.getElem?_append_left l0]; exact hb0
          by_cases hka : k = 1
          · have hk1 : ((k : Int) = 1) = True := eq_true (by omega)
            have hk5 : ((k : Int) ≤ 5) = True := eq_true (by omega)
            by_cases h2 : r.length + 1 < 2
            · have h2' : (((r.length + 1 : Nat) : Int) < 2) = True := eq_true (by omega)
              simp (contextual := true) (implicitDefEqProofs := false) (maxSteps := 2000000) (disch := first | rfl | exact NB rfl | omega | (simp only [XL]; omega)) only [hb0, hlt', hp', hk1, hk5, rem4, rem16 b.toNat, quo2 hn, quo2 h16, quo32 hn, string_mk_size, h2', hpe, ht, XX, XA, bin_add, bin_sub, bin_mul, bin_and, bin_or, bin_xor, bin_andNot, bin_eql, bin_neq, bin_lss, bin_leq, bin_gtr, bin_geq, bin_shl, bin_shr, bin_sadd, bin_seql, bin_sneq, lc_block, lc_cond, XZ, undef_eq, Nat.reduceAdd, Nat.reduceSub, ↓reduceIte, basic, cellsL, resOf, setAt, below, belowB, belowA, atomB, Nat.reduceLeDiff, Nat.reduceMul, Int.reduceToNat, Int.reduceLT, Int.reduceLE, Int.reduceAdd, Int.reduceNeg, Int.reduceEq, splice, Nat.reduceEqDiff, Nat.reduceLT, isAtom, Int.reduceSub, Int.reduceMul, implies_true]
              exact kInv_go ⟨p + 1, rfl, by omega, fun p' hp1 => hstep p' hp1 fun hh => by have := hh.1 rfl (by omega); simp only [List.length_cons] at this; omega, hfm.app, happ _, ⟨rfl, by simp [hwp]⟩⟩ (by omega)
            have h2' : (((r.length + 1 : Nat) : Int) < 2) = False := eq_false (by omega)
            obtain ⟨c1, r1, hr1⟩ : ∃ c1 r1, r = c1 :: r1 := by cases r with | nil => exact absurd (by simp) h2 | cons c1 r1 => exact ⟨c1, r1, rfl⟩
            have ht1 : (⟨(b :: r).toArray⟩ : ByteArray).data.toList[1]? = some c1 := by rw [hr1]; simp
            have hc1 := c1.toNat_lt
            have hcR : cR (b :: r) true (k : Int) = ((c1.toNat / 2 : Nat) : Int) := by unfold cR; rw [if_neg (by omega), if_pos rfl, hr1]; rfl
            have hcS : cS (b :: r) true (k : Int) = ((b.toNat / 2 : Nat) : Int) := by unfold cS; rw [if_pos (by omega), if_pos rfl]; rfl
            simp (contextual := true) (implicitDefEqProofs := false) (maxSteps := 2000000) (disch := first | rfl | exact NB rfl | omega | (simp only [XL]; omega)) only [hb0, hlt', hp', hk1, hk5, rem4, rem16 b.toNat, quo2 hn, quo2 h16, quo32 hn, string_mk_size, hpe, ht, u8_wrap, h2', ht1, quo2 hc1, XX, XA, bin_add, bin_sub, bin_mul, bin_and, bin_or, bin_xor, bin_andNot, bin_eql, bin_neq, bin_lss, bin_leq, bin_gtr, bin_geq, bin_shl, bin_shr, bin_sadd, bin_seql, bin_sneq, lc_block, lc_cond, XZ, undef_eq, Nat.reduceAdd, Nat.reduceSub, ↓reduceIte, basic, cellsL, resOf, setAt, below, belowB, belowA, atomB, Nat.reduceLeDiff, Nat.reduceMul, Int.reduceToNat, Int.reduceLT, Int.reduceLE, Int.reduceAdd, Int.reduceNeg, Int.reduceEq, splice, Nat.reduceEqDiff, Nat.reduceLT, isAtom, Int.reduceSub, Int.reduceMul, implies_true]
            have hcand := cand_right (s := b :: r) (w := true) (k := (k : Int)) (by omega)
            have hiff := hit_iff (s := b :: r) (w := true) (p := decide (p = 1)) (k := (k : Int)) (fun hw h5 => by simp only [List.length_cons]; omega)
            have hget := hit_get (s := b :: r) (w := true) (p := decide (p = 1)) (k := (k : Int)) (by omega)
            rw [hcR, hcS] at hcand hiff hget
            have hl12 := putL8_len (k := (k : Int)) (r := ((c1.toNat / 2 : Nat) : Int)) (s := ((b.toNat / 2 : Nat) : Int)) (p := decide (p = 1)) (w := true)
            refine refput_spec (k : Int) (((c1.toNat / 2 : Nat) : Int)) (((b.toNat / 2 : Nat) : Int)) (decide (p = 1)) true hcand _ _ fun i g T hm => ?_
            have hin := put_inB (p := decide (p = 1)) hcand
            generalize putL8 (k : Int) (((c1.toNat / 2 : Nat) : Int)) (((b.toNat / 2 : Nat) : Int)) (decide (p = 1)) true = l at hm hiff hget hl12 hin ⊢
            simp only [List.append_assoc, List.cons_append, List.nil_append] at hm ⊢
            have hi := lt_of_some hm
            have hb02 := (Frm.refl (F := []) (m := M)).app.get0 (m' := M ++ (⟨[.int .i64 (k : Int), .int .i64 (((c1.toNat / 2 : Nat) : Int)), .int .i64 (((b.toNat / 2 : Nat) : Int)), .bool (decide (p = 1))], 64, 1, 0, .own⟩ :: g)) hb0
            have hb1 : (M ++ (⟨[.int .i64 (k : Int), .int .i64 (((c1.toNat / 2 : Nat) : Int)), .int .i64 (((b.toNat / 2 : Nat) : Int)), .bool (decide (p = 1))], 64, 1, 0, .own⟩ :: g))[M.length]? = some ⟨[.int .i64 (k : Int), .int .i64 (((c1.toNat / 2 : Nat) : Int)), .int .i64 (((b.toNat / 2 : Nat) : Int)), .bool (decide (p = 1))], 64, 1, 0, .own⟩ := by rw [List.getElem?_append_right (Nat.le_refl _), Nat.sub_self]; rfl
            have hfm2 : Frm [] m (M ++ (⟨[.int .i64 (k : Int), .int .i64 (((c1.toNat / 2 : Nat) : Int)), .int .i64 (((b.toNat / 2 : Nat) : Int)), .bool (decide (p = 1))], 64, 1, 0, .own⟩ :: g)) := hfm.app
            generalize M ++ ((⟨[.int .i64 (k : Int), .int .i64 (((c1.toNat / 2 : Nat) : Int)), .int .i64 (((b.toNat / 2 : Nat) : Int)), .bool (decide (p = 1))], 64, 1, 0, .own⟩ : Blk) :: g) = M2 at hm hi hb02 hb1 hfm2 ⊢
            have l02 := lt_of_some hb02
            have l12 := lt_of_some hb1
            by_cases hle : l.length ≤ r.length + 1
            · have hle' : ((l.length : Int) ≤ ((r.length + 1 : Nat) : Int)) = True := eq_true (by omega)
              simp (contextual := true) (implicitDefEqProofs := false) (maxSteps := 2000000) (disch := first | rfl | exact NB rfl | omega | (simp only [XL]; omega)) only [hle', string_mk_size, XW, undef_eq, Nat.reduceAdd, Nat.reduceSub, ↓reduceIte, basic, cellsL, resOf, setAt, below, belowB, belowA, atomB, Nat.reduceLeDiff, Nat.reduceMul, Int.reduceToNat, Int.reduceLT, Int.reduceLE, Int.reduceAdd, Int.reduceNeg, Int.reduceEq, splice, Nat.reduceEqDiff, Nat.reduceLT, isAtom, Int.reduceSub, Int.reduceMul, implies_true]
              refine (text_spec i T l _ hm (by omega) hin).use ?_
              have htk : List.take (l.length - 0) (List.drop 0 (b :: r)) = (b :: r).take l.length := by simp
              by_cases heq : strL l = (b :: r).take l.length
              · have hh := hget (hiff.mpr ⟨hle, heq⟩)
                rw [hh]
                have heq' : (strL l = (b :: r).take l.length) = True := eq_true heq
                simp (contextual := true) (implicitDefEqProofs := false) (maxSteps := 2000000) (disch := first | rfl | exact NB rfl | omega | (simp only [XL]; omega)) only [hb02, hb1, hle', str_cut, str_eq, strOf, htk, heq', Int.toNat_natCast, string_mk_size, Ct.val, XW, undef_eq, Nat.reduceAdd, Nat.reduceSub, ↓reduceIte, basic, cellsL, resOf, setAt, below, belowB, belowA, atomB, Nat.reduceLeDiff, Nat.reduceMul, Int.reduceToNat, Int.reduceLT, Int.reduceLE, Int.reduceAdd, Int.reduceNeg, Int.reduceEq, splice, Nat.reduceEqDiff, Nat.reduceLT, isAtom, Int.reduceSub, Int.reduceMul, implies_true]
                exact (hfm2.set (i := m.length) (.inr (Nat.le_refl _))).ext (by simp)
              · have heq' : (strL l = (b :: r).take l.length) = False := eq_false heq
                simp (contextual := true) (implicitDefEqProofs := false) (maxSteps := 2000000) (disch := first | rfl | exact NB rfl | omega | (simp only [XL]; omega)) only [hb02, hb1, hle', str_cut, str_eq, strOf, htk, heq', Int.toNat_natCast, string_mk_size, XW, undef_eq, Nat.reduceAdd, Nat.reduceSub, ↓reduceIte, basic, cellsL, resOf, setAt, below, belowB, belowA, atomB, Nat.reduceLeDiff, Nat.reduceMul, Int.reduceToNat, Int.reduceLT, Int.reduceLE, Int.reduceAdd, Int.reduceNeg, Int.reduceEq, splice, Nat.reduceEqDiff, Nat.reduceLT, isAtom, Int.reduceSub, Int.reduceMul, implies_true]
                exact kInv_go ⟨p + 1, rfl, by omega, fun p' hp1 => hstep p' hp1 fun hh => heq (hiff.mp hh).2, hfm2, hb02, ⟨rfl, by simp [hwp]⟩⟩ (by omega)
            · have hle' : ((l.length : Int) ≤ ((r.length + 1 : Nat) : Int)) = False := eq_false (by omega)
              simp (contextual := true) (implicitDefEqProofs := false) (maxSteps := 2000000) (disch := first | rfl | exact NB rfl | omega | (simp only [XL]; omega)) only [hle', string_mk_size, XW, undef_eq, Nat.reduceAdd, Nat.reduceSub, ↓reduceIte, basic, cellsL, resOf, setAt, below, belowB, belowA, atomB, Nat.reduceLeDiff, Nat.reduceMul, Int.reduceToNat, Int.reduceLT, Int.reduceLE, Int.reduceAdd, Int.reduceNeg, Int.reduceEq, splice, Nat.reduceEqDiff, Nat.reduceLT, isAtom, Int.reduceSub, Int.reduceMul, implies_true]
              exact kInv_go ⟨p + 1, rfl, by omega, fun p' hp1 => hstep p' hp1 fun hh => hle (hiff.mp hh).1, hfm2, hb02, ⟨rfl, by simp [hwp]⟩⟩ (by omega)
          by_cases hkb : k ≤ 5
          · have hk1 : ((k : Int) = 1) = False := eq_false (by omega)
            have hk5 : ((k : Int) ≤ 5) = True := eq_true (by omega)
            by_cases h2 : r.length + 1 < 2
            · have h2' : (((r.length + 1 : Nat) : Int) < 2) = True := eq_true (by omega)
              simp (contextual := true) (implicitDefEqProofs := false) (maxSteps := 2000000) (disch := first | rfl | exact NB rfl | omega | (simp only [XL]; omega)) only [hb0, hlt', hp', hk1, hk5, rem4, rem16 b.toNat, quo2 hn, quo2 h16, quo32 hn, string_mk_size, h2', hpe, ht, XX, XA, bin_add, bin_sub, bin_mul, bin_and, bin_or, bin_xor, bin_andNot, bin_eql, bin_neq, bin_lss, bin_leq, bin_gtr, bin_geq, bin_shl, bin_shr, bin_sadd, bin_seql, bin_sneq, lc_block, lc_cond, XZ, undef_eq, Nat.reduceAdd, Nat.reduceSub, ↓reduceIte, basic, cellsL, resOf, setAt, below, belowB, belowA, atomB, Nat.reduceLeDiff, Nat.reduceMul, Int.reduceToNat, Int.reduceLT, Int.reduceLE, Int.reduceAdd, Int.reduceNeg, Int.reduceEq, splice, Nat.reduceEqDiff, Nat.reduceLT, isAtom, Int.reduceSub, Int.reduceMul, implies_true]
              exact kInv_go ⟨p + 1, rfl, by omega, fun p' hp1 => hstep p' hp1 fun hh => by have := hh.1 rfl (by omega); simp only [List.length_cons] at this; omega, hfm.app, happ _, ⟨rfl, by simp [hwp]⟩⟩ (by omega)
            have h2' : (((r.length + 1 : Nat) : Int) < 2) = False := eq_false (by omega)
            obtain ⟨c1, r1, hr1⟩ : ∃ c1 r1, r = c1 :: r1 := by cases r with | nil => exact absurd (by simp) h2 | cons c1 r1 => exact ⟨c1, r1, rfl⟩
            have ht1 : (⟨(b :: r).toArray⟩ : ByteArray).data.toList[1]? = some c1 := by rw [hr1]; simp
            have hc1 := c1.toNat_lt
            have hcR : cR (b :: r) true (k : Int) = ((c1.toNat / 2 : Nat) : Int) := by unfold cR; rw [if_neg (by omega), if_pos rfl, hr1]; rfl
            have hcS : cS (b :: r) true (k : Int) = 0 := by unfold cS; rw [if_neg (by omega)]
            simp (contextual := true) (implicitDefEqProofs := false) (maxSteps := 2000000) (disch := first | rfl | exact NB rfl | omega | (simp only [XL]; omega)) only [hb0, hlt', hp', hk1, hk5, rem4, rem16 b.toNat, quo2 hn, quo2 h16, quo32 hn, string_mk_size, hpe, ht, u8_wrap, h2', ht1, quo2 hc1, XX, XA, bin_add, bin_sub, bin_mul, bin_and, bin_or, bin_xor, bin_andNot, bin_eql, bin_neq, bin_lss, bin_leq, bin_gtr, bin_geq, bin_shl, bin_shr, bin_sadd, bin_seql, bin_sneq, lc_block, lc_cond, XZ, undef_eq, Nat.reduceAdd, Nat.reduceSub, ↓reduceIte, basic, cellsL, resOf, setAt, below, belowB, belowA, atomB, Nat.reduceLeDiff, Nat.reduceMul, Int.reduceToNat, Int.reduceLT, Int.reduceLE, Int.reduceAdd, Int.reduceNeg, Int.reduceEq, splice, Nat.reduceEqDiff, Nat.reduceLT, isAtom, Int.reduceSub, Int.reduceMul, implies_true]
            have hcand := cand_right (s := b :: r) (w := true) (k := (k : Int)) (by omega)
            have hiff := hit_iff (s := b :: r) (w := true) (p := decide (p = 1)) (k := (k : Int)) (fun hw h5 => by simp only [List.length_cons]; omega)
            have hget := hit_get (s := b :: r) (w := true) (p := decide (p = 1)) (k := (k : Int)) (by omega)
            rw [hcR, hcS] at hcand hiff hget
            have hl12 := putL8_len (k := (k : Int)) (r := ((c1.toNat / 2 : Nat) : Int)) (s := 0) (p := decide (p = 1)) (w := true)
            refine refput_spec (k : Int) (((c1.toNat / 2 : Nat) : Int)) (0) (decide (p = 1)) true hcand _ _ fun i g T hm => ?_
            have hin := put_inB (p := decide (p = 1)) hcand
            generalize putL8 (k : Int) (((c1.toNat / 2 : Nat) : Int)) (0) (decide (p = 1)) true = l at hm hiff hget hl12 hin ⊢
            simp only [List.append_assoc, List.cons_append, List.nil_append] at hm ⊢
            have hi := lt_of_some hm
            have hb02 := (Frm.refl (F := []) (m := M)).app.get0 (m' := M ++ (⟨[.int .i64 (k : Int), .int .i64 (((c1.toNat / 2 : Nat) : Int)), .int .i64 (0), .bool (decide (p = 1))], 64, 1, 0, .own⟩ :: g)) hb0
            have hb1 : (M ++ (⟨[.int .i64 (k : Int), .int .i64 (((c1.toNat / 2 : Nat) : Int)), .int .i64 (0), .bool (decide (p = 1))], 64, 1, 0, .own⟩ :: g))[M.length]? = some ⟨[.int .i64 (k : Int), .int .i64 (((c1.toNat / 2 : Nat) : Int)), .int .i64 (0), .bool (decide (p = 1))], 64, 1, 0, .own⟩ := by rw [List.getElem?_append_right (Nat.le_refl _), Nat.sub_self]; rfl
            have hfm2 : Frm [] m (M ++ (⟨[.int .i64 (k : Int), .int .i64 (((c1.toNat / 2 : Nat) : Int)), .int .i64 (0), .bool (decide (p = 1))], 64, 1, 0, .own⟩ :: g)) := hfm.app
            generalize M ++ ((⟨[.int .i64 (k : Int), .int .i64 (((c1.toNat / 2 : Nat) : Int)), .int .i64 (0), .bool (decide (p = 1))], 64, 1, 0, .own⟩ : Blk) :: g) = M2 at hm hi hb02 hb1 hfm2 ⊢
            have l02 := lt_of_some hb02
            have l12 := lt_of_some hb1
            by_cases hle : l.length ≤ r.length + 1
            · have hle' : ((l.length : Int) ≤ ((r.length + 1 : Nat) : Int)) = True := eq_true (by omega)
              simp (contextual := true) (implicitDefEqProofs := false) (maxSteps := 2000000) (disch := first | rfl | exact NB rfl | omega | (simp only [XL]; omega)) only [hle', string_mk_size, XW, undef_eq, Nat.reduceAdd, Nat.reduceSub, ↓reduceIte, basic, cellsL, resOf, setAt, below, belowB, belowA, atomB, Nat.reduceLeDiff, Nat.reduceMul, Int.reduceToNat, Int.reduceLT, Int.reduceLE, Int.reduceAdd, Int.reduceNeg, Int.reduceEq, splice, Nat.reduceEqDiff, Nat.reduceLT, isAtom, Int.reduceSub, Int.reduceMul, implies_true]
              refine (text_spec i T l _ hm (by omega) hin).use ?_
              have htk : List.take (l.length - 0) (List.drop 0 (b :: r)) = (b :: r).take l.length := by simp
              by_cases heq : strL l = (b :: r).take l.length
              · have hh := hget (hiff.mpr ⟨hle, heq⟩)
                rw [hh]
                have heq' : (strL l = (b :: r).take l.length) = True := eq_true heq
                simp (contextual := true) (implicitDefEqProofs := false) (maxSteps := 2000000) (disch := first | rfl | exact NB rfl | omega | (simp only [XL]; omega)) only [hb02, hb1, hle', str_cut, str_eq, strOf, htk, heq', Int.toNat_natCast, string_mk_size, Ct.val, XW, undef_eq, Nat.reduceAdd, Nat.reduceSub, ↓reduceIte, basic, cellsL, resOf, setAt, below, belowB, belowA, atomB, Nat.reduceLeDiff, Nat.reduceMul, Int.reduceToNat, Int.reduceLT, Int.reduceLE, Int.reduceAdd, Int.reduceNeg, Int.reduceEq, splice, Nat.reduceEqDiff, Nat.reduceLT, isAtom, Int.reduceSub, Int.reduceMul, implies_true]
                exact (hfm2.set (i := m.length) (.inr (Nat.le_refl _))).ext (by simp)
              · have heq' : (strL l = (b :: r).take l.length) = False := eq_false heq
                simp (contextual := true) (implicitDefEqProofs := false) (maxSteps := 2000000) (disch := first | rfl | exact NB rfl | omega | (simp only [XL]; omega)) only [hb02, hb1, hle', str_cut, str_eq, strOf, htk, heq', Int.toNat_natCast, string_mk_size, XW, undef_eq, Nat.reduceAdd, Nat.reduceSub, ↓reduceIte, basic, cellsL, resOf, setAt, below, belowB, belowA, atomB, Nat.reduceLeDiff, Nat.reduceMul, Int.reduceToNat, Int.reduceLT, Int.reduceLE, Int.reduceAdd, Int.reduceNeg, Int.reduceEq, splice, Nat.reduceEqDiff, Nat.reduceLT, isAtom, Int.reduceSub, Int.reduceMul, implies_true]
                exact kInv_go ⟨p + 1, rfl, by omega, fun p' hp1 => hstep p' hp1 fun hh => heq (hiff.mp hh).2, hfm2, hb02, ⟨rfl, by simp [hwp]⟩⟩ (by omega)
            · have hle' : ((l.length : Int) ≤ ((r.length + 1 : Nat) : Int)) = False := eq_false (by omega)
              simp (contextual := true) (implicitDefEqProofs := false) (maxSteps := 2000000) (disch := first | rfl | exact NB rfl | omega | (simp only [XL]; omega)) only [hle', string_mk_size, XW, undef_eq, Nat.reduceAdd, Nat.reduceSub, ↓reduceIte, basic, cellsL, resOf, setAt, below, belowB, belowA, atomB, Nat.reduceLeDiff, Nat.reduceMul, Int.reduceToNat, Int.reduceLT, Int.reduceLE, Int.reduceAdd, Int.reduceNeg, Int.reduceEq, splice, Nat.reduceEqDiff, Nat.reduceLT, isAtom, Int.reduceSub, Int.reduceMul, implies_true]
              exact kInv_go ⟨p + 1, rfl, by omega, fun p' hp1 => hstep p' hp1 fun hh => hle (hiff.mp hh).1, hfm2, hb02, ⟨rfl, by simp [hwp]⟩⟩ (by omega)
          have hk1 : ((k : Int) = 1) = False := eq_false (by omega)
          have hk5 : ((k : Int) ≤ 5) = False := eq_false (by omega)
          have hcR : cR (b :: r) true (k : Int) = 0 := by unfold cR; rw [if_pos (by omega)]
          have hcS : cS (b :: r) true (k : Int) = 0 := by unfold cS; rw [if_neg (by omega)]
          simp (contextual := true) (implicitDefEqProofs := false) (maxSteps := 2000000) (disch := first | rfl | exact NB rfl | omega | (simp only [XL]; omega)) only [hb0, hlt', hp', hk1, hk5, rem4, rem16 b.toNat, quo2 hn, quo2 h16, quo32 hn, string_mk_size, hpe, ht, u8_wrap, XX, XA, bin_add, bin_sub, bin_mul, bin_and, bin_or, bin_xor, bin_andNot, bin_eql, bin_neq, bin_lss, bin_leq, bin_gtr, bin_geq, bin_shl, bin_shr, bin_sadd, bin_seql, bin_sneq, lc_block, lc_cond, XZ, undef_eq, Nat.reduceAdd, Nat.reduceSub, ↓reduceIte, basic, cellsL, resOf, setAt, below, belowB, belowA, atomB, Nat.reduceLeDiff, Nat.reduceMul, Int.reduceToNat, Int.reduceLT, Int.reduceLE, Int.reduceAdd, Int.reduceNeg, Int.reduceEq, splice, Nat.reduceEqDiff, Nat.reduceLT, isAtom, Int.reduceSub, Int.reduceMul, implies_true]
          have hcand := cand_right (s := b :: r) (w := true) (k := (k : Int)) (by omega)
          have hiff := hit_iff (s := b :: r) (w := true) (p := decide (p = 1)) (k := (k : Int)) (fun hw h5 => by omega)
          have hget := hit_get (s := b :: r) (w := true) (p := decide (p = 1)) (k := (k : Int)) (by omega)
          rw [hcR, hcS] at hcand hiff hget
          have hl12 := putL8_len (k := (k : Int)) (r := 0) (s := 0) (p := decide (p = 1)) (w := true)
          refine refput_spec (k : Int) (0) (0) (decide (p = 1)) true hcand _ _ fun i g T hm => ?_
          have hin := put_inB (p := decide (p = 1)) hcand
          generalize putL8 (k : Int) (0) (0) (decide (p = 1)) true = l at hm hiff hget hl12 hin ⊢
          simp only [List.append_assoc, List.cons_append, List.nil_append] at hm ⊢
          have hi := lt_of_some hm
          have hb02 := (Frm.refl (F := []) (m := M)).app.get0 (m' := M ++ (⟨[.int .i64 (k : Int), .int .i64 (0), .int .i64 (0), .bool (decide (p = 1))], 64, 1, 0, .own⟩ :: g)) hb0
          have hb1 : (M ++ (⟨[.int .i64 (k : Int), .int .i64 (0), .int .i64 (0), .bool (decide (p = 1))], 64, 1, 0, .own⟩ :: g))[M.length]? = some ⟨[.int .i64 (k : Int), .int .i64 (0), .int .i64 (0), .bool (decide (p = 1))], 64, 1, 0, .own⟩ := by rw [List.getElem?_append_right (Nat.le_refl _), Nat.sub_self]; rfl
          have hfm2 : Frm [] m (M ++ (⟨[.int .i64 (k : Int), .int .i64 (0), .int .i64 (0), .bool (decide (p = 1))], 64, 1, 0, .own⟩ :: g)) := hfm.app
          generalize M ++ ((⟨[.int .i64 (k : Int), .int .i64 (0), .int .i64 (0), .bool (decide (p = 1))], 64, 1, 0, .own⟩ : Blk) :: g) = M2 at hm hi hb02 hb1 hfm2 ⊢
          have l02 := lt_of_some hb02
          have l12 := lt_of_some hb1
          by_cases hle : l.length ≤ r.length + 1
          · have hle' : ((l.length : Int) ≤ ((r.length + 1 : Nat) : Int)) = True := eq_true (by omega)
            simp (contextual := true) (implicitDefEqProofs := false) (maxSteps := 2000000) (disch := first | rfl | exact NB rfl | omega | (simp only [XL]; omega)) only [hle', string_mk_size, XW, undef_eq, Nat.reduceAdd, Nat.reduceSub, ↓reduceIte, basic, cellsL, resOf, setAt, below, belowB, belowA, atomB, Nat.reduceLeDiff, Nat.reduceMul, Int.reduceToNat, Int.reduceLT, Int.reduceLE, Int.reduceAdd, Int.reduceNeg, Int.reduceEq, splice, Nat.reduceEqDiff, Nat.reduceLT, isAtom, Int.reduceSub, Int.reduceMul, implies_true]
            refine (text_spec i T l _ hm (by omega) hin).use ?_
            have htk : List.take (l.length - 0) (List.drop 0 (b :: r)) = (b :: r).take l.length := by simp
            by_cases heq : strL l = (b :: r).take l.length
            · have hh := hget (hiff.mpr ⟨hle, heq⟩)
              rw [hh]
              have heq' : (strL l = (b :: r).take l.length) = True := eq_true heq
              simp (contextual := true) (implicitDefEqProofs := false) (maxSteps := 2000000) (disch := first | rfl | exact NB rfl | omega | (simp only [XL]; omega)) only [hb02, hb1, hle', str_cut, str_eq, strOf, htk, heq', Int.toNat_natCast, string_mk_size, Ct.val, XW, undef_eq, Nat.reduceAdd, Nat.reduceSub, ↓reduceIte, basic, cellsL, resOf, setAt, below, belowB, belowA, atomB, Nat.reduceLeDiff, Nat.reduceMul, Int.reduceToNat, Int.reduceLT, Int.reduceLE, Int.reduceAdd, Int.reduceNeg, Int.reduceEq, splice, Nat.reduceEqDiff, Nat.reduceLT, isAtom, Int.reduceSub, Int.reduceMul, implies_true]
              exact (hfm2.set (i := m.length) (.inr (Nat.le_refl _))).ext (by simp)
            · have heq' : (strL l = (b :: r).take l.length) = False := eq_false heq
              simp (contextual := true) (implicitDefEqProofs := false) (maxSteps := 2000000) (disch := first | rfl | exact NB rfl | omega | (simp only [XL]; omega)) only [hb02, hb1, hle', str_cut, str_eq, strOf, htk, heq', Int.toNat_natCast, string_mk_size, XW, undef_eq, Nat.reduceAdd, Nat.reduceSub, ↓reduceIte, basic, cellsL, resOf, setAt, below, belowB, belowA, atomB, Nat.reduceLeDiff, Nat.reduceMul, Int.reduceToNat, Int.reduceLT, Int.reduceLE, Int.reduceAdd, Int.reduceNeg, Int.reduceEq, splice, Nat.reduceEqDiff, Nat.reduceLT, isAtom, Int.reduceSub, Int.reduceMul, implies_true]
              exact kInv_go ⟨p + 1, rfl, by omega, fun p' hp1 => hstep p' hp1 fun hh => heq (hiff.mp hh).2, hfm2, hb02, ⟨rfl, by simp [hwp]⟩⟩ (by omega)
          · have hle' : ((l.length : Int) ≤ ((r.length + 1 : Nat) : Int)) = False := eq_false (by omega)
            simp (contextual := true) (implicitDefEqProofs := false) (maxSteps := 2000000) (disch := first | rfl | exact NB rfl | omega | (simp only [XL]; omega)) only [hle', string_mk_size, XW, undef_eq, Nat.reduceAdd, Nat.reduceSub, ↓reduceIte, basic, cellsL, resOf, setAt, below, belowB, belowA, atomB, Nat.reduceLeDiff, Nat.reduceMul, Int.reduceToNat, Int.reduceLT, Int.reduceLE, Int.reduceAdd, Int.reduceNeg, Int.reduceEq, splice, Nat.reduceEqDiff, Nat.reduceLT, isAtom, Int.reduceSub, Int.reduceMul, implies_true]
            exact kInv_go ⟨p + 1, rfl, by omega, fun p' hp1 => hstep p' hp1 fun hh => hle (hiff.mp hh).1, hfm2, hb02, ⟨rfl, by simp [hwp]⟩⟩ (by omega)
        · have hp' : ((p : Int) < 2) = False := eq_false (by omega)
          have hp2' : p = 2 := by omega
          subst hp2'
          simp (contextual := true) (implicitDefEqProofs := false) (maxSteps := 2000000) (disch := first | rfl | exact NB rfl | omega | (simp only [XL]; omega)) only [hp', XW, undef_eq, Nat.reduceAdd, Nat.reduceSub, ↓reduceIte, basic, cellsL, resOf, setAt, below, belowB, belowA, atomB, Nat.reduceLeDiff, Nat.reduceMul, Int.reduceToNat, Int.reduceLT, Int.reduceLE, Int.reduceAdd, Int.reduceNeg, Int.reduceEq, splice, Nat.reduceEqDiff, Nat.reduceLT, isAtom, Int.reduceSub, Int.reduceMul, implies_true]
          refine kInv_go ⟨k + 1, rfl, by omega, by omega, fun k' p h1 h2 => ?_, hfm, hb0, ⟨rfl, by simp [hwk]⟩⟩ (by omega)
          by_cases e : k' = (k : Int)
          · rw [e]; cases p with | false => exact hnp 0 (by omega) | true => exact hnp 1 (by omega)
          · exact hno k' p h1 (by omega)
      · have hlt' : ((k : Int) ≤ 14) = False := eq_false (by omega)
        have hnone : getC (b :: r) true = (2, czero, 0) := by
          rcases get_none (s := b :: r) (w := true) (fun k' p h1 h2 => hno k' p h1 (by omega)) with h | h | ⟨h1, h2, h3⟩
          · exact h
          · cases h
          · exact absurd h2 (by have := hr rfl (by omega); omega)
        rw [hnone]
        simp (contextual := true) (implicitDefEqProofs := false) (maxSteps := 2000000) (disch := first | rfl | exact NB rfl | omega | (simp only [XL]; omega)) only [hlt', hb0, czero, Ct.val, XW, undef_eq, Nat.reduceAdd, Nat.reduceSub, ↓reduceIte, basic, cellsL, resOf, setAt, below, belowB, belowA, atomB, Nat.reduceLeDiff, Nat.reduceMul, Int.reduceToNat, Int.reduceLT, Int.reduceLE, Int.reduceAdd, Int.reduceNeg, Int.reduceEq, splice, Nat.reduceEqDiff, Nat.reduceLT, isAtom, Int.reduceSub, Int.reduceMul, implies_true]
        exact (hfm.set (i := m.length) (.inr (Nat.le_refl _))).ext (by simp)
theorem rgetK_spec (s : List UInt8) (w : Bool) (hl : s.length ≤ 100000) (m : Mem) : Ret Tryd.prog 42 [str s, .bool w] m (.tuple #[(getC s w).2.1.val, .int .i64 (((getC s w).2.2 : Nat) : Int), .int .i64 (getC s w).1]) m := by
  match s, hl with
  | [], _ => exact rget_empty w m
  | b :: r, hl =>
    by_cases h : w = true ∧ b.toNat % 4 ≠ 3 ∧ r = []
    · obtain ⟨rfl, h3, rfl⟩ := h
      have e : getC [b] true = (4, czero, 0) := by rw [getC, if_neg h3, if_neg (by decide), wOf]
      rw [e]
      exact rget_short b h3 m
    · refine rget_loop b r w hl (fun hw h3 => ?_) m
      cases r with
      | nil => exact absurd ⟨hw, h3, rfl⟩ h
      | cons => simp
end Go.Proofs.YtadkdihbbngbfaaDoor.K
/- A call of seven bytes, by the document: walked. -/
namespace Go.Proofs.YtadkdihbbngbfaaDoor
open Go.Lg
set_option maxRecDepth 8000
set_option maxHeartbeats 8000000
theorem tm_nat (a b : Nat) : (a : Int).tmod (b : Int) = ((a % b : Nat) : Int) := rfl
theorem td_nat (a b : Nat) : (a : Int).tdiv (b : Int) = ((a / b : Nat) : Int) := rfl
theorem quo2 (x : UInt8) : binV .quo (.int .u8 (x.toNat : Int)) (.int .u8 2) = some (.int .u8 ((hlf x).toNat : Int)) := by
  have h : ∀ n : Fin 256, IntKind.u8.wrap (((n.1 : Nat) : Int).tdiv 2) = ((n.1 / 2 : Nat) : Int) := by decide +kernel
  rw [bin_quo (by decide), hlf_nat]
  exact congrArg (fun y => some (Value.int .u8 y)) (h ⟨x.toNat, x.toNat_lt⟩)
theorem quo64 (x : UInt8) : binV .quo (.int .i64 (x.toNat : Int)) (.int .i64 2) = some (.int .i64 ((x.toNat / 2 : Nat) : Int)) := by
  have := x.toNat_lt
  rw [bin_quo (by decide)]
  have h : IntKind.i64.wrap ((x.toNat : Int).tdiv 2) = ((x.toNat / 2 : Nat) : Int) := by
    rw [show (x.toNat : Int).tdiv 2 = ((x.toNat / 2 : Nat) : Int) from td_nat _ 2]
    exact wrap_i64 (by omega) (by omega)
  exact congrArg (fun y => some (Value.int .i64 y)) h
theorem rem64 (n : Nat) : binV .rem (.int .i64 (n : Int)) (.int .i64 16) = some (.int .i64 ((n % 16 : Nat) : Int)) := by
  rw [bin_rem (by decide)]; rfl
theorem rem2 (n : Nat) : binV .rem (.int .u8 (n : Int)) (.int .u8 2) = some (.int .u8 ((n % 2 : Nat) : Int)) := by
  rw [bin_rem (by decide)]; rfl
def baseTo (s : List UInt8) (j : Nat) : List UInt8 := (((s.take 6).take j).filter (· != 64)).map hlf
theorem rget_spec (s : List UInt8) (h7 : s.length = 7) (m : Mem) : Ret Tryd.prog 23 [str s] m
    (if okF s = true then .tuple #[.agg #[str (baseF s), .int .i64 (ssidC s)], .bool (markC s), .bool (endC s), .bool true]
     else .tuple #[.agg #[.string ⟨#[]⟩, .int .i64 0], .bool false, .bool false, .bool false]) m := by
  refine LCall_drop (LCall_enter Tryd.func23 c23 ?_)
  have h6 : s[6]? = some (lastB s) := by
    rw [lastB, List.getD_eq_getElem?_getD, List.getElem?_eq_getElem (by omega)]; rfl
  have hl7 : ((s.length : Int)) = 7 := by omega
  have hwc : IntKind.i64.wrap ((lastB s).toNat : Int) = ((lastB s).toNat : Int) := by
    have := (lastB s).toNat_lt
    exact wrap_i64 (by omega) (by omega)
  have hsid : (((lastB s).toNat / 2 % 16 : Nat) : Int) = ssidC s := rfl
  simp (contextual := true) (implicitDefEqProofs := false) (maxSteps := 2000000) (disch := first | rfl | exact NB rfl | omega | (simp only [XL]; omega)) only [L23, bin_ladd, str_cut, str_app, str_eq, string_mk_size, string_mk, hl7, h7, h6, hwc, quo64, rem64, hsid, Int.toNat_natCast, XX, XA, bin_add, bin_sub, bin_mul, bin_and, bin_or, bin_xor, bin_andNot, bin_eql, bin_neq, bin_lss, bin_leq, bin_gtr, bin_geq, bin_shl, bin_shr, bin_sadd, bin_seql, bin_sneq, lc_block, lc_cond, XZ, undef_eq, Nat.reduceAdd, Nat.reduceSub, ↓reduceIte, basic, cellsL, resOf, setAt, below, belowB, belowA, atomB, Nat.reduceLeDiff, Nat.reduceMul, Int.reduceToNat, Int.reduceLT, Int.reduceLE, Int.reduceAdd, Int.reduceNeg, Int.reduceEq, splice, Nat.reduceEqDiff, Nat.reduceLT, isAtom, Int.reduceSub, Int.reduceMul, implies_true]
  obtain ⟨M0, hM, hml, hf0, hb0, hb1⟩ : ∃ M0, m ++ [⟨[.string ⟨#[]⟩, .int .i64 0], 32, 1, 0, .own⟩, ⟨[.string ⟨#[]⟩, .int .i64 (ssidC s)], 32, 1, 0, .own⟩] = M0 ∧ M0.length = m.length + 2 ∧ Frm [] m M0 ∧ M0[m.length]? = some ⟨[.string ⟨#[]⟩, .int .i64 0], 32, 1, 0, .own⟩ ∧ M0[m.length + 1]? = some ⟨[str (baseTo s 0), .int .i64 (ssidC s)], 32, 1, 0, .own⟩ := ⟨_, rfl, by simp, Frm.refl.app, by simp, by rw [List.getElem?_append_right (by omega)]; simp; rfl⟩
  rw [hM]
  clear hM
  refine loop_inv (fun n t M => ∃ (j : Nat), n = 6 - j ∧ j ≤ 6 ∧ Frm [] m M ∧ M[m.length]? = some ⟨[.string ⟨#[]⟩, .int .i64 0], 32, 1, 0, .own⟩ ∧ M[m.length + 1]? = some ⟨[str (baseTo s j), .int .i64 (ssidC s)], 32, 1, 0, .own⟩ ∧
    Tab 60 [(0, str s), (2, .pointer (some ⟨m.length, 0, none⟩)), (6, .pointer (some ⟨m.length + 1, 0, none⟩)), (7, .int .i64 (j : Int))] t) (n := 6) ?_ ?_
  · exact ⟨0, rfl, Nat.zero_le _, hf0, hb0, hb1, ⟨rfl, by simp⟩⟩
  clear hb0 hb1 hf0
  rintro N t M ⟨j, rfl, hj, hfm, hb0, hb1, ht⟩
  obtain ⟨f, rfl⟩ : ∃ f' : Nat → Value, t = [str s, f' 1, .pointer (some ⟨m.length, 0, none⟩), f' 3, f' 4, f' 5, .pointer (some ⟨m.length + 1, 0, none⟩), .int .i64 (j : Int), f' 8, f' 9, f' 10, f' 11, f' 12, f' 13, f' 14, f' 15, f' 16, f' 17, f' 18, f' 19, f' 20, f' 21, f' 22, f' 23, f' 24, f' 25, f' 26, f' 27, f' 28, f' 29, f' 30, f' 31, f' 32, f' 33, f' 34, f' 35, f' 36, f' 37, f' 38, f' 39, f' 40, f' 41, f' 42, f' 43, f' 44, f' 45, f' 46, f' 47, f' 48, f' 49, f' 50, f' 51, f' 52, f' 53, f' 54, f' 55, f' 56, f' 57, f' 58, f' 59] := ht.open fun f' => rfl
  have l0 := lt_of_some hb0
  have l1 := lt_of_some hb1
  have hne : m.length ≠ m.length + 1 := by omega
  by_cases hlt : j < 6
  · have hlt' : ((j : Int) < 6) = True := eq_true (by omega)
    have hlt7 : ((j : Int) < 7) = True := eq_true (by omega)
    have h0' : ((0 : Int) ≤ (j : Int)) = True := by simp
    have hwj : IntKind.i64.wrap ((j : Int) + 1) = ((j + 1 : Nat) : Int) := by rw [wrap_i64 (by omega) (by omega)]; omega
    obtain ⟨c, hc⟩ : ∃ r, s[j]? = some r := ⟨s[j], List.getElem?_eq_getElem (by omega)⟩
    have hc6 : (s.take 6)[j]? = some c := by rw [List.getElem?_take, if_pos hlt]; exact hc
    have e64 : ((c.toNat : Int) = 64) = (c = 64) := u8_is (n := 64) (by omega)
    have hbl : bytesL [.int .u8 ((hlf c).toNat : Int)] = some [hlf c] := bytesL_cells [hlf c]
    have hsn : baseTo s (j + 1) = if c = 64 then baseTo s j else baseTo s j ++ [hlf c] := by
      unfold baseTo
      rw [take_snoc hc6, List.filter_append, List.map_append]
      by_cases h : c = 64 <;> simp [h]
    have hbt : (baseTo s j).length ≤ 6 := by
      unfold baseTo
      rw [List.length_map]
      refine Nat.le_trans (List.length_filter_le _ _) ?_
      simp; omega
    by_cases h64 : c = 64
    · have h64' : (c = 64) = True := eq_true h64
      rw [if_pos h64] at hsn
      simp (contextual := true) (implicitDefEqProofs := false) (maxSteps := 2000000) (disch := first | rfl | exact NB rfl | omega | (simp only [XL]; omega)) only [hb0, hb1, hlt', hlt7, h0', hl7, hc, e64, h64', bin_ladd, str_cut, str_app, str_eq, string_mk_size, string_mk, Int.toNat_natCast, XW, undef_eq, Nat.reduceAdd, Nat.reduceSub, ↓reduceIte, basic, cellsL, resOf, setAt, below, belowB, belowA, atomB, Nat.reduceLeDiff, Nat.reduceMul, Int.reduceToNat, Int.reduceLT, Int.reduceLE, Int.reduceAdd, Int.reduceNeg, Int.reduceEq, splice, Nat.reduceEqDiff, Nat.reduceLT, isAtom, Int.reduceSub, Int.reduceMul, implies_true]
      exact kInv_go ⟨j + 1, rfl, by omega, hfm, hb0, by rw [hsn]; exact hb1, ⟨rfl, by simp [hwj]⟩⟩ (by omega)
    · have h64' : (c = 64) = False := eq_false h64
      rw [if_neg h64] at hsn
      simp (contextual := true) (implicitDefEqProofs := false) (maxSteps := 2000000) (disch := first | rfl | exact NB rfl | omega | (simp only [XL]; omega)) only [hb0, hb1, hlt', hlt7, h0', hl7, hc, e64, h64', quo2, hbl, bin_ladd, str_cut, str_app, str_eq, string_mk_size, string_mk, Int.toNat_natCast, XX, XA, bin_add, bin_sub, bin_mul, bin_rem, bin_and, bin_or, bin_xor, bin_andNot, bin_eql, bin_neq, bin_lss, bin_leq, bin_gtr, bin_geq, bin_shl, bin_shr, bin_sadd, bin_seql, bin_sneq, lc_block, lc_cond, XZ, undef_eq, Nat.reduceAdd, Nat.reduceSub, ↓reduceIte, basic, cellsL, resOf, setAt, below, belowB, belowA, atomB, Nat.reduceLeDiff, Nat.reduceMul, Int.reduceToNat, Int.reduceLT, Int.reduceLE, Int.reduceAdd, Int.reduceNeg, Int.reduceEq, splice, Nat.reduceEqDiff, Nat.reduceLT, isAtom, Int.reduceSub, Int.reduceMul, implies_true]
      rw [← hsn]
      refine kInv_go ⟨j + 1, rfl, by omega, ?_, ?_, ?_, ⟨rfl, by simp [hwj]⟩⟩ (by omega)
      · first
        | exact (hfm.set (i := m.length + 1) (.inr (by omega))).app
        | exact hfm.app.set (i := m.length + 1) (.inr (by omega))
      · first
        | (rw [List.getElem?_append_left (by rw [List.length_set]; exact l0), List.getElem?_set_ne (Ne.symm hne)]; exact hb0)
        | (rw [List.getElem?_set_ne (Ne.symm hne), List.getElem?_append_left l0]; exact hb0)
      · first
        | rw [List.getElem?_append_left (by rw [List.length_set]; exact l1), List.getElem?_set_self l1]
        | rw [List.getElem?_set_self (by rw [List.length_append]; omega)]
  · have hj6 : j = 6 := by omega
    subst hj6
    have hlt' : (((6 : Nat) : Int) < 6) = False := eq_false (by omega)
    have hbF : baseTo s 6 = baseF s := by unfold baseTo baseF; rw [List.take_take]; rfl
    rw [hbF] at hb1
    have hmk : ((128 : Int) ≤ ((lastB s).toNat : Int)) = (markC s = true) := by
      apply propext; simp only [markC, decide_eq_true_eq]; omega
    have hen : ((((lastB s).toNat % 2 : Nat) : Int) = 1) = (endC s = true) := by
      apply propext; simp only [endC, decide_eq_true_eq]; omega
    have hext : ext m M := hfm.ext (by simp)
    have hext2 : ∀ B, ext m (M.set m.length B) := fun B => (hfm.set (i := m.length) (b := B) (.inr (Nat.le_refl _))).ext (by simp)
    simp (contextual := true) (implicitDefEqProofs := false) (maxSteps := 2000000) (disch := first | rfl | exact NB rfl | omega | (simp only [XL]; omega)) only [hb0, hb1, hlt', hl7, h6, rem2, hmk, hen, Bool.decide_eq_true, XX, XA, bin_add, bin_sub, bin_mul, bin_quo, bin_and, bin_or, bin_xor, bin_andNot, bin_eql, bin_neq, bin_lss, bin_leq, bin_gtr, bin_geq, bin_shl, bin_shr, bin_sadd, bin_seql, bin_sneq, lc_block, lc_cond, XZ, undef_eq, Nat.reduceAdd, Nat.reduceSub, ↓reduceIte, basic, cellsL, resOf, setAt, below, belowB, belowA, atomB, Nat.reduceLeDiff, Nat.reduceMul, Int.reduceToNat, Int.reduceLT, Int.reduceLE, Int.reduceAdd, Int.reduceNeg, Int.reduceEq, splice, Nat.reduceEqDiff, Nat.reduceLT, isAtom, Int.reduceSub, Int.reduceMul, implies_true]
    refine (refright_spec _ _ _).use ?_
    cases hr : rightC (baseF s) (ssidC s) with
    | false =>
      have hok : okF s = false := by rw [okF, hr]; rfl
      rw [hok]
      simp (contextual := true) (implicitDefEqProofs := false) (maxSteps := 2000000) (disch := first | rfl | exact NB rfl | omega | (simp only [XL]; omega)) only [hb0, hb1, XW, undef_eq, Nat.reduceAdd, Nat.reduceSub, ↓reduceIte, basic, cellsL, resOf, setAt, below, belowB, belowA, atomB, Nat.reduceLeDiff, Nat.reduceMul, Int.reduceToNat, Int.reduceLT, Int.reduceLE, Int.reduceAdd, Int.reduceNeg, Int.reduceEq, splice, Nat.reduceEqDiff, Nat.reduceLT, isAtom, Int.reduceSub, Int.reduceMul, implies_true]
      first
      | exact hext2 _
      | exact hext
    | true =>
      simp (contextual := true) (implicitDefEqProofs := false) (maxSteps := 2000000) (disch := first | rfl | exact NB rfl | omega | (simp only [XL]; omega)) only [hb0, hb1, XW, undef_eq, Nat.reduceAdd, Nat.reduceSub, ↓reduceIte, basic, cellsL, resOf, setAt, below, belowB, belowA, atomB, Nat.reduceLeDiff, Nat.reduceMul, Int.reduceToNat, Int.reduceLT, Int.reduceLE, Int.reduceAdd, Int.reduceNeg, Int.reduceEq, splice, Nat.reduceEqDiff, Nat.reduceLT, isAtom, Int.reduceSub, Int.reduceMul, implies_true]
      refine (refput_spec _ _ _ _ hr _).use ?_
      by_cases hp : putC (baseF s) (ssidC s) (markC s) (endC s) = s
      · have hok : okF s = true := by rw [okF, hr, decide_eq_true hp]; rfl
        have hp' := eq_true hp
        rw [hok]
        simp (contextual := true) (implicitDefEqProofs := false) (maxSteps := 2000000) (disch := first | rfl | exact NB rfl | omega | (simp only [XL]; omega)) only [hb0, hb1, bin_ladd, str_cut, str_app, str_eq, string_mk_size, string_mk, hp', XW, undef_eq, Nat.reduceAdd, Nat.reduceSub, ↓reduceIte, basic, cellsL, resOf, setAt, below, belowB, belowA, atomB, Nat.reduceLeDiff, Nat.reduceMul, Int.reduceToNat, Int.reduceLT, Int.reduceLE, Int.reduceAdd, Int.reduceNeg, Int.reduceEq, splice, Nat.reduceEqDiff, Nat.reduceLT, isAtom, Int.reduceSub, Int.reduceMul, implies_true]
        first
        | exact hext2 _
        | trace_state
      · have hok : okF s = false := by rw [okF, hr, decide_eq_false hp]; rfl
        have hp' := eq_false hp
        rw [hok]
        simp (contextual := true) (implicitDefEqProofs := false) (maxSteps := 2000000) (disch := first | rfl | exact NB rfl | omega | (simp only [XL]; omega)) only [hb0, hb1, bin_ladd, str_cut, str_app, str_eq, string_mk_size, string_mk, hp', XW, undef_eq, Nat.reduceAdd, Nat.reduceSub, ↓reduceIte, basic, cellsL, resOf, setAt, below, belowB, belowA, atomB, Nat.reduceLeDiff, Nat.reduceMul, Int.reduceToNat, Int.reduceLT, Int.reduceLE, Int.reduceAdd, Int.reduceNeg, Int.reduceEq, splice, Nat.reduceEqDiff, Nat.reduceLT, isAtom, Int.reduceSub, Int.reduceMul, implies_true]
        first
        | exact hext2 _
        | exact hext
        | trace_state
end Go.Proofs.YtadkdihbbngbfaaDoor
/- A path of bytes: the pure law of it; the document's Get of a path, walked. -/
namespace Go.Proofs.YtadkdihbbngbfaaDoor
open Go.Lg
set_option maxRecDepth 8000
set_option maxHeartbeats 8000000
abbrev pathR (sv : Value) : Value := .agg #[sv]
theorem rgetP_spec (s : List UInt8) (hl : s.length ≤ 100000) (m : Mem) : LCall Tryd.prog 9 [str s] m fun v M => Frm [] m M ∧
    if (getP s 11 []).1 = 0 then ∃ sv F, v = .tuple #[pathR sv, .int .i64 ((7 * (getP s 11 []).2.length : Nat) : Int), .int .i64 0] ∧ Sl M 34 3 sv F ((getP s 11 []).2.map En.row) ∧ ∀ x ∈ F, m.length ≤ x
    else v = .tuple #[pathR (.slice none 0 0), .int .i64 0, .int .i64 (getP s 11 []).1] := by
  refine LCall_enter Tryd.func9 c9 ?_
  simp (contextual := true) (implicitDefEqProofs := false) (maxSteps := 2000000) (disch := first | rfl | exact NB rfl | omega | (simp only [XL]; omega)) only [L9, XW, undef_eq, Nat.reduceAdd, Nat.reduceSub, ↓reduceIte, basic, cellsL, resOf, setAt, below, belowB, belowA, atomB, Nat.reduceLeDiff, Nat.reduceMul, Int.reduceToNat, Int.reduceLT, Int.reduceLE, Int.reduceAdd, Int.reduceNeg, Int.reduceEq, splice, Nat.reduceEqDiff, Nat.reduceLT, isAtom, Int.reduceSub, Int.reduceMul, implies_true]
  obtain ⟨M0, hM, hml, hf0, hb0, hb1⟩ : ∃ M0, m ++ [⟨[.slice none 0 0], 28, 1, 0, .own⟩, ⟨[.slice none 0 0], 28, 1, 0, .own⟩] = M0 ∧ M0.length = m.length + 2 ∧ Frm [] m M0 ∧ M0[m.length]? = some ⟨[.slice none 0 0], 28, 1, 0, .own⟩ ∧ M0[m.length + 1]? = some ⟨[.slice none 0 0], 28, 1, 0, .own⟩ := ⟨_, rfl, by simp, Frm.refl.app, by simp, by rw [List.getElem?_append_right (by omega)]; simp⟩
  rw [hM]
  clear hM
  refine loop_inv (fun n t M => ∃ (L : List En) (sv : Value) (F : List Nat), n = 10 - L.length ∧ L.length ≤ 10 ∧ getP s 11 [] = getP s (11 - L.length) L ∧ Frm [] m M ∧ M[m.length]? = some ⟨[.slice none 0 0], 28, 1, 0, .own⟩ ∧ M[m.length + 1]? = some ⟨[sv], 28, 1, 0, .own⟩ ∧ Sl M 34 3 sv F (L.map En.row) ∧ (∀ x ∈ F, m.length + 2 ≤ x) ∧
    Tab 62 [(0, str s), (2, .pointer (some ⟨m.length, 0, none⟩)), (5, .pointer (some ⟨m.length + 1, 0, none⟩)), (6, .int .i64 ((7 * L.length : Nat) : Int))] t) (n := 10) ?_ ?_
  · exact ⟨[], _, [], rfl, Nat.zero_le _, rfl, hf0, hb0, hb1, .nil, by simp, ⟨rfl, by simp⟩⟩
  clear hb0 hb1 hf0
  rintro N t M ⟨L, sv, F, rfl, hL, hg, hfm, hb0, hb1, hs, hF, ht⟩
  obtain ⟨f, rfl⟩ : ∃ f' : Nat → Value, t = [str s, f' 1, .pointer (some ⟨m.length, 0, none⟩), f' 3, f' 4, .pointer (some ⟨m.length + 1, 0, none⟩), .int .i64 ((7 * L.length : Nat) : Int), f' 7, f' 8, f' 9, f' 10, f' 11, f' 12, f' 13, f' 14, f' 15, f' 16, f' 17, f' 18, f' 19, f' 20, f' 21, f' 22, f' 23, f' 24, f' 25, f' 26, f' 27, f' 28, f' 29, f' 30, f' 31, f' 32, f' 33, f' 34, f' 35, f' 36, f' 37, f' 38, f' 39, f' 40, f' 41, f' 42, f' 43, f' 44, f' 45, f' 46, f' 47, f' 48, f' 49, f' 50, f' 51, f' 52, f' 53, f' 54, f' 55, f' 56, f' 57, f' 58, f' 59, f' 60, f' 61] := ht.open fun f' => rfl
  have l0 := lt_of_some hb0
  have l1 := lt_of_some hb1
  have hg1 : getP s (11 - L.length) L = getP s (10 - L.length + 1) L := by congr 1; omega
  rw [hg1] at hg
  rw [hg]
  have hw7 : IntKind.i64.wrap (((7 * L.length : Nat) : Int) + 7) = ((7 * L.length + 7 : Nat) : Int) := by rw [wrap_i64 (by omega) (by omega)]; omega
  by_cases h1 : s.length < 7 * L.length + 7
  · have h1' : ((s.length : Int) < ((7 * L.length + 7 : Nat) : Int)) = True := eq_true (by omega)
    have e : getP s (10 - L.length + 1) L = (4, []) := by rw [getP, if_pos h1]
    rw [e]
    simp (contextual := true) (implicitDefEqProofs := false) (maxSteps := 2000000) (disch := first | rfl | exact NB rfl | omega | (simp only [XL]; omega)) only [hb0, hw7, h1', bin_ladd, str_cut, str_app, str_eq, string_mk_size, string_mk, XW, undef_eq, Nat.reduceAdd, Nat.reduceSub, ↓reduceIte, basic, cellsL, resOf, setAt, below, belowB, belowA, atomB, Nat.reduceLeDiff, Nat.reduceMul, Int.reduceToNat, Int.reduceLT, Int.reduceLE, Int.reduceAdd, Int.reduceNeg, Int.reduceEq, splice, Nat.reduceEqDiff, Nat.reduceLT, isAtom, Int.reduceSub, Int.reduceMul, implies_true]
    exact hfm.set (i := m.length) (.inr (Nat.le_refl _))
  have h1' : ((s.length : Int) < ((7 * L.length + 7 : Nat) : Int)) = False := eq_false (by omega)
  have h7 : (chk s L).length = 7 := by unfold chk; rw [List.length_take, List.length_drop]; omega
  have hcut : List.take (7 * L.length + 7 - 7 * L.length) (List.drop (7 * L.length) s) = chk s L := by unfold chk; congr 1; omega
  have hsl1 : ((0 : Int) ≤ ((7 * L.length : Nat) : Int)) = True := eq_true (by omega)
  simp (contextual := true) (implicitDefEqProofs := false) (maxSteps := 2000000) (disch := first | rfl | exact NB rfl | omega | (simp only [XL]; omega)) only [hb0, hw7, h1', bin_ladd, str_cut, str_app, str_eq, string_mk_size, string_mk, hcut, Int.toNat_natCast, XW, undef_eq, Nat.reduceAdd, Nat.reduceSub, ↓reduceIte, basic, cellsL, resOf, setAt, below, belowB, belowA, atomB, Nat.reduceLeDiff, Nat.reduceMul, Int.reduceToNat, Int.reduceLT, Int.reduceLE, Int.reduceAdd, Int.reduceNeg, Int.reduceEq, splice, Nat.reduceEqDiff, Nat.reduceLT, isAtom, Int.reduceSub, Int.reduceMul, implies_true]
  refine (rget_spec (chk s L) h7 _).use ?_
  obtain ⟨hok, hbase⟩ := ok_same (chk s L)
  rw [hok]
  cases h2 : okC (chk s L) with
  | false =>
    have e : getP s (10 - L.length + 1) L = (2, []) := by rw [getP, if_neg h1, if_pos h2]
    rw [e]
    simp (contextual := true) (implicitDefEqProofs := false) (maxSteps := 2000000) (disch := first | rfl | exact NB rfl | omega | (simp only [XL]; omega)) only [hb0, XW, undef_eq, Nat.reduceAdd, Nat.reduceSub, ↓reduceIte, basic, cellsL, resOf, setAt, below, belowB, belowA, atomB, Nat.reduceLeDiff, Nat.reduceMul, Int.reduceToNat, Int.reduceLT, Int.reduceLE, Int.reduceAdd, Int.reduceNeg, Int.reduceEq, splice, Nat.reduceEqDiff, Nat.reduceLT, isAtom, Int.reduceSub, Int.reduceMul, implies_true]
    exact (hfm.set (i := m.length) (.inr (Nat.le_refl _))).app
  | true =>
    have hbase := hbase h2
    rw [hbase]
    obtain ⟨sa, rfl, _⟩ := hs.form
    have hs1 := hs
    simp only [List.length_map] at hb1 hs
    by_cases h3 : L.length = 10
    · have h3' : ((L.length : Int) = 10) = True := eq_true (by omega)
      have e : getP s (10 - L.length + 1) L = (11, []) := by rw [getP, if_neg h1, if_neg (by rw [h2]; simp), if_pos h3]
      rw [e]
      simp (contextual := true) (implicitDefEqProofs := false) (maxSteps := 2000000) (disch := first | rfl | exact NB rfl | omega | (simp only [XL]; omega)) only [hb0, hb1, h3', XW, undef_eq, Nat.reduceAdd, Nat.reduceSub, ↓reduceIte, basic, cellsL, resOf, setAt, below, belowB, belowA, atomB, Nat.reduceLeDiff, Nat.reduceMul, Int.reduceToNat, Int.reduceLT, Int.reduceLE, Int.reduceAdd, Int.reduceNeg, Int.reduceEq, splice, Nat.reduceEqDiff, Nat.reduceLT, isAtom, Int.reduceSub, Int.reduceMul, implies_true]
      exact (hfm.set (i := m.length) (.inr (Nat.le_refl _))).app
    have h3' : ((L.length : Int) = 10) = False := eq_false (by omega)
    simp (contextual := true) (implicitDefEqProofs := false) (maxSteps := 2000000) (disch := first | rfl | exact NB rfl | omega | (simp only [XL]; omega)) only [hb0, hb1, h3', XX, XB, lc_block, lc_cond, XZ, undef_eq, Nat.reduceAdd, Nat.reduceSub, ↓reduceIte, basic, cellsL, resOf, setAt, below, belowB, belowA, atomB, Nat.reduceLeDiff, Nat.reduceMul, Int.reduceToNat, Int.reduceLT, Int.reduceLE, Int.reduceAdd, Int.reduceNeg, Int.reduceEq, splice, Nat.reduceEqDiff, Nat.reduceLT, isAtom, Int.reduceSub, Int.reduceMul, implies_true]
    refine app_row (bytes := 32) (hs.frm0 Frm.refl.app) rfl (by simp only [List.length_map]; omega) ?_
    intro v2 M2 G2 hM2 hf2 hs2 hG2
    simp only [List.length_append, List.length_cons, List.length_nil] at hM2 hG2
    have hf3 : Frm F M M2 := hf2.app_of
    have hb12 := hf3.get hb1 (fun hx => by have := hF _ hx; omega)
    have hb02 := hf3.get hb0 (fun hx => by have := hF _ hx; omega)
    have l12 := lt_of_some hb12
    have l02 := lt_of_some hb02
    have hs3 : Sl M2 34 3 v2 G2 ((L ++ [enC (chk s L)]).map En.row) := by
      rw [List.map_append]; exact hs2
    obtain ⟨v2a, hv2, _⟩ := hs3.form
    subst hv2
    have hfm2 : Frm [] m M2 := hfm.trans hf3 fun x hx => .inr (by have := hF x hx; omega)
    have hG3 : ∀ x ∈ G2, m.length + 2 ≤ x := fun x hx => by have := hG2 x hx; omega
    have hlen1 : (L ++ [enC (chk s L)]).length = L.length + 1 := by simp
    have hfm3 : Frm [] m (M2.set (m.length + 1) ⟨[.slice v2a ((L ++ [enC (chk s L)]).map En.row).length ((L ++ [enC (chk s L)]).map En.row).length], 28, 1, 0, .own⟩) := hfm2.set (i := m.length + 1) (.inr (by omega))
    have hb03 : (M2.set (m.length + 1) ⟨[.slice v2a ((L ++ [enC (chk s L)]).map En.row).length ((L ++ [enC (chk s L)]).map En.row).length], 28, 1, 0, .own⟩)[m.length]? = some ⟨[.slice none 0 0], 28, 1, 0, .own⟩ := by
      rw [List.getElem?_set_ne (show m.length + 1 ≠ m.length by omega)]; exact hb02
    have hb13 : (M2.set (m.length + 1) ⟨[.slice v2a ((L ++ [enC (chk s L)]).map En.row).length ((L ++ [enC (chk s L)]).map En.row).length], 28, 1, 0, .own⟩)[m.length + 1]? = some ⟨[.slice v2a ((L ++ [enC (chk s L)]).map En.row).length ((L ++ [enC (chk s L)]).map En.row).length], 28, 1, 0, .own⟩ := by rw [List.getElem?_set_self l12]
    have hs4 := hs3.setb (B := ⟨[.slice v2a ((L ++ [enC (chk s L)]).map En.row).length ((L ++ [enC (chk s L)]).map En.row).length], 28, 1, 0, .own⟩) (fun hx => by have := hG3 _ hx; omega : m.length + 1 ∉ G2)
    simp (contextual := true) (implicitDefEqProofs := false) (maxSteps := 2000000) (disch := first | rfl | exact NB rfl | omega | (simp only [XL]; omega)) only [hb12, XX, XA, XB, lc_block, XZ, undef_eq, Nat.reduceAdd, Nat.reduceSub, ↓reduceIte, basic, cellsL, resOf, setAt, below, belowB, belowA, atomB, Nat.reduceLeDiff, Nat.reduceMul, Int.reduceToNat, Int.reduceLT, Int.reduceLE, Int.reduceAdd, Int.reduceNeg, Int.reduceEq, splice, Nat.reduceEqDiff, Nat.reduceLT, isAtom, Int.reduceSub, Int.reduceMul, implies_true]
    generalize M2.set (m.length + 1) ⟨[.slice v2a ((L ++ [enC (chk s L)]).map En.row).length ((L ++ [enC (chk s L)]).map En.row).length], 28, 1, 0, .own⟩ = M3 at hfm3 hb03 hb13 hs4 ⊢
    have l03 := lt_of_some hb03
    have l13 := lt_of_some hb13
    cases h4 : endC (chk s L) with
    | false =>
      have e : getP s (10 - L.length + 1) L = getP s (10 - L.length) (L ++ [enC (chk s L)]) := by
        rw [getP, if_neg h1, if_neg (by rw [h2]; simp), if_neg h3, if_pos h4]
      rw [e] at hg ⊢
      simp (contextual := true) (implicitDefEqProofs := false) (maxSteps := 2000000) (disch := first | rfl | exact NB rfl | omega | (simp only [XL]; omega)) only [hw7, XW, undef_eq, Nat.reduceAdd, Nat.reduceSub, ↓reduceIte, basic, cellsL, resOf, setAt, below, belowB, belowA, atomB, Nat.reduceLeDiff, Nat.reduceMul, Int.reduceToNat, Int.reduceLT, Int.reduceLE, Int.reduceAdd, Int.reduceNeg, Int.reduceEq, splice, Nat.reduceEqDiff, Nat.reduceLT, isAtom, Int.reduceSub, Int.reduceMul, implies_true]
      refine kInv_go ⟨L ++ [enC (chk s L)], _, G2, rfl, by rw [hlen1]; omega, ?_, hfm3, hb03, hb13, hs4, hG3, ⟨rfl, ?_⟩⟩ (by rw [hlen1]; omega)
      · rw [hlen1, show 11 - (L.length + 1) = 10 - L.length by omega]
      · simp [hlen1]; omega
    | true =>
      by_cases h5 : L.length = 0
      · have e : getP s (10 - L.length + 1) L = (2, []) := by
          rw [getP, if_neg h1, if_neg (by rw [h2]; simp), if_neg h3, if_neg (by rw [h4]; simp), if_pos h5]
        rw [e]
        have h1e : (((((L ++ [enC (chk s L)]).map En.row).length : Nat) : Int) = 1) = True := eq_true (by rw [List.length_map, hlen1]; omega)
        simp (contextual := true) (implicitDefEqProofs := false) (maxSteps := 2000000) (disch := first | rfl | exact NB rfl | omega | (simp only [XL]; omega)) only [hb03, hb13, h1e, XW, undef_eq, Nat.reduceAdd, Nat.reduceSub, ↓reduceIte, basic, cellsL, resOf, setAt, below, belowB, belowA, atomB, Nat.reduceLeDiff, Nat.reduceMul, Int.reduceToNat, Int.reduceLT, Int.reduceLE, Int.reduceAdd, Int.reduceNeg, Int.reduceEq, splice, Nat.reduceEqDiff, Nat.reduceLT, isAtom, Int.reduceSub, Int.reduceMul, implies_true]
        exact hfm3.set (i := m.length) (.inr (Nat.le_refl _))
      · have h1e : (((((L ++ [enC (chk s L)]).map En.row).length : Nat) : Int) = 1) = False := eq_false (by rw [List.length_map, hlen1]; omega)
        obtain ⟨x, y, r, hxy⟩ : ∃ x y r, L ++ [enC (chk s L)] = x :: y :: r := by
          match hL' : L ++ [enC (chk s L)] with
          | [] => simp at hL'
          | [_] =>
            have h := congrArg List.length hL'
            simp only [List.length_append, List.length_cons, List.length_nil] at h
            omega
          | x :: y :: r => exact ⟨x, y, r, rfl⟩
        have hrl : r.length ≤ 1000000 := by have := congrArg List.length hxy; rw [hlen1] at this; simp only [List.length_cons] at this; omega
        have hrd := Sl.rd hs4
        simp (contextual := true) (implicitDefEqProofs := false) (maxSteps := 2000000) (disch := first | rfl | exact NB rfl | omega | (simp only [XL]; omega)) only [hb03, hb13, h1e, XW, undef_eq, Nat.reduceAdd, Nat.reduceSub, ↓reduceIte, basic, cellsL, resOf, setAt, below, belowB, belowA, atomB, Nat.reduceLeDiff, Nat.reduceMul, Int.reduceToNat, Int.reduceLT, Int.reduceLE, Int.reduceAdd, Int.reduceNeg, Int.reduceEq, splice, Nat.reduceEqDiff, Nat.reduceLT, isAtom, Int.reduceSub, Int.reduceMul, implies_true]
        have hrd2 := hrd
        rw [hxy] at hrd2
        refine (reford_spec (x := x) (y := y) (l := r) (by first | exact hrd2 | (rw [← hxy]; exact hrd)) hrl).use ?_
        have hdr : (L ++ [enC (chk s L)]).drop 2 = r := by rw [hxy]; rfl
        cases hB : ordB r with
        | false =>
          have e : getP s (10 - L.length + 1) L = (11, []) := by
            rw [getP, if_neg h1, if_neg (by rw [h2]; simp), if_neg h3, if_neg (by rw [h4]; simp), if_neg h5, if_pos (by rw [hdr]; exact hB)]
          rw [e]
          simp (contextual := true) (implicitDefEqProofs := false) (maxSteps := 2000000) (disch := first | rfl | exact NB rfl | omega | (simp only [XL]; omega)) only [hb03, hb13, XW, undef_eq, Nat.reduceAdd, Nat.reduceSub, ↓reduceIte, basic, cellsL, resOf, setAt, below, belowB, belowA, atomB, Nat.reduceLeDiff, Nat.reduceMul, Int.reduceToNat, Int.reduceLT, Int.reduceLE, Int.reduceAdd, Int.reduceNeg, Int.reduceEq, splice, Nat.reduceEqDiff, Nat.reduceLT, isAtom, Int.reduceSub, Int.reduceMul, implies_true]
          exact hfm3.set (i := m.length) (.inr (Nat.le_refl _))
        | true =>
          have e : getP s (10 - L.length + 1) L = (0, L ++ [enC (chk s L)]) := by
            rw [getP, if_neg h1, if_neg (by rw [h2]; simp), if_neg h3, if_neg (by rw [h4]; simp), if_neg h5, if_neg (by rw [hdr, hB]; simp)]
          rw [e]
          simp (contextual := true) (implicitDefEqProofs := false) (maxSteps := 2000000) (disch := first | rfl | exact NB rfl | omega | (simp only [XL]; omega)) only [hb03, hb13, hw7, XW, undef_eq, Nat.reduceAdd, Nat.reduceSub, ↓reduceIte, basic, cellsL, resOf, setAt, below, belowB, belowA, atomB, Nat.reduceLeDiff, Nat.reduceMul, Int.reduceToNat, Int.reduceLT, Int.reduceLE, Int.reduceAdd, Int.reduceNeg, Int.reduceEq, splice, Nat.reduceEqDiff, Nat.reduceLT, isAtom, Int.reduceSub, Int.reduceMul, implies_true]
          refine ⟨hfm3.set (i := m.length) (.inr (Nat.le_refl _)), _, G2, rfl, hs4.setb fun hx => ?_, fun x hx => ?_⟩
          · have := hG3 _ hx; omega
          · have := hG3 x hx; omega
end Go.Proofs.YtadkdihbbngbfaaDoor
/- Frames read, by the document: walked. -/
namespace Go.Proofs.YtadkdihbbngbfaaDoor
open Go.Lg
set_option maxRecDepth 8000
set_option maxHeartbeats 8000000
def zRframe : Value := .agg #[.slice none 0 0, .int .i64 0, .int .i64 0, .int .i64 0, .bool false, .int .i64 0, str []]
theorem rdecode_spec (s : List UInt8) (w : Bool) (hl : s.length ≤ 100000) (m : Mem) : LCall Tryd.prog 22 [str s, .bool w] m fun v M => Frm [] m M ∧
    if (decF s w).1 = 0 then ∃ sv F, v = .tuple #[rframeV sv (decF s w).2.c (decF s w).2.pid (decF s w).2.info, .int .i64 0] ∧ Sl M 34 3 sv F ((decF s w).2.L.map En.row) ∧ ∀ x ∈ F, m.length ≤ x
    else v = .tuple #[zRframe, .int .i64 (decF s w).1] := by
  refine LCall_enter Tryd.func22 c22 ?_
  simp (contextual := true) (implicitDefEqProofs := false) (maxSteps := 2000000) (disch := first | rfl | exact NB rfl | omega | (simp only [XL]; omega)) only [L22, XW, undef_eq, Nat.reduceAdd, Nat.reduceSub, ↓reduceIte, basic, cellsL, resOf, setAt, below, belowB, belowA, atomB, Nat.reduceLeDiff, Nat.reduceMul, Int.reduceToNat, Int.reduceLT, Int.reduceLE, Int.reduceAdd, Int.reduceNeg, Int.reduceEq, splice, Nat.reduceEqDiff, Nat.reduceLT, isAtom, Int.reduceSub, Int.reduceMul, implies_true]
  refine (rgetP_spec s hl _).mono ?_
  rintro v M ⟨hf, hv⟩
  have hb0 := hf.get0 (i := m.length) (b := ⟨[.slice none 0 0, .int .i64 0, .int .i64 0, .int .i64 0, .bool false, .int .i64 0, .string ⟨#[]⟩], 66, 1, 0, .own⟩) (by simp)
  have l0 := lt_of_some hb0
  have hfm : Frm [] m M := (Frm.refl (F := []) (m := m)).app.nil_trans hf
  by_cases h1 : (getP s 11 []).1 = 0
  · have hsh := getP_shape (s := s) (n := 11) (L := []) rfl (by simp) h1
    rw [if_pos h1] at hv
    obtain ⟨sv, F, rfl, hs, hF⟩ := hv
    obtain ⟨sa, rfl, _⟩ := hs.form
    have hdec : decF s w = if (K.getC (s.drop (7 * (getP s 11 []).2.length)) w).1 = 0 then
      decE (getP s 11 []).2 (K.getC (s.drop (7 * (getP s 11 []).2.length)) w).2.1 (decP (K.getC (s.drop (7 * (getP s 11 []).2.length)) w).2.1 (s.drop (7 * (getP s 11 []).2.length + (K.getC (s.drop (7 * (getP s 11 []).2.length)) w).2.2)))
      else ((K.getC (s.drop (7 * (getP s 11 []).2.length)) w).1, Fr.zero) := by rw [decF, if_pos h1]
    rw [hdec]
    clear hdec
    generalize (getP s 11 []).2 = L at hs hsh ⊢
    obtain ⟨hn2, hn10, hns, _, _⟩ := hsh
    obtain ⟨N, hN⟩ : ∃ N, 7 * L.length = N := ⟨_, rfl⟩
    rw [hN] at hns ⊢
    have hc0 : ((0 : Int) ≤ (N : Int)) = True := eq_true (by omega)
    have hc1 : ((N : Int) ≤ (s.length : Int)) = True := eq_true (by omega)
    have hcut : List.take (s.length - N) (List.drop N s) = s.drop N := List.take_of_length_le (by rw [List.length_drop]; exact Nat.le_refl _)
    simp (contextual := true) (implicitDefEqProofs := false) (maxSteps := 2000000) (disch := first | rfl | exact NB rfl | omega | (simp only [XL]; omega)) only [hb0, bin_ladd, str_cut, str_app, str_eq, string_mk_size, string_mk, hc0, hc1, hcut, Int.toNat_natCast, XW, undef_eq, Nat.reduceAdd, Nat.reduceSub, ↓reduceIte, basic, cellsL, resOf, setAt, below, belowB, belowA, atomB, Nat.reduceLeDiff, Nat.reduceMul, Int.reduceToNat, Int.reduceLT, Int.reduceLE, Int.reduceAdd, Int.reduceNeg, Int.reduceEq, splice, Nat.reduceEqDiff, Nat.reduceLT, isAtom, Int.reduceSub, Int.reduceMul, implies_true]
    refine (K.rgetK_spec (s.drop N) w (by rw [List.length_drop]; omega) _).use ?_
    have hlen := K.getC_len (s := s.drop N) (w := w)
    rw [List.length_drop] at hlen
    generalize K.getC (s.drop N) w = kk at hlen ⊢
    obtain ⟨ke, c, n⟩ := kk
    simp only at hlen ⊢
    have hfA : ∀ B g, Frm [] m (M.set m.length B ++ g) := fun B g => (hfm.set (i := m.length) (.inr (Nat.le_refl _))).app
    have hsA : ∀ B g, Sl (M.set m.length B ++ g) 34 3 (.slice sa (L.map En.row).length (L.map En.row).length) F (L.map En.row) := fun B g => (hs.setb (fun hx => by have := hF _ hx; simp only [List.length_append, List.length_cons, List.length_nil] at this; omega)).frm0 Frm.refl.app
    by_cases h2 : ke = 0
    · subst h2
      rw [if_pos rfl]
      have hwn : IntKind.i64.wrap ((N : Int) + (n : Int)) = ((N + n : Nat) : Int) := by rw [wrap_i64 (by omega) (by omega)]; omega
      simp (contextual := true) (implicitDefEqProofs := false) (maxSteps := 2000000) (disch := first | rfl | exact NB rfl | omega | (simp only [XL]; omega)) only [hb0, bin_ladd, str_cut, str_app, str_eq, string_mk_size, string_mk, hwn, Int.toNat_natCast, Ct.val, XW, undef_eq, Nat.reduceAdd, Nat.reduceSub, ↓reduceIte, basic, cellsL, resOf, setAt, below, belowB, belowA, atomB, Nat.reduceLeDiff, Nat.reduceMul, Int.reduceToNat, Int.reduceLT, Int.reduceLE, Int.reduceAdd, Int.reduceNeg, Int.reduceEq, splice, Nat.reduceEqDiff, Nat.reduceLT, isAtom, Int.reduceSub, Int.reduceMul, implies_true]
      refine (hasPid_spec _ _).use ?_
      have hFm : ∀ z ∈ F, m.length ≤ z := fun z hz => by have := hF z hz; simp only [List.length_append, List.length_cons, List.length_nil] at this; omega
      have hdl : (s.drop (N + n)).length ≤ 100000 := by rw [List.length_drop]; omega
      have hln : N + n ≤ s.length := by omega
      have hcut2 : List.take (s.length - (N + n)) (List.drop (N + n) s) = s.drop (N + n) := List.take_of_length_le (by rw [List.length_drop]; exact Nat.le_refl _)
      cases hb : K.pidB c.k with
      | false =>
        rw [decP_f hb]
        simp (contextual := true) (implicitDefEqProofs := false) (maxSteps := 2000000) (disch := first | rfl | exact NB rfl | omega | (simp only [XL]; omega)) only [hb0, bin_ladd, str_cut, str_app, str_eq, string_mk_size, string_mk, hcut2, Int.toNat_natCast, XW, undef_eq, Nat.reduceAdd, Nat.reduceSub, ↓reduceIte, basic, cellsL, resOf, setAt, below, belowB, belowA, atomB, Nat.reduceLeDiff, Nat.reduceMul, Int.reduceToNat, Int.reduceLT, Int.reduceLE, Int.reduceAdd, Int.reduceNeg, Int.reduceEq, splice, Nat.reduceEqDiff, Nat.reduceLT, isAtom, Int.reduceSub, Int.reduceMul, implies_true]
        refine (rinfo_spec (c := c) (fun m => hasInfo_spec _ m) (by omega)).use ?_
        rw [decE_s]
        generalize s.drop (N + n) = info at hdl ⊢
        by_cases hi : infoE (K.infoB c.k) info = 0
        · rw [if_pos hi, hi]
          simp (contextual := true) (implicitDefEqProofs := false) (maxSteps := 2000000) (disch := first | rfl | exact NB rfl | omega | (simp only [XL]; omega)) only [hb0, XW, undef_eq, Nat.reduceAdd, Nat.reduceSub, ↓reduceIte, basic, cellsL, resOf, setAt, below, belowB, belowA, atomB, Nat.reduceLeDiff, Nat.reduceMul, Int.reduceToNat, Int.reduceLT, Int.reduceLE, Int.reduceAdd, Int.reduceNeg, Int.reduceEq, splice, Nat.reduceEqDiff, Nat.reduceLT, isAtom, Int.reduceSub, Int.reduceMul, implies_true]
          exact ⟨hfA _ _, _, F, rfl, hsA _ _, hFm⟩
        · rw [if_neg hi]
          have hi' : (infoE (K.infoB c.k) info = 0) = False := eq_false hi
          simp (contextual := true) (implicitDefEqProofs := false) (maxSteps := 2000000) (disch := first | rfl | exact NB rfl | omega | (simp only [XL]; omega)) only [hb0, hi', zRframe, XW, undef_eq, Nat.reduceAdd, Nat.reduceSub, ↓reduceIte, basic, cellsL, resOf, setAt, below, belowB, belowA, atomB, Nat.reduceLeDiff, Nat.reduceMul, Int.reduceToNat, Int.reduceLT, Int.reduceLE, Int.reduceAdd, Int.reduceNeg, Int.reduceEq, splice, Nat.reduceEqDiff, Nat.reduceLT, isAtom, Int.reduceSub, Int.reduceMul, implies_true]
          exact hfA _ _
      | true =>
        match hd : s.drop (N + n), hdl with
        | [], _ =>
          have hge : ((s.length : Int) ≤ ((N + n : Nat) : Int)) = True := eq_true (by
            have := congrArg List.length hd
            rw [List.length_drop, List.length_nil] at this; omega)
          rw [decP_n hb]
          simp (contextual := true) (implicitDefEqProofs := false) (maxSteps := 2000000) (disch := first | rfl | exact NB rfl | omega | (simp only [XL]; omega)) only [hb0, bin_ladd, str_cut, str_app, str_eq, string_mk_size, string_mk, hge, decE, zRframe, XW, undef_eq, Nat.reduceAdd, Nat.reduceSub, ↓reduceIte, basic, cellsL, resOf, setAt, below, belowB, belowA, atomB, Nat.reduceLeDiff, Nat.reduceMul, Int.reduceToNat, Int.reduceLT, Int.reduceLE, Int.reduceAdd, Int.reduceNeg, Int.reduceEq, splice, Nat.reduceEqDiff, Nat.reduceLT, isAtom, Int.reduceSub, Int.reduceMul, implies_true]
          exact hfA _ _
        | q :: info, hdl =>
          have hlt : N + n < s.length := by
            have := congrArg List.length hd
            rw [List.length_drop, List.length_cons] at this; omega
          have hge : ((s.length : Int) ≤ ((N + n : Nat) : Int)) = False := eq_false (by omega)
          have hq : s[N + n]? = some q := by
            have := congrArg (fun l : List UInt8 => l[0]?) hd
            simpa [List.getElem?_drop] using this
          have hwn1 : IntKind.i64.wrap (((N + n : Nat) : Int) + 1) = ((N + n + 1 : Nat) : Int) := by rw [wrap_i64 (by omega) (by omega)]; omega
          have hwq : IntKind.i64.wrap (q.toNat : Int) = (q.toNat : Int) := K.u8_wrap q
          have hln1 : N + n + 1 ≤ s.length := hlt
          have hinfo : s.drop (N + n + 1) = info := by
            have := congrArg (List.drop 1) hd
            rw [List.drop_drop] at this
            exact this
          have hcut3 : List.take (s.length - (N + n + 1)) (List.drop (N + n + 1) s) = info := by rw [← hinfo]; exact List.take_of_length_le (by rw [List.length_drop]; exact Nat.le_refl _)
          rw [decP_c hb]
          simp (contextual := true) (implicitDefEqProofs := false) (maxSteps := 2000000) (disch := first | rfl | exact NB rfl | omega | (simp only [XL]; omega)) only [hb0, bin_ladd, str_cut, str_app, str_eq, string_mk_size, string_mk, hge, hq, hwn1, hwq, hcut3, Int.toNat_natCast, XW, undef_eq, Nat.reduceAdd, Nat.reduceSub, ↓reduceIte, basic, cellsL, resOf, setAt, below, belowB, belowA, atomB, Nat.reduceLeDiff, Nat.reduceMul, Int.reduceToNat, Int.reduceLT, Int.reduceLE, Int.reduceAdd, Int.reduceNeg, Int.reduceEq, splice, Nat.reduceEqDiff, Nat.reduceLT, isAtom, Int.reduceSub, Int.reduceMul, implies_true]
          simp only [List.length_cons] at hdl
          refine ⟨by omega, ?_⟩
          refine (rinfo_spec (c := c) (fun m => hasInfo_spec _ m) (by omega)).use ?_
          rw [decE_s]
          by_cases hi : infoE (K.infoB c.k) info = 0
          · rw [if_pos hi, hi]
            simp (contextual := true) (implicitDefEqProofs := false) (maxSteps := 2000000) (disch := first | rfl | exact NB rfl | omega | (simp only [XL]; omega)) only [hb0, XW, undef_eq, Nat.reduceAdd, Nat.reduceSub, ↓reduceIte, basic, cellsL, resOf, setAt, below, belowB, belowA, atomB, Nat.reduceLeDiff, Nat.reduceMul, Int.reduceToNat, Int.reduceLT, Int.reduceLE, Int.reduceAdd, Int.reduceNeg, Int.reduceEq, splice, Nat.reduceEqDiff, Nat.reduceLT, isAtom, Int.reduceSub, Int.reduceMul, implies_true]
            exact ⟨hfA _ _, _, F, rfl, hsA _ _, hFm⟩
          · rw [if_neg hi]
            have hi' : (infoE (K.infoB c.k) info = 0) = False := eq_false hi
            simp (contextual := true) (implicitDefEqProofs := false) (maxSteps := 2000000) (disch := first | rfl | exact NB rfl | omega | (simp only [XL]; omega)) only [hb0, hi', zRframe, XW, undef_eq, Nat.reduceAdd, Nat.reduceSub, ↓reduceIte, basic, cellsL, resOf, setAt, below, belowB, belowA, atomB, Nat.reduceLeDiff, Nat.reduceMul, Int.reduceToNat, Int.reduceLT, Int.reduceLE, Int.reduceAdd, Int.reduceNeg, Int.reduceEq, splice, Nat.reduceEqDiff, Nat.reduceLT, isAtom, Int.reduceSub, Int.reduceMul, implies_true]
            exact hfA _ _
    · rw [if_neg h2]
      have h2' : (ke = 0) = False := eq_false h2
      simp (contextual := true) (implicitDefEqProofs := false) (maxSteps := 2000000) (disch := first | rfl | exact NB rfl | omega | (simp only [XL]; omega)) only [hb0, bin_ladd, str_cut, str_app, str_eq, string_mk_size, string_mk, h2', zRframe, Ct.val, XW, undef_eq, Nat.reduceAdd, Nat.reduceSub, ↓reduceIte, basic, cellsL, resOf, setAt, below, belowB, belowA, atomB, Nat.reduceLeDiff, Nat.reduceMul, Int.reduceToNat, Int.reduceLT, Int.reduceLE, Int.reduceAdd, Int.reduceNeg, Int.reduceEq, splice, Nat.reduceEqDiff, Nat.reduceLT, isAtom, Int.reduceSub, Int.reduceMul, implies_true]
      exact hfA _ _
  · rw [if_neg h1] at hv
    have hdec : decF s w = ((getP s 11 []).1, Fr.zero) := by rw [decF, if_neg h1]
    have h1' : ((getP s 11 []).1 = 0) = False := eq_false h1
    subst hv
    rw [hdec]
    simp (contextual := true) (implicitDefEqProofs := false) (maxSteps := 2000000) (disch := first | rfl | exact NB rfl | omega | (simp only [XL]; omega)) only [hb0, h1', bin_ladd, str_cut, str_app, str_eq, string_mk_size, string_mk, zRframe, Fr.zero, XW, undef_eq, Nat.reduceAdd, Nat.reduceSub, ↓reduceIte, basic, cellsL, resOf, setAt, below, belowB, belowA, atomB, Nat.reduceLeDiff, Nat.reduceMul, Int.reduceToNat, Int.reduceLT, Int.reduceLE, Int.reduceAdd, Int.reduceNeg, Int.reduceEq, splice, Nat.reduceEqDiff, Nat.reduceLT, isAtom, Int.reduceSub, Int.reduceMul, implies_true]
    exact (hfm.set (i := m.length) (.inr (Nat.le_refl _))).app
end Go.Proofs.YtadkdihbbngbfaaDoor
/- A path that goes on: its bytes; plain. -/
namespace Go.Proofs.YtadkdihbbngbfaaDoor
open Go.Lg
set_option maxRecDepth 8000
theorem idx_cases {p : En → Bool} : ∀ {l : List En} {i : Nat}, (idxF p l i = -1 ∧ ∀ e ∈ l, p e = false) ∨ ∃ j e, l[j]? = some e ∧ p e = true ∧ idxF p l i = ((i + j : Nat) : Int) ∧ ∀ j' e', j' < j → l[j']? = some e' → p e' = false
  | [], i => .inl ⟨rfl, by simp⟩
  | e :: l, i => by
    rw [idxF]
    by_cases h : p e = true
    · right
      rw [if_pos h]
      exact ⟨0, e, rfl, h, by simp, fun j' e' hj => by omega⟩
    · rw [if_neg h]
      have h' : p e = false := by simpa using h
      rcases idx_cases (p := p) (l := l) (i := i + 1) with ⟨h1, h2⟩ | ⟨j, e1, h1, h2, h3, h4⟩
      · left
        refine ⟨h1, fun x hx => ?_⟩
        rcases List.mem_cons.mp hx with rfl | hx
        · exact h'
        · exact h2 x hx
      · right
        refine ⟨j + 1, e1, by simpa using h1, h2, by rw [h3]; congr 1; omega, fun j' e' hj he => ?_⟩
        match j', hj, he with
        | 0, _, he => simp at he; subst he; exact h'
        | j' + 1, hj, he => exact h4 j' e' (by omega) (by simpa using he)
def nx (l : List En) : Int := idxF (fun e => !e.k) l 0
def sentL (l : List En) (j : Nat) (e : En) : List En := l.set j ⟨e.b, e.s, true⟩
theorem put_at {L : List En} {rest : List UInt8} {i r : Nat} {e : En} (h : L[i]? = some e) (hr : r < 7) : (putE L ++ rest)[7 * i + r]? = (putC e.b e.s e.k (decide (i + 1 = L.length)))[r]? := by
  have hi : i < L.length := (List.getElem?_eq_some_iff.mp h).1
  have hc := chk_put (rest := rest) h
  unfold chk at hc
  rw [List.length_take, Nat.min_eq_left (by omega)] at hc
  rw [← hc, List.getElem?_take_of_lt hr, List.getElem?_drop]
theorem put_rest {L : List En} {rest : List UInt8} {q : Nat} : (putE L ++ rest)[7 * L.length + q]? = rest[q]? := by
  rw [List.getElem?_append_right (by rw [putE_len]; omega), putE_len]
  congr 1; omega
theorem putC_get {b : List UInt8} {s : Int} {k l : Bool} {r : Nat} (hr : r < 6) (k' : Bool) : (putC b s k l)[r]? = (putC b s k' l)[r]? := by
  unfold putC
  rw [List.getElem?_append_left (by simpa using hr), List.getElem?_append_left (by simpa using hr)]
theorem putC_end {b : List UInt8} {s : Int} {k l : Bool} : (putC b s k l)[6]? = some (UInt8.ofNat (endN s.toNat k l)) := rfl
theorem sent_bytes {L : List En} {rest : List UInt8} {i : Nat} {e : En} (h : L[i]? = some e) (hk : e.k = false) (hok : e.ok = true) :
    (∀ q, q ≠ 7 * i + 6 → (putE (sentL L i e) ++ rest)[q]? = (putE L ++ rest)[q]?) ∧
    ∃ u v : UInt8, (putE L ++ rest)[7 * i + 6]? = some u ∧ (putE (sentL L i e) ++ rest)[7 * i + 6]? = some v ∧ u.toNat < 128 ∧ v.toNat = u.toNat + 128 := by
  have hi : i < L.length := (List.getElem?_eq_some_iff.mp h).1
  have hl : (sentL L i e).length = L.length := by unfold sentL; simp
  have hs : (sentL L i e)[i]? = some ⟨e.b, e.s, true⟩ := by unfold sentL; rw [List.getElem?_set_self hi]
  constructor
  · intro q hq
    by_cases hb : q < 7 * L.length
    · obtain ⟨a, r, hr, rfl⟩ : ∃ a r, r < 7 ∧ q = 7 * a + r := ⟨q / 7, q % 7, Nat.mod_lt _ (by omega), (Nat.div_add_mod q 7).symm⟩
      have ha : a < L.length := by omega
      obtain ⟨x, hx⟩ : ∃ x, L[a]? = some x := ⟨L[a], List.getElem?_eq_getElem ha⟩
      by_cases hai : a = i
      · subst hai
        rw [put_at hs hr, put_at h hr, hl]
        exact putC_get (by omega) _
      · have hx' : (sentL L i e)[a]? = some x := by unfold sentL; rw [List.getElem?_set_ne (by omega)]; exact hx
        rw [put_at hx' hr, put_at hx hr, hl]
    · obtain ⟨r, rfl⟩ : ∃ r, q = 7 * L.length + r := ⟨q - 7 * L.length, by omega⟩
      rw [put_rest]
      have := put_rest (L := sentL L i e) (rest := rest) (q := r)
      rw [hl] at this
      exact this
  · obtain ⟨_, _, hn⟩ := right_le hok
    have hN : ∀ k l, (UInt8.ofNat (endN e.s.toNat k l)).toNat = endN e.s.toNat k l := fun k l => u8_of (endN_lt (by omega))
    refine ⟨_, _, by rw [put_at h (by omega), putC_end], by rw [put_at hs (by omega), putC_end], ?_, ?_⟩
    · rw [hN, hk]
      generalize decide (i + 1 = L.length) = d
      cases d <;> simp [endN] <;> omega
    · rw [hN, hN, hk, hl]
      generalize decide (i + 1 = L.length) = d
      cases d <;> simp [endN]
theorem ord_iff {l : List En} : ordB l = true ↔ ∀ i, 0 < i → kAtE l i = true → kAtE l (i - 1) = true := by
  unfold ordB ordTo
  rw [List.all_eq_true]
  constructor
  · intro h i hi hk
    by_cases hl : i < l.length
    · have := h i (by simpa using hl)
      simp only [Bool.or_eq_true, decide_eq_true_eq, Bool.not_eq_true'] at this
      rcases this with (h1 | h1) | h1
      · omega
      · rw [hk] at h1; cases h1
      · exact h1
    · have : kAtE l i = false := by unfold kAtE; rw [List.getElem?_eq_none (by omega)]; rfl
      rw [hk] at this; cases this
  · intro h i hi
    simp only [Bool.or_eq_true, decide_eq_true_eq, Bool.not_eq_true']
    by_cases h0 : i = 0
    · exact .inl (.inl h0)
    · cases hk : kAtE l i with
      | false => exact .inl (.inr rfl)
      | true => exact .inr (h i (by omega) hk)
theorem sent_right {tb : List UInt8} {ts : Int} {fb : List UInt8} {fs : Int} {l : List En} {j : Nat} {e : En} (h : l[j]? = some e) (hall : ∀ j' e', j' < j → l[j']? = some e' → (!e'.k) = false) (hr : rightP tb ts fb fs l = true) : rightP tb ts fb fs (sentL l j e) = true := by
  have hj : j < l.length := (List.getElem?_eq_some_iff.mp h).1
  have hl : (sentL l j e).length = l.length := by unfold sentL; simp
  unfold rightP at hr ⊢
  simp only [Bool.and_eq_true, Bool.not_eq_true'] at hr ⊢
  obtain ⟨h1, h2, h3, h4, h5⟩ := hr
  refine ⟨h1, h2, ?_, ?_, ?_⟩
  · rw [List.any_eq_false] at h3 ⊢
    intro x hx
    rcases List.mem_or_eq_of_mem_set hx with hx | hx
    · exact h3 x hx
    · rw [hx]; exact h3 e (List.mem_of_getElem? h)
  · rw [ord_iff] at h4 ⊢
    have hget : ∀ i, i ≠ j → kAtE (sentL l j e) i = kAtE l i := fun i hi => by unfold kAtE sentL; rw [List.getElem?_set_ne (by omega)]
    have hj' : kAtE (sentL l j e) j = true := by unfold kAtE sentL; rw [List.getElem?_set_self hj]; rfl
    intro i hi hk
    by_cases hij : i - 1 = j
    · rw [hij]; exact hj'
    · rw [hget _ hij]
      by_cases hie : i = j
      · subst hie
        obtain ⟨x, hx⟩ : ∃ x, l[i - 1]? = some x := ⟨l[i - 1], List.getElem?_eq_getElem (by omega)⟩
        have := hall (i - 1) x (by omega) hx
        unfold kAtE; rw [hx]
        simpa using this
      · rw [hget _ hie] at hk
        exact h4 i hi hk
  · rw [hl]; exact h5
end Go.Proofs.YtadkdihbbngbfaaDoor
/- What is wrong with a frame; its bytes: walked. -/
namespace Go.Proofs.YtadkdihbbngbfaaDoor
open Go.Lg
set_option maxRecDepth 8000
set_option maxHeartbeats 8000000
theorem wrong_spec {tb : List UInt8} {ts : Int} {fb : List UInt8} {fs : Int} {tm fm : Bool} {dv : Value} {l : List En} {c : Ct} {pid : Int} {info : List UInt8} {wide rb pb ib : Bool} {m : Mem}
    (htb : tb.length ≤ 140737488355328) (hfb : fb.length ≤ 140737488355328) (hb : ∀ e ∈ l, e.b.length ≤ 140737488355328) (h : Rd m 3 dv (l.map En.row)) (hn : l.length ≤ 1000000)
    (hR : ∀ m, Ret Tryd.prog 58 [c.val, .bool wide] m (.bool rb) m) (hP : ∀ m, Ret Tryd.prog 39 [.int .i64 c.k] m (.bool pb) m) (hI : ∀ m, Ret Tryd.prog 72 [.int .i64 c.k] m (.bool ib) m) (hl : info.length ≤ 140737488355328) :
    Ret Tryd.prog 36 [frameV tb ts fb fs tm fm dv c pid info, .bool wide] m (.int .i64 (wrongE (rightP tb ts fb fs l) rb pb ib pid info)) m := by
  have h0 := h
  obtain ⟨a, rfl, _⟩ := h
  refine LCall_drop (LCall_enter Tryd.func36 c36 ?_)
  simp (contextual := true) (implicitDefEqProofs := false) (maxSteps := 2000000) (disch := first | rfl | exact NB rfl | omega | (simp only [XL]; omega)) only [L36, XW, undef_eq, Nat.reduceAdd, Nat.reduceSub, ↓reduceIte, basic, cellsL, resOf, setAt, below, belowB, belowA, atomB, Nat.reduceLeDiff, Nat.reduceMul, Int.reduceToNat, Int.reduceLT, Int.reduceLE, Int.reduceAdd, Int.reduceNeg, Int.reduceEq, splice, Nat.reduceEqDiff, Nat.reduceLT, isAtom, Int.reduceSub, Int.reduceMul, implies_true]
  refine (rightP_spec htb hfb hb h0.app hn).use ?_
  cases hr : rightP tb ts fb fs l with
  | false => simp (contextual := true) (implicitDefEqProofs := false) (maxSteps := 2000000) (disch := first | rfl | exact NB rfl | omega | (simp only [XL]; omega)) only [wrongE, XW, undef_eq, Nat.reduceAdd, Nat.reduceSub, ↓reduceIte, basic, cellsL, resOf, setAt, below, belowB, belowA, atomB, Nat.reduceLeDiff, Nat.reduceMul, Int.reduceToNat, Int.reduceLT, Int.reduceLE, Int.reduceAdd, Int.reduceNeg, Int.reduceEq, splice, Nat.reduceEqDiff, Nat.reduceLT, isAtom, Int.reduceSub, Int.reduceMul, implies_true]
  | true =>
    simp (contextual := true) (implicitDefEqProofs := false) (maxSteps := 2000000) (disch := first | rfl | exact NB rfl | omega | (simp only [XL]; omega)) only [XW, undef_eq, Nat.reduceAdd, Nat.reduceSub, ↓reduceIte, basic, cellsL, resOf, setAt, below, belowB, belowA, atomB, Nat.reduceLeDiff, Nat.reduceMul, Int.reduceToNat, Int.reduceLT, Int.reduceLE, Int.reduceAdd, Int.reduceNeg, Int.reduceEq, splice, Nat.reduceEqDiff, Nat.reduceLT, isAtom, Int.reduceSub, Int.reduceMul, implies_true]
    refine (hR _).use ?_
    cases rb with
    | false =>
      simp (contextual := true) (implicitDefEqProofs := false) (maxSteps := 2000000) (disch := first | rfl | exact NB rfl | omega | (simp only [XL]; omega)) only [XW, undef_eq, Nat.reduceAdd, Nat.reduceSub, ↓reduceIte, basic, cellsL, resOf, setAt, below, belowB, belowA, atomB, Nat.reduceLeDiff, Nat.reduceMul, Int.reduceToNat, Int.reduceLT, Int.reduceLE, Int.reduceAdd, Int.reduceNeg, Int.reduceEq, splice, Nat.reduceEqDiff, Nat.reduceLT, isAtom, Int.reduceSub, Int.reduceMul, implies_true]
      simp [wrongE]
    | true =>
      by_cases h1 : pid < 0
      · have h1' : (pid < 0) = True := eq_true h1
        simp (contextual := true) (implicitDefEqProofs := false) (maxSteps := 2000000) (disch := first | rfl | exact NB rfl | omega | (simp only [XL]; omega)) only [h1', XW, undef_eq, Nat.reduceAdd, Nat.reduceSub, ↓reduceIte, basic, cellsL, resOf, setAt, below, belowB, belowA, atomB, Nat.reduceLeDiff, Nat.reduceMul, Int.reduceToNat, Int.reduceLT, Int.reduceLE, Int.reduceAdd, Int.reduceNeg, Int.reduceEq, splice, Nat.reduceEqDiff, Nat.reduceLT, isAtom, Int.reduceSub, Int.reduceMul, implies_true]
        simp [wrongE, h1]
      have h1' : (pid < 0) = False := eq_false h1
      by_cases h2 : 255 < pid
      · have h2' : (255 < pid) = True := eq_true h2
        simp (contextual := true) (implicitDefEqProofs := false) (maxSteps := 2000000) (disch := first | rfl | exact NB rfl | omega | (simp only [XL]; omega)) only [h1', h2', XW, undef_eq, Nat.reduceAdd, Nat.reduceSub, ↓reduceIte, basic, cellsL, resOf, setAt, below, belowB, belowA, atomB, Nat.reduceLeDiff, Nat.reduceMul, Int.reduceToNat, Int.reduceLT, Int.reduceLE, Int.reduceAdd, Int.reduceNeg, Int.reduceEq, splice, Nat.reduceEqDiff, Nat.reduceLT, isAtom, Int.reduceSub, Int.reduceMul, implies_true]
        simp [wrongE, h2]
      have h2' : (255 < pid) = False := eq_false h2
      by_cases h3 : pid = 0
      · have e : wrongE true true pb ib pid info = infoE ib info := by simp [wrongE, h1, h2, h3]
        subst h3
        simp (contextual := true) (implicitDefEqProofs := false) (maxSteps := 2000000) (disch := first | rfl | exact NB rfl | omega | (simp only [XL]; omega)) only [XW, undef_eq, Nat.reduceAdd, Nat.reduceSub, ↓reduceIte, basic, cellsL, resOf, setAt, below, belowB, belowA, atomB, Nat.reduceLeDiff, Nat.reduceMul, Int.reduceToNat, Int.reduceLT, Int.reduceLE, Int.reduceAdd, Int.reduceNeg, Int.reduceEq, splice, Nat.reduceEqDiff, Nat.reduceLT, isAtom, Int.reduceSub, Int.reduceMul, implies_true]
        refine (info_spec hI hl).use ?_
        simp (contextual := true) (implicitDefEqProofs := false) (maxSteps := 2000000) (disch := first | rfl | exact NB rfl | omega | (simp only [XL]; omega)) only [XW, undef_eq, Nat.reduceAdd, Nat.reduceSub, ↓reduceIte, basic, cellsL, resOf, setAt, below, belowB, belowA, atomB, Nat.reduceLeDiff, Nat.reduceMul, Int.reduceToNat, Int.reduceLT, Int.reduceLE, Int.reduceAdd, Int.reduceNeg, Int.reduceEq, splice, Nat.reduceEqDiff, Nat.reduceLT, isAtom, Int.reduceSub, Int.reduceMul, implies_true]
        rw [e]
      · have h3' : (pid = 0) = False := eq_false h3
        simp (contextual := true) (implicitDefEqProofs := false) (maxSteps := 2000000) (disch := first | rfl | exact NB rfl | omega | (simp only [XL]; omega)) only [h1', h2', h3', XW, undef_eq, Nat.reduceAdd, Nat.reduceSub, ↓reduceIte, basic, cellsL, resOf, setAt, below, belowB, belowA, atomB, Nat.reduceLeDiff, Nat.reduceMul, Int.reduceToNat, Int.reduceLT, Int.reduceLE, Int.reduceAdd, Int.reduceNeg, Int.reduceEq, splice, Nat.reduceEqDiff, Nat.reduceLT, isAtom, Int.reduceSub, Int.reduceMul, implies_true]
        refine (hP _).use ?_
        cases pb with
        | false =>
          simp (contextual := true) (implicitDefEqProofs := false) (maxSteps := 2000000) (disch := first | rfl | exact NB rfl | omega | (simp only [XL]; omega)) only [XW, undef_eq, Nat.reduceAdd, Nat.reduceSub, ↓reduceIte, basic, cellsL, resOf, setAt, below, belowB, belowA, atomB, Nat.reduceLeDiff, Nat.reduceMul, Int.reduceToNat, Int.reduceLT, Int.reduceLE, Int.reduceAdd, Int.reduceNeg, Int.reduceEq, splice, Nat.reduceEqDiff, Nat.reduceLT, isAtom, Int.reduceSub, Int.reduceMul, implies_true]
          simp [wrongE, h3]
        | true =>
          have e : wrongE true true true ib pid info = infoE ib info := by simp [wrongE, h1, h2]
          simp (contextual := true) (implicitDefEqProofs := false) (maxSteps := 2000000) (disch := first | rfl | exact NB rfl | omega | (simp only [XL]; omega)) only [XW, undef_eq, Nat.reduceAdd, Nat.reduceSub, ↓reduceIte, basic, cellsL, resOf, setAt, below, belowB, belowA, atomB, Nat.reduceLeDiff, Nat.reduceMul, Int.reduceToNat, Int.reduceLT, Int.reduceLE, Int.reduceAdd, Int.reduceNeg, Int.reduceEq, splice, Nat.reduceEqDiff, Nat.reduceLT, isAtom, Int.reduceSub, Int.reduceMul, implies_true]
          refine (info_spec hI hl).use ?_
          simp (contextual := true) (implicitDefEqProofs := false) (maxSteps := 2000000) (disch := first | rfl | exact NB rfl | omega | (simp only [XL]; omega)) only [XW, undef_eq, Nat.reduceAdd, Nat.reduceSub, ↓reduceIte, basic, cellsL, resOf, setAt, below, belowB, belowA, atomB, Nat.reduceLeDiff, Nat.reduceMul, Int.reduceToNat, Int.reduceLT, Int.reduceLE, Int.reduceAdd, Int.reduceNeg, Int.reduceEq, splice, Nat.reduceEqDiff, Nat.reduceLT, isAtom, Int.reduceSub, Int.reduceMul, implies_true]
          rw [e]
theorem encode_wrong {tb : List UInt8} {ts : Int} {fb : List UInt8} {fs : Int} {tm fm : Bool} {dv : Value} {l : List En} {c : Ct} {pid : Int} {info : List UInt8} {wide rb pb ib : Bool} {m : Mem}
    (htb : tb.length ≤ 140737488355328) (hfb : fb.length ≤ 140737488355328) (hb : ∀ e ∈ l, e.b.length ≤ 140737488355328) (h : Rd m 3 dv (l.map En.row)) (hn : l.length ≤ 1000000)
    (hR : ∀ m, Ret Tryd.prog 58 [c.val, .bool wide] m (.bool rb) m) (hP : ∀ m, Ret Tryd.prog 39 [.int .i64 c.k] m (.bool pb) m) (hI : ∀ m, Ret Tryd.prog 72 [.int .i64 c.k] m (.bool ib) m) (hl : info.length ≤ 140737488355328)
    (hw : wrongE (rightP tb ts fb fs l) rb pb ib pid info ≠ 0) :
    Ret Tryd.prog 21 [frameV tb ts fb fs tm fm dv c pid info, .bool wide] m (.tuple #[.string ⟨#[]⟩, .int .i64 (wrongE (rightP tb ts fb fs l) rb pb ib pid info)]) m := by
  have h0 := h
  obtain ⟨a, rfl, _⟩ := h
  refine LCall_drop (LCall_enter Tryd.func21 c21 ?_)
  simp (contextual := true) (implicitDefEqProofs := false) (maxSteps := 2000000) (disch := first | rfl | exact NB rfl | omega | (simp only [XL]; omega)) only [L21, XW, undef_eq, Nat.reduceAdd, Nat.reduceSub, ↓reduceIte, basic, cellsL, resOf, setAt, below, belowB, belowA, atomB, Nat.reduceLeDiff, Nat.reduceMul, Int.reduceToNat, Int.reduceLT, Int.reduceLE, Int.reduceAdd, Int.reduceNeg, Int.reduceEq, splice, Nat.reduceEqDiff, Nat.reduceLT, isAtom, Int.reduceSub, Int.reduceMul, implies_true]
  refine (wrong_spec htb hfb hb h0.app hn hR hP hI hl).use ?_
  have hw' : (wrongE (rightP tb ts fb fs l) rb pb ib pid info = 0) = False := eq_false hw
  simp (contextual := true) (implicitDefEqProofs := false) (maxSteps := 2000000) (disch := first | rfl | exact NB rfl | omega | (simp only [XL]; omega)) only [hw', XW, undef_eq, Nat.reduceAdd, Nat.reduceSub, ↓reduceIte, basic, cellsL, resOf, setAt, below, belowB, belowA, atomB, Nat.reduceLeDiff, Nat.reduceMul, Int.reduceToNat, Int.reduceLT, Int.reduceLE, Int.reduceAdd, Int.reduceNeg, Int.reduceEq, splice, Nat.reduceEqDiff, Nat.reduceLT, isAtom, Int.reduceSub, Int.reduceMul, implies_true]
theorem encode_spec {tb : List UInt8} {ts : Int} {fb : List UInt8} {fs : Int} {tm fm : Bool} {dv : Value} {l : List En} {c : Ct} {pid : Int} {info ct : List UInt8} {wide rb pb ib : Bool} {m : Mem}
    (h : RdN m 3 dv (l.map En.row))
    (hR : ∀ m, Ret Tryd.prog 58 [c.val, .bool wide] m (.bool rb) m) (hP : ∀ m, Ret Tryd.prog 39 [.int .i64 c.k] m (.bool pb) m) (hI : ∀ m, Ret Tryd.prog 72 [.int .i64 c.k] m (.bool ib) m)
    (hC : ∀ m, Ret Tryd.prog 37 [c.val, .bool wide] m (.tuple #[str ct, .int .i64 0]) m) (hct : ct.length ≤ 1000)
    (hw : wrongE (rightP tb ts fb fs l) rb pb ib pid info = 0) :
    Ret Tryd.prog 21 [frameV tb ts fb fs tm fm dv c pid info, .bool wide] m (.tuple #[str (encF (⟨tb, ts, tm⟩ :: ⟨fb, fs, fm⟩ :: l) ct pb pid info), .int .i64 0]) m := by
  have hrp : rightP tb ts fb fs l = true := by
    cases hr : rightP tb ts fb fs l with
    | true => rfl
    | false => rw [wrongE, if_pos hr] at hw; cases hw
  have hw0 := hw
  rw [hrp, wrongE, if_neg (by simp)] at hw
  split at hw
  · cases hw
  rename_i hw1
  have hil : info.length ≤ 256 := by
    unfold infoE at hw
    split at hw
    · cases hw
    split at hw
    · cases hw
    · omega
  obtain ⟨hl8, _, hok⟩ := rightP_le (tm := tm) (fm := fm) hrp
  have hlet : ∀ e ∈ (⟨tb, ts, tm⟩ :: ⟨fb, fs, fm⟩ :: l : List En), e.b.length ≤ 6 := fun e he => (right_le (hok e he)).2.1.2
  have htb := hlet ⟨tb, ts, tm⟩ (by simp)
  have hfb := hlet ⟨fb, fs, fm⟩ (by simp)
  simp only at htb hfb
  have h0 := h
  obtain ⟨a, rfl, _⟩ := h.1
  refine LCall_drop (LCall_enter Tryd.func21 c21 ?_)
  simp (contextual := true) (implicitDefEqProofs := false) (maxSteps := 2000000) (disch := first | rfl | exact NB rfl | omega | (simp only [XL]; omega)) only [L21, XW, undef_eq, Nat.reduceAdd, Nat.reduceSub, ↓reduceIte, basic, cellsL, resOf, setAt, below, belowB, belowA, atomB, Nat.reduceLeDiff, Nat.reduceMul, Int.reduceToNat, Int.reduceLT, Int.reduceLE, Int.reduceAdd, Int.reduceNeg, Int.reduceEq, splice, Nat.reduceEqDiff, Nat.reduceLT, isAtom, Int.reduceSub, Int.reduceMul, implies_true]
  refine (wrong_spec (l := l) (by omega) (by omega) (fun e he => by have := hlet e (by simp [he]); omega) h0.1.app (by omega) hR hP hI (by omega)).use ?_
  rw [hw0]
  simp (contextual := true) (implicitDefEqProofs := false) (maxSteps := 2000000) (disch := first | rfl | exact NB rfl | omega | (simp only [XL]; omega)) only [XW, undef_eq, Nat.reduceAdd, Nat.reduceSub, ↓reduceIte, basic, cellsL, resOf, setAt, below, belowB, belowA, atomB, Nat.reduceLeDiff, Nat.reduceMul, Int.reduceToNat, Int.reduceLT, Int.reduceLE, Int.reduceAdd, Int.reduceNeg, Int.reduceEq, splice, Nat.reduceEqDiff, Nat.reduceLT, isAtom, Int.reduceSub, Int.reduceMul, implies_true]
  have hpid : 0 ≤ pid ∧ pid ≤ 255 := by
    constructor
    · exact Int.not_lt.mp fun h => hw1 (.inr (.inl h))
    · exact Int.not_lt.mp fun h => hw1 (.inr (.inr (.inl h)))
  obtain ⟨x, hx⟩ : ∃ x : UInt8, IntKind.u8.wrap pid = (x.toNat : Int) ∧ UInt8.ofNat pid.toNat = x := by
    refine ⟨UInt8.ofNat pid.toNat, ?_, rfl⟩
    obtain ⟨n, rfl⟩ : ∃ n : Nat, pid = (n : Int) := ⟨pid.toNat, by omega⟩
    rw [Int.toNat_natCast, u8_of (by omega), wrap_u8n (by omega)]
  obtain ⟨hx, hx2⟩ := hx
  obtain ⟨M0, hM, hf0, hb0, hb1⟩ : ∃ M0, m ++ [⟨[str tb, .int .i64 ts, str fb, .int .i64 fs, .bool tm, .bool fm, .slice a (l.map En.row).length (l.map En.row).length, .int .i64 c.k, .int .i64 c.ns, .int .i64 c.nr, .bool c.pf, .int .i64 pid, str info], 63, 1, 0, .own⟩, ⟨[.pointer none, .slice none 0 0], 95, 0, 0, .own⟩] = M0 ∧ Frm [] m M0 ∧ M0[m.length]? = some ⟨[str tb, .int .i64 ts, str fb, .int .i64 fs, .bool tm, .bool fm, .slice a (l.map En.row).length (l.map En.row).length, .int .i64 c.k, .int .i64 c.ns, .int .i64 c.nr, .bool c.pf, .int .i64 pid, str info], 63, 1, 0, .own⟩ ∧ Bd 95 5 M0 (m.length + 1) [m.length + 1] [] := by
    refine ⟨_, rfl, Frm.refl.app, by simp, ?_⟩
    have := Bd.new (TB := 95) (T := 5) (m := m ++ [⟨[str tb, .int .i64 ts, str fb, .int .i64 fs, .bool tm, .bool fm, .slice a (l.map En.row).length (l.map En.row).length, .int .i64 c.k, .int .i64 c.ns, .int .i64 c.nr, .bool c.pf, .int .i64 pid, str info], 63, 1, 0, .own⟩])
    simpa using this
  rw [hM]
  clear hM
  have l0 := lt_of_some hb0
  refine (putP_spec (tm := tm) (fm := fm) (h0.frm0 hf0) hrp).use ?_
  have hLl : (putE (⟨tb, ts, tm⟩ :: ⟨fb, fs, fm⟩ :: l)).length ≤ 70 ∧ 0 < (putE (⟨tb, ts, tm⟩ :: ⟨fb, fs, fm⟩ :: l)).length := by
    unfold putE; rw [putTo_len (Nat.le_refl _)]; simp only [List.length_cons]; omega
  obtain ⟨hLl, hpos⟩ := hLl
  unfold encF
  generalize putE (⟨tb, ts, tm⟩ :: ⟨fb, fs, fm⟩ :: l) = pb0 at hLl hpos ⊢
  simp (contextual := true) (implicitDefEqProofs := false) (maxSteps := 2000000) (disch := first | rfl | exact NB rfl | omega | (simp only [XL]; omega)) only [hb0, XW, undef_eq, Nat.reduceAdd, Nat.reduceSub, ↓reduceIte, basic, cellsL, resOf, setAt, below, belowB, belowA, atomB, Nat.reduceLeDiff, Nat.reduceMul, Int.reduceToNat, Int.reduceLT, Int.reduceLE, Int.reduceAdd, Int.reduceNeg, Int.reduceEq, splice, Nat.reduceEqDiff, Nat.reduceLT, isAtom, Int.reduceSub, Int.reduceMul, implies_true]
  refine (hC _).use ?_
  simp (contextual := true) (implicitDefEqProofs := false) (maxSteps := 2000000) (disch := first | rfl | exact NB rfl | omega | (simp only [XL]; omega)) only [hb0, bin_ladd, str_cut, str_app, str_eq, string_mk_size, string_mk, XW, undef_eq, Nat.reduceAdd, Nat.reduceSub, ↓reduceIte, basic, cellsL, resOf, setAt, below, belowB, belowA, atomB, Nat.reduceLeDiff, Nat.reduceMul, Int.reduceToNat, Int.reduceLT, Int.reduceLE, Int.reduceAdd, Int.reduceNeg, Int.reduceEq, splice, Nat.reduceEqDiff, Nat.reduceLT, isAtom, Int.reduceSub, Int.reduceMul, implies_true]
  refine (wString_spec ⟨(pb0 ++ ct).toArray⟩ hb1 (by rw [string_mk_size]; simp only [List.length_nil, List.length_append]; omega)).mono ?_
  rintro _ M1 ⟨hf1, B1, hb2, hn1⟩
  rw [string_mk, List.nil_append] at hb2
  have hb01 := hf1.get hb0 (by simp)
  have l1 := lt_of_some hb01
  have hB1 : ∀ x ∈ B1, m.length < x := fun x hx => by
    rcases hn1 x hx with h1 | h1
    · simp at h1; omega
    · omega
  have hfm1 : Frm [] m M1 := hf0.trans hf1 fun x hx => .inr (by simp at hx; omega)
  simp (contextual := true) (implicitDefEqProofs := false) (maxSteps := 2000000) (disch := first | rfl | exact NB rfl | omega | (simp only [XL]; omega)) only [hb01, XW, undef_eq, Nat.reduceAdd, Nat.reduceSub, ↓reduceIte, basic, cellsL, resOf, setAt, below, belowB, belowA, atomB, Nat.reduceLeDiff, Nat.reduceMul, Int.reduceToNat, Int.reduceLT, Int.reduceLE, Int.reduceAdd, Int.reduceNeg, Int.reduceEq, splice, Nat.reduceEqDiff, Nat.reduceLT, isAtom, Int.reduceSub, Int.reduceMul, implies_true]
  refine (hP _).use ?_
  -- what follows when the bytes ahead of the information stand
  have last : ∀ (M2 : Mem) (B2 : List Nat) (q : List UInt8), q.length ≤ 2000 → Frm [] m M2 → m.length < M2.length → Bd 95 5 M2 (m.length + 1) B2 q → (∀ x ∈ B2, m.length < x) → 0 < q.length →
      LCall Tryd.prog 38 [.pointer (some ⟨m.length + 1, 0, none⟩), str info] M2 fun v M => Frm [] m M ∧ ∃ B3, Bd 95 5 M (m.length + 1) B3 (q ++ info) ∧ (∀ x ∈ B3, m.length < x) := by
    intro M2 B2 q hq hfm2 hml hbd hB2 _
    refine (wString_spec ⟨info.toArray⟩ hbd (by rw [string_mk_size]; omega)).mono ?_
    rintro _ M3 ⟨hf3, B3, hb3, hn3⟩
    rw [string_mk] at hb3
    refine ⟨hfm2.trans hf3 fun x hx => .inr (by have := hB2 x hx; omega), B3, hb3, fun x hx => ?_⟩
    rcases hn3 x hx with h1 | h1
    · exact hB2 x h1
    · omega
  have fin : ∀ (M3 : Mem) (B3 : List Nat) (q : List UInt8), q.length ≤ 3000 → 0 < q.length → Frm [] m M3 → Bd 95 5 M3 (m.length + 1) B3 q → (∀ x ∈ B3, m.length < x) →
      LCall Tryd.prog 41 [.pointer (some ⟨m.length + 1, 0, none⟩)] M3 fun v M => v = str q ∧ Frm [] m M := by
    intro M3 B3 q hq hq0 hf3 hb3 hB3
    refine (bString_spec hb3 (by omega) hq0).mono ?_
    rintro _ M4 ⟨rfl, hf4⟩
    exact ⟨rfl, hf3.trans hf4 fun x hx => .inr (by have := hB3 x hx; omega)⟩
  have hp0 : 0 < pb0.length := hpos
  cases pb with
  | false =>
    simp (contextual := true) (implicitDefEqProofs := false) (maxSteps := 2000000) (disch := first | rfl | exact NB rfl | omega | (simp only [XL]; omega)) only [hb01, bin_ladd, str_cut, str_app, str_eq, string_mk_size, string_mk, XW, undef_eq, Nat.reduceAdd, Nat.reduceSub, ↓reduceIte, basic, cellsL, resOf, setAt, below, belowB, belowA, atomB, Nat.reduceLeDiff, Nat.reduceMul, Int.reduceToNat, Int.reduceLT, Int.reduceLE, Int.reduceAdd, Int.reduceNeg, Int.reduceEq, splice, Nat.reduceEqDiff, Nat.reduceLT, isAtom, Int.reduceSub, Int.reduceMul, implies_true]
    refine (last M1 B1 (pb0 ++ ct) (by simp only [List.length_append]; omega) hfm1 l1 hb2 hB1 (by simp only [List.length_append]; omega)).mono ?_
    rintro _ M3 ⟨hf3, B3, hb3, hB3⟩
    simp (contextual := true) (implicitDefEqProofs := false) (maxSteps := 2000000) (disch := first | rfl | exact NB rfl | omega | (simp only [XL]; omega)) only [XW, undef_eq, Nat.reduceAdd, Nat.reduceSub, ↓reduceIte, basic, cellsL, resOf, setAt, below, belowB, belowA, atomB, Nat.reduceLeDiff, Nat.reduceMul, Int.reduceToNat, Int.reduceLT, Int.reduceLE, Int.reduceAdd, Int.reduceNeg, Int.reduceEq, splice, Nat.reduceEqDiff, Nat.reduceLT, isAtom, Int.reduceSub, Int.reduceMul, implies_true]
    refine (fin M3 B3 _ (by simp only [List.length_append]; omega) (by simp only [List.length_append]; omega) hf3 hb3 hB3).mono ?_
    rintro _ M4 ⟨rfl, hf4⟩
    simp (contextual := true) (implicitDefEqProofs := false) (maxSteps := 2000000) (disch := first | rfl | exact NB rfl | omega | (simp only [XL]; omega)) only [List.append_assoc, XW, undef_eq, Nat.reduceAdd, Nat.reduceSub, ↓reduceIte, basic, cellsL, resOf, setAt, below, belowB, belowA, atomB, Nat.reduceLeDiff, Nat.reduceMul, Int.reduceToNat, Int.reduceLT, Int.reduceLE, Int.reduceAdd, Int.reduceNeg, Int.reduceEq, splice, Nat.reduceEqDiff, Nat.reduceLT, isAtom, Int.reduceSub, Int.reduceMul, implies_true]
    exact hf4.ext (by simp)
  | true =>
    simp (contextual := true) (implicitDefEqProofs := false) (maxSteps := 2000000) (disch := first | rfl | exact NB rfl | omega | (simp only [XL]; omega)) only [hb01, hx, XW, undef_eq, Nat.reduceAdd, Nat.reduceSub, ↓reduceIte, basic, cellsL, resOf, setAt, below, belowB, belowA, atomB, Nat.reduceLeDiff, Nat.reduceMul, Int.reduceToNat, Int.reduceLT, Int.reduceLE, Int.reduceAdd, Int.reduceNeg, Int.reduceEq, splice, Nat.reduceEqDiff, Nat.reduceLT, isAtom, Int.reduceSub, Int.reduceMul, implies_true]
    refine (wByte_spec x hb2 (by simp only [List.length_append]; omega)).mono ?_
    rintro _ M2 ⟨hf2, B2, hb3, hn2⟩
    have hb02 := hf2.get hb01 (fun hx => by have := hB1 _ hx; omega)
    have l2 := lt_of_some hb02
    have hB2 : ∀ x ∈ B2, m.length < x := fun x hx => by
      rcases hn2 x hx with h1 | h1
      · exact hB1 x h1
      · omega
    have hfm2 : Frm [] m M2 := hfm1.trans hf2 fun x hx => .inr (by have := hB1 x hx; omega)
    simp (contextual := true) (implicitDefEqProofs := false) (maxSteps := 2000000) (disch := first | rfl | exact NB rfl | omega | (simp only [XL]; omega)) only [hb02, XW, undef_eq, Nat.reduceAdd, Nat.reduceSub, ↓reduceIte, basic, cellsL, resOf, setAt, below, belowB, belowA, atomB, Nat.reduceLeDiff, Nat.reduceMul, Int.reduceToNat, Int.reduceLT, Int.reduceLE, Int.reduceAdd, Int.reduceNeg, Int.reduceEq, splice, Nat.reduceEqDiff, Nat.reduceLT, isAtom, Int.reduceSub, Int.reduceMul, implies_true]
    refine (last M2 B2 (pb0 ++ ct ++ [x]) (by simp only [List.length_append, List.length_cons, List.length_nil]; omega) hfm2 l2 hb3 hB2 (by simp only [List.length_append]; omega)).mono ?_
    rintro _ M3 ⟨hf3, B3, hb4, hB3⟩
    simp (contextual := true) (implicitDefEqProofs := false) (maxSteps := 2000000) (disch := first | rfl | exact NB rfl | omega | (simp only [XL]; omega)) only [XW, undef_eq, Nat.reduceAdd, Nat.reduceSub, ↓reduceIte, basic, cellsL, resOf, setAt, below, belowB, belowA, atomB, Nat.reduceLeDiff, Nat.reduceMul, Int.reduceToNat, Int.reduceLT, Int.reduceLE, Int.reduceAdd, Int.reduceNeg, Int.reduceEq, splice, Nat.reduceEqDiff, Nat.reduceLT, isAtom, Int.reduceSub, Int.reduceMul, implies_true]
    refine (fin M3 B3 _ (by simp only [List.length_append, List.length_cons, List.length_nil]; omega) (by simp only [List.length_append]; omega) hf3 hb4 hB3).mono ?_
    rintro _ M4 ⟨rfl, hf4⟩
    simp (contextual := true) (implicitDefEqProofs := false) (maxSteps := 2000000) (disch := first | rfl | exact NB rfl | omega | (simp only [XL]; omega)) only [List.append_assoc, hx2, XW, undef_eq, Nat.reduceAdd, Nat.reduceSub, ↓reduceIte, basic, cellsL, resOf, setAt, below, belowB, belowA, atomB, Nat.reduceLeDiff, Nat.reduceMul, Int.reduceToNat, Int.reduceLT, Int.reduceLE, Int.reduceAdd, Int.reduceNeg, Int.reduceEq, splice, Nat.reduceEqDiff, Nat.reduceLT, isAtom, Int.reduceSub, Int.reduceMul, implies_true]
    exact hf4.ext (by simp)
end Go.Proofs.YtadkdihbbngbfaaDoor
