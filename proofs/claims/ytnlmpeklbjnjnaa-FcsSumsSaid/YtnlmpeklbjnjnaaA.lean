/- The check sum's steps, in plain numbers. -/
import Derived.Test.YtnlmpeklbjnjnaaF
import Derived.Test.YtnlmpeklbjnjnaaLgAJ
namespace Go.Proofs.Ytnlmpeklbjnjnaa
open Go.Lg

def bstep (r : Nat) : Nat := if r % 2 = 1 then (r / 2) ^^^ 33800 else r / 2
def it : Nat → Nat → Nat
  | 0, r => r
  | k + 1, r => bstep (it k r)
def b8 (r : Nat) : Nat := it 8 r

theorem xor_lt {a b n : Nat} (ha : a < 2 ^ n) (hb : b < 2 ^ n) : a ^^^ b < 2 ^ n := Nat.xor_lt_two_pow ha hb
theorem bstep_lt {r : Nat} (h : r < 65536) : bstep r < 65536 := by
  unfold bstep
  split
  · exact xor_lt (n := 16) (by omega) (by omega)
  · omega
theorem it_lt {r : Nat} (h : r < 65536) : ∀ k, it k r < 65536
  | 0 => h
  | k + 1 => bstep_lt (it_lt h k)
theorem b8_lt {r : Nat} (h : r < 65536) : b8 r < 65536 := it_lt h 8

theorem xor_mod2 (a b : Nat) : (a ^^^ b) % 2 = (a % 2 + b % 2) % 2 := by
  have := Nat.xor_mod_two_pow (a := a) (b := b) (n := 1)
  rw [Nat.pow_one] at this
  rw [this]
  rcases Nat.mod_two_eq_zero_or_one a with ha | ha <;> rcases Nat.mod_two_eq_zero_or_one b with hb | hb <;> rw [ha, hb] <;> rfl
theorem xor_div2 (a b : Nat) : (a ^^^ b) / 2 = (a / 2) ^^^ (b / 2) := by
  have := Nat.shiftRight_xor_distrib (a := a) (b := b) (i := 1)
  simpa only [Nat.shiftRight_eq_div_pow, Nat.pow_one] using this
theorem bstep_xor (a b : Nat) : bstep (a ^^^ b) = bstep a ^^^ bstep b := by
  unfold bstep
  rw [xor_mod2, xor_div2]
  rcases Nat.mod_two_eq_zero_or_one a with ha | ha <;> rcases Nat.mod_two_eq_zero_or_one b with hb | hb <;> simp only [ha, hb]
  · rfl
  · simp [Nat.xor_assoc]
  · simp only [Nat.reduceAdd, Nat.reduceMod, ↓reduceIte, Nat.zero_ne_one]
    rw [Nat.xor_assoc, Nat.xor_assoc, Nat.xor_comm 33800]
  · simp only [Nat.reduceAdd, Nat.reduceMod, ↓reduceIte, Nat.zero_ne_one]
    have : ∀ x y p : Nat, x ^^^ p ^^^ (y ^^^ p) = x ^^^ y := by
      intro x y p
      rw [Nat.xor_assoc, ← Nat.xor_assoc p, Nat.xor_comm p y, Nat.xor_assoc y, Nat.xor_self, Nat.xor_zero]
    rw [this]
theorem it_xor (a b : Nat) : ∀ k, it k (a ^^^ b) = it k a ^^^ it k b
  | 0 => rfl
  | k + 1 => by simp only [it, it_xor a b k, bstep_xor]
theorem b8_xor (a b : Nat) : b8 (a ^^^ b) = b8 a ^^^ b8 b := it_xor a b 8

theorem bstep_even {r : Nat} (h : r % 2 = 0) : bstep r = r / 2 := by unfold bstep; rw [if_neg (by omega)]
theorem bstep_two (h : Nat) : bstep (2 * h) = h := by rw [bstep_even (by omega)]; omega
theorem b8_high (h : Nat) : b8 (256 * h) = h := by
  rw [show 256 * h = 2 * (2 * (2 * (2 * (2 * (2 * (2 * (2 * h))))))) by omega]
  simp only [b8, it, bstep_two]
theorem split_byte (x : Nat) : x = (256 * (x / 256)) ^^^ (x % 256) := by
  have h1 : 256 * (x / 256) ^^^ x % 256 = 256 * (x / 256) + x % 256 := by
    have := Nat.two_pow_add_eq_or_of_lt (i := 8) (b := x % 256) (by omega) (x / 256)
    rw [show (2 : Nat) ^ 8 = 256 from rfl] at this
    rw [this]
    apply Nat.eq_of_testBit_eq
    intro i
    rw [Nat.testBit_xor, Nat.testBit_or]
    by_cases hi : i < 8
    · have : (256 * (x / 256)).testBit i = false := by
        rw [show 256 = 2 ^ 8 from rfl, Nat.testBit_two_pow_mul]; simp; omega
      rw [this]; simp
    · have : (x % 256).testBit i = false := by
        apply Nat.testBit_lt_two_pow
        calc x % 256 < 2 ^ 8 := by omega
          _ ≤ 2 ^ i := Nat.pow_le_pow_right (by omega) (by omega)
      rw [this]; simp
  rw [h1]; omega
theorem b8_split (x : Nat) : b8 x = (x / 256) ^^^ b8 (x % 256) := by
  conv => lhs; rw [split_byte x]
  rw [b8_xor, b8_high]

/-- A byte is taken: as the table has it. -/
theorem take_byte (r c : Nat) (hc : c < 256) : (r / 256) ^^^ b8 ((r % 256) ^^^ c) = b8 (r ^^^ c) := by
  rw [b8_split (r ^^^ c)]
  have h1 : (r ^^^ c) / 256 = r / 256 := by
    have := Nat.shiftRight_xor_distrib (a := r) (b := c) (i := 8)
    simp only [Nat.shiftRight_eq_div_pow] at this
    rw [show (2 : Nat) ^ 8 = 256 from rfl] at this
    rw [this, Nat.div_eq_of_lt hc, Nat.xor_zero]
  have h2 : (r ^^^ c) % 256 = (r % 256) ^^^ c := by
    have := Nat.xor_mod_two_pow (a := r) (b := c) (n := 8)
    rw [show (2 : Nat) ^ 8 = 256 from rfl] at this
    rw [this, Nat.mod_eq_of_lt hc]
  rw [h1, h2]

/-- The register behind bytes. -/
def crc (r : Nat) (l : List UInt8) : Nat := l.foldl (fun r c => b8 (r ^^^ c.toNat)) r
theorem crc_lt {l : List UInt8} : ∀ {r : Nat}, r < 65536 → crc r l < 65536 := by
  induction l with
  | nil => exact fun h => h
  | cons c l ih => exact fun h => ih (b8_lt (xor_lt (n := 16) h (by have := c.toNat_lt; omega)))
theorem crc_append (r : Nat) (a b : List UInt8) : crc r (a ++ b) = crc (crc r a) b := List.foldl_append
theorem crc_cons (r : Nat) (c : UInt8) (l : List UInt8) : crc r (c :: l) = crc (b8 (r ^^^ c.toNat)) l := by unfold crc; rw [List.foldl_cons]
theorem crc_snoc (r : Nat) (l : List UInt8) (c : UInt8) : crc r (l ++ [c]) = b8 (crc r l ^^^ c.toNat) := by rw [crc_append, crc_cons]; unfold crc; rw [List.foldl_nil]

/-- Numbers of the program. -/
theorem ofInt_nat (n a : Nat) : BitVec.ofInt n (a : Int) = BitVec.ofNat n a := by
  apply BitVec.eq_of_toNat_eq
  rw [BitVec.toNat_ofInt, BitVec.toNat_ofNat]
  omega
theorem wrap_u16 {n : Nat} (h : n < 65536) : IntKind.u16.wrap (n : Int) = n := by
  simp [IntKind.wrap, IntKind.bits, IntKind.signed]; omega
theorem wrap_u8 {n : Nat} (h : n < 256) : IntKind.u8.wrap (n : Int) = n := by
  simp [IntKind.wrap, IntKind.bits, IntKind.signed]; omega
theorem wrap_u8m (n : Nat) : IntKind.u8.wrap (n : Int) = ((n % 256 : Nat) : Int) := by
  simp [IntKind.wrap, IntKind.bits, IntKind.signed]
theorem b_xor16 {a b : Nat} (ha : a < 65536) (hb : b < 65536) : binV .xor (.int .u16 (a : Int)) (.int .u16 (b : Int)) = some (.int .u16 ((a ^^^ b : Nat) : Int)) := by
  show (if IntKind.u16 = IntKind.u16 then some (Value.int .u16 (IntKind.u16.wrap ((BitVec.ofInt 16 (a : Int) ^^^ BitVec.ofInt 16 (b : Int)).toNat : Int))) else none) = _
  rw [if_pos rfl, ofInt_nat, ofInt_nat]
  have : (BitVec.ofNat 16 a ^^^ BitVec.ofNat 16 b).toNat = a ^^^ b := by
    rw [BitVec.toNat_xor, BitVec.toNat_ofNat, BitVec.toNat_ofNat, Nat.mod_eq_of_lt ha, Nat.mod_eq_of_lt hb]
  rw [this, wrap_u16 (xor_lt (n := 16) ha hb)]
theorem b_xor16p {a : Nat} (ha : a < 65536) : binV .xor (.int .u16 (a : Int)) (.int .u16 33800) = some (.int .u16 ((a ^^^ 33800 : Nat) : Int)) := b_xor16 ha (by decide)
theorem b_xor8 {a b : Nat} (ha : a < 256) (hb : b < 256) : binV .xor (.int .u8 (a : Int)) (.int .u8 (b : Int)) = some (.int .u8 ((a ^^^ b : Nat) : Int)) := by
  show (if IntKind.u8 = IntKind.u8 then some (Value.int .u8 (IntKind.u8.wrap ((BitVec.ofInt 8 (a : Int) ^^^ BitVec.ofInt 8 (b : Int)).toNat : Int))) else none) = _
  rw [if_pos rfl, ofInt_nat, ofInt_nat]
  have : (BitVec.ofNat 8 a ^^^ BitVec.ofNat 8 b).toNat = a ^^^ b := by
    rw [BitVec.toNat_xor, BitVec.toNat_ofNat, BitVec.toNat_ofNat, Nat.mod_eq_of_lt ha, Nat.mod_eq_of_lt hb]
  rw [this, wrap_u8 (xor_lt (n := 8) ha hb)]
theorem wrap_i64n {n : Nat} (h : n < 9223372036854775808) : IntKind.i64.wrap (n : Int) = n := wrap_i64 (by omega) (by omega)
theorem b_xor64 {a b : Nat} (ha : a < 65536) (hb : b < 65536) : binV .xor (.int .i64 (a : Int)) (.int .i64 (b : Int)) = some (.int .i64 ((a ^^^ b : Nat) : Int)) := by
  show (if IntKind.i64 = IntKind.i64 then some (Value.int .i64 (IntKind.i64.wrap ((BitVec.ofInt 64 (a : Int) ^^^ BitVec.ofInt 64 (b : Int)).toNat : Int))) else none) = _
  rw [if_pos rfl, ofInt_nat, ofInt_nat]
  have : (BitVec.ofNat 64 a ^^^ BitVec.ofNat 64 b).toNat = a ^^^ b := by
    rw [BitVec.toNat_xor, BitVec.toNat_ofNat, BitVec.toNat_ofNat, Nat.mod_eq_of_lt (by omega), Nat.mod_eq_of_lt (by omega)]
  rw [this, wrap_i64n (by have := xor_lt (n := 16) ha hb; omega)]
theorem b_xor64p {a : Nat} (ha : a < 65536) : binV .xor (.int .i64 (a : Int)) (.int .i64 33800) = some (.int .i64 ((a ^^^ 33800 : Nat) : Int)) := b_xor64 ha (by decide)
theorem b_and1 {a : Nat} (ha : a < 65536) : binV .and (.int .u16 (a : Int)) (.int .u16 1) = some (.int .u16 ((a % 2 : Nat) : Int)) := by
  show (if IntKind.u16 = IntKind.u16 then some (Value.int .u16 (IntKind.u16.wrap ((BitVec.ofInt 16 (a : Int) &&& BitVec.ofInt 16 ((1 : Nat) : Int)).toNat : Int))) else none) = _
  rw [if_pos rfl, ofInt_nat, ofInt_nat]
  have : (BitVec.ofNat 16 a &&& BitVec.ofNat 16 1).toNat = a % 2 := by
    rw [BitVec.toNat_and, BitVec.toNat_ofNat, BitVec.toNat_ofNat, Nat.mod_eq_of_lt ha]
    exact Nat.and_one_is_mod a
  rw [this, wrap_u16 (by omega)]
theorem b_shr1 {a : Nat} : binV .shr (.int .u16 (a : Int)) (.int .u64 1) = some (.int .u16 ((a / 2 : Nat) : Int)) := by
  show some (Value.int .u16 ((a : Int).fdiv (2 ^ (min (1 : Int).toNat 16)))) = _
  rw [show ((2 : Int) ^ (min (1 : Int).toNat 16)) = ((2 : Nat) : Int) from rfl, Int.fdiv_eq_ediv_of_nonneg _ (by decide)]
  rfl
theorem b_shr8 {a : Nat} : binV .shr (.int .u16 (a : Int)) (.int .u64 8) = some (.int .u16 ((a / 256 : Nat) : Int)) := by
  show some (Value.int .u16 ((a : Int).fdiv (2 ^ (min (8 : Int).toNat 16)))) = _
  rw [show ((2 : Int) ^ (min (8 : Int).toNat 16)) = ((256 : Nat) : Int) from rfl, Int.fdiv_eq_ediv_of_nonneg _ (by decide)]
  rfl
theorem u_not16 {a : Nat} (ha : a < 65536) : unV .xor (.int .u16 (a : Int)) = some (.int .u16 ((65535 - a : Nat) : Int)) := by
  have e : unV .xor (.int .u16 (a : Int)) = binV .xor (.int .u16 ((65535 : Nat) : Int)) (.int .u16 (a : Int)) := by
    rfl
  rw [e, b_xor16 (by decide) ha]
  have : 65535 ^^^ a = 65535 - a := by
    have h1 : (~~~ BitVec.ofNat 16 a).toNat = 65535 - a := by
      rw [BitVec.toNat_not, BitVec.toNat_ofNat, Nat.mod_eq_of_lt ha]
    have h2 : ~~~ BitVec.ofNat 16 a = BitVec.allOnes 16 ^^^ BitVec.ofNat 16 a := by
      rw [BitVec.xor_comm]; exact BitVec.xor_allOnes.symm
    rw [h2, BitVec.toNat_xor, BitVec.toNat_ofNat, Nat.mod_eq_of_lt ha] at h1
    exact h1
  rw [this]
end Go.Proofs.Ytnlmpeklbjnjnaa
