/- One turned bit, in plain numbers. -/
import Derived.Test.YtnlmpeklbjnjnaaU
namespace Go.Proofs.Ytnlmpeklbjnjnaa
open Go.Lg
set_option maxRecDepth 20000
set_option linter.unusedSimpArgs false
set_option linter.unusedVariables false

theorem it_add (a b r : Nat) : it a (it b r) = it (b + a) r := by
  induction a with
  | zero => rfl
  | succ a ih => exact congrArg bstep ih
theorem it_pow : ∀ k, it k (2 ^ k) = 1
  | 0 => rfl
  | k + 1 => by
    have e : it (k + 1) (2 ^ (k + 1)) = it k (it 1 (2 ^ (k + 1))) := by rw [it_add]; congr 1; omega
    rw [e]
    have : it 1 (2 ^ (k + 1)) = 2 ^ k := by
      show bstep (2 ^ (k + 1)) = _
      rw [Nat.pow_succ, Nat.mul_comm, bstep_two]
    rw [this, it_pow k]
theorem it_inj {a b : Nat} (ha : a < 65536) (hb : b < 65536) {k : Nat} (h : it k a = it k b) : a = b := by
  have : it k (a ^^^ b) = 0 := by rw [it_xor, h, Nat.xor_self]
  exact xor_zero_eq (it_zero (xor_lt (n := 16) ha hb) k this)

/-- No run of steps short of so many comes back to 1. -/
def noOne : Nat → Nat → Bool
  | 0, _ => true
  | n + 1, r => if bstep r = 1 then false else noOne n (bstep r)
theorem noOne_it : ∀ (n r : Nat), noOne n r = true → ∀ d, 0 < d → d ≤ n → it d r ≠ 1
  | 0, _, _, d, h0, hd => by omega
  | n + 1, r, h, d, h0, hd => by
    unfold noOne at h
    split at h
    · exact absurd h (by decide)
    · rename_i h1
      obtain ⟨e, rfl⟩ : ∃ e, d = e + 1 := ⟨d - 1, by omega⟩
      have e1 : it (e + 1) r = it e (bstep r) := by
        show _ = it e (it 1 r)
        rw [it_add]; congr 1; omega
      rw [e1]
      rcases Nat.eq_zero_or_pos e with rfl | he
      · exact h1
      · exact noOne_it n (bstep r) h e he (by omega)
theorem noOne_2720 : noOne 2720 1 = true := by decide +kernel
theorem tr_inj {a b : Nat} (ha : a ≤ 2720) (hb : b ≤ 2720) (h : it a 1 = it b 1) : a = b := by
  have key : ∀ a b, b ≤ 2720 → a < b → it a 1 = it b 1 → False := by
    intro a b hb hl h
    have e : it b 1 = it a (it (b - a) 1) := by rw [it_add]; congr 1; omega
    rw [e] at h
    exact noOne_it 2720 1 noOne_2720 (b - a) (by omega) (by omega) (it_inj (by decide) (it_lt (by decide) _) h).symm
  rcases Nat.lt_trichotomy a b with hl | hl | hl
  · exact (key a b hb hl h).elim
  · exact hl
  · exact (key b a ha hl h.symm).elim

def bitU (k : Nat) : UInt8 := UInt8.ofNat (2 ^ k)
theorem bitU_nat {k : Nat} (h : k < 8) : (bitU k).toNat = 2 ^ k := by
  have : ∀ k, k < 8 → (bitU k).toNat = 2 ^ k := by decide
  exact this k h

/-- What a turned bit makes of a register. -/
theorem trace_pure {k : Nat} (h : k < 8) (n : Nat) : crc 0 (bitU k :: List.replicate n 0) = it (8 * n + 8 - k) 1 := by
  rw [crc_cons, crc_zeros, Nat.zero_xor, bitU_nat h]
  unfold b8
  rw [it_add]
  have : it (8 + 8 * n) (2 ^ k) = it (8 * n + 8 - k) (it k (2 ^ k)) := by rw [it_add]; congr 1; omega
  rw [this, it_pow]

def flipL (l : List UInt8) (p : Nat) : List UInt8 := l.set (p / 8) (l.getD (p / 8) 0 ^^^ bitU (p % 8))
theorem flip_len (l : List UInt8) (p : Nat) : (flipL l p).length = l.length := by simp [flipL]
theorem flip_turn {l : List UInt8} {i : Nat} {x : UInt8} (hi : i < l.length) : l.set i (l.getD i 0 ^^^ x) = turn l (List.replicate i 0 ++ (x :: List.replicate (l.length - i - 1) 0)) := by
  apply List.ext_getElem?
  intro j
  unfold turn
  rw [List.getElem?_zipWith]
  by_cases h1 : j < i
  · rw [List.getElem?_set_ne (by omega), List.getElem?_append_left (by simpa using h1), List.getElem?_replicate, if_pos h1]
    have : j < l.length := by omega
    simp [List.getElem?_eq_getElem this]
  · rw [List.getElem?_append_right (by simp; omega)]
    simp only [List.length_replicate]
    by_cases h2 : j = i
    · subst h2
      rw [List.getElem?_set_self (by omega)]
      simp [List.getD_eq_getElem?_getD, List.getElem?_eq_getElem hi]
    · obtain ⟨d, hd⟩ : ∃ d, j - i = d + 1 := ⟨j - i - 1, by omega⟩
      rw [List.getElem?_set_ne (by omega), hd, List.getElem?_cons_succ, List.getElem?_replicate]
      by_cases h4 : j < l.length
      · rw [if_pos (by omega)]
        simp [List.getElem?_eq_getElem h4]
      · rw [if_neg (by omega), List.getElem?_eq_none (by omega)]

theorem crc_flip {l : List UInt8} {p : Nat} (hp : p < 8 * l.length) : crc 65535 (flipL l p) = crc 65535 l ^^^ it (8 * l.length - p) 1 := by
  have hi : p / 8 < l.length := by omega
  unfold flipL
  rw [flip_turn hi]
  have := crc_turn l (List.replicate (p / 8) 0 ++ (bitU (p % 8) :: List.replicate (l.length - p / 8 - 1) 0)) 65535 0 (by simp; omega)
  rw [Nat.xor_zero] at this
  rw [this, crc_append, crc_zeros0, trace_pure (by omega)]
  congr 2; omega
def wantN (l : List UInt8) : Nat := crc 65535 l ^^^ res
theorem xor_move {a b c : Nat} : a ^^^ b = c ↔ b = a ^^^ c := by
  constructor
  · rintro rfl; rw [← Nat.xor_assoc, Nat.xor_self, Nat.zero_xor]
  · rintro rfl; rw [← Nat.xor_assoc, Nat.xor_self, Nat.zero_xor]
theorem valid_flip {l : List UInt8} {p : Nat} (hp : p < 8 * l.length) : valid (flipL l p) ↔ it (8 * l.length - p) 1 = wantN l := by
  unfold valid wantN
  rw [crc_flip hp]
  exact xor_move
theorem want_valid {l : List UInt8} : valid l ↔ wantN l = 0 := by
  unfold valid wantN
  constructor
  · intro h; rw [h, Nat.xor_self]
  · exact xor_zero_eq
theorem flip_bad {l : List UInt8} {p : Nat} (hp : p < 8 * l.length) (h : valid l) : ¬ valid (flipL l p) := by
  rw [valid_flip hp, want_valid.1 h]
  intro h0
  exact absurd (it_zero (by decide) _ h0) (by decide)
theorem want_flip {l : List UInt8} {p : Nat} (hp : p < 8 * l.length) (h : valid l) : wantN (flipL l p) = it (8 * l.length - p) 1 := by
  unfold wantN
  rw [crc_flip hp, show crc 65535 l = res from h, Nat.xor_comm res, Nat.xor_assoc, Nat.xor_self, Nat.xor_zero]
theorem flip_flip (l : List UInt8) (p : Nat) : flipL (flipL l p) p = l := by
  unfold flipL
  by_cases h : p / 8 < l.length
  · apply List.ext_getElem?
    intro j
    by_cases hj : p / 8 = j
    · subst hj
      have e : (l.set (p / 8) (l.getD (p / 8) 0 ^^^ bitU (p % 8))).getD (p / 8) 0 = l.getD (p / 8) 0 ^^^ bitU (p % 8) := by
        rw [List.getD_eq_getElem?_getD (l := l.set _ _), List.getElem?_set_self h]; rfl
      rw [List.getElem?_set_self (by simpa using h), e, UInt8.xor_assoc, UInt8.xor_self, UInt8.xor_zero, List.getD_eq_getElem?_getD, List.getElem?_eq_getElem h]
      rfl
    · rw [List.getElem?_set_ne hj, List.getElem?_set_ne hj]
  · rw [List.set_eq_of_length_le (by simpa using h), List.set_eq_of_length_le (by omega)]
/-- One bit at most is wanted. -/
theorem flip_one {l : List UInt8} {p q : Nat} (hl : l.length ≤ 340) (hp : p < 8 * l.length) (hq : q < 8 * l.length) (h1 : valid (flipL l p)) (h2 : valid (flipL l q)) : p = q := by
  rw [valid_flip hp] at h1
  rw [valid_flip hq] at h2
  have := tr_inj (a := 8 * l.length - p) (b := 8 * l.length - q) (by omega) (by omega) (h1.trans h2.symm)
  omega
/-- What is wanted, by the two sums. -/
theorem want_two (t : List UInt8) (lo hi : UInt8) : b8 (b8 (sumOf t ^^^ (lo.toNat + 256 * hi.toNat))) = wantN (t ++ [lo, hi]) := by
  have h16 : crc 65535 t < 65536 := crc_lt (by decide)
  unfold wantN sumOf
  rw [crc_append, crc_two, not_xor h16, Nat.xor_assoc, b8_xor, b8_xor, Nat.xor_comm]
  rfl
end Go.Proofs.Ytnlmpeklbjnjnaa
