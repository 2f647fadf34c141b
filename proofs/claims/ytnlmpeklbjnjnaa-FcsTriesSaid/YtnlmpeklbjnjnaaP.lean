/- What turned bits make of a check sum, in plain numbers. -/
import Derived.Test.YtnlmpeklbjnjnaaG
namespace Go.Proofs.Ytnlmpeklbjnjnaa
open Go.Lg
set_option linter.unusedSimpArgs false
set_option linter.unusedVariables false

theorem bstep_zero {r : Nat} (h : r < 65536) (h0 : bstep r = 0) : r = 0 := by
  unfold bstep at h0
  split at h0
  · exfalso
    have : r / 2 = 33800 := by
      have := congrArg (· ^^^ 33800) h0
      simpa [Nat.xor_assoc] using this
    omega
  · omega
theorem it_zero {r : Nat} (h : r < 65536) : ∀ k, it k r = 0 → r = 0
  | 0, h0 => h0
  | k + 1, h0 => it_zero h k (bstep_zero (it_lt h k) h0)
theorem b8_zero {r : Nat} (h : r < 65536) (h0 : b8 r = 0) : r = 0 := it_zero h 8 h0
theorem b8_0 : b8 0 = 0 := by decide
theorem xor_zero_eq {a b : Nat} (h : a ^^^ b = 0) : a = b := by
  have := congrArg (· ^^^ b) h
  simpa [Nat.xor_assoc] using this
theorem b8_inj {a b : Nat} (ha : a < 65536) (hb : b < 65536) (h : b8 a = b8 b) : a = b := by
  have : b8 (a ^^^ b) = 0 := by rw [b8_xor, h, Nat.xor_self]
  exact xor_zero_eq (b8_zero (xor_lt (n := 16) ha hb) this)

/-- Bytes turned by others. -/
def turn (a d : List UInt8) : List UInt8 := List.zipWith (· ^^^ ·) a d
theorem crc_turn : ∀ (a d : List UInt8) (r q : Nat), a.length = d.length → crc (r ^^^ q) (turn a d) = crc r a ^^^ crc q d
  | [], [], r, q, _ => rfl
  | x :: a, y :: d, r, q, h => by
    have h' : a.length = d.length := by simpa using h
    have e : turn (x :: a) (y :: d) = (x ^^^ y) :: turn a d := rfl
    rw [e, crc_cons, crc_cons, crc_cons, ← crc_turn a d _ _ h', ← b8_xor]
    congr 2
    rw [UInt8.toNat_xor]
    have : ∀ r q x y : Nat, r ^^^ q ^^^ (x ^^^ y) = r ^^^ x ^^^ (q ^^^ y) := by
      intro r q x y
      rw [Nat.xor_assoc, ← Nat.xor_assoc q, Nat.xor_comm q x, Nat.xor_assoc x, ← Nat.xor_assoc]
    exact this _ _ _ _
  | [], _ :: _, _, _, h => by simp at h
  | _ :: _, [], _, _, h => by simp at h

def res : Nat := b8 (b8 65535)
theorem crc_two (r : Nat) (lo hi : UInt8) : crc r [lo, hi] = b8 (b8 (r ^^^ (lo.toNat + 256 * hi.toNat))) := by
  have e : lo.toNat + 256 * hi.toNat = (256 * hi.toNat) ^^^ lo.toNat := by
    have := split_byte (lo.toNat + 256 * hi.toNat)
    have h1 : (lo.toNat + 256 * hi.toNat) / 256 = hi.toNat := by have := lo.toNat_lt; omega
    have h2 : (lo.toNat + 256 * hi.toNat) % 256 = lo.toNat := by have := lo.toNat_lt; omega
    rw [h1, h2] at this; exact this
  rw [crc_cons, crc_cons]
  show b8 _ = _
  congr 1
  rw [e, Nat.xor_comm (256 * _), ← Nat.xor_assoc, b8_xor (r ^^^ lo.toNat), b8_high]

def valid (l : List UInt8) : Prop := crc 65535 l = res
instance (l : List UInt8) : Decidable (valid l) := by unfold valid; infer_instance

theorem not_xor {a : Nat} (h : a < 65536) : 65535 - a = 65535 ^^^ a := by
  have := u_not16 h
  have e : unV .xor (.int .u16 (a : Int)) = binV .xor (.int .u16 ((65535 : Nat) : Int)) (.int .u16 (a : Int)) := rfl
  rw [e, b_xor16 (by decide) h] at this
  simp only [Option.some.injEq, Value.int.injEq, true_and] at this
  omega

theorem valid_ends {t : List UInt8} {lo hi : UInt8} : valid (t ++ [lo, hi]) ↔ lo.toNat + 256 * hi.toNat = sumOf t := by
  have h16 : crc 65535 t < 65536 := crc_lt (by decide)
  have hv : lo.toNat + 256 * hi.toNat < 65536 := by have := lo.toNat_lt; have := hi.toNat_lt; omega
  unfold valid
  rw [crc_append, crc_two]
  unfold sumOf
  rw [not_xor h16]
  constructor
  · intro h
    have h1 := b8_inj (b8_lt (xor_lt (n := 16) h16 hv)) (b8_lt (by decide)) h
    have h2 := b8_inj (xor_lt (n := 16) h16 hv) (by decide) h1
    have := congrArg (crc 65535 t ^^^ ·) h2
    simp only [← Nat.xor_assoc, Nat.xor_self, Nat.zero_xor] at this
    rw [this, Nat.xor_comm]
  · intro h
    rw [h, Nat.xor_comm 65535, ← Nat.xor_assoc, Nat.xor_self, Nat.zero_xor]
    rfl

theorem endsB_list (n : Nat) : (endsB n).data.toList = [UInt8.ofNat (n % 256), UInt8.ofNat (n / 256 % 256)] := rfl
theorem ends_eq {n : Nat} (hn : n < 65536) {lo hi : UInt8} : [UInt8.ofNat (n % 256), UInt8.ofNat (n / 256 % 256)] = [lo, hi] ↔ lo.toNat + 256 * hi.toNat = n := by
  simp only [List.cons.injEq, and_true]
  have e1 : (UInt8.ofNat (n % 256)).toNat = n % 256 := by simp
  have e2 : (UInt8.ofNat (n / 256 % 256)).toNat = n / 256 := by simp; omega
  constructor
  · rintro ⟨rfl, rfl⟩
    rw [e1, e2]; omega
  · intro h
    constructor
    · apply UInt8.toNat_inj.1; rw [e1]; have := lo.toNat_lt; omega
    · apply UInt8.toNat_inj.1; rw [e2]; have := lo.toNat_lt; omega

/-- What is opened, said of the bytes. -/
theorem openS_valid (s : ByteArray) (h : ¬ s.size < 2) : openS s = if valid s.data.toList then (s.extract 0 (s.size - 2), 0) else (⟨#[]⟩, 3) := by
  have hlen : s.data.toList.length = s.size := (ba_size s).symm
  obtain ⟨t, lo, hi, hl⟩ : ∃ t lo hi, s.data.toList = t ++ [lo, hi] := by
    have h2 : (s.data.toList.drop (s.size - 2)).length = 2 := by simp [hlen]; omega
    match hd : s.data.toList.drop (s.size - 2), h2 with
    | [lo, hi], _ => exact ⟨s.data.toList.take (s.size - 2), lo, hi, by rw [← hd, List.take_append_drop]⟩
  have htl : t.length = s.size - 2 := by have := congrArg List.length hl; simp at this; omega
  have e1 : (s.extract 0 (s.size - 2)).data.toList = t := by
    rw [ba_cut, hl, List.drop_zero, Nat.sub_zero, ← htl, List.take_left]
  have e2 : (s.extract (s.size - 2) s.size).data.toList = [lo, hi] := by
    rw [ba_cut, hl, ← htl, List.drop_left]
    exact List.take_of_length_le (by simp; omega)
  have key : (endsB (sumOf (s.extract 0 (s.size - 2)).data.toList) = s.extract (s.size - 2) s.size) ↔ valid s.data.toList := by
    rw [hl, valid_ends, e1, ← ends_eq (sumOf_lt t)]
    constructor
    · intro e; have := congrArg (fun x : ByteArray => x.data.toList) e; simp only [e2] at this; exact this
    · intro e; apply ba_ext; rw [e2]; exact e
  unfold openS
  rw [if_neg h]
  by_cases hv : valid s.data.toList
  · rw [if_pos hv, if_pos (key.2 hv)]
  · rw [if_neg hv, if_neg (fun e => hv (key.1 e))]

theorem valid_seal (s : ByteArray) : valid (sealS s).data.toList := by
  have hsz : (sealS s).size = s.size + 2 := by unfold sealS; rw [ByteArray.size_append, endsB_size]
  have h1 := open_seal s
  rw [openS_valid _ (by omega)] at h1
  by_cases hv : valid (sealS s).data.toList
  · exact hv
  · rw [if_neg hv] at h1
    have := congrArg Prod.snd h1
    simp at this

theorem crc_zeros : ∀ (n r : Nat), crc r (List.replicate n 0) = it (8 * n) r
  | 0, r => rfl
  | n + 1, r => by
    rw [List.replicate_succ, crc_cons, crc_zeros n, show (0 : UInt8).toNat = 0 from rfl, Nat.xor_zero]
    have : ∀ a b r, it a (it b r) = it (b + a) r := by
      intro a b r
      induction a with
      | zero => rfl
      | succ a ih => exact congrArg bstep ih
    unfold b8
    rw [this]; congr 1; omega
theorem crc_zeros0 (n : Nat) : crc 0 (List.replicate n 0) = 0 := by
  rw [crc_zeros]
  have : ∀ k, it k 0 = 0 := by
    intro k
    induction k with
    | zero => rfl
    | succ k ih => show bstep (it k 0) = 0; rw [ih]; rfl
  exact this _

/-- Two turned bytes side by side leave a mark. -/
theorem two_mark (n k : Nat) (x y : UInt8) (h : ¬ (x = 0 ∧ y = 0)) : crc 0 (List.replicate n 0 ++ ([x, y] ++ List.replicate k 0)) ≠ 0 := by
  intro h0
  rw [crc_append, crc_zeros0, crc_append, crc_zeros, crc_two, Nat.zero_xor] at h0
  have hv : x.toNat + 256 * y.toNat < 65536 := by have := x.toNat_lt; have := y.toNat_lt; omega
  have h1 := it_zero (b8_lt (b8_lt hv)) _ h0
  have h2 := b8_zero (b8_lt hv) h1
  have h3 := b8_zero hv h2
  exact h ⟨UInt8.toNat_inj.1 (by show x.toNat = 0; omega), UInt8.toNat_inj.1 (by show y.toNat = 0; omega)⟩
theorem valid_turn {a d : List UInt8} (hl : a.length = d.length) (ha : valid a) : valid (turn a d) ↔ crc 0 d = 0 := by
  unfold valid at *
  have := crc_turn a d 65535 0 hl
  rw [Nat.xor_zero] at this
  rw [this, ha]
  constructor
  · intro h
    have := congrArg (res ^^^ ·) h
    simpa [← Nat.xor_assoc] using this
  · intro h; rw [h, Nat.xor_zero]
end Go.Proofs.Ytnlmpeklbjnjnaa
