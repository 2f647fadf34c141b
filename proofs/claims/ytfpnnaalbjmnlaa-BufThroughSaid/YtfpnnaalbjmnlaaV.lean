/- The pieces of a message, taken in turn: the plain law; the law of what comes through, walked. -/
import Derived.Test.YtfpnnaalbjmnlaaT
namespace Go.Proofs.Ytfpnnaalbjmnlaa
open Go.Lg
set_option maxRecDepth 8000
set_option maxHeartbeats 4000000
set_option linter.unusedSimpArgs false
set_option linter.unnecessarySimpa false
set_option linter.unusedVariables false

/-- What has begun ahead of piece i. -/
def stG (p r N : Nat) (text : List UInt8) (i : Nat) : GS := ⟨true, p, ((N - i : Nat) : Int), text.take (i * r - 1)⟩
section
variable {p r N : Nat} {text : List UInt8}
theorem u8_nat {n : Nat} (h : n < 256) : (UInt8.ofNat n).toNat = n := by
  rw [UInt8.toNat_ofNat']; omega
theorem moreT_mk (on : Bool) (pid left : Int) (t s : List UInt8) (k : Int) : moreT ⟨on, pid, left, t⟩ s k =
    if 600 < t.length + s.length then failT 5 else if 0 < k then ⟨⟨on, pid, k, t ++ s⟩, 0, [], false, 0⟩ else ⟨gz, pid, t ++ s, true, 0⟩ := rfl
theorem take_first (g : GS) (hp : p < 256) (hr : 0 < r) (hN : N ≤ 41) (hl : text.length ≤ 600) (h0 : 0 < N) (h1 : N = 1 → text.length ≤ r - 1) :
    takeT g 8 (piece (UInt8.ofNat p :: text) r N 0).2 = if 1 < N then ⟨stG p r N text 1, 0, [], false, 0⟩ else ⟨gz, p, text, true, 0⟩ := by
  have hc : chunk (UInt8.ofNat p :: text) r 0 = UInt8.ofNat p :: text.take (r - 1) := by
    obtain ⟨q, rfl⟩ : ∃ q, r = q + 1 := ⟨r - 1, by omega⟩
    simp [chunk]
  have hm : (UInt8.ofNat (mark N 0)).toNat = N - 1 + 128 := by
    rw [u8_nat] <;> unfold mark
    · simp
    · simp; omega
  have hq := u8_nat hp
  unfold takeT piece
  rw [hc, if_neg (by omega), if_neg (by omega)]
  simp only
  rw [hm, if_pos (by omega), hq]
  unfold moreT
  have hlt : (text.take (r - 1)).length ≤ 600 := by simp; omega
  simp only [List.length_nil, List.nil_append, Nat.zero_add]
  rw [if_neg (by omega)]
  by_cases h : 1 < N
  · rw [if_pos (by omega), if_pos h]
    simp only [stG, Nat.one_mul]
    congr 2
    omega
  · rw [if_neg (by omega), if_neg h, List.take_of_length_le (h1 (by omega))]
theorem chunk_next {i : Nat} (hi : 1 ≤ i) (hr : 0 < r) (a : UInt8) : chunk (a :: text) r i = (text.drop (i * r - 1)).take r := by
  have : 0 < i * r := Nat.mul_pos (by omega) hr
  obtain ⟨q, hq⟩ : ∃ q, i * r = q + 1 := ⟨i * r - 1, by omega⟩
  unfold chunk
  rw [hq, List.drop_succ_cons, Nat.add_sub_cancel]
theorem mark_next {i : Nat} (hN : N ≤ 41) (hi : 1 ≤ i) : (UInt8.ofNat (mark N i)).toNat = N - 1 - i := by
  rw [u8_nat]
  all_goals unfold mark
  all_goals rw [if_neg (by omega)]
  all_goals omega
theorem take_next {i : Nat} (hi : 1 ≤ i ∧ i < N) (hr : 0 < r) (hN : N ≤ 41) (hl : text.length ≤ 600) (hend : text.length ≤ N * r - 1) :
    takeT (stG p r N text i) 8 (piece (UInt8.ofNat p :: text) r N i).2 = if i + 1 < N then ⟨stG p r N text (i + 1), 0, [], false, 0⟩ else ⟨gz, p, text, true, 0⟩ := by
  have hc := chunk_next (text := text) hi.1 hr (UInt8.ofNat p)
  have hm := mark_next hN hi.1
  have hir : 0 < i * r := Nat.mul_pos (by omega) hr
  have hs : (i + 1) * r - 1 = (i * r - 1) + r := by rw [Nat.succ_mul]; omega
  have hcat : text.take (i * r - 1) ++ (text.drop (i * r - 1)).take r = text.take ((i + 1) * r - 1) := by
    rw [hs, List.take_add]
  unfold takeT piece
  rw [hc, if_neg (by omega), if_neg (by omega)]
  simp only
  rw [hm, if_neg (by omega)]
  have h7 : ¬ ((stG p r N text i).on = false ∨ ((N - 1 - i : Nat) : Int) ≠ (stG p r N text i).left - 1) := by
    simp only [stG]
    rintro (h | h)
    · cases h
    · exact h (by omega)
  rw [if_neg h7]
  unfold stG
  rw [moreT_mk]
  have hlen : (text.take (i * r - 1)).length + ((text.drop (i * r - 1)).take r).length = (text.take ((i + 1) * r - 1)).length := by rw [← List.length_append, hcat]
  have hlen2 : (text.take ((i + 1) * r - 1)).length ≤ text.length := by rw [List.length_take]; omega
  have h600 : ¬ 600 < (text.take (i * r - 1)).length + ((text.drop (i * r - 1)).take r).length := by rw [hlen]; omega
  by_cases h : i + 1 < N
  · rw [if_pos h]
    split
    · rename_i h'; exact absurd h' h600
    split
    · rw [hcat]
      congr 2
      omega
    · rename_i h'; exact absurd h' (by omega)
  · have hNi : i + 1 = N := by omega
    rw [if_neg h]
    split
    · rename_i h'; exact absurd h' h600
    split
    · rename_i h'; exact absurd h' (by omega)
    · rw [hcat, hNi, List.take_of_length_le hend]
theorem take_wrong {i : Nat} {g : GS} {A : List UInt8} (hi : 1 ≤ i) (hiN : i < N) (hN : N ≤ 41) (h : g.on = false ∨ g.left ≠ ((N - i : Nat) : Int)) :
    takeT g 8 (piece A r N i).2 = failT 7 := by
  have hm := mark_next (N := N) hN hi
  unfold takeT piece
  rw [if_neg (by omega), if_neg (by omega)]
  simp only
  rw [hm, if_neg (by omega), if_pos]
  rcases h with h | h
  · exact .inl h
  · exact .inr (by omega)
end

/-- The cut of a message, if there is one. -/
structure Cut (pid : Int) (text : List UInt8) (l : List PP) (r : Nat) : Prop where
  len : text.length ≤ 600
  pos : 0 < l.length
  le : l.length ≤ 41
  info : ∀ (i : Nat) (x : PP), l[i]? = some x → x.2.length ≤ 700
  go : ∀ (i : Nat) (x : PP), l[i]? = some x → ∀ g, i = 0 ∨ g = stG pid.toNat r l.length text i → ∃ g', takeT g x.1 x.2 = if i + 1 < l.length then ⟨stG pid.toNat r l.length text (i + 1), 0, [], false, 0⟩ else ⟨g', pid, text, true, 0⟩
  bad : ∀ (i : Nat) (x : PP), l[i]? = some x → 1 ≤ i → ∀ g, g.on = false ∨ g.left ≠ ((l.length - i : Nat) : Int) → takeT g x.1 x.2 = failT 7

theorem split_cut (pid n1 : Int) (text : List UInt8) (h : (splitL pid n1 text).2 = 0) : Cut pid text (splitL pid n1 text).1 (n1.toNat - 1) := by
  unfold splitL at h ⊢
  by_cases h1 : ¬ (0 ≤ pid ∧ pid ≤ 255) ∨ ¬ (16 ≤ n1 ∧ n1 ≤ 256)
  · rw [if_pos h1] at h; simp at h
  rw [if_neg h1] at h ⊢
  have hp : (0 ≤ pid ∧ pid ≤ 255) ∧ (16 ≤ n1 ∧ n1 ≤ 256) := by omega
  by_cases h2 : 600 < text.length
  · rw [if_pos h2] at h; simp at h
  rw [if_neg h2] at h ⊢
  by_cases h3 : (text.length : Int) ≤ n1 ∧ pid ≠ 8
  · rw [if_pos h3]
    refine ⟨by omega, by simp, by simp, ?_, ?_, ?_⟩
    · intro i x hx
      match i, hx with
      | 0, hx => simp at hx; subst hx; simp only; omega
    · intro i x hx g _
      match i, hx with
      | 0, hx =>
        simp at hx; subst hx
        refine ⟨g, ?_⟩
        unfold takeT
        rw [if_neg (by simp only; omega), if_pos h3.2, if_neg (by simp only; omega), if_neg (by simp)]
    · intro i x hx hi
      match i, hx, hi with
      | i + 1, hx, _ => simp at hx
  · rw [if_neg h3]
    obtain ⟨r, hr⟩ : ∃ r, n1.toNat - 1 = r := ⟨_, rfl⟩
    obtain ⟨p, hpp⟩ : ∃ p : Nat, pid = (p : Int) := ⟨pid.toNat, by omega⟩
    subst hpp
    rw [hr]
    simp only [Int.toNat_natCast]
    have hp256 : p < 256 := by omega
    have hr15 : 15 ≤ r ∧ r ≤ 255 := by omega
    have hN : howMany (text.length + 1) r ≤ 41 := many_le hr15.1 (by omega)
    have hNl : ∀ i, i < howMany (text.length + 1) r ↔ i * r < text.length + 1 := fun i => many_lt (by omega)
    generalize howMany (text.length + 1) r = N at hN hNl ⊢
    have hN0 : 0 < N := (hNl 0).2 (by omega)
    have hend : text.length ≤ N * r - 1 := by
      have : ¬ N * r < text.length + 1 := fun h => by have := (hNl N).2 h; omega
      omega
    have hlen : ((List.range N).map (piece (UInt8.ofNat p :: text) r N)).length = N := by simp
    have hget : ∀ i x, ((List.range N).map (piece (UInt8.ofNat p :: text) r N))[i]? = some x → i < N ∧ x = piece (UInt8.ofNat p :: text) r N i := by
      intro i x hx
      have hi : i < N := by have := (List.getElem?_eq_some_iff.mp hx).1; omega
      rw [List.getElem?_map, List.getElem?_range hi] at hx
      simp at hx
      exact ⟨hi, hx.symm⟩
    refine ⟨by omega, by omega, by omega, ?_, ?_, ?_⟩
    · intro i x hx
      obtain ⟨hi, rfl⟩ := hget i x hx
      simp only [piece, chunk, List.length_cons, List.length_take, List.length_drop]
      omega
    · intro i x hx g hg
      obtain ⟨hi, rfl⟩ := hget i x hx
      rw [hlen] at hg ⊢
      refine ⟨gz, ?_⟩
      show takeT g 8 _ = _
      by_cases h0 : i = 0
      · subst h0
        exact take_first g hp256 (by omega) hN (by omega) hN0 fun h => by subst h; omega
      · rcases hg with hg | hg
        · exact absurd hg h0
        · subst hg
          exact take_next ⟨by omega, hi⟩ (by omega) hN (by omega) hend
    · intro i x hx hi1 g hg
      obtain ⟨hi, rfl⟩ := hget i x hx
      rw [hlen] at hg
      exact take_wrong hi1 hi hN hg
theorem split_none (pid n1 : Int) (text : List UInt8) (h : (splitL pid n1 text).2 ≠ 0) : (splitL pid n1 text).1 = [] := by
  unfold splitL at h ⊢
  by_cases h1 : ¬ (0 ≤ pid ∧ pid ≤ 255) ∨ ¬ (16 ≤ n1 ∧ n1 ≤ 256)
  · rw [if_pos h1]
  rw [if_neg h1] at h ⊢
  by_cases h2 : 600 < text.length
  · rw [if_pos h2]
  rw [if_neg h2] at h ⊢
  by_cases h3 : (text.length : Int) ≤ n1 ∧ pid ≠ 8
  · rw [if_pos h3] at h; simp at h
  · rw [if_neg h3] at h; simp at h
theorem stG_ok {p r N i : Nat} {text : List UInt8} (hl : text.length ≤ 600) (hN : N ≤ 41) : (stG p r N text i).Ok := by
  refine ⟨?_, ?_⟩
  · simp only [stG, List.length_take]; omega
  · simp only [stG]; omega

end Go.Proofs.Ytfpnnaalbjmnlaa
