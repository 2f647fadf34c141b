/- A queue of frames by classes: what is taken, walked. -/
import Derived.Test.YtfnldlcedgfkeaaB
namespace Go.Proofs.Ytfnldlcedgfkeaa
open Go.Lg
set_option maxRecDepth 8000
set_option maxHeartbeats 4000000
set_option linter.unusedSimpArgs false
set_option linter.unnecessarySimpa false
set_option linter.unusedVariables false

/-- How many are taken. -/
def goK (most bytes : Int) : List En → Nat → Int → Nat
  | [], k, _ => k
  | e :: r, k, n => if (k : Int) < most ∧ (k = 0 ∨ n + e.t.size ≤ bytes) then goK most bytes r (k + 1) (n + e.t.size) else k
/-- What stays of each class. -/
def dropQ (k : Nat) (L : Nat → List En) (c : Nat) : List En := (L c).drop (k - (preL L c).length)
def sumT (l : List En) : Nat := (l.map fun e => e.t.size).sum
theorem sumT_snoc {l : List En} {j : Nat} {e : En} (h : l[j]? = some e) : sumT (l.take (j + 1)) = sumT (l.take j) + e.t.size := by
  rw [sumT, take_snoc h, List.map_append, List.sum_append]; simp [sumT]
theorem sumT_le {b : Nat} : ∀ {l : List En}, (∀ e ∈ l, e.t.size ≤ b) → sumT l ≤ b * l.length
  | [], _ => by simp [sumT]
  | e :: l, h => by
    have h1 := h e (by simp)
    have h2 := sumT_le (l := l) fun e he => h e (by simp [he])
    simp only [sumT, List.map_cons, List.sum_cons, List.length_cons] at h2 ⊢
    have : b * (l.length + 1) = b * l.length + b := by rw [Nat.mul_add]; omega
    omega
theorem pre0 (L : Nat → List En) : preL L 0 = [] := rfl
theorem pre1 (L : Nat → List En) : preL L 1 = L 0 := by simp [preL, List.range_succ]
theorem pre2 (L : Nat → List En) : preL L 2 = L 0 ++ L 1 := by simp [preL, List.range_succ]
theorem drop_cons {α : Type} {l : List α} {j : Nat} {e : α} (h : l[j]? = some e) : l.drop j = e :: l.drop (j + 1) := by
  obtain ⟨h1, h2⟩ := List.getElem?_eq_some_iff.mp h
  rw [List.drop_eq_getElem_cons h1, h2]
theorem pop_step {L : Nat → List En} {k : Nat} {e : En} (h : (allL L)[k]? = some e) : ∃ c, c < 3 ∧ dropQ k L c = e :: dropQ (k + 1) L c ∧ (∀ d, d < c → dropQ k L d = []) ∧ (∀ d, d < 3 → d ≠ c → dropQ (k + 1) L d = dropQ k L d) := by
  have hk := (List.getElem?_eq_some_iff.mp h).1
  have d0 (k : Nat) : dropQ k L 0 = (L 0).drop k := by simp [dropQ, pre0]
  have d1 (k : Nat) : dropQ k L 1 = (L 1).drop (k - (L 0).length) := by simp [dropQ, pre1]
  have d2 (k : Nat) : dropQ k L 2 = (L 2).drop (k - ((L 0).length + (L 1).length)) := by simp [dropQ, pre2]
  unfold allL at h hk
  simp only [List.length_append] at hk
  by_cases h0 : k < (L 0).length
  · rw [List.append_assoc, List.getElem?_append_left h0] at h
    refine ⟨0, by omega, by rw [d0, d0, drop_cons h], fun d hd => by omega, fun d hd hne => ?_⟩
    have : d = 1 ∨ d = 2 := by omega
    rcases this with rfl | rfl
    · rw [d1, d1, show k + 1 - (L 0).length = 0 by omega, show k - (L 0).length = 0 by omega]
    · rw [d2, d2, show k + 1 - ((L 0).length + (L 1).length) = 0 by omega, show k - ((L 0).length + (L 1).length) = 0 by omega]
  · rw [List.append_assoc, List.getElem?_append_right (by omega)] at h
    by_cases h1 : k - (L 0).length < (L 1).length
    · rw [List.getElem?_append_left h1] at h
      refine ⟨1, by omega, by rw [d1, d1, drop_cons h, show k + 1 - (L 0).length = k - (L 0).length + 1 by omega], fun d hd => ?_, fun d hd hne => ?_⟩
      · obtain rfl : d = 0 := by omega
        rw [d0, List.drop_of_length_le (by omega)]
      · have : d = 0 ∨ d = 2 := by omega
        rcases this with rfl | rfl
        · rw [d0, d0, List.drop_of_length_le (by omega), List.drop_of_length_le (by omega)]
        · rw [d2, d2, show k + 1 - ((L 0).length + (L 1).length) = 0 by omega, show k - ((L 0).length + (L 1).length) = 0 by omega]
    · rw [List.getElem?_append_right (by omega)] at h
      have e1 : k - (L 0).length - (L 1).length = k - ((L 0).length + (L 1).length) := by omega
      rw [e1] at h
      refine ⟨2, by omega, by rw [d2, d2, drop_cons h, show k + 1 - ((L 0).length + (L 1).length) = k - ((L 0).length + (L 1).length) + 1 by omega], fun d hd => ?_, fun d hd hne => ?_⟩
      · have : d = 0 ∨ d = 1 := by omega
        rcases this with rfl | rfl
        · rw [d0, List.drop_of_length_le (by omega)]
        · rw [d1, List.drop_of_length_le (by omega)]
      · have : d = 0 ∨ d = 1 := by omega
        rcases this with rfl | rfl
        · rw [d0, d0, List.drop_of_length_le (by omega), List.drop_of_length_le (by omega)]
        · rw [d1, d1, List.drop_of_length_le (by omega), List.drop_of_length_le (by omega)]
theorem dropQ_end {L : Nat → List En} {k : Nat} (h : tot L ≤ k) {c : Nat} (hc : c < 3) : dropQ k L c = [] := by
  unfold tot at h
  rcases lt3 hc with rfl | rfl | rfl
  · simp [dropQ, pre0]; omega
  · simp [dropQ, pre1]; omega
  · simp [dropQ, pre2]; omega
theorem dropQ_zero {L : Nat → List En} {c : Nat} : dropQ 0 L c = L c := by simp [dropQ]
theorem Qs.congr {m : Mem} {q : Nat} {s : Nat → Value} {G : Nat → List Nat} {L L' : Nat → List En} (h : Qs m q s G L) (he : ∀ c, c < 3 → L' c = L c) : Qs m q s G L' :=
  ⟨h.cell, fun c hc => by rw [he c hc]; exact h.sl c hc, h.nq, h.dj, fun c hc => by rw [he c hc]; exact h.le c hc⟩
theorem Qu.congr {m : Mem} {q : Nat} {F : List Nat} {L L' : Nat → List En} (h : Qu m q F L) (he : ∀ c, c < 3 → L' c = L c) : Qu m q F L' := by
  obtain ⟨s, G, rfl, h⟩ := h
  exact ⟨s, G, rfl, h.congr he⟩
theorem upd_self {α : Type} {f : Nat → α} {c : Nat} : upd f c (f c) = f := by
  funext k; unfold upd; split
  · rename_i h; rw [h]
  · rfl
theorem goK_le {most bytes : Int} : ∀ {l : List En} {k : Nat} {n : Int}, goK most bytes l k n ≤ k + l.length
  | [], k, n => by simp [goK]
  | e :: r, k, n => by
    unfold goK
    split
    · have := goK_le (most := most) (bytes := bytes) (l := r) (k := k + 1) (n := n + e.t.size)
      simp only [List.length_cons]; omega
    · omega
end Go.Proofs.Ytfnldlcedgfkeaa
