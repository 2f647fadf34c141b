/- A clock that counts what is left, and one that knows when each is due: they come to the same. -/
import Derived.Test.YtnimpbaakopniaaQB
namespace Go.Proofs.Ytnimpbaakopniaa
open Go.Lg
set_option linter.unusedSimpArgs false
set_option linter.unnecessarySimpa false
set_option linter.unusedVariables false

def Tm.nm (t : Tm) : Int × Int := (t.k, t.n)
def sh (now : Int) (t : Tm) : Tm := { t with l := t.l + now }
structure Good (L : List Tm) : Prop where
  nd : (L.map Tm.nm).Nodup
  lo : ∀ t ∈ L, 1 ≤ t.l ∧ t.l ≤ 10000
  len : L.length ≤ 32

theorem is_sh (now : Int) (t : Tm) (k n : Int) : (sh now t).is k n = t.is k n := rfl
theorem is_iff {t : Tm} {k n : Int} : t.is k n = true ↔ t.nm = (k, n) := by simp [Tm.is, Tm.nm]

theorem leftL_zero {k n : Int} : ∀ {L : List Tm}, (∀ t ∈ L, 1 ≤ t.l) → (leftL k n L = 0 ↔ ∀ t ∈ L, t.is k n = false)
  | [], _ => by simp [leftL]
  | a :: L, h => by
    have ih := leftL_zero (k := k) (n := n) (L := L) fun t ht => h t (by simp [ht])
    have ha := h a (by simp)
    cases hx : a.is k n
    · simp [leftL, hx, ih]
    · simp [leftL, hx]; omega
theorem atL_neg {k n : Int} : ∀ {L : List Tm}, (atL k n L < 0 ↔ ∀ t ∈ L, t.is k n = false)
  | [] => by simp [atL]
  | a :: L => by
    have ih := atL_neg (k := k) (n := n) (L := L)
    cases hx : a.is k n
    · by_cases h : atL k n L < 0
      · simp [atL, hx, h]; simpa using ih.1 h
      · simp only [atL, hx, h, if_false, Bool.false_eq_true]
        constructor
        · intro h'; omega
        · intro h'; exact absurd (ih.2 fun t ht => h' t (by simp [ht])) h
    · simp [atL, hx]
theorem atL_sh {now k n : Int} : ∀ {L : List Tm}, atL k n (L.map (sh now)) = atL k n L
  | [] => rfl
  | a :: L => by simp only [List.map_cons, atL, is_sh, atL_sh (L := L)]

/-- The first one that is so is all that are so, if no two are alike. -/
theorem eraseP_nd {k n : Int} : ∀ {L : List Tm}, (L.map Tm.nm).Nodup → L.eraseP (fun t => t.is k n) = L.filter fun t => !t.is k n
  | [], _ => rfl
  | a :: L, h => by
    simp only [List.map_cons, List.nodup_cons] at h
    cases hx : a.is k n
    · rw [List.eraseP_cons, List.filter_cons]
      simp [hx, eraseP_nd h.2]
    · rw [List.eraseP_cons, List.filter_cons]
      simp only [hx, cond_true, Bool.not_true, Bool.false_eq_true, if_false]
      symm
      rw [List.filter_eq_self]
      intro t ht
      cases hy : t.is k n
      · rfl
      · exfalso
        apply h.1
        rw [is_iff.1 hx, ← is_iff.1 hy]
        exact List.mem_map.2 ⟨t, ht, rfl⟩
theorem erase_sh {now k n : Int} {L : List Tm} (h : Good L) : (L.map (sh now)).eraseP (fun t => t.is k n) = (L.filter fun t => !t.is k n).map (sh now) := by
  rw [List.eraseP_map]
  have : ((fun t : Tm => t.is k n) ∘ sh now) = fun t => t.is k n := rfl
  rw [this, eraseP_nd h.nd]
theorem Good.filter {L : List Tm} (h : Good L) (p : Tm → Bool) : Good (L.filter p) :=
  ⟨(List.filter_sublist.map Tm.nm).nodup h.nd, fun t ht => h.lo t (List.mem_filter.1 ht).1, Nat.le_trans (List.length_filter_le _ _) h.len⟩

theorem set_same' {now k n ticks : Int} {L : List Tm} (h : Good L) : rsetL now k n ticks (L.map (sh now)) = ((setL k n ticks L).1, (setL k n ticks L).2.map (sh now)) ∧ Good (setL k n ticks L).2 := by
  unfold rsetL setL
  by_cases h1 : ticks < 1 ∨ 10000 < ticks
  · rw [if_pos h1, if_pos h1]; exact ⟨rfl, h⟩
  rw [if_neg h1, if_neg h1]
  have e : (atL k n (L.map (sh now)) < 0 ∧ (L.map (sh now)).length = 32) ↔ (leftL k n L = 0 ∧ 32 ≤ L.length) := by
    rw [atL_sh, atL_neg, leftL_zero fun t ht => (h.lo t ht).1, List.length_map]
    have := h.len
    constructor <;> rintro ⟨a, b⟩ <;> exact ⟨a, by omega⟩
  by_cases h2 : leftL k n L = 0 ∧ 32 ≤ L.length
  · rw [if_pos h2, if_pos (e.2 h2)]; exact ⟨rfl, h⟩
  rw [if_neg h2, if_neg (fun x => h2 (e.1 x)), erase_sh h]
  refine ⟨?_, ?_, ?_, ?_⟩
  · rw [List.map_append]; simp [sh, Int.add_comm]
  · rw [List.map_append, List.nodup_append]
    refine ⟨(h.filter _).nd, by simp, ?_⟩
    intro a ha b hb
    simp at hb
    subst hb
    rintro rfl
    obtain ⟨t, ht, e⟩ := List.mem_map.1 ha
    have := (List.mem_filter.1 ht).2
    rw [is_iff.2 e] at this
    simp at this
  · intro t ht
    rcases List.mem_append.1 ht with h' | h'
    · exact (h.filter _).lo t h'
    · simp at h'; subst h'; simp only; omega
  · simp only [List.length_append, List.length_cons, List.length_nil]
    by_cases h3 : leftL k n L = 0
    · have := List.length_filter_le (fun t : Tm => !t.is k n) L; omega
    · have hne : ¬ ∀ t ∈ L, t.is k n = false := fun x => h3 ((leftL_zero fun t ht => (h.lo t ht).1).2 x)
      have hlt : (L.filter fun t => !t.is k n).length < L.length := by
        rcases Nat.lt_or_ge (L.filter fun t => !t.is k n).length L.length with h' | h'
        · exact h'
        · exfalso
          have h4 : (L.filter fun t => !t.is k n).length = L.length := Nat.le_antisymm (List.length_filter_le _ _) h'
          rw [List.length_filter_eq_length_iff] at h4
          exact hne fun t ht => by simpa using h4 t ht
      have := h.len; omega

theorem stop_same {k n : Int} {L : List Tm} (h : Good L) : (L.length : Int) - (L.filter fun t => !t.is k n).length = if 0 ≤ atL k n L then 1 else 0 := by
  by_cases h0 : atL k n L < 0
  · rw [if_neg (by omega), List.filter_eq_self.2 (by simpa using atL_neg.1 h0)]; omega
  · rw [if_pos (by omega), ← eraseP_nd h.nd]
    rcases atL_cases k n L with h1 | ⟨i, t, h1, h2, h3⟩
    · exact absurd (atL_neg.2 h1) h0
    · have hi : i < L.length := (List.getElem?_eq_some_iff.mp h2).1
      rw [eraseP_at h1 h2 h3]
      simp only [List.length_append, List.length_take, List.length_drop]
      omega
theorem filter_sh {now : Int} {L : List Tm} {p q : Tm → Bool} (h : ∀ t, p (sh now t) = q t) : (L.map (sh now)).filter p = (L.filter q).map (sh now) := by
  rw [List.filter_map]
  have : p ∘ sh now = q := funext h
  rw [this]
theorem tick_same {now : Int} {L : List Tm} (h : Good L) :
    (L.map (sh now)).filter (fun t => !decide (t.l = now + 1)) = ((L.filter fun t => !t.due).map Tm.dec).map (sh (now + 1)) ∧ Good ((L.filter fun t => !t.due).map Tm.dec) := by
  refine ⟨?_, ?_, ?_, ?_⟩
  · rw [filter_sh (q := fun t => !t.due) fun t => by simp only [sh, Tm.due]; congr 1; exact decide_eq_decide.2 ⟨fun h => by omega, fun h => by omega⟩, List.map_map]
    apply List.map_congr_left
    intro t _
    simp only [sh, Tm.dec, Function.comp]
    congr 1
    omega
  · rw [List.map_map]
    exact (h.filter _).nd
  · intro t ht
    obtain ⟨u, hu, rfl⟩ := List.mem_map.1 ht
    have h1 := (h.filter _).lo u hu
    have h2 := (List.mem_filter.1 hu).2
    simp [Tm.due] at h2
    simp only [Tm.dec]
    omega
  · rw [List.length_map]; exact (h.filter _).len
theorem due_same {now : Int} {L : List Tm} : ((L.map (sh now)).filter fun t => decide (t.l = now + 1)).map (fun t => (t.k, t.n)) = (L.filter Tm.due).map (fun t => (t.k, t.n)) := by
  rw [filter_sh (q := Tm.due) fun t => by simp only [sh, Tm.due]; exact decide_eq_decide.2 ⟨fun h => by omega, fun h => by omega⟩, List.map_map]
  rfl
theorem left_same {now k n : Int} {L : List Tm} (h : Good L) : (atL k n L < 0 → leftL k n L = 0) ∧ (∀ i : Nat, atL k n L = i → ∃ t, L[i]? = some t ∧ leftL k n L = t.l) := by
  refine ⟨fun h0 => leftL_none (atL_neg.1 h0), fun i hi => ?_⟩
  rcases atL_cases k n L with h1 | ⟨j, t, h1, h2, h3⟩
  · have := atL_none h1; omega
  · have := atL_at h1 h2 h3
    obtain rfl : i = j := by omega
    exact ⟨t, h2, leftL_at h1 h2 h3⟩
end Go.Proofs.Ytnimpbaakopniaa
