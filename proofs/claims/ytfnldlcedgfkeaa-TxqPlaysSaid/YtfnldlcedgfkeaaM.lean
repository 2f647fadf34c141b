/- The queue, and the document's: how they go together. -/
import Derived.Test.YtfnldlcedgfkeaaL
namespace Go.Proofs.Ytfnldlcedgfkeaa
open Go.Lg
set_option maxRecDepth 8000
set_option linter.unusedSimpArgs false
set_option linter.unnecessarySimpa false
set_option linter.unusedVariables false

structure Rel (L : Nat → List En) (W : List RE) : Prop where
  cls : ∀ e ∈ W, 0 ≤ e.c ∧ e.c < 3
  eq : ∀ c : Nat, c < 3 → L c = (W.filter (isC (c : Int))).map RE.en
  sz : ∀ e ∈ W, e.t.size ≤ 1000
theorem three_count {p : RE → Bool} : ∀ {W : List RE}, (∀ e ∈ W, 0 ≤ e.c ∧ e.c < 3) → (W.filter (isC 0)).countP p + (W.filter (isC 1)).countP p + (W.filter (isC 2)).countP p = W.countP p
  | [], _ => rfl
  | e :: W, h => by
    have ih := three_count (p := p) (W := W) fun x hx => h x (by simp [hx])
    have h1 := h e (by simp)
    have h3 : e.c = 0 ∨ e.c = 1 ∨ e.c = 2 := by omega
    have f : ∀ c : Int, (e :: W).filter (isC c) = if e.c = c then e :: W.filter (isC c) else W.filter (isC c) := fun c => by
      rw [List.filter_cons]
      by_cases hc : e.c = c
      · rw [if_pos hc, if_pos (by simpa [isC] using hc)]
      · rw [if_neg hc, if_neg (by simpa [isC] using hc)]
    rw [f, f, f, List.countP_cons]
    rcases h3 with h3 | h3 | h3 <;> rw [h3] <;> simp [List.countP_cons] <;> omega
theorem sortW_eq (W : List RE) : sortW W = W.filter (isC 0) ++ W.filter (isC 1) ++ W.filter (isC 2) := by
  simp [sortW, preS, List.range_succ]
namespace Rel
variable {L : Nat → List En} {W : List RE}
theorem all (h : Rel L W) : allL L = (sortW W).map RE.en := by
  rw [sortW_eq, List.map_append, List.map_append, allL, h.eq 0 (by omega), h.eq 1 (by omega), h.eq 2 (by omega)]; rfl
theorem tot (h : Rel L W) : Proofs.Ytfnldlcedgfkeaa.tot L = W.length := by
  have h1 := three_count (p := fun _ => true) h.cls
  rw [← len_all, h.all, List.length_map, sortW_eq, List.length_append, List.length_append]
  simpa only [List.countP_true] using h1
theorem cnt (h : Rel L W) (k : Int) : cntE k (allL L) = cntB (fun e => decide (e.k = k)) W := by
  have h1 := three_count (p := fun e => decide (e.k = k)) h.cls
  rw [h.all, sortW_eq, cntE, List.countP_map, List.countP_append, List.countP_append, cntB, ← h1]
  rfl
theorem ofC (h : Rel L W) {c : Nat} (hc : c < 3) : (L c).length = cntB (isC (c : Int)) W := by
  rw [h.eq c hc, List.length_map, cntB, List.countP_eq_length_filter]
theorem putR (h : Rel L W) (c : Int) (t : ByteArray) (h8 : ∀ c, c < 3 → (L c).length ≤ 8) (h16 : W.length ≤ 16) : Proofs.Ytfnldlcedgfkeaa.putR L c t = rputR W c t := by
  unfold Proofs.Ytfnldlcedgfkeaa.putR rputR
  by_cases hc : 0 ≤ c ∧ c < 3
  · have a1 : ¬ ¬ (0 ≤ c ∧ c < 3) := Decidable.not_not.mpr hc
    have a2 : ¬ (c < 0 ∨ 2 < c) := by omega
    rw [if_neg a1, if_neg a2]
    by_cases hl : 333 < t.size
    · rw [if_pos hl, if_pos hl]
    · rw [if_neg hl, if_neg hl]
      obtain ⟨n, rfl⟩ : ∃ n : Nat, c = (n : Int) := ⟨c.toNat, by omega⟩
      have hn : n < 3 := by omega
      have h1 := h.ofC hn
      have h2 := h8 n hn
      have h3 := h.tot
      rw [Int.toNat_natCast]
      by_cases hr : roomN L n = 0
      · rw [if_pos hr, if_pos (by unfold roomN at hr; omega)]
      · rw [if_neg hr, if_neg (by unfold roomN at hr; omega)]
  · have a2 : c < 0 ∨ 2 < c := by omega
    rw [if_pos hc, if_pos a2]
theorem put (h : Rel L W) (c k : Int) (t : ByteArray) (h8 : ∀ c, c < 3 → (L c).length ≤ 8) (h16 : W.length ≤ 16) : Rel (putL L c k t) (rputW W c k t) ∧ (rputW W c k t).length ≤ 16 := by
  have hR := h.putR c t h8 h16
  unfold putL rputW
  by_cases h0 : rputR W c t = 0
  · rw [hR, if_pos h0, if_pos h0]
    have hc : 0 ≤ c ∧ c < 3 := by
      refine Decidable.byContradiction fun hn => ?_
      rw [rputR, if_pos (by omega)] at h0
      exact absurd h0 (by decide)
    have hl : ¬ 333 < t.size := fun hn => by
      rw [rputR, if_neg (by omega), if_pos hn] at h0
      exact absurd h0 (by decide)
    have hw : ¬ (16 ≤ W.length ∨ 8 ≤ cntB (isC c) W) := fun hn => by
      rw [rputR, if_neg (by omega), if_neg hl, if_pos hn] at h0
      exact absurd h0 (by decide)
    obtain ⟨n, rfl⟩ : ∃ n : Nat, c = (n : Int) := ⟨c.toNat, by omega⟩
    have hn : n < 3 := by omega
    rw [Int.toNat_natCast]
    refine ⟨⟨fun e he => ?_, fun d hd => ?_, fun e he => ?_⟩, by rw [List.length_append]; simp; omega⟩
    · rcases List.mem_append.mp he with h1 | h1
      · exact h.cls e h1
      · simp at h1; subst h1; exact hc
    · rw [List.filter_append, List.map_append]
      by_cases e : d = n
      · subst e
        rw [upd_same, h.eq d hd]
        simp [isC, RE.en]
      · rw [upd_other e, h.eq d hd]
        have : ¬ (n : Int) = (d : Int) := by omega
        simp [isC, this]
    · rcases List.mem_append.mp he with h1 | h1
      · exact h.sz e h1
      · simp at h1; subst h1; simp only; omega
  · rw [hR, if_neg h0, if_neg h0]
    exact ⟨h, h16⟩
theorem drop (h : Rel L W) (k1 k2 : Int) : Rel (dropL k1 k2 L) ((W.filter (notK k1)).filter (notK k2)) := by
  refine ⟨fun e he => h.cls e (List.mem_filter.mp (List.mem_filter.mp he).1).1, fun c hc => ?_, fun e he => h.sz e (List.mem_filter.mp (List.mem_filter.mp he).1).1⟩
  rw [dropL, h.eq c hc, List.filter_map, List.filter_filter, List.filter_filter, List.filter_filter]
  congr 1
  apply List.filter_congr
  intro e _
  simp only [Function.comp, RE.en, notK, isC]
  by_cases h1 : e.k = k1 <;> by_cases h2 : e.k = k2 <;> simp [h1, h2]
theorem take (h : Rel L W) (K : Nat) : Rel (dropQ K L) ((sortW W).drop K) := by
  have hmem : ∀ e ∈ sortW W, e ∈ W := fun e he => by
    rw [sortW_eq] at he
    simp only [List.mem_append, List.mem_filter] at he
    rcases he with (h1 | h1) | h1 <;> exact h1.1
  refine ⟨fun e he => h.cls e (hmem e (List.mem_of_mem_drop he)), fun c hc => ?_, fun e he => h.sz e (hmem e (List.mem_of_mem_drop he))⟩
  -- of each class, what stays
  have none_of : ∀ (a b : Int), a ≠ b → ∀ j, ((W.filter (isC a)).drop j).filter (isC b) = [] := fun a b hab j => by
    rw [List.filter_eq_nil_iff]
    intro e he
    have h1 := (List.mem_filter.mp (List.mem_of_mem_drop he)).2
    simp only [isC, decide_eq_true_eq] at h1 ⊢
    rw [h1]; exact hab
  have all_of : ∀ (a : Int) j, ((W.filter (isC a)).drop j).filter (isC a) = (W.filter (isC a)).drop j := fun a j => by
    rw [List.filter_eq_self]
    intro e he
    exact (List.mem_filter.mp (List.mem_of_mem_drop he)).2
  have l0 : (L 0).length = (W.filter (isC 0)).length := by rw [h.eq 0 (by omega), List.length_map]; rfl
  have l1 : (L 1).length = (W.filter (isC 1)).length := by rw [h.eq 1 (by omega), List.length_map]; rfl
  have q0 : L 0 = (W.filter (isC 0)).map RE.en := h.eq 0 (by omega)
  have q1 : L 1 = (W.filter (isC 1)).map RE.en := h.eq 1 (by omega)
  have q2 : L 2 = (W.filter (isC 2)).map RE.en := h.eq 2 (by omega)
  rw [sortW_eq, List.append_assoc, List.drop_append, List.drop_append, List.filter_append, List.filter_append]
  rcases lt3 hc with rfl | rfl | rfl
  · show dropQ K L 0 = List.map RE.en (List.filter (isC 0) _ ++ (List.filter (isC 0) _ ++ List.filter (isC 0) _))
    rw [all_of 0, none_of 1 0 (by decide), none_of 2 0 (by decide), dropQ, pre0, q0]
    simp
  · show dropQ K L 1 = List.map RE.en (List.filter (isC 1) _ ++ (List.filter (isC 1) _ ++ List.filter (isC 1) _))
    rw [all_of 1, none_of 0 1 (by decide), none_of 2 1 (by decide), dropQ, pre1, q1, l0]
    simp
  · show dropQ K L 2 = List.map RE.en (List.filter (isC 2) _ ++ (List.filter (isC 2) _ ++ List.filter (isC 2) _))
    rw [all_of 2, none_of 0 2 (by decide), none_of 1 2 (by decide), dropQ, pre2, q2, List.length_append, l0, l1]
    simp [Nat.sub_sub]
end Rel
end Go.Proofs.Ytfnldlcedgfkeaa
