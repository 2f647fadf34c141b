/- The box, and the document's: how they go together. -/
import Derived.Test.YtfpnnaalbjmnlaaE
namespace Go.Proofs.Ytfpnnaalbjmnlaa
open Go.Lg
set_option maxRecDepth 8000
set_option linter.unusedSimpArgs false
set_option linter.unnecessarySimpa false
set_option linter.unusedVariables false

def flatG (gs : List (Int × List PP)) : List RP := gs.flatMap fun g => g.2.map fun p => ⟨g.1, p⟩
def msgs (gs : List (Int × List PP)) : List (List PP) := gs.map (·.2)
structure GRel (gs : List (Int × List PP)) (put : Int) : Prop where
  ne : ∀ g ∈ gs, g.2 ≠ []
  inc : (gs.map (·.1)).Pairwise (· < ·)
  le : ∀ g ∈ gs, g.1 ≤ put
  l41 : ∀ g ∈ gs, g.2.length ≤ 41
  n8 : gs.length ≤ 8
theorem bnd_same {i : Int} {l : List RP} : ∀ {ps : List PP}, bnd (some i) (ps.map (fun p => (⟨i, p⟩ : RP)) ++ l) = bnd (some i) l
  | [] => rfl
  | p :: ps => by
    rw [List.map_cons, List.cons_append, bnd, if_pos rfl, Nat.zero_add]
    exact bnd_same
theorem bnd_flat : ∀ {gs : List (Int × List PP)} {q : Option Int}, (∀ g ∈ gs, g.2 ≠ []) → (gs.map (·.1)).Pairwise (· < ·) → (∀ g ∈ gs, q ≠ some g.1) → bnd q (flatG gs) = gs.length
  | [], _, _, _, _ => rfl
  | g :: gs, q, h1, h2, h3 => by
    obtain ⟨i, ps⟩ := g
    have hne := h1 (i, ps) (by simp)
    rw [List.map_cons, List.pairwise_cons] at h2
    have ih := bnd_flat (gs := gs) (q := some i) (fun g hg => h1 g (by simp [hg])) h2.2 (fun g hg => by
      have := h2.1 g.1 (List.mem_map_of_mem hg)
      intro e; cases e; omega)
    have hq := h3 (i, ps) (by simp)
    have e : flatG ((i, ps) :: gs) = ps.map (fun p => (⟨i, p⟩ : RP)) ++ flatG gs := rfl
    rw [e]
    cases ps with
    | nil => exact absurd rfl hne
    | cons p ps =>
      rw [List.map_cons, List.cons_append, bnd, if_neg hq, bnd_same, ih, List.length_cons, Nat.add_comm]
namespace GRel
variable {gs : List (Int × List PP)} {put : Int}
theorem bnd (h : GRel gs put) : Proofs.Ytfpnnaalbjmnlaa.bnd none (flatG gs) = gs.length := bnd_flat h.ne h.inc fun g _ => by simp
theorem sum (gs : List (Int × List PP)) : sumL (msgs gs) = (flatG gs).length := by
  induction gs with
  | nil => rfl
  | cons g gs ih =>
    have e : flatG (g :: gs) = g.2.map (fun p => (⟨g.1, p⟩ : RP)) ++ flatG gs := rfl
    rw [e, List.length_append, List.length_map, ← ih]
    simp [sumL, msgs]
theorem m41 (h : GRel gs put) : ∀ l ∈ msgs gs, l.length ≤ 41 := fun l hl => by
  obtain ⟨g, hg, rfl⟩ := List.mem_map.mp hl
  exact h.l41 g hg
theorem mne (h : GRel gs put) : ∀ l ∈ msgs gs, l ≠ [] := fun l hl => by
  obtain ⟨g, hg, rfl⟩ := List.mem_map.mp hl
  exact h.ne g hg
theorem mlen (gs : List (Int × List PP)) : (msgs gs).length = gs.length := by simp [msgs]
theorem flen (h : GRel gs put) : (flatG gs).length ≤ 328 := by
  rw [← sum]
  have h1 := sumL_le h.m41
  rw [mlen] at h1
  have := h.n8
  omega
theorem putE (h : GRel gs put) (n1 pid : Int) (text : List UInt8) : bputE n1 (msgs gs) pid text = rputE n1 (flatG gs) pid text := by
  unfold bputE rputE
  rw [h.bnd, mlen]
  have := h.n8
  by_cases h8 : gs.length = 8
  · rw [if_pos h8, if_pos (show 8 ≤ gs.length by omega)]
  · rw [if_neg h8, if_neg (show ¬ 8 ≤ gs.length by omega)]
theorem nextG : ∀ {gs : List (Int × List PP)} {put : Int}, GRel gs put → ∃ gs', GRel gs' put ∧ msgs gs' = nextL (msgs gs) ∧ flatG gs' = (flatG gs).drop 1 ∧ nextV (msgs gs) = rnextV (flatG gs)
  | [], put, h => ⟨[], h, rfl, rfl, rfl⟩
  | (i, []) :: gs, put, h => absurd rfl (h.ne (i, []) (by simp))
  | (i, [p]) :: gs, put, h => by
    have h2 := h.inc
    rw [List.map_cons, List.pairwise_cons] at h2
    refine ⟨gs, ⟨fun g hg => h.ne g (by simp [hg]), h2.2, fun g hg => h.le g (by simp [hg]), fun g hg => h.l41 g (by simp [hg]), ?_⟩, rfl, rfl, rfl⟩
    have := h.n8
    simp at this; omega
  | (i, p :: q :: r) :: gs, put, h => by
    refine ⟨(i, q :: r) :: gs, ⟨fun g hg => ?_, h.inc, fun g hg => ?_, fun g hg => ?_, h.n8⟩, rfl, rfl, rfl⟩
    · rcases List.mem_cons.mp hg with rfl | hg
      · simp
      · exact h.ne g (by simp [hg])
    · rcases List.mem_cons.mp hg with rfl | hg
      · exact h.le (i, p :: q :: r) (by simp)
      · exact h.le g (by simp [hg])
    · rcases List.mem_cons.mp hg with rfl | hg
      · have := h.l41 (i, p :: q :: r) (by simp)
        simp at this ⊢; omega
      · exact h.l41 g (by simp [hg])
theorem split_ne {pid n1 : Int} {text : List UInt8} (h : (splitL pid n1 text).2 = 0) : (splitL pid n1 text).1 ≠ [] := by
  unfold splitL at h ⊢
  split
  · rename_i h1; rw [if_pos h1] at h; exact absurd h (by decide)
  · rename_i h1
    rw [if_neg h1] at h
    split
    · rename_i h2; rw [if_pos h2] at h; exact absurd h (by decide)
    · split
      · simp
      · have hr : 0 < n1.toNat - 1 := by omega
        have : 0 < howMany (text.length + 1) (n1.toNat - 1) := (many_lt hr).mpr (by omega)
        intro e
        have := congrArg List.length e
        simp at this
        omega
theorem putG (h : GRel gs put) (n1 pid : Int) (text : List UInt8) : ∃ gs', GRel gs' (bputN n1 put (msgs gs) pid text) ∧ msgs gs' = bputL n1 (msgs gs) pid text ∧ flatG gs' = rputW n1 put (flatG gs) pid text ∧ bputN n1 put (msgs gs) pid text = rputN n1 put (flatG gs) pid text := by
  have hE := h.putE n1 pid text
  unfold bputN bputL rputW rputN
  rw [← hE]
  by_cases h0 : bputE n1 (msgs gs) pid text = 0
  · rw [if_pos h0, if_pos h0, if_pos h0]
    have hs : (splitL pid n1 text).2 = 0 := by
      unfold bputE at h0
      refine Decidable.byContradiction fun hn => ?_
      rw [if_pos hn] at h0; exact hn h0
    have h8 : ¬ 8 ≤ gs.length := by
      intro hn
      unfold bputE at h0
      rw [if_neg (by simp [hs]), mlen, if_pos hn] at h0
      exact absurd h0 (by decide)
    refine ⟨gs ++ [(put + 1, (splitL pid n1 text).1)], ⟨fun g hg => ?_, ?_, fun g hg => ?_, fun g hg => ?_, by simp; omega⟩, by simp [msgs], by simp [flatG], rfl⟩
    · rcases List.mem_append.mp hg with h1 | h1
      · exact h.ne g h1
      · simp at h1; subst h1; exact split_ne hs
    · rw [List.map_append, List.pairwise_append]
      refine ⟨h.inc, by simp, fun a ha b hb => ?_⟩
      obtain ⟨g, hg, rfl⟩ := List.mem_map.mp ha
      simp at hb; subst hb
      have := h.le g hg
      omega
    · rcases List.mem_append.mp hg with h1 | h1
      · have := h.le g h1; omega
      · simp at h1; subst h1; exact Int.le_refl _
    · rcases List.mem_append.mp hg with h1 | h1
      · exact h.l41 g h1
      · simp at h1; subst h1; exact (split_le pid n1 text).1
  · rw [if_neg h0, if_neg h0, if_neg h0]
    exact ⟨gs, h, rfl, rfl, rfl⟩
end GRel
end Go.Proofs.Ytfpnnaalbjmnlaa
