/- Any order of what only reads and makes comes to the same. -/
import Derived.Test.YtijndljfpiomhaaDoorLgO
namespace Go.Lg

variable {P : Program} {base : Nat}

/-- The memory while some of the operations have run: where each block comes from says with how few names its cells can be read. -/
structure MRl (base : Nat) (r : Rho) (m : Mem) (lev : Nat → Nat) (w : World) : Prop where
  dom : ∀ i x, r i = some x → i < m.length
  blk : ∀ i k b d t z, m[i]? = some k → r i = some (b, d, t, z) → Bears (restr r (lev i)) base k b d t z w.heap[b]?
  inj : ∀ i j k l b x y, m[i]? = some k → m[j]? = some l → k.kind = .own → l.kind = .own → r i = some (b, x) → r j = some (b, y) → i = j
  base : base ≤ w.heap.size

theorem MRl.mr {r : Rho} {m : Mem} {lev : Nat → Nat} {w : World} (h : MRl base r m lev w) : MR base r m w :=
  ⟨h.dom, fun i k b d t z hk hi => (h.blk i k b d t z hk hi).mono (restr_le _ _), h.inj, h.base⟩

/-- The part of it that the text had when operation k began. -/
theorem MRl.part {r : Rho} {m m1 g : Mem} {lev : Nat → Nat} {w : World} (h : MRl base r m lev w) (hm : m = m1 ++ g) (hl : ∀ i, i < m1.length → lev i ≤ m1.length) : MR base (restr r m1.length) m1 w := by
  subst hm
  refine ⟨fun i x hx => restr_dom hx, ?_, ?_, h.base⟩
  · intro i k b d t z hk hi
    have hi' := restr_le _ _ _ _ hi
    have hlt := restr_dom hi
    have := h.blk i k b d t z (by rw [List.getElem?_append_left hlt]; exact hk) hi'
    exact this.mono (restr_mono r (hl i hlt))
  · intro i j k l b x y hk hl ho1 ho2 h1 h2
    exact h.inj i j k l b x y (by rw [List.getElem?_append_left (restr_dom h1)]; exact hk) (by rw [List.getElem?_append_left (restr_dom h2)]; exact hl) ho1 ho2 (restr_le _ _ _ _ h1) (restr_le _ _ _ _ h2)

theorem Bears.transfer {p q q' : Rho} {k : Blk} {b d t z : Nat} {o o' : Option Obj} (h : ∀ i x y, p i = some x → q i = some y → q' i = some y) (h1 : Bears p base k b d t z o) (h2 : Bears q base k b d t z o') : Bears q' base k b d t z o' := by
  unfold Bears at *
  split at h2
  · trivial
  · rename_i e
    simp only [e] at h1
    obtain ⟨_, _, c1, fz1, _, _, _, g1, _⟩ := h1
    obtain ⟨a0, az, c, fz, a1, at', a2, a3, a4⟩ := h2
    refine ⟨a0, az, c, fz, a1, at', a2, fun j v hv => ?_, a4⟩
    obtain ⟨u, _, hu⟩ := g1 j v hv
    obtain ⟨v', e', hv'⟩ := a3 j v hv
    exact ⟨v', e', CR.transfer h hu hv'⟩
  · rename_i e
    simp only [e] at h1
    obtain ⟨_, _, c1, T1, fz1, _, g1⟩ := h1
    obtain ⟨a0, az, c, T, fz, a1, a3⟩ := h2
    refine ⟨a0, az, c, T, fz, a1, fun j v hv => ?_⟩
    obtain ⟨u, _, hu⟩ := g1 j v hv
    obtain ⟨v', e', hv'⟩ := a3 j v hv
    exact ⟨v', e', CR.transfer h hu hv'⟩

theorem MRl.low {r : Rho} {m : Mem} {lev : Nat → Nat} {w : World} (h : MRl base r m lev w) {i b : Nat} {k : Blk} {x : _} (hk : m[i]? = some k) (hi : r i = some (b, x)) (hl : k.kind ≠ .dead) : b < w.heap.size := by
  obtain ⟨d, t, z⟩ := x
  have := (h.blk i k b d t z hk hi).some_of_live hl
  rcases Nat.lt_or_ge b w.heap.size with h' | h'
  · exact h'
  · simp [Array.getElem?_eq_none h'] at this

def mix (r r2 : Rho) (a b : Nat) : Rho := fun i => if a ≤ i ∧ i < b then r2 i else r i

/-- One more of the operations runs. -/
theorem MRl.step {r r2 : Rho} {m m1 g g2 : Mem} {lev : Nat → Nat} {w w' : World} (h : MRl base r m lev w) (hm : m = m1 ++ g ++ g2) (hl : ∀ i, i < m1.length → lev i ≤ m1.length) (hlg : ∀ i, m1.length ≤ i → i < (m1 ++ g).length → lev i = (m1 ++ g).length)
    (hnone : ∀ i, m1.length ≤ i → i < (m1 ++ g).length → r i = none) (hs : Stp base (restr r m1.length) m1 w r2 (m1 ++ g) w') :
    MRl base (mix r r2 m1.length (m1 ++ g).length) m lev w' ∧
    (∀ b, b < w.heap.size → ¬ Own r m b → w'.heap[b]? = w.heap[b]?) ∧ (∀ b, b < w.heap.size → Own (mix r r2 m1.length (m1 ++ g).length) m b → Own r m b) ∧
    restr (mix r r2 m1.length (m1 ++ g).length) (m1 ++ g).length = r2 := by
  have hpre : m1.length ≤ (m1 ++ g).length := by simp
  have old1 : ∀ {i : Nat}, i < m1.length → r2 i = r i := fun {i} hi => by
    rw [hs.ext i hi]; unfold restr; rw [if_pos hi]
  have in1 : ∀ {i : Nat} {k : Blk}, i < m1.length → m[i]? = some k → m1[i]? = some k := fun {i k} hi hk => by
    subst hm; rw [List.getElem?_append_left (by simp; omega), List.getElem?_append_left hi] at hk; exact hk
  have in2 : ∀ {i : Nat} {k : Blk}, i < (m1 ++ g).length → m[i]? = some k → (m1 ++ g)[i]? = some k := fun {i k} hi hk => by
    subst hm; rw [List.getElem?_append_left hi] at hk; exact hk
  have ownup : ∀ {b}, Own (restr r m1.length) m1 b → ∃ i k x, i < m1.length ∧ m[i]? = some k ∧ k.kind = .own ∧ r i = some (b, x) := by
    rintro b ⟨i, k, x, hk, ho, hi⟩
    have hlt := restr_dom hi
    refine ⟨i, k, x, hlt, ?_, ho, restr_le _ _ _ _ hi⟩
    subst hm
    rw [List.getElem?_append_left (by simp; omega), List.getElem?_append_left hlt]; exact hk
  have hrest : restr (mix r r2 m1.length (m1 ++ g).length) (m1 ++ g).length = r2 := by
    funext i
    unfold restr mix
    by_cases h1 : i < (m1 ++ g).length
    · rw [if_pos h1]
      by_cases h2 : m1.length ≤ i
      · rw [if_pos ⟨h2, h1⟩]
      · rw [if_neg (by omega), old1 (by omega)]
    · rw [if_neg h1]
      cases h2 : r2 i with
      | none => rfl
      | some x => exact absurd (hs.mr.dom i x h2) h1
  refine ⟨⟨?_, ?_, ?_, Nat.le_trans h.base hs.size⟩, ?_, ?_, hrest⟩
  · intro i x hx
    unfold mix at hx
    split at hx
    · rename_i hc; subst hm; simp at hc ⊢; omega
    · exact h.dom i x hx
  · intro i k b d t z hk hi
    by_cases hc : m1.length ≤ i ∧ i < (m1 ++ g).length
    · have hi' : r2 i = some (b, d, t, z) := by unfold mix at hi; rw [if_pos hc] at hi; exact hi
      have := hs.mr.blk i k b d t z (in2 hc.2 hk) hi'
      rw [hlg i hc.1 hc.2, hrest]
      exact this
    · have hi' : r i = some (b, d, t, z) := by
        unfold mix at hi; rw [if_neg hc] at hi; exact hi
      have hb := h.blk i k b d t z hk hi'
      by_cases hi1 : i < m1.length
      · have hb2 := hs.mr.blk i k b d t z (by rw [List.getElem?_append_left hi1]; exact in1 hi1 hk) (by rw [old1 hi1]; exact hi')
        refine Bears.transfer ?_ hb hb2
        intro j x y hj hj2
        have hjl := restr_dom hj
        have hj1 : j < m1.length := by have := hl i hi1; omega
        have hjr := restr_le _ _ _ _ hj
        rw [old1 hj1] at hj2
        unfold restr mix
        rw [if_pos hjl, if_neg (by omega)]; exact hj2
      · refine (hb.mono ?_).congr fun hlv => ?_
        · intro j x hj
          have hjl := restr_dom hj
          have hjr := restr_le _ _ _ _ hj
          unfold restr mix
          rw [if_pos hjl]
          split
          · rename_i hcj; rw [hnone j hcj.1 hcj.2] at hjr; cases hjr
          · exact hjr
        · refine hs.fr b (h.low hk hi' hlv) fun ho => ?_
          obtain ⟨i', k', x', hlt, hk', ho', hr'⟩ := ownup ho
          unfold Bears at hb
          split at hb
          · rename_i e; exact hlv e
          · rename_i e
            have := h.inj i' i k' k b _ _ hk' hk ho' e hr' hi'
            omega
          · obtain ⟨d', t', z'⟩ := x'
            have hb' := h.blk i' k' b d' t' z' hk' hr'
            unfold Bears at hb'
            rw [ho'] at hb'
            have := hb.1; have := hb'.1; omega
  · intro i j k l b x y hk hl' ho1 ho2 h1 h2
    have cross : ∀ {i j k l x y}, m[i]? = some k → m[j]? = some l → k.kind = .own → l.kind = .own → (m1.length ≤ i ∧ i < (m1 ++ g).length) → r2 i = some (b, x) → ¬ (m1.length ≤ j ∧ j < (m1 ++ g).length) → r j = some (b, y) → i = j := by
      intro i j k l x y hk hl' ho1 ho2 hci h1 hcj h2
      by_cases hj1 : j < m1.length
      · exact hs.mr.inj i j k l b x y (in2 hci.2 hk) (in2 (by omega) hl') ho1 ho2 h1 (by rw [old1 hj1]; exact h2)
      · have hb := h.low hl' h2 (by rw [ho2]; exact nofun)
        obtain ⟨i', k', x', hlt, hk', ho', hr'⟩ := ownup (hs.own b hb ⟨i, k, x, in2 hci.2 hk, ho1, h1⟩)
        have := h.inj i' j k' l b _ _ hk' hl' ho' ho2 hr' h2
        omega
    unfold mix at h1 h2
    split at h1 <;> split at h2
    · rename_i hc1 hc2; exact hs.mr.inj i j k l b x y (in2 hc1.2 hk) (in2 hc2.2 hl') ho1 ho2 h1 h2
    · rename_i hc1 hc2; exact cross hk hl' ho1 ho2 hc1 h1 hc2 h2
    · rename_i hc1 hc2; exact (cross hl' hk ho2 ho1 hc2 h2 hc1 h1).symm
    · exact h.inj i j k l b x y hk hl' ho1 ho2 h1 h2
  · intro b hb hn
    refine hs.fr b hb fun ho => hn ?_
    obtain ⟨i', k', x', hlt, hk', ho', hr'⟩ := ownup ho
    exact ⟨i', k', x', hk', ho', hr'⟩
  · rintro b hb ⟨i, k, x, hk, ho, hi⟩
    unfold mix at hi
    split at hi
    · rename_i hc
      obtain ⟨i', k', x', hlt, hk', ho', hr'⟩ := ownup (hs.own b hb ⟨i, k, x, in2 hc.2 hk, ho, hi⟩)
      exact ⟨i', k', x', hk', ho', hr'⟩
    · exact ⟨i, k, x, hk, ho, hi⟩

end Go.Lg
