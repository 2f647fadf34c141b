/- A statement whose order is left open: whatever order is drawn, it comes to what the text's order comes to. -/
import Derived.Test.YtijndljfpiomhaaDoorLgQ
namespace Go.Lg

variable {P : Program} {base : Nat}

theorem downs_sub {ops : Array Oper} {L : Nat → Prop} (hL : ∀ j, L j → ∀ i ∈ directsAt ops j, L i) : ∀ (n : Nat) (R : List Nat), (∀ i ∈ R, L i) → ∀ i ∈ downs ops n R, L i
  | 0, R, h, i, hi => h i hi
  | n + 1, R, h, i, hi => by
    refine downs_sub hL n _ ?_ i hi
    intro j hj
    split at hj
    · rename_i hc
      rcases List.mem_append.1 hj with hj | hj
      · exact hL n (h n (by simpa using hc)) j hj
      · exact h j hj
    · exact h j hj

theorem countP_lt {l : List Nat} {p q : Nat → Bool} (hle : ∀ x ∈ l, q x = true → p x = true) (h : ∃ x ∈ l, p x = true ∧ q x = false) : l.countP q < l.countP p := by
  induction l with
  | nil => obtain ⟨x, hx, _⟩ := h; simp at hx
  | cons y l ih =>
    have hmono : l.countP q ≤ l.countP p := List.countP_mono_left fun x hx => hle x (by simp [hx])
    obtain ⟨x, hx, h1, h2⟩ := h
    rcases List.mem_cons.1 hx with rfl | hx
    · rw [List.countP_cons_of_pos h1, List.countP_cons_of_neg (by simp [h2])]; omega
    · have := ih (fun z hz => hle z (by simp [hz])) ⟨x, hx, h1, h2⟩
      by_cases hq : q y = true
      · rw [List.countP_cons_of_pos hq, List.countP_cons_of_pos (hle y (by simp) hq)]; omega
      · rw [List.countP_cons_of_neg hq]
        by_cases hp : p y = true
        · rw [List.countP_cons_of_pos hp]; omega
        · rw [List.countP_cons_of_neg hp]; exact this

def U (n : Nat) (listed : Array Bool) : Nat := (List.range n).countP fun i => !(listed.getD i false)
theorem U_set {n : Nat} {listed : Array Bool} {i : Nat} (hs : listed.size = n) (hi : i < n) (h : listed.getD i false = false) : U n (listed.setIfInBounds i true) < U n listed := by
  refine countP_lt ?_ ⟨i, List.mem_range.2 hi, by simp [h], by simp [hs, hi]⟩
  intro x _ hx
  by_cases e : i = x
  · subst e; simp [h]
  · simpa [Array.getElem?_setIfInBounds_ne e] using hx
theorem U_pos {n : Nat} {listed : Array Bool} {i : Nat} (hi : i < n) (h : listed.getD i false = false) : 0 < U n listed :=
  List.countP_pos_iff.2 ⟨i, List.mem_range.2 hi, by simp [h]⟩

theorem wanted_rel' {ops : Array Oper} {o : Oper} {li : LInstr} {r : Rho} {t : List Value} {a : Act} (hc : cInstr0 P ops o = some li) (h : ∀ i b, li.guard = some (i, b) → VR r (t.getD i undef) (a.tmps.getD i undef)) : Region.wanted o (yielded ops a.tmps) = wantedL t li.guard := by
  unfold cInstr0 at hc
  split at hc
  · split at hc
    · split at hc
      · rename_i hg; simp at hc; subst hc; simp [Region.wanted, hg, wantedL]
      · rename_i j want hg
        split at hc
        · rename_i i hd
          simp at hc; subst hc
          have hv := h i want rfl
          simp only [Region.wanted, hg, wantedL, yielded, hd, Option.bind_some]
          simp only [List.getD_eq_getElem?_getD, Array.getD_eq_getD_getElem?] at hv
          have notbool : ∀ {v v' : Value}, VR r v v' → (∀ b, v ≠ .bool b) → ∀ b, v' ≠ .bool b := by
            intro v v' hv hn b hb
            subst hb
            rcases hv with ⟨hv⟩ | _
            rcases hv with ⟨hv⟩ | _
            cases hv with
            | atom hv => cases hv; exact hn _ rfl
          by_cases hb : ∃ b, t[i]?.getD undef = .bool b
          · obtain ⟨b, hb⟩ := hb
            rw [hb] at hv
            have hb' := hv.bool_inv
            have e1 : t[i]? = some (.bool b) := by
              cases h1 : t[i]? with
              | none => rw [h1] at hb; cases hb
              | some v => rw [h1] at hb; simpa using hb
            have e2 : a.tmps[i]? = some (.bool b) := by
              cases h1 : a.tmps[i]? with
              | none => rw [h1] at hb'; cases hb'
              | some v => rw [h1] at hb'; simpa using hb'
            rw [e1, e2]; simp
          · have hn : ∀ b, t[i]?.getD undef ≠ .bool b := fun b h => hb ⟨b, h⟩
            split
            · rename_i b hb2; exact absurd (by rw [hb2]; rfl) (notbool hv hn b)
            · split
              · rename_i b hb2; exact absurd (by rw [hb2]; rfl) (hn b)
              · rfl
        · simp at hc
    · simp at hc
  · simp at hc

theorem tail_sound {ops : Array Oper} (hF : ∀ j, ∀ i ∈ directsAt ops j, i < j) (q : Nat) (hC : ∀ j, j < ops.size → q ≤ j → ∀ i, i < j → i ∈ downs ops j (directsAt ops j)) :
    ∀ (is : List LInstr) (k : Nat), q ≤ k → F2 (fun i li => ∃ o, ops[i]? = some o ∧ cInstr0 P ops o = some li) (List.range' k is.length) is → k + is.length = ops.size →
    ∀ {fuel : Nat} {listed : Array Bool} {r : Rho} {m : Mem} {w : World} {t : List Value} {a : Act} {K : List Value → Mem → Prop} {Q : Exit → Act → World → Prop}, listed.size = ops.size → (∀ j, listed.getD j false = decide (j < k)) → U ops.size listed ≤ fuel →
      MR base r m w → F2 (VR r) t a.tmps.toList → a.defers = [] → LOps P is K t m →
      (∀ t' m' r' a' w', K t' m' → F2 (VR r') t' a'.tmps.toList → a'.defers = [] → Stp base r m w r' m' w' → Q .normal a' w') → wpAny P .any ops Q fuel listed a w := by
  intro is
  induction is with
  | nil =>
    intro k hqk hrel hn fuel listed r m w t a K Q hsz hL hU hm ht hd hl hq
    have hr : Region.ready .any ops listed = [] := by
      rw [List.eq_nil_iff_forall_not_mem]
      intro j hj
      obtain ⟨h1, o, ho, _⟩ := mem_ready.1 hj
      have hlt : j < ops.size := (Array.getElem?_eq_some_iff.1 ho).1
      have := hL j
      simp only [List.length_nil, Nat.add_zero] at hn
      rw [decide_eq_true (by omega)] at this
      simp [Array.getD_eq_getD_getElem?, hsz, hlt] at h1 this
      rw [h1] at this; cases this
    have hQ := hq t m r a w hl ht hd (.refl hm)
    cases fuel with
    | zero => unfold wpAny; exact ⟨hr, hQ⟩
    | succ fuel => unfold wpAny; exact ⟨fun _ => hQ, fun i hi => (by rw [hr] at hi; cases hi)⟩
  | cons li is ih =>
    intro k hqk hrel hn fuel listed r m w t a K Q hsz hL hU hm ht hd hl hq
    simp only [List.length_cons] at hn
    have hk : k < ops.size := by omega
    have hLk : listed.getD k false = false := by rw [hL]; simp
    have hkr : k ∈ Region.ready .any ops listed := by
      refine mem_ready.2 ⟨?_, ops[k], by simp [hk], ?_⟩
      · simpa [Array.getD_eq_getD_getElem?, hsz, hk] using hLk
      · intro e he hb
        rw [hL]
        have : e.on ∈ directsAt ops k := by
          simp only [directsAt, Array.getElem?_eq_getElem hk, directs, List.mem_map, List.mem_filter]
          exact ⟨e, ⟨by simpa using he, hb⟩, rfl⟩
        simpa using hF k _ this
    cases fuel with
    | zero => have := U_pos hk hLk; omega
    | succ fuel =>
      unfold wpAny
      refine ⟨fun h => (by rw [h] at hkr; cases hkr), fun i hi => ?_⟩
      obtain ⟨h1, oi, hoi, hedges⟩ := mem_ready.1 hi
      have hilt : i < ops.size := (Array.getElem?_eq_some_iff.1 hoi).1
      have hik : i = k := by
        have hge : k ≤ i := by
          rcases Nat.lt_or_ge i k with h | h
          · have := hL i
            rw [decide_eq_true h] at this
            simp [Array.getD_eq_getD_getElem?, hsz, hilt] at h1 this
            rw [h1] at this; cases this
          · exact h
        rcases Nat.lt_or_ge k i with h | h
        · have hmem := hC i hilt (by omega) k h
          have hsub := downs_sub (ops := ops) (L := fun j => listed.getD j false = true) (fun j hj i' hi' => by
            rw [hL] at hj ⊢
            have := hF j i' hi'
            simp at hj ⊢; omega) i (directsAt ops i) (fun i' hi' => by
              simp only [directsAt, hoi, directs, List.mem_map, List.mem_filter] at hi'
              obtain ⟨e, ⟨he, hb⟩, rfl⟩ := hi'
              exact hedges e (by simpa using he) hb) k hmem
          rw [hLk] at hsub; cases hsub
        · omega
      subst hik
      cases hrel with
      | cons hi' hrel =>
        obtain ⟨o, ho, hc⟩ := hi'
        obtain ⟨hok, hlo, hdst⟩ := cInstr_some hc
        unfold wpOp
        simp only [ho]
        rw [wanted_rel hc ht]
        simp only [LOps] at hl
        have hL' : ∀ j, (listed.setIfInBounds i true).getD j false = decide (j < i + 1) := by
          intro j
          by_cases e : i = j
          · subst e; simp [hsz, hk]
          · rw [getD_set_ne false e, hL]
            by_cases h : j < i
            · simp [h, show j < i + 1 by omega]
            · simp [h, show ¬ j < i + 1 by omega]
        have hU' : U ops.size (listed.setIfInBounds i true) ≤ fuel := by have := U_set hsz hk hLk; omega
        cases hw : wantedL t li.guard with
        | true =>
          simp only [if_true]
          left
          have hx := hl.1 hw
          have hg := cop_sound (t := t) (a := a) hlo hm (fun x hx => ev_rel ht x (List.all_eq_true.1 hok x hx)) hx
          refine gives_wp hg ?_
          rintro v' w' ⟨v, m', r', hK, hv, hs⟩
          rw [hdst] at hK
          exact ih (i + 1) (by omega) hrel (by omega) (by simpa using hsz) hL' hU' hs.mr (put_rel (ht.mono fun _ _ => VR.mono (hs.le hm)) o.dst hv) (put_defers _ _ hd) hK fun t' m'' r'' a' w'' h1 h2 h3 h4 => hq t' m'' r'' a' w'' h1 h2 h3 (hs.trans h4)
        | false =>
          simp only [Bool.false_eq_true, if_false]
          have hx := hl.2 hw
          rw [hdst] at hx
          exact ih (i + 1) (by omega) hrel (by omega) (by simpa using hsz) hL' hU' hm (put_rel ht o.dst .undef) (put_defers _ _ hd) hx hq

def levOf : List (Value × Mem) → Mem → Nat → Nat
  | rs, m, i => if i < m.length then m.length else match rs with
    | (_, g) :: rs => levOf rs (m ++ g) i
    | [] => m.length

theorem levOf_low {rs : List (Value × Mem)} {m : Mem} {i : Nat} (h : i < m.length) : levOf rs m i = m.length := by
  unfold levOf; rw [if_pos h]
theorem levOf_le : ∀ {rs : List (Value × Mem)} {m : Mem} {k i : Nat}, i < (mAt rs m k).length → levOf rs m i ≤ (mAt rs m k).length
  | [], m, k, i, h => by
    have e : mAt [] m k = m := by cases k <;> rfl
    rw [e] at h ⊢
    rw [levOf_low h]; exact Nat.le_refl _
  | (v, g) :: rs, m, 0, i, h => by
    rw [mAt_zero] at h ⊢
    rw [levOf_low h]; exact Nat.le_refl _
  | (v, g) :: rs, m, k + 1, i, h => by
    simp only [mAt] at h ⊢
    by_cases hi : i < m.length
    · rw [levOf_low hi]
      obtain ⟨g', hg⟩ := mAt_prefix (rs := rs) (m := m ++ g) (Nat.zero_le k)
      rw [hg, mAt_zero]; simp
    · unfold levOf; rw [if_neg hi]; exact levOf_le h
theorem levOf_at : ∀ {rs : List (Value × Mem)} {m : Mem} {k i : Nat}, (mAt rs m k).length ≤ i → i < (mAt rs m (k + 1)).length → levOf rs m i = (mAt rs m (k + 1)).length
  | [], m, k, i, h, h2 => by
    have e : ∀ k, mAt [] m k = m := fun k => by cases k <;> rfl
    rw [e] at h h2; omega
  | (v, g) :: rs, m, 0, i, h, h2 => by
    rw [mAt_zero] at h
    simp only [mAt] at h2 ⊢
    try rw [mAt_zero] at h2
    try rw [mAt_zero]
    unfold levOf; rw [if_neg (by omega)]
    exact levOf_low h2
  | (v, g) :: rs, m, k + 1, i, h, h2 => by
    simp only [mAt] at h h2 ⊢
    have hm : m.length ≤ i := by
      obtain ⟨g', hg⟩ := mAt_prefix (rs := rs) (m := m ++ g) (Nat.zero_le k)
      rw [hg, mAt_zero] at h; simp at h; omega
    unfold levOf; rw [if_neg (by omega)]
    exact levOf_at h h2

theorem tAt_other : ∀ {is : List LInstr} {rs : List (Value × Mem)} {t : List Value} {k x : Nat}, (∀ i l, i < k → is[i]? = some l → l.dst ≠ some x) → (tAt is rs t k).getD x undef = t.getD x undef
  | [], rs, t, k, x, _ => by cases k <;> simp [tAt]
  | l :: is, [], t, k, x, _ => by cases k <;> simp [tAt]
  | l :: is, (v, g) :: rs, t, 0, x, _ => by simp [tAt]
  | l :: is, (v, g) :: rs, t, k + 1, x, h => by
    simp only [tAt]
    rw [tAt_other fun i l' hi hl => h (i + 1) l' (by omega) (by simpa using hl)]
    have := h 0 l (by omega) rfl
    unfold putL
    split
    · rename_i d hd
      have hne : d ≠ x := fun e => this (by rw [hd, e])
      simp [List.getD_eq_getElem?_getD, List.getElem?_set_ne hne]
    · rfl
theorem tAt_length : ∀ {is : List LInstr} {rs : List (Value × Mem)} {t : List Value} {k : Nat}, (tAt is rs t k).length = t.length
  | [], rs, t, k => by cases k <;> simp [tAt]
  | l :: is, [], t, k => by cases k <;> simp [tAt]
  | l :: is, (v, g) :: rs, t, 0 => by simp [tAt]
  | l :: is, (v, g) :: rs, t, k + 1 => by
    simp only [tAt]; rw [tAt_length]; unfold putL; split <;> simp
theorem tAt_this : ∀ {is : List LInstr} {rs : List (Value × Mem)} {t : List Value} {k i x : Nat} {l : LInstr} {v : Value} {g : Mem}, i < k → is[i]? = some l → rs[i]? = some (v, g) → l.dst = some x → (∀ j l', i < j → j < k → is[j]? = some l' → l'.dst ≠ some x) → x < t.length → (tAt is rs t k).getD x undef = v
  | [], rs, t, k, i, x, l, v, g, _, hl, _, _, _, _ => by simp at hl
  | l0 :: is, [], t, k, i, x, l, v, g, _, _, hr, _, _, _ => by simp at hr
  | l0 :: is, (v0, g0) :: rs, t, 0, i, x, l, v, g, h, _, _, _, _, _ => by omega
  | l0 :: is, (v0, g0) :: rs, t, k + 1, 0, x, l, v, g, _, hl, hr, hd, hn, hx => by
    simp at hl hr
    obtain ⟨rfl, rfl⟩ := hr
    subst hl
    simp only [tAt]
    rw [tAt_other fun j l' hj hl' => hn (j + 1) l' (by omega) (by omega) (by simpa using hl')]
    simp [putL, hd, List.getD_eq_getElem?_getD, hx]
  | l0 :: is, (v0, g0) :: rs, t, k + 1, i + 1, x, l, v, g, h, hl, hr, hd, hn, hx => by
    simp only [tAt]
    refine tAt_this (i := i) (by omega) (by simpa using hl) (by simpa using hr) hd (fun j l' h1 h2 hl' => hn (j + 1) l' (by omega) (by omega) (by simpa using hl')) ?_
    unfold putL; split <;> simpa using hx

end Go.Lg
