/- Code in short does to the logical memory what the program's own does to whatever world bears it. -/
import Derived.Test.YtijndljfpiomhaaDoorLgSB
import Derived.Scope
namespace Go.Lg

variable {P : Program}

theorem drawOK_spec {ops : Array Oper} {pre : List LInstr} (h : drawOK ops pre = true) :
    (∀ j, ∀ i ∈ directsAt ops j, i < j) ∧
    (∀ (k : Nat) (o : Oper) (li : LInstr) (x i : Nat) (l : LInstr), ops[k]? = some o → pre[k]? = some li → x ∈ readsOf li o → pre[i]? = some l → l.dst = some x → i ∈ directsAt ops k) ∧
    (∀ (i j : Nat) (l l' : LInstr) (x : Nat), pre[i]? = some l → pre[j]? = some l' → l.dst = some x → l'.dst = some x → i = j) ∧
    (∀ (j : Nat), j < ops.size → pre.length ≤ j → ∀ i, i < j → i ∈ downs ops j (directsAt ops j)) := by
  simp only [drawOK, Bool.and_eq_true] at h
  obtain ⟨⟨⟨h1, h2⟩, h3⟩, h4⟩ := h
  refine ⟨?_, ?_, ?_, ?_⟩
  · intro j i hi
    by_cases hj : j < ops.size
    · have := List.all_eq_true.1 h1 j (List.mem_range.2 hj)
      simpa using List.all_eq_true.1 this i hi
    · simp [directsAt, Array.getElem?_eq_none (by omega : ops.size ≤ j)] at hi
  · intro k o li x i l ho hli hx hl hd
    have hk := (List.getElem?_eq_some_iff.1 hli).1
    have := List.all_eq_true.1 h2 k (List.mem_range.2 hk)
    simp only [ho, hli] at this
    have := List.all_eq_true.1 this x hx
    have := List.all_eq_true.1 this i (List.mem_range.2 (List.getElem?_eq_some_iff.1 hl).1)
    simp only [hl, hd] at this
    simpa using this
  · intro i j l l' x hl hl' hd hd'
    have := List.all_eq_true.1 h3 i (List.mem_range.2 (List.getElem?_eq_some_iff.1 hl).1)
    have := List.all_eq_true.1 this j (List.mem_range.2 (List.getElem?_eq_some_iff.1 hl').1)
    simp only [hl, hl', hd, hd'] at this
    simpa using this
  · intro j hj hp i hi
    have := List.all_eq_true.1 h4 j (List.mem_range.2 hj)
    simp only [Bool.or_eq_true, decide_eq_true_eq] at this
    rcases this with h | h
    · omega
    · simpa using List.all_eq_true.1 h i (List.mem_range.2 hi)

theorem draw_sound {id : Nat} {ops : Array Oper} {l : LCode} (hc : cDraw P ops = some l) {Q : Exit → List Value → Mem → Prop} {t : List Value} {m : Mem} (h : LC P l Q t m) : LSem P (.region id ops true) Q t m := by
  unfold cDraw at hc
  split at hc
  · rename_i is his
    split at hc
    · rename_i hcond
      simp only [Bool.and_eq_true] at hcond
      simp at hc
      subst hc
      generalize tailFrom ops ops.size = p at *
      obtain ⟨hF, hA, hB, hC⟩ := drawOK_spec hcond.1.2
      have hrel0 := cInstrs_rel (ops := ops) 0 his (fun j o hj => by simpa using hj)
      have hlen : is.length = ops.size := by have := hrel0.length; simpa using this.symm
      have hrel : ∀ (k : Nat) (li : LInstr), is[k]? = some li → ∃ o, ops[k]? = some o ∧ cInstr0 P ops o = some li := by
        intro k li hk
        obtain ⟨i, hi, o, ho, hco⟩ := hrel0.get' hk
        have hkl : k < ops.size := by have := (List.getElem?_eq_some_iff.1 hk).1; omega
        rw [List.getElem?_range' (by simpa using hkl)] at hi
        simp at hi
        subst hi
        refine ⟨o, by simpa using ho, ?_⟩
        rcases cInstr_or hco with hco | hco
        · exact hco
        · have := List.all_eq_true.1 hcond.2 li (List.mem_of_getElem? hk)
          subst hco
          simp [isBad] at this
      intro base r w a hm ht hd
      simp only [LC] at h
      obtain ⟨rs, tp, mp, htr, hK⟩ := LRo_tr h
      refine wp_region_any (by simpa using hcond.1.1) ?_
      have hdr := Stp.drew hm
      refine pre_sound (base := base) htr (by simp; omega) (fun k li hk => hrel k li (by
        rw [List.getElem?_take] at hk
        split at hk
        · exact hk
        · cases hk)) hF hA hB hC (r0 := r) (w0 := { w with drawn := w.drawn + 1 }) ?_ ops.size _ a _ r ?_ ?_
      · intro fuel listed a' w' r' hsz hL hU hs ht' hd'
        refine tail_sound hF (is.take p).length (fun j h1 h2 i h3 => hC j h1 h2 i h3) (is.drop p) (is.take p).length (Nat.le_refl _) ?_ (by simp; omega) hsz hL hU hs.mr ht' hd' hK fun t' m' r'' a'' w'' g1 g2 g3 g4 => ⟨t', m', r'', g1, g2, g3, hdr.trans (hs.trans g4)⟩
        refine .of_get (by simp) fun j i li hj hli => ?_
        rw [List.getElem?_drop] at hli
        have hjl : j < (is.drop p).length := by
          have := (List.getElem?_eq_some_iff.1 hj).1
          simpa using this
        rw [List.getElem?_range' hjl] at hj
        simp at hj
        obtain ⟨o, ho, hco⟩ := hrel (p + j) li hli
        refine ⟨o, ?_, hco⟩
        rw [← ho]; congr 1
        simp at hjl
        omega
      · simp only [U]
        exact Nat.le_trans List.countP_le_length (by simp)
      · have hfalse : ∀ j, (Array.replicate ops.size false).getD j false = false := by
          intro j
          simp [Array.getD_eq_getD_getElem?, Array.getElem?_replicate]
          split <;> rfl
        have hmp := htr.ends
        refine ⟨by simp, fun j hj => (by rw [hfalse] at hj; cases hj), fun j hj => (by rw [hfalse] at hj; cases hj), ?_, fun _ _ => rfl, fun _ _ _ => rfl, ?_, Nat.le_refl _, rfl, rfl, rfl, ?_, hd, by have := ht.length; simpa using this.symm, ?_, fun j l v g x hj => (by rw [hfalse] at hj; cases hj)⟩
        · obtain ⟨g, hg⟩ := mAt_prefix (rs := rs) (m := m) (Nat.zero_le (is.take p).length)
          rw [hmp.2.2, mAt_zero] at hg
          refine ⟨fun i x hx => by have := hm.dom i x hx; rw [hg]; simp; omega, ?_, ?_, hm.base⟩
          · intro i k b d t z hk hi
            have hlt := hm.dom i _ hi
            rw [hg, List.getElem?_append_left hlt] at hk
            rw [levOf_low hlt]
            have hr : restr r m.length = r := by
              funext j
              unfold restr
              split
              · rfl
              · cases hj : r j with
                | none => rfl
                | some x => have := hm.dom j x hj; omega
            rw [hr]
            exact hm.blk i k b d t z hk hi
          · intro i j k l b x y hk hl ho1 ho2 h1 h2
            rw [hg, List.getElem?_append_left (hm.dom i _ h1)] at hk
            rw [hg, List.getElem?_append_left (hm.dom j _ h2)] at hl
            exact hm.inj i j k l b x y hk hl ho1 ho2 h1 h2
        · rintro b hb ⟨i, k, x, hk, ho, hi⟩
          obtain ⟨g, hg⟩ := mAt_prefix (rs := rs) (m := m) (Nat.zero_le (is.take p).length)
          rw [hmp.2.2, mAt_zero] at hg
          rw [hg, List.getElem?_append_left (hm.dom i _ hi)] at hk
          exact ⟨i, k, x, hk, ho, hi⟩
        · intro k _ _ i h1 _
          cases hi : r i with
          | none => rfl
          | some x =>
            have := hm.dom i x hi
            obtain ⟨g, hg⟩ := mAt_prefix (rs := rs) (m := m) (Nat.zero_le k)
            rw [hg, mAt_zero] at h1; simp at h1; omega
        · intro x _
          have := ev_rel ht (.tmp x) rfl
          simp only [evL, Act.eval] at this
          have hr : restr r m.length = r := by
            funext j
            unfold restr
            split
            · rfl
            · cases hj : r j with
              | none => rfl
              | some x => have := hm.dom j x hj; omega
          rw [hr]; exact this
    · simp at hc
  · simp at hc

/-- From a round's end on. -/
def WL (P : Program) (c : Code) (Q : Exit → Act → World → Prop) (a : Act) (w : World) : Prop :=
  ∀ (b : Frame) (k : List Item) (cs : List Frame), ∃ e a' w', Q e a' w' ∧ Arrives P (lone (b.at a (.inLoop c :: k)) cs w) b k cs e a' w'

theorem WL.mono {c : Code} {Q Q' : Exit → Act → World → Prop} {a : Act} {w : World} (h : WL P c Q a w) (hq : ∀ e a w, Q e a w → Q' e a w) : WL P c Q' a w :=
  fun b k cs => let ⟨e, a', w', q, r⟩ := h b k cs; ⟨e, a', w', hq _ _ _ q, r⟩

theorem wl_both {c : Code} {Q : Exit → Act → World → Prop} {a : Act} {w : World} (h : c.wp P (Exit.then (WL P c Q) Q) a w) : WL P c Q a w ∧ (Code.loop c).wp P Q a w := by
  have key : ∀ (b : Frame) (k : List Item) (cs : List Frame), ∃ e a' w', Q e a' w' ∧ Arrives P (lone (b.at a (.code c :: .inLoop c :: k)) cs w) b k cs e a' w' := by
    intro b k cs
    obtain ⟨e, a₁, w₁, hq, harr⟩ := h b (.inLoop c :: k) cs
    cases e with
    | normal =>
      obtain ⟨e₂, a₂, w₂, hq₂, harr₂⟩ := hq b k cs
      exact ⟨e₂, a₂, w₂, hq₂, .of_steps harr harr₂⟩
    | exit id => exact ⟨_, a₁, w₁, hq, .pass (x := .inLoop c) rfl (fun _ _ => .inl (by simp)) harr⟩
    | goto l => exact ⟨_, a₁, w₁, hq, .pass (x := .inLoop c) rfl (fun _ _ => .inl (by simp)) harr⟩
    | ret => exact ⟨_, a₁, w₁, hq, .pass (x := .inLoop c) rfl (fun _ _ => .inl (by simp)) harr⟩
    | panic ch => exact ⟨_, a₁, w₁, hq, .pass (x := .inLoop c) rfl (fun _ _ => .inl (by simp)) harr⟩
    | outgrown => exact ⟨_, a₁, w₁, hq, .pass (x := .inLoop c) rfl (fun _ _ => .inl (by simp)) harr⟩
  constructor
  · intro b k cs
    obtain ⟨e, a', w', q, r⟩ := key b k cs
    exact ⟨e, a', w', q, .of_steps (.one step_inLoop) r⟩
  · intro b k cs
    obtain ⟨e, a', w', q, r⟩ := key b k cs
    exact ⟨e, a', w', q, .of_steps (.one step_loop) r⟩

theorem find_has : ∀ {c : Code} {lc : LCode} {l : Nat}, cCode P c = some lc → hasL lc l = (findLabel c l).isSome := by
  intro c
  induction c with
  | seq a b iha ihb =>
    intro lc l hc
    simp only [cCode] at hc
    split at hc
    · rename_i x y hx hy
      simp at hc; subst hc
      simp only [hasL, findLabel, iha hx, ihb hy]
      cases findLabel a l <;> simp
    · simp at hc
  | label l' =>
    intro lc l hc
    simp [cCode] at hc; subst hc
    simp only [hasL, findLabel]
    split <;> simp_all
  | region id ops draw =>
    intro lc l hc
    simp only [cCode] at hc
    split at hc
    · split at hc
      · rename_i c0 hd
        simp only [Option.some.injEq] at hc; subst hc
        unfold cDraw1 at hd
        have key : ∀ (p : Nat) (c : LCode), cChain P p ops = some c → hasL c l = (findLabel (.region id ops draw) l).isSome := by
          intro p c hd
          unfold cChain at hd
          split at hd
          · split at hd
            · simp at hd; subst hd; rfl
            · simp at hd
          · simp at hd
        split at hd
        · split at hd
          · split at hd
            · rename_i c1 hd1
              simp only [Option.some.injEq] at hd; subst hd
              exact key _ _ hd1
            · split at hd
              · rename_i c2 hd2
                simp only [Option.some.injEq] at hd; subst hd
                exact key _ _ hd2
              · unfold cChainZ at hd
                split at hd
                · split at hd
                  · simp at hd; subst hd; rfl
                  · simp at hd
                · simp at hd
          · cases hd
        · cases hd
      · split at hc
        · rename_i c0 hd
          simp only [Option.some.injEq] at hc; subst hc
          unfold cDraw at hd
          split at hd
          · split at hd
            · simp at hd; subst hd; rfl
            · simp at hd
          · simp at hd
        · simp only [Option.some.injEq] at hc; subst hc; rfl
    · cases hi : cInstrs P ops ops.toList with
      | none => simp [hi] at hc
      | some is => simp [hi] at hc; subst hc; rfl
  | cond c x y =>
    intro lc l hc
    simp only [cCode] at hc
    split at hc
    · split at hc
      · simp at hc; subst hc; rfl
      · simp at hc
    · simp at hc; subst hc; rfl
  | skip => intro lc l hc; simp [cCode] at hc; subst hc; rfl
  | exit => intro lc l hc; simp [cCode] at hc; subst hc; rfl
  | ret => intro lc l hc; simp [cCode] at hc; subst hc; rfl
  | goto => intro lc l hc; simp [cCode] at hc; subst hc; rfl
  | rangeFunc => intro lc l hc; simp [cCode] at hc; subst hc; rfl
  | refuse => intro lc l hc; simp [cCode] at hc; subst hc; rfl
  | block id c =>
    intro lc l hc
    cases hl : cCode P c with
    | none => simp [cCode, hl] at hc
    | some x => simp [cCode, hl] at hc; subst hc; rfl
  | loop c =>
    intro lc l hc
    cases hl : cCode P c with
    | none => simp [cCode, hl] at hc
    | some x => simp [cCode, hl] at hc; subst hc; rfl
  | scope c =>
    intro lc l hc
    cases hl : cCode P c with
    | none => simp [cCode, hl] at hc
    | some x => simp [cCode, hl] at hc; subst hc; rfl

theorem LF_has : ∀ {lc : LCode} {l : Nat} {Q : Exit → List Value → Mem → Prop} {t : List Value} {m : Mem}, LF P lc l Q t m → hasL lc l = true := by
  intro lc
  induction lc with
  | seq a b iha ihb =>
    intro l Q t m h
    simp only [LF] at h
    simp only [hasL, Bool.or_eq_true]
    split at h
    · rename_i e; exact .inl e
    · exact .inr (ihb h)
  | label l' => intro l Q t m h; simp [hasL, h.1]
  | _ => intro l Q t m h; exact h.elim

theorem scope_run {c : Code} {base : Nat} {r : Rho} {m : Mem} {w : World} {Q : Exit → List Value → Mem → Prop} {b : Frame} {k : List Item} {cs : List Frame} {m0 : Machine} {e : Exit} {a₁ : Act} {w₁ : World}
    {X : Nat → List Value → Mem → Prop}
    (hX : ∀ l t m, X l t m → ∃ rest, findLabel c l = some rest ∧ ∀ (base : Nat) (r : Rho) (w : World) (a : Act), MR base r m w → F2 (VR r) t a.tmps.toList → a.defers = [] → ∀ (b : Frame) (k : List Item) (cs : List Frame), ∃ e a' w', Post base r m w Q e a' w' ∧ Arrives P (lone (b.at a (.code rest :: .inScope c :: k)) cs w) b k cs e a' w')
    (hq : Post base r m w (jumpL X Q) e a₁ w₁) (harr : Arrives P m0 b (.inScope c :: k) cs e a₁ w₁) : ∃ e a' w', Post base r m w Q e a' w' ∧ Arrives P m0 b k cs e a' w' := by
  obtain ⟨t', m', r', h1, h2, h3, h4⟩ := hq
  cases e with
  | normal => exact ⟨.normal, a₁, w₁, ⟨t', m', r', h1, h2, h3, h4⟩, Steps.trans harr (.one step_inScope)⟩
  | exit id => exact ⟨.exit id, a₁, w₁, ⟨t', m', r', h1, h2, h3, h4⟩, fun k' hk => harr k' (by simp [exitTo, hk])⟩
  | goto l' =>
    obtain ⟨rest, hf, hr⟩ := hX _ _ _ h1
    have hg : gotoIn l' (.inScope c :: k) = some (.code rest :: .inScope c :: k) := by simp [gotoIn, hf]
    obtain ⟨e₂, a₂, w₂, hq₂, harr₂⟩ := hr base r' w₁ a₁ h4.mr h2 h3 b k cs
    exact ⟨e₂, a₂, w₂, hq₂.trans h4, .of_steps (harr _ hg) harr₂⟩
  | ret => exact ⟨_, a₁, w₁, ⟨t', m', r', h1, h2, h3, h4⟩, harr⟩
  | panic ch => exact ⟨_, a₁, w₁, ⟨t', m', r', h1, h2, h3, h4⟩, harr⟩
  | outgrown => exact ⟨_, a₁, w₁, ⟨t', m', r', h1, h2, h3, h4⟩, harr⟩

theorem seq_sem {x y : Code} {Q : Exit → List Value → Mem → Prop} {R : List Value → Mem → Prop} {t : List Value} {m : Mem} (hx : LSem P x (thenL R Q) t m) (hy : ∀ t m, R t m → LSem P y Q t m) : LSem P (.seq x y) Q t m := by
  intro base r w a hm ht hd
  refine wp_seq (wp_mono (hx base r w a hm ht hd) ?_)
  rintro e a' w' ⟨t', m', r', h1, h2, h3, h4⟩
  cases e with
  | normal => exact wp_mono (hy _ _ h1 base r' w' a' h4.mr h2 h3) fun e a w hp => hp.trans h4
  | _ => exact ⟨t', m', r', h1, h2, h3, h4⟩

theorem LC_LF_sound : ∀ {c : Code}, (∀ {l : LCode}, cCode P c = some l → ∀ {Q : Exit → List Value → Mem → Prop} {t : List Value} {m : Mem}, LC P l Q t m → LSem P c Q t m) ∧
    (∀ {l : LCode} {n : Nat} {rest : Code}, cCode P c = some l → findLabel c n = some rest → ∀ {Q : Exit → List Value → Mem → Prop} {t : List Value} {m : Mem}, LF P l n Q t m → LSem P rest Q t m) := by
  intro c
  induction c with
  | skip =>
    refine ⟨?_, by intro l n rest hc hf; simp [findLabel] at hf⟩
    intro l hc Q t m h
    simp [cCode] at hc; subst hc
    intro base r w a hm ht hd
    exact wp_skip ⟨t, m, r, h, ht, hd, .refl hm⟩
  | region id ops draw =>
    refine ⟨?_, by intro l n rest hc hf; simp [findLabel] at hf⟩
    intro l hc Q t m h
    simp only [cCode] at hc
    split at hc
    · rename_i hdr
      have hdt : draw = true := hdr
      subst hdt
      split at hc
      · rename_i c0 hd
        simp only [Option.some.injEq] at hc
        subst hc
        unfold cDraw1 at hd
        split at hd
        · split at hd
          · split at hd
            · rename_i c1 hd1
              simp only [Option.some.injEq] at hd; subst hd
              exact chain_sound hd1 h
            · split at hd
              · rename_i c2 hd2
                simp only [Option.some.injEq] at hd; subst hd
                exact chain_sound hd2 h
              · exact chainZ_sound hd h
          · cases hd
        · cases hd
      · split at hc
        · rename_i c0 hd
          simp only [Option.some.injEq] at hc
          subst hc
          exact draw_sound hd h
        · simp only [Option.some.injEq] at hc
          subst hc
          exact h.elim
    · rename_i hdr
      cases hi : cInstrs P ops ops.toList with
      | none => simp [hi] at hc
      | some is =>
        simp [hi] at hc; subst hc
        intro base r w a hm ht hd
        have hdf : draw = false := by simpa using hdr
        subst hdf
        refine wp_region (ops_sound is _ ?_ hm ht hd h fun t' m' r' a' w' h1 h2 h3 h4 => ⟨t', m', r', h1, h2, h3, h4⟩)
        have := cInstrs_rel (ops := ops) 0 hi (fun j o hj => by simpa using hj)
        simpa [List.range_eq_range'] using this
  | seq x y ihx ihy =>
    constructor
    · intro l hc Q t m h
      simp only [cCode] at hc
      split at hc
      · rename_i lx ly hx hy
        simp at hc; subst hc
        exact seq_sem (ihx.1 hx h) fun t m h => ihy.1 hy h
      · simp at hc
    · intro l n rest hc hf Q t m h
      simp only [cCode] at hc
      split at hc
      · rename_i lx ly hx hy
        simp at hc; subst hc
        have hh := find_has (l := n) hx
        simp only [LF] at h
        simp only [findLabel] at hf
        cases hfx : findLabel x n with
        | some ra =>
          rw [hfx] at hf hh
          simp at hf; subst hf
          rw [if_pos (by rw [hh]; rfl)] at h
          exact seq_sem (ihx.2 hx hfx h) fun t m h => ihy.1 hy h
        | none =>
          rw [hfx] at hf hh
          rw [if_neg (by rw [hh]; simp)] at h
          exact ihy.2 hy hf h
      · simp at hc
  | cond c x y ihx ihy =>
    refine ⟨?_, by intro l n rest hc hf; simp [findLabel] at hf⟩
    intro l hc Q t m h
    simp only [cCode] at hc
    split at hc
    · rename_i hok
      split at hc
      · rename_i lx ly hx hy
        simp at hc; subst hc
        intro base r w a hm ht hd
        simp only [LC] at h
        split at h
        · rename_i b hb
          have hv := ev_rel ht c hok
          rw [hb] at hv
          have e := hv.bool_inv
          cases b with
          | true => exact wp_cond e (ihx.1 hx (h.1 rfl) base r w a hm ht hd)
          | false => exact wp_cond e (ihy.1 hy (h.2 rfl) base r w a hm ht hd)
        · exact h.elim
      · simp at hc
    · simp at hc; subst hc; exact h.elim
  | block id c ih =>
    refine ⟨?_, by intro l n rest hc hf; simp [findLabel] at hf⟩
    intro l hc Q t m h
    simp only [cCode] at hc
    cases hl : cCode P c with
    | none => simp [hl] at hc
    | some lc =>
      simp [hl] at hc; subst hc
      intro base r w a hm ht hd
      refine wp_block (wp_mono (ih.1 hl h base r w a hm ht hd) ?_)
      rintro e a' w' ⟨t', m', r', h1, h2, h3, h4⟩
      cases e with
      | exit j =>
        simp only [blockL] at h1
        simp only [Exit.inBlock]
        split
        · rename_i hj; rw [if_pos hj] at h1; exact ⟨t', m', r', h1, h2, h3, h4⟩
        · rename_i hj; rw [if_neg hj] at h1; exact ⟨t', m', r', h1, h2, h3, h4⟩
      | _ => exact ⟨t', m', r', h1, h2, h3, h4⟩
  | loop c ih =>
    refine ⟨?_, by intro l n rest hc hf; simp [findLabel] at hf⟩
    intro l hc Q t m h
    simp only [cCode] at hc
    cases hl : cCode P c with
    | none => simp [hl] at hc
    | some lc =>
      simp [hl] at hc; subst hc
      have key := h (fun t m => ∀ (base : Nat) (r : Rho) (w : World) (a : Act), MR base r m w → F2 (VR r) t a.tmps.toList → a.defers = [] → WL P c (Post base r m w Q) a w ∧ (Code.loop c).wp P (Post base r m w Q) a w) (by
        intro t m hx base r w a hm ht hd
        refine wl_both (wp_mono (ih.1 hl hx base r w a hm ht hd) ?_)
        rintro e a' w' ⟨t', m', r', h1, h2, h3, h4⟩
        cases e with
        | normal => exact (h1 base r' w' a' h4.mr h2 h3).1.mono fun e a w hp => hp.trans h4
        | _ => exact ⟨t', m', r', h1, h2, h3, h4⟩)
      exact fun base r w a hm ht hd => (key base r w a hm ht hd).2
  | exit id =>
    refine ⟨?_, by intro l n rest hc hf; simp [findLabel] at hf⟩
    intro l hc Q t m h
    simp [cCode] at hc; subst hc
    intro base r w a hm ht hd
    exact wp_exit ⟨t, m, r, h, ht, hd, .refl hm⟩
  | ret =>
    refine ⟨?_, by intro l n rest hc hf; simp [findLabel] at hf⟩
    intro l hc Q t m h
    simp [cCode] at hc; subst hc
    intro base r w a hm ht hd
    exact wp_ret ⟨t, m, r, h, ht, hd, .refl hm⟩
  | rangeFunc =>
    refine ⟨?_, by intro l n rest hc hf; simp [findLabel] at hf⟩
    intro l hc Q t m h; simp [cCode] at hc; subst hc; exact h.elim
  | scope c ih =>
    refine ⟨?_, by intro l n rest hc hf; simp [findLabel] at hf⟩
    intro l hc Q t m h
    simp only [cCode] at hc
    cases hl : cCode P c with
    | none => simp [hl] at hc
    | some lc =>
      simp [hl] at hc; subst hc
      have hh := h (fun l t m => ∃ rest, findLabel c l = some rest ∧ ∀ (base : Nat) (r : Rho) (w : World) (a : Act), MR base r m w → F2 (VR r) t a.tmps.toList → a.defers = [] → ∀ (b : Frame) (k : List Item) (cs : List Frame), ∃ e a' w', Post base r m w Q e a' w' ∧ Arrives P (lone (b.at a (.code rest :: .inScope c :: k)) cs w) b k cs e a' w') (by
        intro l t m hF
        have hhas := LF_has hF
        rw [find_has hl] at hhas
        obtain ⟨rest, hf⟩ := Option.isSome_iff_exists.1 hhas
        refine ⟨rest, hf, fun base r w a hm ht hd b k cs => ?_⟩
        obtain ⟨e, a₁, w₁, hq, harr⟩ := ih.2 hl hf hF base r w a hm ht hd b (.inScope c :: k) cs
        exact scope_run (fun _ _ _ h => h) hq harr)
      intro base r w a hm ht hd b k cs
      obtain ⟨e, a₁, w₁, hq, harr⟩ := ih.1 hl hh base r w a hm ht hd b (.inScope c :: k) cs
      obtain ⟨e₂, a₂, w₂, hq₂, harr₂⟩ := scope_run (fun _ _ _ h => h) hq harr
      exact ⟨e₂, a₂, w₂, hq₂, .of_steps (.one step_scope) harr₂⟩
  | label l' =>
    constructor
    · intro l hc Q t m h
      simp [cCode] at hc; subst hc
      intro base r w a hm ht hd
      exact wp_label ⟨t, m, r, h, ht, hd, .refl hm⟩
    · intro l n rest hc hf Q t m h
      simp [cCode] at hc; subst hc
      simp only [findLabel] at hf
      split at hf
      · simp at hf; subst hf
        intro base r w a hm ht hd
        exact wp_skip ⟨t, m, r, h.2, ht, hd, .refl hm⟩
      · cases hf
  | goto l' =>
    refine ⟨?_, by intro l n rest hc hf; simp [findLabel] at hf⟩
    intro l hc Q t m h
    simp [cCode] at hc; subst hc
    intro base r w a hm ht hd
    exact wp_goto ⟨t, m, r, h, ht, hd, .refl hm⟩
  | refuse =>
    refine ⟨?_, by intro l n rest hc hf; simp [findLabel] at hf⟩
    intro l hc Q t m h; simp [cCode] at hc; subst hc; exact h.elim

theorem LC_sound {c : Code} {l : LCode} (hc : cCode P c = some l) {Q : Exit → List Value → Mem → Prop} {t : List Value} {m : Mem} (h : LC P l Q t m) : LSem P c Q t m := LC_LF_sound.1 hc h

/-- Results. -/
inductive LRes where
  | tmp (i : Nat)
  | cell (i : Nat)
  | cells (i n : Nat)

def resV (t : List Value) (m : Mem) : LRes → Option Value
  | .tmp i => match t.getD i undef with
    | .tuple _ => none
    | v => some v
  | .cell i => match t.getD i undef with
    | .pointer (some ⟨b, o, none⟩) => cell? m b o
    | _ => none
  | .cells i n => match t.getD i undef with
    | .pointer (some ⟨b, o, none⟩) => (cells? m b o n).map fun cs => .agg cs.toArray
    | _ => none
def resVs (t : List Value) (m : Mem) : List LRes → Option (List Value)
  | [] => some []
  | r :: rs => match resV t m r, resVs t m rs with
    | some v, some vs => some (v :: vs)
    | _, _ => none
def resOf : List Value → Value
  | [v] => v
  | vs => .tuple vs.toArray

structure LFunc where
  nt : Nat
  code : LCode
  res : List LRes

/-- How a body ends. -/
def endL (res : List LRes) (K : Value → Mem → Prop) : Exit → List Value → Mem → Prop
  | .normal, t, m | .ret, t, m => optP (resVs t m res) fun vs => K (resOf vs) m
  | _, _, _ => False

def cRes (P : Program) : List ResultVar → Option (List LRes)
  | [] => some []
  | .tmp i :: rs => (cRes P rs).map (.tmp i :: ·)
  | .cell i T :: rs => match P.underlying T, P.info? T, cRes P rs with
    | some d, some ti, some l => some ((if isAggD d then .cells i ti.size else .cell i) :: l)
    | _, _, _ => none

def cFunc (P : Program) (fn : Func) : Option LFunc :=
  match fn.body with
  | some c => match cCode P c, cRes P fn.results.toList with
    | some l, some rs => some ⟨fn.ntmps, l, rs⟩
    | _, _ => none
  | none => none

end Go.Lg
