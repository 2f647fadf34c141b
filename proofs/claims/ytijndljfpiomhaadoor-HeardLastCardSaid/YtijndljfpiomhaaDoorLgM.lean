/- What code in short does to the logical memory, the program's own code does to whatever world bears it. -/
import Derived.Test.YtijndljfpiomhaaDoorLgL
namespace Go.Lg

variable {P : Program}

theorem cInstr_some {ops : Array Oper} {o : Oper} {li : LInstr} (hc : cInstr0 P ops o = some li) : o.op.operands.toList.all okO = true ∧ cop P o.op = some li.op ∧ li.dst = o.dst := by
  unfold cInstr0 at hc
  split at hc
  · rename_i h
    split at hc
    · rename_i lo hlo
      split at hc
      · simp at hc; subst hc; exact ⟨h, hlo, rfl⟩
      · split at hc
        · simp at hc; subst hc; exact ⟨h, hlo, rfl⟩
        · simp at hc
    · simp at hc
  · simp at hc

theorem gives_wp {o : Oper} {a : Act} {w : World} {R : Value → World → Prop} {next : Act → World → Prop} {Q : Exit → Act → World → Prop} (h : Gives P o a.eval w R) (hn : ∀ v' w', R v' w' → next (a.put o.dst v') w') : o.wp P a w next Q := by
  unfold Oper.wp
  rcases h with ⟨v', w', hr, hR⟩ | ⟨w', hr, hR⟩ | ⟨f, args, w', hr, hC⟩
  · rw [hr, Oper.upon_value]; exact hn _ _ hR
  · rw [hr, Oper.upon_skip]; exact hn _ _ hR
  · rw [hr, Oper.upon_enter]
    refine hC.mono ?_
    rintro e w'' ⟨v', rfl, hR⟩
    exact hn _ _ hR

theorem ops_sound {ops : Array Oper} : ∀ (is : List LInstr) (idx : List Nat), F2 (fun i li => ∃ o, ops[i]? = some o ∧ cInstr P ops o = some li) idx is →
    ∀ {base : Nat} {r : Rho} {m : Mem} {w : World} {t : List Value} {a : Act} {K : List Value → Mem → Prop} {Q : Exit → Act → World → Prop}, MR base r m w → F2 (VR r) t a.tmps.toList → a.defers = [] → LOps P is K t m →
      (∀ t' m' r' a' w', K t' m' → F2 (VR r') t' a'.tmps.toList → a'.defers = [] → Stp base r m w r' m' w' → Q .normal a' w') → wpOps P ops Q idx a w := by
  intro is
  induction is with
  | nil =>
    intro idx hrel base r m w t a K Q hm ht hd hl hq
    cases hrel
    exact hq t m r a w hl ht hd (.refl hm)
  | cons li is ih =>
    intro idx hrel base r m w t a K Q hm ht hd hl hq
    cases hrel with
    | cons hi hrel =>
      rename_i i idx
      obtain ⟨o, ho, hc⟩ := hi
      rcases cInstr_or hc with hc | hc
      case inr => subst hc; exact (show False from hl.1 rfl).elim
      obtain ⟨hok, hlo, hdst⟩ := cInstr_some hc
      simp only [wpOps, ho]
      rw [wanted_rel hc ht]
      simp only [LOps] at hl
      cases hw : wantedL t li.guard with
      | true =>
        simp only [if_true]
        left
        have hx := hl.1 hw
        have hg := cop_sound (t := t) (a := a) hlo hm (fun x hx => ev_rel ht x (List.all_eq_true.1 hok x hx)) hx
        refine gives_wp hg ?_
        rintro v' w' ⟨v, m', r', hK, hv, hs⟩
        rw [hdst] at hK
        exact ih idx hrel hs.mr (put_rel (ht.mono fun _ _ => VR.mono (hs.le hm)) o.dst hv) (put_defers _ _ hd) hK fun t' m'' r'' a' w'' h1 h2 h3 h4 => hq t' m'' r'' a' w'' h1 h2 h3 (hs.trans h4)
      | false =>
        simp only [Bool.false_eq_true, if_false]
        have hx := hl.2 hw
        rw [hdst] at hx
        exact ih idx hrel hm (put_rel ht o.dst .undef) (put_defers _ _ hd) hx hq

theorem cInstrs_rel {ops : Array Oper} : ∀ {os : List Oper} {is : List LInstr} (k : Nat), cInstrs P ops os = some is → (∀ j o, os[j]? = some o → ops[k + j]? = some o) →
    F2 (fun i li => ∃ o, ops[i]? = some o ∧ cInstr P ops o = some li) (List.range' k os.length) is
  | [], is, k, h, _ => by simp [cInstrs] at h; subst h; exact .nil
  | o :: os, is, k, h, hk => by
    simp only [cInstrs] at h
    split at h
    · rename_i li is' h1 h2
      simp at h; subst h
      refine .cons ⟨o, by simpa using hk 0 o rfl, h1⟩ (cInstrs_rel (k + 1) h2 fun j o' hj => ?_)
      have := hk (j + 1) o' (by simpa using hj)
      rw [← this]; congr 1; omega
    · simp at h

theorem LSem.mono {c : Code} {Q Q' : Exit → List Value → Mem → Prop} {t : List Value} {m : Mem} (h : LSem P c Q t m) (hq : ∀ e t m, Q e t m → Q' e t m) : LSem P c Q' t m := by
  intro base r w a hm ht hd
  refine wp_mono (h base r w a hm ht hd) ?_
  rintro e a' w' ⟨t', m', r', h1, h2⟩
  exact ⟨t', m', r', hq _ _ _ h1, h2⟩

end Go.Lg
