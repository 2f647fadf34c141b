/- A statement whose order is left open, the whole. -/
import Derived.Test.YtijndljfpiomhaaDoorLgR
namespace Go.Lg

variable {P : Program} {base : Nat}

/-- Where the run of a statement stands, some of its operations behind it. -/
structure Mid (base : Nat) (ops : Array Oper) (pre : List LInstr) (rs : List (Value × Mem)) (t0 : List Value) (m0 mp : Mem) (r0 : Rho) (w0 : World) (listed : Array Bool) (a : Act) (w : World) (r : Rho) : Prop where
  size : listed.size = ops.size
  low : ∀ j, listed.getD j false = true → j < pre.length
  down : ∀ j, listed.getD j false = true → ∀ i ∈ directsAt ops j, listed.getD i false = true
  mr : MRl base r mp (levOf rs m0) w
  ext : ∀ i, i < m0.length → r i = r0 i
  fr : ∀ b, b < w0.heap.size → ¬ Own r0 m0 b → w.heap[b]? = w0.heap[b]?
  own : ∀ b, b < w0.heap.size → Own r mp b → Own r0 m0 b
  sz : w0.heap.size ≤ w.heap.size
  os : w.os = w0.os
  tape : w.tape = w0.tape
  output : w.output = w0.output
  none : ∀ k, k < pre.length → listed.getD k false = false → ∀ i, (mAt rs m0 k).length ≤ i → i < (mAt rs m0 (k + 1)).length → r i = none
  defers : a.defers = []
  tsz : a.tmps.size = t0.length
  told : ∀ x, (∀ (j : Nat) (l : LInstr), listed.getD j false = true → pre[j]? = some l → l.dst ≠ some x) → VR (restr r m0.length) (t0.getD x undef) (a.tmps.getD x undef)
  tnew : ∀ (j : Nat) (l : LInstr) v g (x : Nat), listed.getD j false = true → pre[j]? = some l → rs[j]? = some (v, g) → l.dst = some x → x < t0.length → VR (restr r (mAt rs m0 (j + 1)).length) v (a.tmps.getD x undef)

theorem get_put {a : Act} {dst : Option Nat} {v : Value} {x : Nat} (h : dst ≠ some x) : (a.put dst v).tmps.getD x undef = a.tmps.getD x undef := by
  cases dst with
  | none => rfl
  | some d =>
    have : d ≠ x := fun e => h (by rw [e])
    simp [Act.put, Array.getD_eq_getD_getElem?, Array.getElem?_setIfInBounds_ne this]
theorem get_put_same {a : Act} {v : Value} {x : Nat} (h : x < a.tmps.size) : (a.put (some x) v).tmps.getD x undef = v := by
  simp [Act.put, Array.getD_eq_getD_getElem?, h]
theorem size_put {a : Act} {dst : Option Nat} {v : Value} : (a.put dst v).tmps.size = a.tmps.size := by
  cases dst <;> simp [Act.put]

theorem pre_sound {ops : Array Oper} {pre : List LInstr} {rs : List (Value × Mem)} {t0 tp : List Value} {m0 mp : Mem} (htr : Tr P pre t0 m0 rs tp mp)
    (hp : pre.length ≤ ops.size)
    (hrel : ∀ (k : Nat) (li : LInstr), pre[k]? = some li → ∃ o, ops[k]? = some o ∧ cInstr0 P ops o = some li)
    (hF : ∀ j, ∀ i ∈ directsAt ops j, i < j)
    (hA : ∀ (k : Nat) (o : Oper) (li : LInstr) (x i : Nat) (l : LInstr), ops[k]? = some o → pre[k]? = some li → x ∈ readsOf li o → pre[i]? = some l → l.dst = some x → i ∈ directsAt ops k)
    (hB : ∀ (i j : Nat) (l l' : LInstr) (x : Nat), pre[i]? = some l → pre[j]? = some l' → l.dst = some x → l'.dst = some x → i = j)
    (hC : ∀ (j : Nat), j < ops.size → pre.length ≤ j → ∀ i, i < j → i ∈ downs ops j (directsAt ops j))
    {r0 : Rho} {w0 : World} {Q : Exit → Act → World → Prop}
    (done : ∀ (fuel : Nat) (listed : Array Bool) (a : Act) (w : World) (r : Rho), listed.size = ops.size → (∀ j, listed.getD j false = decide (j < pre.length)) → U ops.size listed ≤ fuel →
      Stp base r0 m0 w0 r mp w → F2 (VR r) tp a.tmps.toList → a.defers = [] → wpAny P .any ops Q fuel listed a w) :
    ∀ (fuel : Nat) (listed : Array Bool) (a : Act) (w : World) (r : Rho), U ops.size listed ≤ fuel → Mid base ops pre rs t0 m0 mp r0 w0 listed a w r → wpAny P .any ops Q fuel listed a w := by
  have hmp := htr.ends
  -- what is listed and what is not, at the end
  have fin : ∀ {listed : Array Bool} {a : Act} {w : World} {r : Rho} (fuel : Nat), U ops.size listed ≤ fuel → Mid base ops pre rs t0 m0 mp r0 w0 listed a w r → (∀ k, k < pre.length → listed.getD k false = true) → wpAny P .any ops Q fuel listed a w := by
    intro listed a w r fuel hU hM hall
    have hL : ∀ j, listed.getD j false = decide (j < pre.length) := by
      intro j
      cases h : listed.getD j false with
      | true => rw [decide_eq_true (hM.low j h)]
      | false =>
        by_cases hj : j < pre.length
        · rw [hall j hj] at h; cases h
        · rw [decide_eq_false hj]
    refine done fuel listed a w r hM.size hL hU ⟨hM.mr.mr, hM.ext, ?_, hM.fr, hM.own, hM.sz, hM.os, hM.tape, hM.output⟩ ?_ hM.defers
    · obtain ⟨g, hg⟩ := mAt_prefix (rs := rs) (m := m0) (Nat.zero_le pre.length)
      rw [hmp.2.2, mAt_zero] at hg
      rw [hg]; simp
    · have hlen : tp.length = a.tmps.toList.length := by
        rw [← hmp.2.1, tAt_length]; simpa using hM.tsz.symm
      refine .of_get hlen fun x v v' hv hv' => ?_
      have hx : x < t0.length := by
        have := (List.getElem?_eq_some_iff.1 hv).1
        rw [← hmp.2.1, tAt_length] at this; exact this
      have e1 : tp.getD x undef = v := by simp [List.getD_eq_getElem?_getD, hv]
      have e2 : a.tmps.getD x undef = v' := by
        have : a.tmps[x]? = some v' := by simpa using hv'
        simp [Array.getD_eq_getD_getElem?, this]
      rw [← e1, ← e2, ← hmp.2.1]
      by_cases hex : ∃ (j : Nat) (l : LInstr), pre[j]? = some l ∧ l.dst = some x
      · obtain ⟨j, l, hl, hd⟩ := hex
        have hj := (List.getElem?_eq_some_iff.1 hl).1
        obtain ⟨vj, g, h1, h2, h3, _⟩ := htr.at hl
        rw [tAt_this hj hl h1 hd (fun j' l' h1 h2 hl' e => by have := hB j j' l l' x hl hl' hd e; omega) hx]
        exact (hM.tnew j l vj g x (hall j hj) hl h1 hd hx).mono (restr_le _ _)
      · rw [tAt_other fun i l hi hl e => hex ⟨i, l, hl, e⟩]
        exact (hM.told x fun j l _ hl e => hex ⟨j, l, hl, e⟩).mono (restr_le _ _)
  intro fuel
  induction fuel with
  | zero =>
    intro listed a w r hU hM
    refine fin 0 hU hM fun k hk => ?_
    cases h : listed.getD k false with
    | true => rfl
    | false => have := U_pos (n := ops.size) (by omega : k < ops.size) h; omega
  | succ fuel ih =>
    intro listed a w r hU hM
    by_cases hall : ∀ k, k < pre.length → listed.getD k false = true
    · exact fin (fuel + 1) hU hM hall
    unfold wpAny
    -- something can run
    have hex : ∃ k, k < pre.length ∧ listed.getD k false = false ∧ ∀ i, i < k → listed.getD i false = true := by
      have : ∃ k, k < pre.length ∧ listed.getD k false = false := by
        by_cases h : ∃ k, k < pre.length ∧ listed.getD k false = false
        · exact h
        · exfalso
          refine hall fun k hk => ?_
          cases h' : listed.getD k false with
          | true => rfl
          | false => exact absurd ⟨k, hk, h'⟩ h
      obtain ⟨k, h1, h2⟩ := this
      induction k using Nat.strongRecOn with
      | _ k ihk =>
        by_cases h : ∃ i, i < k ∧ listed.getD i false = false
        · obtain ⟨i, h3, h4⟩ := h
          exact ihk i h3 (by omega) h4
        · refine ⟨k, h1, h2, fun i hi => ?_⟩
          cases h' : listed.getD i false with
          | true => rfl
          | false => exact absurd ⟨i, hi, h'⟩ h
    refine ⟨fun h => ?_, fun k hk => ?_⟩
    · obtain ⟨k, h1, h2, h3⟩ := hex
      have hk : k < ops.size := by omega
      have : k ∈ Region.ready .any ops listed := by
        refine mem_ready.2 ⟨?_, ops[k], by simp [hk], ?_⟩
        · simpa [Array.getD_eq_getD_getElem?, hM.size, hk] using h2
        · intro e he hb
          refine h3 _ (hF k _ ?_)
          simp only [directsAt, Array.getElem?_eq_getElem hk, directs, List.mem_map, List.mem_filter]
          exact ⟨e, ⟨by simpa using he, hb⟩, rfl⟩
      rw [h] at this; cases this
    · obtain ⟨h1, o', ho', hedges⟩ := mem_ready.1 hk
      have hklt : k < ops.size := (Array.getElem?_eq_some_iff.1 ho').1
      have hkf : listed.getD k false = false := by
        simpa [Array.getD_eq_getD_getElem?, hM.size, hklt] using h1
      have hdir : ∀ i ∈ directsAt ops k, listed.getD i false = true := by
        intro i hi
        simp only [directsAt, ho', directs, List.mem_map, List.mem_filter] at hi
        obtain ⟨e, ⟨he, hb⟩, rfl⟩ := hi
        exact hedges e (by simpa using he) hb
      have hkp : k < pre.length := by
        rcases Nat.lt_or_ge k pre.length with h | h
        · exact h
        · exfalso
          refine hall fun i hi => ?_
          exact downs_sub (ops := ops) (L := fun j => listed.getD j false = true) hM.down k _ hdir i (hC k hklt h i (by omega))
      obtain ⟨li, hli⟩ : ∃ li, pre[k]? = some li := ⟨pre[k], by simp [hkp]⟩
      obtain ⟨o, ho, hc⟩ := hrel k li hli
      obtain ⟨hok, hlo, hdst⟩ := cInstr_some hc
      obtain ⟨v, g, hrs, hmk, htk, hcase⟩ := htr.at hli
      -- what it reads
      have hread : ∀ x, x ∈ readsOf li o → VR (restr r (mAt rs m0 k).length) ((tAt pre rs t0 k).getD x undef) (a.tmps.getD x undef) := by
        intro x hx
        by_cases hxl : x < t0.length
        · by_cases hex : ∃ (j : Nat) (l : LInstr), pre[j]? = some l ∧ l.dst = some x
          · obtain ⟨j, l, hl, hd⟩ := hex
            have hjd := hA k o li x j l ho hli hx hl hd
            have hjk := hF k j hjd
            obtain ⟨vj, gj, h1, _⟩ := htr.at hl
            rw [tAt_this hjk hl h1 hd (fun j' l' h1 h2 hl' e => by have := hB j j' l l' x hl hl' hd e; omega) hxl]
            refine (hM.tnew j l vj gj x (hdir j hjd) hl h1 hd hxl).mono (restr_mono r ?_)
            obtain ⟨g', hg⟩ := mAt_prefix (rs := rs) (m := m0) (k := j + 1) (l := k) (by omega)
            rw [hg]; simp
          · rw [tAt_other fun i l hi hl e => hex ⟨i, l, hl, e⟩]
            refine (hM.told x fun j l _ hl e => hex ⟨j, l, hl, e⟩).mono (restr_mono r ?_)
            obtain ⟨g', hg⟩ := mAt_prefix (rs := rs) (m := m0) (Nat.zero_le k)
            rw [hg, mAt_zero]; simp
        · have e1 : (tAt pre rs t0 k).getD x undef = undef := by
            rw [List.getD_eq_getElem?_getD, List.getElem?_eq_none (by rw [tAt_length]; omega)]; rfl
          have e2 : a.tmps.getD x undef = undef := by
            rw [Array.getD_eq_getD_getElem?, Array.getElem?_eq_none (by rw [hM.tsz]; omega)]; rfl
          rw [e1, e2]; exact .undef
      have hops : ∀ x ∈ o.op.operands.toList, VR (restr r (mAt rs m0 k).length) (evL (tAt pre rs t0 k) x) (a.eval x) := by
        intro x hx
        have hxo := List.all_eq_true.1 hok x hx
        cases x with
        | tmp i => exact hread i (List.mem_append_left _ (List.mem_filterMap.2 ⟨.tmp i, hx, rfl⟩))
        | const v => exact .base (flatB_rel hxo)
        | global g => simp [okO] at hxo
        | func f => exact .base (.cell (.func (f := []) (c := []) .nil .nil))
      have hwant := wanted_rel' (a := a) (r := restr r (mAt rs m0 k).length) (t := tAt pre rs t0 k) hc fun i b hg => hread i (List.mem_append_right _ (by simp [hg]))
      obtain ⟨g2, hg2⟩ := mAt_prefix (rs := rs) (m := m0) (k := k + 1) (l := pre.length) (by omega)
      rw [hmp.2.2, hmk] at hg2
      have hsz : ∀ b, (listed.setIfInBounds k true).getD b false = if b = k then true else listed.getD b false := by
        intro b
        by_cases e : k = b
        · subst e; simp [hM.size, hklt]
        · rw [getD_set_ne false e, if_neg (by omega)]
      -- the next stand
      have next : ∀ (v' : Value) (w' : World) (r2 : Rho), VR r2 v v' → Stp base (restr r (mAt rs m0 k).length) (mAt rs m0 k) w r2 (mAt rs m0 k ++ g) w' → wpAny P .any ops Q fuel (listed.setIfInBounds k true) (a.put o.dst v') w' := by
        intro v' w' r2 hv hs
        obtain ⟨s1, s2, s3, s4⟩ := hM.mr.step hg2 (fun i hi => levOf_le hi) (fun i h1 h2 => by rw [← hmk]; exact levOf_at h1 (by rw [hmk]; exact h2)) (fun i h1 h2 => hM.none k hkp hkf i h1 (by rw [hmk]; exact h2)) hs
        generalize hr' : mix r r2 (mAt rs m0 k).length (mAt rs m0 k ++ g).length = r' at s1 s3 s4
        have hup : r.le r' := by
          intro i x hi
          rw [← hr']
          unfold mix
          split
          · rename_i hc'
            rw [hM.none k hkp hkf i hc'.1 (by rw [hmk]; exact hc'.2)] at hi; cases hi
          · exact hi
        have hupr : ∀ L, (restr r L).le (restr r' L) := by
          intro L i x hi
          have := hup i x (restr_le _ _ _ _ hi)
          unfold restr; rw [if_pos (restr_dom hi)]; exact this
        have hm0 : m0.length ≤ (mAt rs m0 k).length := by
          obtain ⟨g', hg⟩ := mAt_prefix (rs := rs) (m := m0) (Nat.zero_le k)
          rw [hg, mAt_zero]; simp
        refine ih _ _ _ r' (by have := U_set hM.size hklt hkf; omega) ⟨by simpa using hM.size, ?_, ?_, s1, ?_, ?_, ?_, Nat.le_trans hM.sz hs.size, hs.os.trans hM.os, hs.tape.trans hM.tape, hs.output.trans hM.output, ?_, put_defers _ _ hM.defers, by rw [size_put]; exact hM.tsz, ?_, ?_⟩
        · intro j hj
          rw [hsz] at hj
          split at hj
          · rename_i e; omega
          · exact hM.low j hj
        · intro j hj i hi
          rw [hsz] at hj ⊢
          split at hj
          · rename_i e; subst e
            rw [hdir i hi]; simp
          · rw [hM.down j hj i hi]; simp
        · intro i hi
          rw [← hr']; unfold mix
          rw [if_neg (by omega)]; exact hM.ext i hi
        · intro b hb hn
          rw [s2 b (Nat.lt_of_lt_of_le hb hM.sz) fun ho => hn (hM.own b hb ho)]
          exact hM.fr b hb hn
        · intro b hb ho
          exact hM.own b hb (s3 b (Nat.lt_of_lt_of_le hb hM.sz) ho)
        · intro q hq hqf i h1 h2
          rw [hsz] at hqf
          split at hqf
          · cases hqf
          · rename_i hqk
            rw [← hr']; unfold mix
            rw [if_neg ?_]
            · exact hM.none q hq hqf i h1 h2
            · rintro ⟨h3, h4⟩
              rw [← hmk] at h4
              rcases Nat.lt_or_ge q k with h | h
              · obtain ⟨g', hg⟩ := mAt_prefix (rs := rs) (m := m0) (k := q + 1) (l := k) (by omega)
                rw [hg] at h3; simp at h3; omega
              · obtain ⟨g', hg⟩ := mAt_prefix (rs := rs) (m := m0) (k := k + 1) (l := q) (by omega)
                rw [hg] at h1; simp at h1; omega
        · intro x hx
          have hxk : o.dst ≠ some x := by
            rw [← hdst]
            exact hx k li (by rw [hsz]; simp) hli
          rw [get_put hxk]
          refine (hM.told x fun j l hj hl => hx j l ?_ hl).mono (hupr _)
          rw [hsz]; rw [hj]; simp
        · intro j l vj gj x hj hl hrj hd hx
          rw [hsz] at hj
          by_cases hjk : j = k
          · subst hjk
            rw [hli] at hl; simp at hl; subst hl
            rw [hrs] at hrj; simp at hrj; obtain ⟨rfl, rfl⟩ := hrj
            rw [← hdst, hd, get_put_same (by rw [hM.tsz]; exact hx), hmk, s4]
            exact hv
          · rw [if_neg hjk] at hj
            have hxk : o.dst ≠ some x := by
              rw [← hdst]
              intro e
              exact hjk (hB j k l li x hl hli hd e)
            rw [get_put hxk]
            exact (hM.tnew j l vj gj x hj hl hrj hd hx).mono (hupr _)
      unfold wpOp
      simp only [ho, hwant]
      have hpart := hM.mr.part (m1 := mAt rs m0 k) (g := g ++ g2) (by rw [hg2]; simp) (fun i hi => levOf_le hi)
      rcases hcase with ⟨hw, hx⟩ | ⟨hw, rfl, rfl⟩
      · simp only [hw, if_true]
        left
        have hg := cop_sound (t := tAt pre rs t0 k) (a := a) hlo hpart hops hx
        refine gives_wp hg ?_
        rintro v' w' ⟨v1, m', r2, ⟨rfl, rfl⟩, hv, hs⟩
        exact next v' w' r2 hv hs
      · simp only [hw, Bool.false_eq_true, if_false]
        exact next undef w _ .undef (by simpa using Stp.refl hpart)

end Go.Lg
