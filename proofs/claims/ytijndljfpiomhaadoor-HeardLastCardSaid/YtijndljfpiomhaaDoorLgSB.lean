/- A statement whose order is left open, in which fresh variables are made beside calls: they are read as made ahead of all else. -/
import Derived.Test.YtijndljfpiomhaaDoorLgSA
namespace Go.Lg
set_option linter.unusedVariables false
set_option linter.unusedSimpArgs false

variable {P : Program} {base p : Nat}

theorem AR.flat {r : Rho} {v v' : Value} (hf : flatA v = true) (h : AR r v v') : v' = v := by
  cases h <;> first | rfl | (simp [flatA] at hf; done)
theorem CR.flat {r r' : Rho} {v v' : Value} (hf : flatA v = true) (h : CR r v v') : CR r' v v' := by
  cases h with
  | atom h => rw [h.flat hf]; exact .atom (flatA_rel hf)
  | func _ _ => simp [flatA] at hf
/-- A block that stands in the memory, and is made only now. -/
theorem MR.place {r r' : Rho} {m : Mem} {w w' : World} {q T b : Nat} {cs : List Value} {xs : Nat × Nat × Nat} (h : MR base r m w) (hq : r q = none) (hm : m[q]? = some ⟨cs, T, 1, 0, .own⟩) (hf : cs.all flatA = true)
    (hs : Stp base r m w r' (m ++ [⟨cs, T, 1, 0, .own⟩]) w') (hp : r' m.length = some (b, xs)) :
    MR base (fun i => if i = q then r' m.length else r i) m w' ∧ r.le (fun i => if i = q then r' m.length else r i) ∧ (∀ b, b < w.heap.size → Own (fun i => if i = q then r' m.length else r i) m b → Own r m b) := by
  have hql : q < m.length := (List.getElem?_eq_some_iff.mp hm).1
  have hle : r.le (fun i => if i = q then r' m.length else r i) := by
    intro i x hx
    show (if i = q then r' m.length else r i) = some x
    rw [if_neg (by rintro rfl; rw [hq] at hx; cases hx)]
    exact hx
  have hnew : (m ++ [(⟨cs, T, 1, 0, .own⟩ : Blk)])[m.length]? = some ⟨cs, T, 1, 0, .own⟩ := by simp
  refine ⟨⟨?_, ?_, ?_, hs.mr.base⟩, hle, ?_⟩
  · intro i x hx
    replace hx : (if i = q then r' m.length else r i) = some x := hx
    split at hx
    · rename_i e; rw [e]; exact hql
    · exact h.dom i x hx
  · intro i k b d t z hk hi
    replace hi : (if i = q then r' m.length else r i) = some (b, d, t, z) := hi
    split at hi
    · rename_i e
      subst e
      rw [hm] at hk
      simp only [Option.some.injEq] at hk
      subst hk
      have hb := hs.mr.blk m.length _ b d t z hnew hi
      unfold Bears at hb ⊢
      simp only at hb ⊢
      obtain ⟨a0, az, c, fz, a1, at', a2, a3, a4⟩ := hb
      refine ⟨a0, az, c, fz, a1, at', a2, fun j v hv => ?_, a4⟩
      obtain ⟨v', e', q'⟩ := a3 j v hv
      exact ⟨v', e', q'.flat (List.all_eq_true.1 hf v (List.mem_of_getElem? hv))⟩
    · rename_i hne
      have hlt := h.dom i _ hi
      have hb := h.blk i k b d t z hk hi
      have hb2 := hs.mr.blk i k b d t z (by rw [List.getElem?_append_left hlt]; exact hk) (by rw [hs.ext i hlt]; exact hi)
      refine Bears.transfer (p := r) (q := r') ?_ hb hb2
      intro j x y hx hy
      have hjl := h.dom j x hx
      rw [hs.ext j hjl] at hy
      show (if j = q then r' m.length else r j) = some y
      rw [if_neg (by rintro rfl; rw [hq] at hx; cases hx)]
      exact hy
  · intro i j k l b x y hi hj hki hlj hri hrj
    replace hri : (if i = q then r' m.length else r i) = some (b, x) := hri
    replace hrj : (if j = q then r' m.length else r j) = some (b, y) := hrj
    split at hri <;> split at hrj
    · omega
    · rename_i h1 h2
      have hlt := h.dom j _ hrj
      have := hs.mr.inj m.length j _ l b x y hnew (by rw [List.getElem?_append_left hlt]; exact hj) rfl hlj hri (by rw [hs.ext j hlt]; exact hrj)
      omega
    · rename_i h1 h2
      have hlt := h.dom i _ hri
      have := hs.mr.inj m.length i _ k b y x hnew (by rw [List.getElem?_append_left hlt]; exact hi) rfl hki hrj (by rw [hs.ext i hlt]; exact hri)
      omega
    · exact h.inj i j k l b x y hi hj hki hlj hri hrj
  · rintro b' hb' ⟨i, k, x, hk, hl, hi⟩
    replace hi : (if i = q then r' m.length else r i) = some (b', x) := hi
    split at hi
    · exact hs.own b' hb' ⟨m.length, _, x, hnew, rfl, hi⟩
    · exact ⟨i, k, x, hk, hl, hi⟩
theorem MR.more {r : Rho} {m g : Mem} {w : World} (h : MR base r m w) : MR base r (m ++ g) w := by
  refine ⟨fun i x hx => by have := h.dom i x hx; simp; omega, fun i k b d t z hk hi => ?_, fun i j k l b x y hi hj hki hlj hri hrj => ?_, h.base⟩
  · rw [List.getElem?_append_left (h.dom i _ hi)] at hk
    exact h.blk i k b d t z hk hi
  · rw [List.getElem?_append_left (h.dom i _ hri)] at hi
    rw [List.getElem?_append_left (h.dom j _ hrj)] at hj
    exact h.inj i j k l b x y hi hj hki hlj hri hrj
theorem Stp.more {r : Rho} {m g : Mem} {w : World} (h : MR base r m w) : Stp base r m w r (m ++ g) w := by
  refine ⟨h.more, fun _ _ => rfl, by simp, fun _ _ _ => rfl, ?_, Nat.le_refl _, rfl, rfl, rfl⟩
  rintro b _ ⟨i, k, x, hk, hl, hi⟩
  rw [List.getElem?_append_left (h.dom i _ hi)] at hk
  exact ⟨i, k, x, hk, hl, hi⟩
theorem MR.nowhere {r : Rho} {m : Mem} {w : World} (h : MR base r m w) {i : Nat} (hi : m.length ≤ i) : r i = none := by
  cases hr : r i with
  | none => rfl
  | some x => have := h.dom i x hr; omega

/-- Floats leave the pointers to fresh variables as they are. -/
theorem LFl_self {D : Nat → Prop} {is : List LInstr} : ∀ {K : List Value → Mem → Prop} {t : List Value} {m : Mem}, (∀ i ∈ is, isCh i.op = false) → (∀ i ∈ is, ∀ d, D d → i.dst = some d → ∃ T cs, i = ⟨some d, none, .zeroF T cs (.tmp d)⟩) → LFl P is K t m →
    ∃ t2, K t2 m ∧ t2.length = t.length ∧ (∀ x, (∀ i ∈ is, i.dst ≠ some x) → t2.getD x undef = t.getD x undef) ∧ ∀ d, D d → t2.getD d undef = t.getD d undef := by
  induction is with
  | nil => intro K t m _ _ h; exact ⟨t, h, rfl, fun _ _ => rfl, fun _ _ => rfl⟩
  | cons i is ih =>
    intro K t m hn hd h
    have key : ∀ v, (∀ d, D d → i.dst = some d → v = t.getD d undef) → LFl P is K (putL t i.dst v) m → ∃ t2, K t2 m ∧ t2.length = t.length ∧ (∀ x, (∀ j ∈ i :: is, j.dst ≠ some x) → t2.getD x undef = t.getD x undef) ∧ ∀ d, D d → t2.getD d undef = t.getD d undef := by
      intro v hvd hv
      obtain ⟨t2, h1, h2, h3, h4⟩ := ih (fun j hj => hn j (by simp [hj])) (fun j hj => hd j (by simp [hj])) hv
      refine ⟨t2, h1, by rw [h2, putL_len], fun x hx => ?_, fun d hD => ?_⟩
      · rw [h3 x fun j hj => hx j (by simp [hj]), putL_get (hx i (by simp))]
      · rw [h4 d hD]
        by_cases e : i.dst = some d
        · rw [hvd d hD e, e]
          simp only [putL]
          by_cases hl : d < t.length
          · simp [List.getD_eq_getElem?_getD, hl]
          · simp [List.getD_eq_getElem?_getD, hl]
        · rw [putL_get e]
    by_cases e : ∃ d, D d ∧ i.dst = some d
    · obtain ⟨d, hD, e⟩ := e
      obtain ⟨T, cs, rfl⟩ := hd i (by simp) d hD e
      have h1 := h.1 rfl
      simp only [LExec, lrun] at h1
      split at h1
      · rename_i q hq
        obtain ⟨_, _, h3⟩ := h1
        refine key _ (fun d' _ e' => ?_) h3
        have : d = d' := by simpa using e'
        rw [← hq, ← this]; rfl
      · exact h1.elim
    · have hno : ∀ (v : Value) d, D d → i.dst = some d → v = t.getD d undef := fun v d hD e' => absurd ⟨d, hD, e'⟩ e
      cases hw : wantedL t i.guard with
      | true =>
        obtain ⟨v, m', ⟨rfl, h1⟩, _⟩ := LExec_det (ch_noCall (hn i (by simp))) _ (h.1 hw)
        exact key v (hno v) h1
      | false => exact key undef (hno undef) (h.2 hw)

/-- Where the run of such a statement stands. -/
structure AtZ (P : Program) (base : Nat) (L0 : Nat) (Z : Nat → Nat) (p : Nat) (ops : Array Oper) (is : List LInstr) (K : List Value → Mem → Prop) (c : Nat) (listed : Array Bool) (t : List Value) (m : Mem) (r : Rho) (a : Act) (w : World) : Prop where
  size : listed.size = ops.size
  down : ∀ j, listed.getD j false = true → ∀ i ∈ directsAt ops j, listed.getD i false = true
  cle : c ≤ (chIdx p is).length
  ch : ∀ i k, (chIdx p is)[i]? = some k → (listed.getD k false = true ↔ i < c)
  mr : MR base r m w
  same : LSame P (pickL is (peAt p ops is (chIdx p is) c)) t m
  rest : Rest P p ops is K c t m
  tmps : ∀ x, (∀ j li, listed.getD j false = false → is[j]? = some li → isChAt p j li = false → levCh ops (chIdx p is) j ≤ c → li.dst ≠ some x) → VR r (t.getD x undef) (a.tmps.getD x undef)
  tsz : a.tmps.size = t.length
  defers : a.defers = []
  pl : ∀ d k T cs, is[k]? = some ⟨some d, none, .zeroF T cs (.tmp d)⟩ → listed.getD k false = false → t.getD d undef = .pointer (some ⟨Z d, 0, none⟩) ∧ r (Z d) = none ∧ L0 ≤ Z d ∧ Z d < m.length

theorem AtZ.sound {ops : Array Oper} {is : List LInstr} (hlen : is.length = ops.size) (hrel : ∀ (k : Nat) (li : LInstr), is[k]? = some li → ∃ o, ops[k]? = some o ∧ ((cInstr0 P ops o = some li ∧ isZF li.op = false) ∨ ∃ (d : Nat) (T : TypeId) (cs : List Value), li = ⟨some d, none, .zeroF T cs (.tmp d)⟩ ∧ cInstr0 P ops o = some ⟨some d, none, .zero T cs⟩ ∧ cs.all flatA = true ∧ isChAt p k li = false)) (ok : ChOK p ops is) {Z : Nat → Nat} (zinj : ∀ (d k : Nat) (T : TypeId) (cs : List Value) (d' k' : Nat) (T' : TypeId) (cs' : List Value), is[k]? = some ⟨some d, none, .zeroF T cs (.tmp d)⟩ → is[k']? = some ⟨some d', none, .zeroF T' cs' (.tmp d')⟩ → Z d = Z d' → d = d')
    {K : List Value → Mem → Prop} {Q : Exit → Act → World → Prop} {r0 : Rho} {m0 : Mem} {w0 : World}
    (done : ∀ t' m' r' a' w', K t' m' → F2 (VR r') t' a'.tmps.toList → a'.defers = [] → Stp base r0 m0 w0 r' m' w' → Q .normal a' w') :
    ∀ (fuel c : Nat) (listed : Array Bool) (t : List Value) (m : Mem) (r : Rho) (a : Act) (w : World), U ops.size listed ≤ fuel → AtZ P base m0.length Z p ops is K c listed t m r a w → Stp base r0 m0 w0 r m w → wpAny P .any ops Q fuel listed a w := by
  -- an unlisted operation of which all that it waits for is listed
  have hready : ∀ {listed : Array Bool} {k : Nat}, listed.size = ops.size → k < ops.size → listed.getD k false = false → (∀ i, i < k → listed.getD i false = true) → k ∈ Region.ready .any ops listed := by
    intro listed k hsz hk h1 h2
    refine mem_ready.2 ⟨?_, ops[k], by simp [hk], ?_⟩
    · simpa [Array.getD_eq_getD_getElem?, hsz, hk] using h1
    · intro e he hb
      refine h2 _ (ok.back k _ ?_)
      simp only [directsAt, Array.getElem?_eq_getElem hk, directs, List.mem_map, List.mem_filter]
      exact ⟨e, ⟨by simpa using he, hb⟩, rfl⟩
  have fin : ∀ {c : Nat} {listed : Array Bool} {t : List Value} {m : Mem} {r : Rho} {a : Act} {w : World}, AtZ P base m0.length Z p ops is K c listed t m r a w → Stp base r0 m0 w0 r m w → (∀ k, k < ops.size → listed.getD k false = true) → Q .normal a w := by
    intro c listed t m r a w hA hs hall
    have hc : c = (chIdx p is).length := by
      have := hA.cle
      rcases Nat.lt_or_ge c (chIdx p is).length with h | h
      · have h1 : (chIdx p is)[c]? = some (chIdx p is)[c] := List.getElem?_eq_getElem h
        obtain ⟨x, hx, _⟩ := mem_chIdx.1 (List.getElem_mem h)
        have h2 := (hA.ch c _ h1).1 (hall _ (by rw [← hlen]; exact (List.getElem?_eq_some_iff.1 hx).1))
        omega
      · omega
    have hr := hA.rest
    unfold Rest at hr
    rw [List.getElem?_eq_none (by omega)] at hr
    refine done t m r a w hr ?_ hA.defers hs
    refine .of_get (by simpa using hA.tsz.symm) fun x v v' hv hv' => ?_
    have e1 : t.getD x undef = v := by simp [List.getD_eq_getElem?_getD, hv]
    have e2 : a.tmps.getD x undef = v' := by
      have : a.tmps[x]? = some v' := by simpa using hv'
      simp [Array.getD_eq_getD_getElem?, this]
    rw [← e1, ← e2]
    refine hA.tmps x fun j li hj hli _ _ => ?_
    rw [hall j (by rw [← hlen]; exact (List.getElem?_eq_some_iff.1 hli).1)] at hj
    cases hj
  intro fuel
  induction fuel with
  | zero =>
    intro c listed t m r a w hU hA hs
    have hall : ∀ k, k < ops.size → listed.getD k false = true := by
      intro k hk
      cases h : listed.getD k false with
      | true => rfl
      | false => have := U_pos (n := ops.size) hk h; omega
    unfold wpAny
    refine ⟨?_, fin hA hs hall⟩
    rw [List.eq_nil_iff_forall_not_mem]
    intro j hj
    obtain ⟨h1, o, ho, _⟩ := mem_ready.1 hj
    have hlt : j < ops.size := (Array.getElem?_eq_some_iff.1 ho).1
    have := hall j hlt
    simp [Array.getD_eq_getD_getElem?, hA.size, hlt] at h1 this
    rw [h1] at this; cases this
  | succ fuel ih =>
    intro c listed t m r a w hU hA hs
    unfold wpAny
    constructor
    · intro hr
      refine fin hA hs fun k hk => ?_
      cases h : listed.getD k false with
      | true => rfl
      | false =>
        exfalso
        have : ∃ k, k < ops.size ∧ listed.getD k false = false ∧ ∀ i, i < k → listed.getD i false = true := by
          induction k using Nat.strongRecOn with
          | _ k ihk =>
            by_cases hx : ∃ i, i < k ∧ listed.getD i false = false
            · obtain ⟨i, h3, h4⟩ := hx
              exact ihk i h3 (by omega) h4
            · refine ⟨k, hk, h, fun i hi => ?_⟩
              cases h' : listed.getD i false with
              | true => rfl
              | false => exact absurd ⟨i, hi, h'⟩ hx
        obtain ⟨k, h1, h2, h3⟩ := this
        have := hready hA.size h1 h2 h3
        rw [hr] at this; cases this
    · intro k hk
      obtain ⟨h1, o', ho', hedges⟩ := mem_ready.1 hk
      have hklt : k < ops.size := (Array.getElem?_eq_some_iff.1 ho').1
      have hkf : listed.getD k false = false := by
        simpa [Array.getD_eq_getD_getElem?, hA.size, hklt] using h1
      have hdir : ∀ i ∈ directsAt ops k, listed.getD i false = true := by
        intro i hi
        simp only [directsAt, ho', directs, List.mem_map, List.mem_filter] at hi
        obtain ⟨e, ⟨he, hb⟩, rfl⟩ := hi
        exact hedges e (by simpa using he) hb
      have hdns : ∀ i ∈ dnsAt ops k, listed.getD i false = true := fun i hi => downs_sub (ops := ops) (L := fun j => listed.getD j false = true) hA.down k _ hdir i hi
      obtain ⟨li, hli⟩ : ∃ li, is[k]? = some li := ⟨is[k]'(by omega), List.getElem?_eq_getElem (by omega)⟩
      obtain ⟨o, ho, hc⟩ := hrel k li hli
      have hread : ∀ x, x ∈ readsOf li o → VR r (t.getD x undef) (a.tmps.getD x undef) := by
        intro x hx
        refine hA.tmps x fun j l hj hl hfl _ hd => ?_
        have := hdir j (ok.reads k o li x j l ho hli hx hl hd hfl)
        rw [hj] at this; cases this
      have hsz : ∀ b, (listed.setIfInBounds k true).getD b false = if b = k then true else listed.getD b false := by
        intro b
        by_cases e : k = b
        · subst e; simp [hA.size, hklt]
        · rw [getD_set_ne false e, if_neg (by omega)]
      have hU' : U ops.size (listed.setIfInBounds k true) ≤ fuel := by have := U_set hA.size hklt hkf; omega
      have hdown' : ∀ j, (listed.setIfInBounds k true).getD j false = true → ∀ i ∈ directsAt ops j, (listed.setIfInBounds k true).getD i false = true := by
        intro j hj i hi
        rw [hsz] at hj ⊢
        split at hj
        · rename_i e; subst e; rw [hdir i hi]; simp
        · rw [hA.down j hj i hi]; simp
      rcases hc with ⟨hc, hnz⟩ | ⟨d, T, cs, rfl, hc, hflat, hch⟩
      rotate_left
      · obtain ⟨p1, p2, p3, p4⟩ := hA.pl d k T cs hli hkf
        obtain ⟨hok, hlo, hdst⟩ := cInstr_some hc
        have hops : ∀ x ∈ o.op.operands.toList, VR r (evL t x) (a.eval x) := by
          intro x hx
          have hxo := List.all_eq_true.1 hok x hx
          cases x with
          | tmp i => exact hread i (List.mem_append_left _ (List.mem_filterMap.2 ⟨.tmp i, hx, rfl⟩))
          | const v => exact .base (flatB_rel hxo)
          | global g => simp [okO] at hxo
          | func f => exact .base (.cell (.func (f := []) (c := []) .nil .nil))
        have hwant := wanted_rel' (a := a) (r := r) (t := t) hc fun i b hg => by cases hg
        have hlev : levCh ops (chIdx p is) k ≤ c := lev_le fun p kp hp hpm => (hA.ch p kp hp).1 (hdns kp hpm)
        have hpe : (⟨some d, none, .zeroF T cs (.tmp d)⟩ : LInstr) ∈ pickL is (peAt p ops is (chIdx p is) c) := by
          refine mem_pickL (List.mem_filter.2 ⟨mem_flIdx.2 ⟨_, hli, hch⟩, ?_⟩) hli
          simp only [Bool.and_eq_true]
          refine ⟨Nat.ble_eq_true_of_le hlev, ?_⟩
          cases c with
          | zero => rfl
          | succ c =>
            simp only
            cases hq : (chIdx p is)[c]? with
            | none => rfl
            | some kc =>
              simp only [Bool.not_eq_true', List.contains_eq_mem, decide_eq_false_iff_not]
              intro hm
              have h1 := (hA.ch c kc hq).2 (by omega)
              have := downs_sub (ops := ops) (L := fun j => listed.getD j false = true) hA.down kc _ (hA.down kc h1) k hm
              rw [hkf] at this; cases this
        have hre := (LSame_at hA.same hpe).1 rfl
        have hev : evL t (.tmp d) = .pointer (some ⟨Z d, 0, none⟩) := p1
        simp only [LExec, lrun, hev] at hre
        obtain ⟨hmz, _⟩ := hre
        have hwt : Region.wanted o (yielded ops a.tmps) = true := hwant
        unfold wpOp
        simp only [ho, hwt, if_true]
        left
        refine gives_wp (cop_sound (t := t) (a := a) (K := fun v m' => v = .pointer (some ⟨m.length, 0, none⟩) ∧ m' = m ++ [⟨cs, T, 1, 0, .own⟩]) hlo hA.mr hops ⟨rfl, rfl⟩) ?_
        rintro v' w' ⟨v, m', r', ⟨rfl, rfl⟩, hv, hst⟩
        obtain ⟨b, dd, tt, zz, hp, rfl⟩ := hv.ptr_inv
        obtain ⟨hmr, hle, hown⟩ := hA.mr.place p2 hmz hflat hst hp
        refine ih c _ t m _ _ w' hU' ⟨by simpa using hA.size, hdown', hA.cle, ?_, hmr, hA.same, hA.rest, ?_, by rw [size_put]; exact hA.tsz, put_defers _ _ hA.defers, ?_⟩ ?_
        · intro q kq hq
          rw [hsz, if_neg, hA.ch q kq hq]
          intro e; subst e
          obtain ⟨l, hl, hlc⟩ := mem_chIdx.1 (List.mem_of_getElem? hq)
          rw [hli] at hl; cases hl; rw [hch] at hlc; cases hlc
        · intro x hx
          by_cases hxd : d = x
          · subst hxd
            rw [← hdst]
            by_cases hxs : d < a.tmps.size
            · rw [get_put_same hxs, p1]
              exact .atom (.ptr (show (if Z d = Z d then r' m.length else r (Z d)) = _ by rw [if_pos rfl]; exact hp))
            · exfalso
              have : ¬ d < t.length := by rw [← hA.tsz]; exact hxs
              rw [List.getD_eq_getElem?_getD, List.getElem?_eq_none (by omega)] at p1
              cases p1
          · rw [get_put (by rw [← hdst]; simpa using hxd)]
            refine (hA.tmps x fun j l hj hl hlc hlv => ?_).mono hle
            by_cases e : j = k
            · subst e; rw [hli] at hl; cases hl; simpa using hxd
            · exact hx j l (by rw [hsz, if_neg e]; exact hj) hl hlc hlv
        · intro d' k' T' cs' hz' hl'
          rw [hsz] at hl'
          split at hl'
          · cases hl'
          · rename_i hkk
            obtain ⟨q1, q2, q3, q4⟩ := hA.pl d' k' T' cs' hz' hl'
            refine ⟨q1, ?_, q3, q4⟩
            show (if Z d' = Z d then r' m.length else r (Z d')) = none
            rw [if_neg]
            · exact q2
            · intro e
              have := zinj d' k' T' cs' d k T cs hz' hli e
              subst this
              exact hkk (ok.dsts k' k _ _ d' hz' hli rfl rfl)
        · refine ⟨hmr, fun i hi => ?_, hs.len, fun b hb hn => ?_, fun b hb ho => ?_, Nat.le_trans hs.size hst.size, hst.os.trans hs.os, hst.tape.trans hs.tape, hst.output.trans hs.output⟩
          · show (if i = Z d then r' m.length else r i) = r0 i
            rw [if_neg (by omega)]
            exact hs.ext i hi
          · rw [hst.fr b (Nat.lt_of_lt_of_le hb hs.size) fun ho => hn (hs.own b hb ho)]
            exact hs.fr b hb hn
          · exact hs.own b hb (hown b (Nat.lt_of_lt_of_le hb hs.size) ho)
      obtain ⟨hok, hlo, hdst⟩ := cInstr_some hc
      have hops : ∀ x ∈ o.op.operands.toList, VR r (evL t x) (a.eval x) := by
        intro x hx
        have hxo := List.all_eq_true.1 hok x hx
        cases x with
        | tmp i => exact hread i (List.mem_append_left _ (List.mem_filterMap.2 ⟨.tmp i, hx, rfl⟩))
        | const v => exact .base (flatB_rel hxo)
        | global g => simp [okO] at hxo
        | func f => exact .base (.cell (.func (f := []) (c := []) .nil .nil))
      have hwant := wanted_rel' (a := a) (r := r) (t := t) hc fun i b hg => hread i (List.mem_append_right _ (by simp [hg]))
      unfold wpOp
      simp only [ho, hwant]
      cases hch : isChAt p k li with
      | true =>
        -- the chain's next
        have hkm : k ∈ chIdx p is := mem_chIdx.2 ⟨li, hli, hch⟩
        obtain ⟨i, hik, hi⟩ := List.getElem_of_mem hkm
        have hi' : (chIdx p is)[i]? = some k := by rw [← hi]; exact List.getElem?_eq_getElem hik
        have hic : i = c := by
          have hge : ¬ i < c := fun h => by have := (hA.ch i k hi').2 h; rw [hkf] at this; cases this
          rcases Nat.lt_or_ge c i with h | h
          · have hcl : c < (chIdx p is).length := by omega
            have hcm := List.getElem_mem hcl
            have hlt : (chIdx p is)[c] < k := by
              have := List.pairwise_iff_getElem.1 (chIdx_sorted is) c i hcl hik h
              rw [hi] at this; exact this
            have := hdns _ (ok.total _ hcm k hkm hlt)
            have := (hA.ch c _ (List.getElem?_eq_getElem hcl)).1 this
            omega
          · omega
        subst hic
        have hr := hA.rest
        unfold Rest at hr
        rw [hi'] at hr
        simp only [hli] at hr
        have next : ∀ (v v' : Value) (m' : Mem) (r' : Rho) (w' : World), LChain P (pickL is (flAt p ops is (chIdx p is) (chIdx p is).length)) (pickL is (peAt p ops is (chIdx p is) (chIdx p is).length)) (stepsFrom p ops is (chIdx p is) (i + 1) ((chIdx p is).drop (i + 1))) K (putL t li.dst v) m' →
            VR r' v v' → Stp base r m w r' m' w' → wpAny P .any ops Q fuel (listed.setIfInBounds k true) (a.put o.dst v') w' := by
          intro v v' m' r' w' hL hv hst
          obtain ⟨t2, ⟨h2, h3⟩, hl2, hx2, hz2⟩ := LFl_self (D := fun d => ∃ (k : Nat) (T : TypeId) (cs : List Value), is[k]? = some (⟨some d, none, .zeroF T cs (.tmp d)⟩ : LInstr)) (fun j hj => by
            obtain ⟨q, hq, hqj⟩ := pickL_mem hj
            obtain ⟨l, hl, hlc⟩ := mem_flIdx.1 (List.mem_filter.1 hq).1
            rw [hqj] at hl; cases hl; exact isChAt_f hlc) (fun j hj d hD hjd => by
            obtain ⟨q, hq, hqj⟩ := pickL_mem hj
            obtain ⟨kz, T, cs, hz⟩ := hD
            have := ok.dsts q kz j _ d hqj hz hjd rfl
            subst this
            rw [hqj] at hz; cases hz
            exact ⟨T, cs, rfl⟩) (chain_open (by omega) hL)
          refine ih (i + 1) _ t2 m' r' _ w' hU' ⟨by simpa using hA.size, hdown', by omega, ?_, hst.mr, h2, h3, ?_, ?_, put_defers _ _ hA.defers, ?_⟩ (hs.trans hst)
          · intro q kq hq
            rw [hsz]
            by_cases e : kq = k
            · subst e
              have hql := (List.getElem?_eq_some_iff.1 hq).1
              have : q = i := by
                rcases Nat.lt_trichotomy q i with h | h | h
                · have := List.pairwise_iff_getElem.1 (chIdx_sorted is) q i hql hik h
                  rw [hi, (List.getElem?_eq_some_iff.1 hq).2] at this; omega
                · exact h
                · have := List.pairwise_iff_getElem.1 (chIdx_sorted is) i q hik hql h
                  rw [hi, (List.getElem?_eq_some_iff.1 hq).2] at this; omega
              simp; omega
            · rw [if_neg e, hA.ch q kq hq]
              constructor
              · omega
              · intro h
                rcases Nat.lt_or_ge q i with h' | h'
                · exact h'
                · have : q = i := by omega
                  subst this
                  rw [hi'] at hq; cases hq; exact absurd rfl e
          · intro x hx
            by_cases hxd : li.dst = some x
            · -- what it sets itself
              have hnf : ∀ j ∈ pickL is (flAt p ops is (chIdx p is) (i + 1)), j.dst ≠ some x := by
                intro j hj hjd
                obtain ⟨q, hq, hqj⟩ := pickL_mem hj
                obtain ⟨l, hl, hlc⟩ := mem_flIdx.1 (List.mem_filter.1 hq).1
                rw [hqj] at hl; cases hl
                have := ok.dsts q k j li x hqj hli hjd hxd
                subst this
                rw [hqj] at hli; cases hli
                rw [hlc] at hch; cases hch
              rw [hx2 x hnf, ← hdst, hxd]
              by_cases hxs : x < a.tmps.size
              · rw [get_put_same hxs]
                have : (putL t (some x) v).getD x undef = v := by
                  have : x < t.length := by rw [← hA.tsz]; exact hxs
                  simp [putL, List.getD_eq_getElem?_getD, this]
                rw [this]; exact hv
              · have e1 : (putL t (some x) v).getD x undef = undef := by
                  have : ¬ x < t.length := by rw [← hA.tsz]; exact hxs
                  rw [List.getD_eq_getElem?_getD, List.getElem?_eq_none (by simp [putL]; omega)]; rfl
                have e2 : (a.put (some x) v').tmps.getD x undef = undef := by
                  rw [Array.getD_eq_getD_getElem?, Array.getElem?_eq_none (by rw [size_put]; omega)]; rfl
                rw [e1, e2]; exact .undef
            · have hnf : ∀ j ∈ pickL is (flAt p ops is (chIdx p is) (i + 1)), j.dst ≠ some x := by
                intro j hj
                obtain ⟨q, hq, hqj⟩ := pickL_mem hj
                obtain ⟨hq1, hq2⟩ := List.mem_filter.1 hq
                obtain ⟨l, hl, hlc⟩ := mem_flIdx.1 hq1
                rw [hqj] at hl; cases hl
                have hlev : levCh ops (chIdx p is) q = i + 1 := by simpa using hq2
                refine hx q j ?_ hqj hlc (by omega)
                rw [hsz]
                split
                · rename_i e; subst e; rw [hqj] at hli; cases hli; rw [hlc] at hch; cases hch
                · cases hql : listed.getD q false with
                  | false => rfl
                  | true =>
                    exfalso
                    have : levCh ops (chIdx p is) q ≤ i := lev_le fun p kp hp hpm => by
                      refine (hA.ch p kp hp).1 ?_
                      exact downs_sub (ops := ops) (L := fun j => listed.getD j false = true) hA.down q _ (hA.down q hql) kp hpm
                    omega
              rw [hx2 x hnf, putL_get hxd, get_put (by rw [← hdst]; exact hxd)]
              refine (hA.tmps x fun j l hj hl hlc hlev => hx j l ?_ hl hlc (by omega)).mono (hst.le hA.mr)
              rw [hsz]
              split
              · rename_i e; subst e; rw [hl] at hli; cases hli; rw [hlc] at hch; cases hch
              · exact hj
          · rw [size_put, hl2, putL_len]; exact hA.tsz
          · intro d kz T cs hz hlz
            rw [hsz] at hlz
            split at hlz
            · cases hlz
            · rename_i hkk
              obtain ⟨p1, p2, p3, p4⟩ := hA.pl d kz T cs hz hlz
              have hnd : li.dst ≠ some d := fun e => hkk (ok.dsts kz k _ _ d hz hli rfl e)
              exact ⟨by rw [hz2 d ⟨kz, T, cs, hz⟩, putL_get hnd]; exact p1, by rw [hst.ext _ p4]; exact p2, p3, Nat.lt_of_lt_of_le p4 hst.len⟩
        cases hw : wantedL t li.guard with
        | true =>
          simp only [if_true]
          left
          refine gives_wp (cop_sound (t := t) (a := a) hlo hA.mr hops (hr.1 hw)) ?_
          rintro v' w' ⟨v, m', r', hK, hv, hst⟩
          exact next v v' m' r' w' hK hv hst
        | false =>
          simp only [Bool.false_eq_true, if_false]
          exact next undef undef m r w (hr.2 hw) .undef (.refl hA.mr)
      | false =>
        have hlev : levCh ops (chIdx p is) k ≤ c := lev_le fun p kp hp hpm => (hA.ch p kp hp).1 (hdns kp hpm)
        have hpe : li ∈ pickL is (peAt p ops is (chIdx p is) c) := by
          refine mem_pickL (List.mem_filter.2 ⟨mem_flIdx.2 ⟨li, hli, hch⟩, ?_⟩) hli
          simp only [Bool.and_eq_true]
          refine ⟨Nat.ble_eq_true_of_le hlev, ?_⟩
          cases c with
          | zero => rfl
          | succ c =>
            simp only
            cases hq : (chIdx p is)[c]? with
            | none => rfl
            | some kc =>
              simp only [Bool.not_eq_true', List.contains_eq_mem, decide_eq_false_iff_not]
              intro hm
              have h1 := (hA.ch c kc hq).2 (by omega)
              have := downs_sub (ops := ops) (L := fun j => listed.getD j false = true) hA.down kc _ (hA.down kc h1) k hm
              rw [hkf] at this; cases this
        have hre := LSame_at hA.same hpe
        have next : ∀ (v v' : Value) (r' : Rho) (w' : World), dstIs t li.dst v → VR r' v v' → Stp base r m w r' m w' → wpAny P .any ops Q fuel (listed.setIfInBounds k true) (a.put o.dst v') w' := by
          intro v v' r' w' hd hv hst
          refine ih c _ t m r' _ w' hU' ⟨by simpa using hA.size, hdown', hA.cle, ?_, hst.mr, hA.same, hA.rest, ?_, by rw [size_put]; exact hA.tsz, put_defers _ _ hA.defers, ?_⟩ (hs.trans hst)
          · intro q kq hq
            rw [hsz, if_neg, hA.ch q kq hq]
            intro e; subst e
            obtain ⟨l, hl, hlc⟩ := mem_chIdx.1 (List.mem_of_getElem? hq)
            rw [hli] at hl; cases hl; rw [hch] at hlc; cases hlc
          · intro x hx
            by_cases hxd : li.dst = some x
            · rw [← hdst, hxd]
              rw [hxd] at hd
              by_cases hxs : x < a.tmps.size
              · rw [get_put_same hxs]
                have hd' : t.getD x undef = v := hd
                rw [hd']; exact hv
              · have e1 : t.getD x undef = undef := by
                  have : ¬ x < t.length := by rw [← hA.tsz]; exact hxs
                  rw [List.getD_eq_getElem?_getD, List.getElem?_eq_none (by omega)]; rfl
                have e2 : (a.put (some x) v').tmps.getD x undef = undef := by
                  rw [Array.getD_eq_getD_getElem?, Array.getElem?_eq_none (by rw [size_put]; omega)]; rfl
                rw [e1, e2]; exact .undef
            · rw [get_put (by rw [← hdst]; exact hxd)]
              refine (hA.tmps x fun j l hj hl hlc hlv => ?_).mono (hst.le hA.mr)
              by_cases e : j = k
              · subst e; rw [hli] at hl; cases hl; exact hxd
              · exact hx j l (by rw [hsz, if_neg e]; exact hj) hl hlc hlv
          · intro d kz T cs hz hlz
            rw [hsz] at hlz
            split at hlz
            · cases hlz
            · obtain ⟨p1, p2, p3, p4⟩ := hA.pl d kz T cs hz hlz
              exact ⟨p1, by rw [hst.ext _ p4]; exact p2, p3, p4⟩
        cases hw : wantedL t li.guard with
        | true =>
          simp only [if_true]
          left
          refine gives_wp (cop_sound (t := t) (a := a) hlo hA.mr hops (hre.1 hw)) ?_
          rintro v' w' ⟨v, m', r', ⟨rfl, hK⟩, hv, hst⟩
          exact next v v' r' w' hK hv hst
        | false =>
          simp only [Bool.false_eq_true, if_false]
          exact next undef undef r w (hre.2 hw) .undef (.refl hA.mr)

/-- Fresh variables' blocks are made. -/
theorem LOps_zeros : ∀ {zs : List LInstr} {K : List Value → Mem → Prop} {t : List Value} {m : Mem}, (∀ z ∈ zs, (zeroAt z).isSome = true) → zs.Pairwise (fun a b => a.dst ≠ b.dst) → LOps P zs K t m →
    ∃ t' g, K t' (m ++ g) ∧ t'.length = t.length ∧ (∀ x, (∀ z ∈ zs, z.dst ≠ some x) → t'.getD x undef = t.getD x undef) ∧
      (∀ z ∈ zs, ∀ d, z.dst = some d → d < t.length → ∃ i, t'.getD d undef = .pointer (some ⟨i, 0, none⟩) ∧ m.length ≤ i ∧ i < (m ++ g).length) ∧
      (∀ z ∈ zs, ∀ z' ∈ zs, ∀ d d' i, z.dst = some d → z'.dst = some d' → d < t.length → d' < t.length → t'.getD d undef = .pointer (some ⟨i, 0, none⟩) → t'.getD d' undef = .pointer (some ⟨i, 0, none⟩) → d = d')
  | [], K, t, m, _, _, h => ⟨t, [], by rw [List.append_nil]; exact h, rfl, fun _ _ => rfl, by simp, by simp⟩
  | z :: zs, K, t, m, hz, hp, h => by
    have hz0 := hz z (by simp)
    obtain ⟨zd, zg, zo⟩ := z
    obtain ⟨d0, T, cs, rfl, rfl, rfl⟩ : ∃ d0 T cs, zd = some d0 ∧ zg = none ∧ zo = .zero T cs := by
      unfold zeroAt at hz0
      split at hz0
      · rename_i e; cases e; exact ⟨_, _, _, rfl, rfl, rfl⟩
      · cases hz0
    have h1 : LOps P zs K (putL t (some d0) (.pointer (some ⟨m.length, 0, none⟩))) (m ++ [⟨cs, T, 1, 0, .own⟩]) := h.1 rfl
    obtain ⟨hp1, hp2⟩ := List.pairwise_cons.1 hp
    obtain ⟨t', g, k1, k2, k3, k4, k5⟩ := LOps_zeros (fun z hz' => hz z (by simp [hz'])) hp2 h1
    have hd0 : ∀ z ∈ zs, z.dst ≠ some d0 := fun z hz' e => hp1 z hz' e.symm
    have hself : d0 < t.length → t'.getD d0 undef = .pointer (some ⟨m.length, 0, none⟩) := fun hl => by
      rw [k3 d0 hd0]
      simp [putL, List.getD_eq_getElem?_getD, hl]
    rw [putL_len] at k2 k4 k5
    refine ⟨t', (⟨cs, T, 1, 0, .own⟩ : Blk) :: g, by simpa using k1, k2, fun x hx => ?_, ?_, ?_⟩
    · rw [k3 x fun z hz' => hx z (by simp [hz']), putL_get (hx _ List.mem_cons_self)]
    · intro z hz' d hd hl
      rcases List.mem_cons.1 hz' with rfl | hz'
      · have : d0 = d := by simpa using hd
        subst this
        exact ⟨m.length, hself hl, Nat.le_refl _, by simp⟩
      · obtain ⟨i, e1, e2, e3⟩ := k4 z hz' d hd hl
        simp only [List.length_append, List.length_cons, List.length_nil] at e2 e3 ⊢
        exact ⟨i, e1, by omega, by omega⟩
    · intro z hz1 z' hz2 d d' i hd hd' hl hl' e e'
      have later : ∀ z ∈ zs, ∀ d, z.dst = some d → d < t.length → t'.getD d undef = .pointer (some ⟨m.length, 0, none⟩) → False := by
        intro z hz' d hd hl e
        obtain ⟨i, e1, e2, e3⟩ := k4 z hz' d hd hl
        rw [e] at e1
        cases e1
        simp only [List.length_append, List.length_cons, List.length_nil] at e2
        omega
      rcases List.mem_cons.1 hz1 with rfl | hz1 <;> rcases List.mem_cons.1 hz2 with rfl | hz2
      · have h1 : d0 = d := by simpa using hd
        have h2 : d0 = d' := by simpa using hd'
        omega
      · have h1 : d0 = d := by simpa using hd
        subst h1
        rw [hself hl] at e
        cases e
        exact (later z' hz2 d' hd' hl' e').elim
      · have h1 : d0 = d' := by simpa using hd'
        subst h1
        rw [hself hl'] at e'
        cases e'
        exact (later z hz1 d hd hl e).elim
      · exact k5 z hz1 z' hz2 d d' i hd hd' hl hl' e e'

theorem zF_dst (i : LInstr) : (zF i).dst = i.dst := by
  unfold zF
  cases h : zeroAt i with
  | none => rfl
  | some x =>
    unfold zeroAt at h
    split at h
    · split at h
      · cases h; rfl
      · cases h
    · cases h
theorem zF_cases (i : LInstr) : (zeroAt i = none ∧ zF i = i) ∨ ∃ d T cs, i = ⟨some d, none, .zero T cs⟩ ∧ cs.all flatA = true ∧ zF i = ⟨some d, none, .zeroF T cs (.tmp d)⟩ := by
  cases h : zeroAt i with
  | none => left; exact ⟨rfl, by unfold zF; rw [h]⟩
  | some x =>
    right
    have h0 := h
    unfold zeroAt at h
    split at h
    · split at h
      · rename_i hf
        refine ⟨_, _, _, rfl, hf, ?_⟩
        unfold zF; rw [h0]; cases h; rfl
      · cases h
    · cases h

theorem chainZ_sound {id : Nat} {ops : Array Oper} {l : LCode} (hc : cChainZ P p ops = some l) {Q : Exit → List Value → Mem → Prop} {t : List Value} {m : Mem} (h : LC P l Q t m) : LSem P (.region id ops true) Q t m := by
  unfold cChainZ at hc
  split at hc
  · rename_i is his
    split at hc
    · rename_i hcond
      simp only [Bool.and_eq_true] at hcond
      obtain ⟨⟨⟨⟨hfol, hok⟩, hbad⟩, hnz⟩, hlv⟩ := hcond
      simp only [Option.some.injEq] at hc
      subst hc
      have ok := chOK_spec hok
      have hrel0 := cInstrs_rel (ops := ops) 0 his (fun j o hj => by simpa using hj)
      have hlen0 : is.length = ops.size := by have := hrel0.length; simpa using this.symm
      have hlen : (is.map zF).length = ops.size := by rw [List.length_map]; exact hlen0
      have hrelI : ∀ (k : Nat) (li : LInstr), is[k]? = some li → ∃ o, ops[k]? = some o ∧ cInstr0 P ops o = some li := by
        intro k li hk
        obtain ⟨i, hi, o, ho, hco⟩ := hrel0.get' hk
        have hkl : k < ops.size := by have := (List.getElem?_eq_some_iff.1 hk).1; omega
        rw [List.getElem?_range' (by simpa using hkl)] at hi
        simp at hi
        subst hi
        refine ⟨o, by simpa using ho, ?_⟩
        rcases cInstr_or hco with hco | hco
        · exact hco
        · have := List.all_eq_true.1 hbad li (List.mem_of_getElem? hk)
          subst hco
          simp [isBad] at this
      have hselfI : ∀ (k d : Nat) (T : TypeId) (cs : List Value), (is.map zF)[k]? = some (⟨some d, none, .zeroF T cs (.tmp d)⟩ : LInstr) → is[k]? = some ⟨some d, none, .zero T cs⟩ ∧ isChAt p k (⟨some d, none, .zeroF T cs (.tmp d)⟩ : LInstr) = false ∧ levCh ops (chIdx p (is.map zF)) k = 0 := by
        intro k d T cs hk
        have hk0 := hk
        rw [List.getElem?_map] at hk
        obtain ⟨i, hi, e⟩ := Option.map_eq_some_iff.1 hk
        have hlt := (List.getElem?_eq_some_iff.1 hi).1
        have hl := List.all_eq_true.1 hlv k (List.mem_range.2 hlt)
        simp only [hk0, isZF, Bool.not_true, Bool.false_or, Bool.and_eq_true, Bool.not_eq_true', beq_iff_eq] at hl
        refine ⟨?_, hl.1, hl.2⟩
        rcases zF_cases i with ⟨_, h2⟩ | ⟨d', T', cs', rfl, _, h3⟩
        · rw [h2] at e
          have := List.all_eq_true.1 hnz i (List.mem_of_getElem? hi)
          rw [e] at this
          simp [isZF] at this
        · rw [h3] at e
          cases e
          exact hi
      have hrel : ∀ (k : Nat) (li : LInstr), (is.map zF)[k]? = some li → ∃ o, ops[k]? = some o ∧ ((cInstr0 P ops o = some li ∧ isZF li.op = false) ∨ ∃ (d : Nat) (T : TypeId) (cs : List Value), li = ⟨some d, none, .zeroF T cs (.tmp d)⟩ ∧ cInstr0 P ops o = some ⟨some d, none, .zero T cs⟩ ∧ cs.all flatA = true ∧ isChAt p k li = false) := by
        intro k li hk
        have hk0 := hk
        rw [List.getElem?_map] at hk
        obtain ⟨i, hi, e⟩ := Option.map_eq_some_iff.1 hk
        obtain ⟨o, ho, hco⟩ := hrelI k i hi
        rcases zF_cases i with ⟨_, h2⟩ | ⟨d', T', cs', rfl, hf, h3⟩
        · rw [h2] at e
          subst e
          have := List.all_eq_true.1 hnz i (List.mem_of_getElem? hi)
          exact ⟨o, ho, .inl ⟨hco, by simpa using this⟩⟩
        · rw [h3] at e
          subst e
          exact ⟨o, ho, .inr ⟨d', T', cs', rfl, hco, hf, (hselfI k d' T' cs' hk0).2.1⟩⟩
      have hpw : (zsOf is).Pairwise (fun a b => a.dst ≠ b.dst) := by
        have h0 : is.Pairwise (fun a b => ∀ x, a.dst = some x → b.dst ≠ some x) := by
          rw [List.pairwise_iff_getElem]
          intro i j hi hj hij x hx hx'
          have h1 : (is.map zF)[i]? = some (zF is[i]) := by rw [List.getElem?_map, List.getElem?_eq_getElem hi]; rfl
          have h2 : (is.map zF)[j]? = some (zF is[j]) := by rw [List.getElem?_map, List.getElem?_eq_getElem hj]; rfl
          have := ok.dsts i j _ _ x h1 h2 (by rw [zF_dst]; exact hx) (by rw [zF_dst]; exact hx')
          omega
        have h1 := h0.filter (fun i => (zeroAt i).isSome)
        refine h1.imp_of_mem ?_
        intro a b ha hb hab e
        have hz := (List.mem_filter.1 ha).2
        rcases zF_cases a with ⟨h2, _⟩ | ⟨d', T', cs', rfl, _, _⟩
        · rw [h2] at hz; cases hz
        · exact hab d' rfl e.symm
      intro base r w a hm ht hd
      refine wp_region_any hfol ?_
      have hdr := Stp.drew hm
      have hfalse : ∀ j, (Array.replicate ops.size false).getD j false = false := by
        intro j
        simp [Array.getD_eq_getD_getElem?, Array.getElem?_replicate]
        split <;> rfl
      simp only [LC, thenL] at h
      obtain ⟨t1, g, k1, k2, k3, k4, k5⟩ := LOps_zeros (fun z hz => (List.mem_filter.1 hz).2) hpw h
      obtain ⟨t2, ⟨h2, h3⟩, hl2, hx2, hz2⟩ := LFl_self (D := fun d => ∃ (k : Nat) (T : TypeId) (cs : List Value), (is.map zF)[k]? = some (⟨some d, none, .zeroF T cs (.tmp d)⟩ : LInstr)) (fun j hj => by
        obtain ⟨q, hq, hqj⟩ := pickL_mem hj
        obtain ⟨l, hl, hlc⟩ := mem_flIdx.1 (List.mem_filter.1 hq).1
        rw [hqj] at hl; cases hl; exact isChAt_f hlc) (fun j hj d hD hjd => by
        obtain ⟨q, hq, hqj⟩ := pickL_mem hj
        obtain ⟨kz, T, cs, hz⟩ := hD
        have := ok.dsts q kz j _ d hqj hz hjd rfl
        subst this
        rw [hqj] at hz; cases hz
        exact ⟨T, cs, rfl⟩) (chain_open (c := 0) (Nat.zero_le _) (by exact k1))
      -- each fresh variable has its pointer
      have hfresh : ∀ (k d : Nat) (T : TypeId) (cs : List Value), (is.map zF)[k]? = some (⟨some d, none, .zeroF T cs (.tmp d)⟩ : LInstr) → d < t.length := by
        intro k d T cs hk
        obtain ⟨_, hch, hlev⟩ := hselfI k d T cs hk
        have hpe : (⟨some d, none, .zeroF T cs (.tmp d)⟩ : LInstr) ∈ pickL (is.map zF) (peAt p ops (is.map zF) (chIdx p (is.map zF)) 0) := by
          refine mem_pickL (List.mem_filter.2 ⟨mem_flIdx.2 ⟨_, hk, hch⟩, ?_⟩) hk
          rw [hlev]; rfl
        have hre := (LSame_at h2 hpe).1 rfl
        simp only [LExec, lrun] at hre
        split at hre
        · rename_i q hq
          rcases Nat.lt_or_ge d t.length with hl | hl
          · exact hl
          · exfalso
            have hq' : t2.getD d undef = _ := hq
            rw [List.getD_eq_getElem?_getD, List.getElem?_eq_none (by rw [hl2, k2]; exact hl)] at hq'
            cases hq'
        · exact hre.elim
      have hzmem : ∀ (k d : Nat) (T : TypeId) (cs : List Value), (is.map zF)[k]? = some (⟨some d, none, .zeroF T cs (.tmp d)⟩ : LInstr) → (⟨some d, none, .zero T cs⟩ : LInstr) ∈ zsOf is := by
        intro k d T cs hk
        have hi := (hselfI k d T cs hk).1
        refine List.mem_filter.2 ⟨List.mem_of_getElem? hi, ?_⟩
        rcases zF_cases (⟨some d, none, .zero T cs⟩ : LInstr) with ⟨h2, h3⟩ | ⟨d', T', cs', e, hf, _⟩
        · rw [List.getElem?_map, hi] at hk
          simp only [Option.map_some, Option.some.injEq, h3] at hk
          cases hk
        · cases e
          simp [zeroAt, hf]
      have hmz : MR base r (m ++ g) { w with drawn := w.drawn + 1 } := hdr.mr.more
      let Z : Nat → Nat := fun d => match t1.getD d undef with
        | .pointer (some ⟨i, _, _⟩) => i
        | _ => 0
      have hZ : ∀ d i, t1.getD d undef = .pointer (some ⟨i, 0, none⟩) → Z d = i := by
        intro d i e
        show (match t1.getD d undef with | .pointer (some ⟨i, _, _⟩) => i | _ => 0) = i
        rw [e]
      refine AtZ.sound (r0 := r) (m0 := m) (w0 := { w with drawn := w.drawn + 1 }) (Z := Z) hlen hrel ok ?_ (fun t' m' r' a' w' g1 g2 g3 g4 => ⟨t', m', r', g1, g2, g3, hdr.trans g4⟩) ops.size 0 _ t2 (m ++ g) r a _ ?_ ⟨by simp, fun j hj => (by rw [hfalse] at hj; cases hj), Nat.zero_le _, fun i k _ => (by rw [hfalse]; simp), hmz, h2, h3, ?_, ?_, hd, ?_⟩ (.more hdr.mr)
      · intro d k T cs d' k' T' cs' hk hk' e
        obtain ⟨i, e1, _, _⟩ := k4 _ (hzmem k d T cs hk) d rfl (hfresh k d T cs hk)
        obtain ⟨i', e1', _, _⟩ := k4 _ (hzmem k' d' T' cs' hk') d' rfl (hfresh k' d' T' cs' hk')
        rw [hZ d i e1, hZ d' i' e1'] at e
        subst e
        exact k5 _ (hzmem k d T cs hk) _ (hzmem k' d' T' cs' hk') d d' i rfl rfl (hfresh k d T cs hk) (hfresh k' d' T' cs' hk') e1 e1'
      · simp only [U]
        exact Nat.le_trans List.countP_le_length (by simp)
      · intro x hx
        have hnf : ∀ j ∈ pickL (is.map zF) (flAt p ops (is.map zF) (chIdx p (is.map zF)) 0), j.dst ≠ some x := by
          intro j hj
          obtain ⟨q, hq, hqj⟩ := pickL_mem hj
          obtain ⟨hq1, hq2⟩ := List.mem_filter.1 hq
          obtain ⟨l, hl, hlc⟩ := mem_flIdx.1 hq1
          rw [hqj] at hl; cases hl
          exact hx q j (hfalse q) hqj hlc (by have : levCh ops (chIdx p (is.map zF)) q = 0 := by simpa using hq2
                                              omega)
        rw [hx2 x hnf, k3 x]
        · exact ev_rel ht (.tmp x) rfl
        · intro z hz e
          obtain ⟨hz1, hz2⟩ := List.mem_filter.1 hz
          obtain ⟨k, hk, rfl⟩ := List.getElem_of_mem hz1
          rcases zF_cases is[k] with ⟨h4, _⟩ | ⟨d', T', cs', e1, hf, e2⟩
          · rw [h4] at hz2; cases hz2
          · have hkz : (is.map zF)[k]? = some ⟨some d', none, .zeroF T' cs' (.tmp d')⟩ := by rw [List.getElem?_map, List.getElem?_eq_getElem hk, Option.map_some, e2]
            obtain ⟨_, h5, h6⟩ := hselfI k d' T' cs' hkz
            rw [e1] at e
            exact hx k _ (hfalse k) hkz h5 (by omega) e
      · rw [hl2, k2]; have := ht.length; simpa using this.symm
      · intro d k T cs hk _
        obtain ⟨i, e1, e2, e3⟩ := k4 _ (hzmem k d T cs hk) d rfl (hfresh k d T cs hk)
        refine ⟨by rw [hz2 d ⟨k, T, cs, hk⟩, hZ d i e1]; exact e1, ?_, ?_, ?_⟩
        · rw [hZ d i e1]; exact hdr.mr.nowhere e2
        · rw [hZ d i e1]; exact e2
        · rw [hZ d i e1]; exact e3
    · simp at hc
  · simp at hc

end Go.Lg
