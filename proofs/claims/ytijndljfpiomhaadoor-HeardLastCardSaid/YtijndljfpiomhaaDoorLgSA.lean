/- A statement whose order is left open: a chain of operations, and others between that only read: whatever order is drawn, it comes to what the chain comes to. -/
import Derived.Test.YtijndljfpiomhaaDoorLgS
set_option linter.unusedVariables false
set_option linter.unusedSimpArgs false
namespace Go.Lg

variable {P : Program} {base p : Nat}

/-- Of what an operation that makes no call comes to there is one. -/
def noCall : LOp → Bool
  | .call _ _ => false
  | .callv _ _ => false
  | _ => true

def Det (E : (Value → Mem → Prop) → Prop) : Prop := ∀ K, E K → ∃ v m', K v m' ∧ E fun u m2 => u = v ∧ m2 = m'
theorem Det.one {v : Value} {m' : Mem} : Det fun K => K v m' := fun _ h => ⟨v, m', h, rfl, rfl⟩
theorem Det.false : Det fun _ => False := fun _ h => h.elim
theorem Det.and {A : Prop} {E : (Value → Mem → Prop) → Prop} (h : Det E) : Det fun K => A ∧ E K := fun K hk => let ⟨v, m', h1, h2⟩ := h K hk.2; ⟨v, m', h1, hk.1, h2⟩
theorem Det.opt {α : Type} {x : Option α} {E : α → (Value → Mem → Prop) → Prop} (h : ∀ a, Det (E a)) : Det fun K => optP x fun a => E a K := by
  rintro K ⟨a, e, hk⟩
  obtain ⟨v, m', h1, h2⟩ := h a K hk
  exact ⟨v, m', h1, a, e, h2⟩
theorem Det.cond {c : Bool} {E F : (Value → Mem → Prop) → Prop} (h : Det E) (k : Det F) : Det fun K => CondP c (E K) (F K) := by
  intro K hk
  cases c with
  | true => obtain ⟨v, m', h1, h2⟩ := h K (hk.1 rfl); exact ⟨v, m', h1, ⟨fun _ => h2, fun e => by cases e⟩⟩
  | false => obtain ⟨v, m', h1, h2⟩ := k K (hk.2 rfl); exact ⟨v, m', h1, ⟨fun e => (by cases e), fun _ => h2⟩⟩
theorem Det.ite {c : Prop} [Decidable c] {E F : (Value → Mem → Prop) → Prop} (h : Det E) (k : Det F) : Det fun K => if c then E K else F K := by
  intro K hk
  by_cases hc : c
  · simp only [if_pos hc] at hk ⊢; exact h K hk
  · simp only [if_neg hc] at hk ⊢; exact k K hk

theorem slK_det {m : Mem} {sz l h : Nat} {a : Option Addr} : Det fun K => slK m K sz l h a := by
  cases a with
  | none => exact Det.one
  | some q => exact Det.opt fun _ => Det.and Det.one

theorem putK_det {m : Mem} {v : Value} {b o : Nat} {new : List Value} : Det fun K => putK m K v b o new := Det.opt fun _ => Det.and Det.one
theorem usK_det {m : Mem} {T b o n : Nat} : Det fun K => usK m K T b o n := Det.opt fun _ => Det.opt fun _ => Det.and Det.one

theorem lrun_det {op : LOp} {ev : Operand → Value} {m : Mem} : Det (fun K => lrun op ev m K) := by
  cases op <;> simp only [lrun] <;> first
    | exact Det.one
    | exact Det.false
    | exact Det.and Det.one
    | exact Det.opt fun _ => Det.one
    | (split <;> first
        | exact Det.one
        | exact Det.false
        | exact Det.and Det.one
        | exact Det.cond Det.one Det.one
        | exact Det.opt fun _ => Det.one
        | exact Det.opt fun _ => Det.and Det.one
        | exact Det.and (Det.opt fun _ => Det.one)
        | exact Det.opt fun _ => Det.opt fun _ => Det.one
        | exact Det.opt fun _ => Det.opt fun _ => Det.opt fun _ => Det.and Det.one
        | exact Det.opt fun _ => Det.opt fun _ => slK_det
        | exact Det.opt fun _ => Det.opt fun _ => putK_det
        | exact Det.and usK_det
        | exact Det.ite Det.one putK_det)
    | (refine Det.opt fun _ => Det.opt fun _ => ?_; unfold apK; split <;> first
        | exact Det.and (Det.ite Det.one Det.one)
        | exact Det.opt fun _ => Det.and (Det.ite Det.one Det.one)
        | exact Det.false)

theorem LExec_eq {op : LOp} (h : noCall op = true) {ev : Operand → Value} {m : Mem} {K : Value → Mem → Prop} : LExec P op ev m K = lrun op ev m K := by
  cases op <;> first | rfl | (simp [noCall] at h; done)
theorem LExec_det {op : LOp} (h : noCall op = true) {ev : Operand → Value} {m : Mem} : Det (fun K => LExec P op ev m K) := by
  have : (fun K => LExec P op ev m K) = fun K => lrun op ev m K := funext fun K => LExec_eq h
  rw [this]; exact lrun_det


theorem ch_noCall {o : LOp} (h : isCh o = false) : noCall o = true := by cases o <;> first | rfl | (simp [isCh] at h; done)

theorem putL_get {t : List Value} {d : Option Nat} {v : Value} {x : Nat} (h : d ≠ some x) : (putL t d v).getD x undef = t.getD x undef := by
  cases d with
  | none => rfl
  | some d =>
    have : d ≠ x := fun e => h (by rw [e])
    simp [putL, List.getD_eq_getElem?_getD, List.getElem?_set_ne this]
theorem putL_len {t : List Value} {d : Option Nat} {v : Value} : (putL t d v).length = t.length := by
  cases d <;> simp [putL]

/-- What is only read is set without a change of the memory. -/
theorem LFl_run {is : List LInstr} : ∀ {K : List Value → Mem → Prop} {t : List Value} {m : Mem}, (∀ i ∈ is, isCh i.op = false) → LFl P is K t m →
    ∃ t2, K t2 m ∧ t2.length = t.length ∧ ∀ x, (∀ i ∈ is, i.dst ≠ some x) → t2.getD x undef = t.getD x undef := by
  induction is with
  | nil => intro K t m _ h; exact ⟨t, h, rfl, fun _ _ => rfl⟩
  | cons i is ih =>
    intro K t m hn h
    have key : ∀ v, LFl P is K (putL t i.dst v) m → ∃ t2, K t2 m ∧ t2.length = t.length ∧ ∀ x, (∀ j ∈ i :: is, j.dst ≠ some x) → t2.getD x undef = t.getD x undef := by
      intro v hv
      obtain ⟨t2, h1, h2, h3⟩ := ih (fun j hj => hn j (by simp [hj])) hv
      refine ⟨t2, h1, by rw [h2, putL_len], fun x hx => ?_⟩
      rw [h3 x fun j hj => hx j (by simp [hj]), putL_get (hx i (by simp))]
    cases hw : wantedL t i.guard with
    | true =>
      obtain ⟨v, m', ⟨rfl, h1⟩, _⟩ := LExec_det (ch_noCall (hn i (by simp))) _ (h.1 hw)
      exact key v h1
    | false => exact key undef (h.2 hw)

theorem LSame_at {is : List LInstr} {t : List Value} {m : Mem} (h : LSame P is t m) {i : LInstr} (hi : i ∈ is) : CondP (wantedL t i.guard) (LExec P i.op (evL t) m fun v m' => m' = m ∧ dstIs t i.dst v) (dstIs t i.dst undef) := by
  induction is with
  | nil => simp at hi
  | cons j is ih =>
    rcases List.mem_cons.1 hi with rfl | hi
    · exact h.1
    · exact ih h.2 hi

theorem mem_pickL {is : List LInstr} {l : List Nat} {i : Nat} {li : LInstr} (hi : i ∈ l) (hl : is[i]? = some li) : li ∈ pickL is l := List.mem_filterMap.2 ⟨i, hi, hl⟩
theorem pickL_mem {is : List LInstr} {l : List Nat} {li : LInstr} (h : li ∈ pickL is l) : ∃ i ∈ l, is[i]? = some li := by
  obtain ⟨i, h1, h2⟩ := List.mem_filterMap.1 h; exact ⟨i, h1, h2⟩

theorem isChAt_f {i : Nat} {l : LInstr} (h : isChAt p i l = false) : isCh l.op = false := by
  unfold isChAt at h
  cases h' : isCh l.op with
  | false => rfl
  | true => rw [h'] at h; simp at h
theorem mem_chIdx {is : List LInstr} {i : Nat} : i ∈ chIdx p is ↔ ∃ li, is[i]? = some li ∧ isChAt p i li = true := by
  unfold chIdx
  rw [List.mem_filter, List.mem_range]
  constructor
  · rintro ⟨h1, h2⟩
    cases h : is[i]? with
    | none => rw [h] at h2; cases h2
    | some l => rw [h] at h2; exact ⟨l, rfl, h2⟩
  · rintro ⟨li, h1, h2⟩
    refine ⟨(List.getElem?_eq_some_iff.1 h1).1, ?_⟩
    rw [h1]; exact h2
theorem mem_flIdx {is : List LInstr} {i : Nat} : i ∈ flIdx p is ↔ ∃ li, is[i]? = some li ∧ isChAt p i li = false := by
  unfold flIdx
  rw [List.mem_filter, List.mem_range]
  constructor
  · rintro ⟨h1, h2⟩
    cases h : is[i]? with
    | none => rw [h] at h2; cases h2
    | some l => rw [h] at h2; exact ⟨l, rfl, by simpa using h2⟩
  · rintro ⟨li, h1, h2⟩
    refine ⟨(List.getElem?_eq_some_iff.1 h1).1, ?_⟩
    rw [h1]; simp [h2]

structure ChOK (p : Nat) (ops : Array Oper) (is : List LInstr) : Prop where
  back : ∀ j, ∀ i ∈ directsAt ops j, i < j
  reads : ∀ (k : Nat) (o : Oper) (li : LInstr) (x i : Nat) (l : LInstr), ops[k]? = some o → is[k]? = some li → x ∈ readsOf li o → is[i]? = some l → l.dst = some x → isChAt p i l = false → i ∈ directsAt ops k
  dsts : ∀ (i j : Nat) (l l' : LInstr) (x : Nat), is[i]? = some l → is[j]? = some l' → l.dst = some x → l'.dst = some x → i = j
  total : ∀ i ∈ chIdx p is, ∀ j ∈ chIdx p is, i < j → i ∈ dnsAt ops j

theorem chOK_spec {ops : Array Oper} {is : List LInstr} (h : chOK p ops is = true) : ChOK p ops is := by
  simp only [chOK, Bool.and_eq_true] at h
  obtain ⟨⟨⟨h1, h2⟩, h3⟩, h4⟩ := h
  refine ⟨?_, ?_, ?_, ?_⟩
  · intro j i hi
    by_cases hj : j < ops.size
    · have := List.all_eq_true.1 h1 j (List.mem_range.2 hj)
      simpa using List.all_eq_true.1 this i hi
    · simp [directsAt, Array.getElem?_eq_none (by omega : ops.size ≤ j)] at hi
  · intro k o li x i l ho hli hx hl hd hfl
    have hk := (List.getElem?_eq_some_iff.1 hli).1
    have := List.all_eq_true.1 h2 k (List.mem_range.2 hk)
    simp only [ho, hli] at this
    have := List.all_eq_true.1 this x hx
    have := List.all_eq_true.1 this i (List.mem_range.2 (List.getElem?_eq_some_iff.1 hl).1)
    simp only [hl, hd] at this
    simpa [hfl] using this
  · intro i j l l' x hl hl' hd hd'
    have := List.all_eq_true.1 h3 i (List.mem_range.2 (List.getElem?_eq_some_iff.1 hl).1)
    have := List.all_eq_true.1 this j (List.mem_range.2 (List.getElem?_eq_some_iff.1 hl').1)
    simp only [hl, hl', hd, hd'] at this
    simpa using this
  · intro i hi j hj hij
    have := List.all_eq_true.1 (List.all_eq_true.1 h4 i hi) j hj
    simp only [Bool.or_eq_true] at this
    rcases this with h | h
    · have hb : Nat.blt i j = true := by simp only [Nat.blt, Nat.ble_eq]; omega
      rw [hb] at h; cases h
    · simpa using h

theorem chIdx_sorted (is : List LInstr) : (chIdx p is).Pairwise (· < ·) := (List.pairwise_lt_range).filter _

/-- What stands behind the chain's first c operations, the floats of their levels evaluated. -/
def Rest (P : Program) (p : Nat) (ops : Array Oper) (is : List LInstr) (K : List Value → Mem → Prop) (c : Nat) (t : List Value) (m : Mem) : Prop :=
  match (chIdx p is)[c]? with
  | none => K t m
  | some k => match is[k]? with
    | some x => CondP (wantedL t x.guard) (LExec P x.op (evL t) m fun v m' => LChain P (pickL is (flAt p ops is (chIdx p is) (chIdx p is).length)) (pickL is (peAt p ops is (chIdx p is) (chIdx p is).length)) (stepsFrom p ops is (chIdx p is) (c + 1) ((chIdx p is).drop (c + 1))) K (putL t x.dst v) m')
        (LChain P (pickL is (flAt p ops is (chIdx p is) (chIdx p is).length)) (pickL is (peAt p ops is (chIdx p is) (chIdx p is).length)) (stepsFrom p ops is (chIdx p is) (c + 1) ((chIdx p is).drop (c + 1))) K (putL t x.dst undef) m)
    | none => False

theorem chain_open {ops : Array Oper} {is : List LInstr} {K : List Value → Mem → Prop} {c : Nat} {t : List Value} {m : Mem} (hc : c ≤ (chIdx p is).length)
    (h : LChain P (pickL is (flAt p ops is (chIdx p is) (chIdx p is).length)) (pickL is (peAt p ops is (chIdx p is) (chIdx p is).length)) (stepsFrom p ops is (chIdx p is) c ((chIdx p is).drop c)) K t m) :
    LFl P (pickL is (flAt p ops is (chIdx p is) c)) (fun t m => LSame P (pickL is (peAt p ops is (chIdx p is) c)) t m ∧ Rest P p ops is K c t m) t m := by
  rcases Nat.lt_or_ge c (chIdx p is).length with hlt | hge
  · have hk : (chIdx p is)[c]? = some (chIdx p is)[c] := List.getElem?_eq_getElem hlt
    obtain ⟨x, hx, _⟩ := mem_chIdx.1 (List.getElem_mem hlt)
    rw [List.drop_eq_getElem_cons hlt] at h
    simp only [stepsFrom, hx, LChain] at h
    refine LFl_mono (fun t m hh => ⟨hh.1, ?_⟩) h
    unfold Rest
    rw [hk]
    simp only [hx]
    exact hh.2
  · have e : c = (chIdx p is).length := by omega
    subst e
    rw [List.drop_eq_nil_of_le (Nat.le_refl _)] at h
    simp only [stepsFrom, LChain] at h
    refine LFl_mono (fun t m hh => ⟨hh.1, ?_⟩) h
    unfold Rest
    rw [List.getElem?_eq_none (Nat.le_refl _)]
    exact hh.2

/-- Where the run of such a statement stands. -/
structure At (P : Program) (base : Nat) (p : Nat) (ops : Array Oper) (is : List LInstr) (K : List Value → Mem → Prop) (c : Nat) (listed : Array Bool) (t : List Value) (m : Mem) (r : Rho) (a : Act) (w : World) : Prop where
  size : listed.size = ops.size
  down : ∀ j, listed.getD j false = true → ∀ i ∈ directsAt ops j, listed.getD i false = true
  cle : c ≤ (chIdx p is).length
  ch : ∀ i k, (chIdx p is)[i]? = some k → (listed.getD k false = true ↔ i < c)
  mr : MR base r m w
  same : LSame P (pickL is (peAt p ops is (chIdx p is) c)) t m
  rest : Rest P p ops is K c t m
  tmps : ∀ x, (∀ j li, listed.getD j false = false → is[j]? = some li → isChAt p j li = false → levCh ops (chIdx p is) j ≤ c → li.dst ≠ some x) → VR r (t.getD x undef) (a.tmps.getD x undef)
  tsz : a.tmps.size = t.length
  defers : a.defers = []

theorem lev_le {ops : Array Oper} {is : List LInstr} {c j : Nat} (hc : ∀ i k, (chIdx p is)[i]? = some k → k ∈ dnsAt ops j → i < c) : levCh ops (chIdx p is) j ≤ c := by
  unfold levCh
  rw [← List.take_append_drop c (chIdx p is), List.filter_append, List.length_append]
  have e : (List.drop c (chIdx p is)).filter (fun k => (dnsAt ops j).contains k) = [] := by
    rw [List.filter_eq_nil_iff]
    intro k hk hp
    obtain ⟨i, hi, rfl⟩ := List.getElem_of_mem hk
    have hi' : i < (chIdx p is).length - c := by simpa using hi
    have h1 : (chIdx p is)[c + i]? = some ((List.drop c (chIdx p is))[i]) := by
      rw [List.getElem_drop]
      exact List.getElem?_eq_getElem (by omega)
    have := hc _ _ h1 (by simpa using hp)
    omega
  rw [e]
  refine Nat.le_trans (Nat.le_of_eq (Nat.add_zero _)) (Nat.le_trans (List.length_filter_le _ _) ?_)
  simp; omega
theorem lev_ge {ops : Array Oper} {is : List LInstr} {c j k : Nat} (hk : (chIdx p is)[c]? = some k) (hm : k ∈ dnsAt ops j) (htot : ∀ i ∈ chIdx p is, ∀ j ∈ chIdx p is, i < j → i ∈ dnsAt ops j) (hcl : ∀ i k', (chIdx p is)[i]? = some k' → i ≤ c → k' ∈ dnsAt ops j) : c < levCh ops (chIdx p is) j := by
  unfold levCh
  have hlt := (List.getElem?_eq_some_iff.1 hk).1
  rw [← List.take_append_drop (c + 1) (chIdx p is), List.filter_append, List.length_append]
  have e : (List.take (c + 1) (chIdx p is)).filter (fun k => (dnsAt ops j).contains k) = List.take (c + 1) (chIdx p is) := by
    rw [List.filter_eq_self]
    intro k' hk'
    obtain ⟨i, hi, rfl⟩ := List.getElem_of_mem hk'
    have hi' : i < c + 1 := by simp at hi; omega
    have := hcl i ((List.take (c + 1) (chIdx p is))[i]) (by rw [List.getElem_take]; exact List.getElem?_eq_getElem (by omega)) (by omega)
    simpa using this
  rw [e]
  simp; omega

theorem At.sound {ops : Array Oper} {is : List LInstr} (hlen : is.length = ops.size) (hrel : ∀ (k : Nat) (li : LInstr), is[k]? = some li → ∃ o, ops[k]? = some o ∧ cInstr0 P ops o = some li) (ok : ChOK p ops is)
    {K : List Value → Mem → Prop} {Q : Exit → Act → World → Prop} {r0 : Rho} {m0 : Mem} {w0 : World}
    (done : ∀ t' m' r' a' w', K t' m' → F2 (VR r') t' a'.tmps.toList → a'.defers = [] → Stp base r0 m0 w0 r' m' w' → Q .normal a' w') :
    ∀ (fuel c : Nat) (listed : Array Bool) (t : List Value) (m : Mem) (r : Rho) (a : Act) (w : World), U ops.size listed ≤ fuel → At P base p ops is K c listed t m r a w → Stp base r0 m0 w0 r m w → wpAny P .any ops Q fuel listed a w := by
  -- an unlisted operation of which all that it waits for is listed
  have hready : ∀ {listed : Array Bool} {k : Nat}, listed.size = ops.size → k < ops.size → listed.getD k false = false → (∀ i, i < k → listed.getD i false = true) → k ∈ Region.ready .any ops listed := by
    intro listed k hsz hk h1 h2
    refine mem_ready.2 ⟨?_, ops[k], by simp [hk], ?_⟩
    · simpa [Array.getD_eq_getD_getElem?, hsz, hk] using h1
    · intro e he hb
      refine h2 _ (ok.back k _ ?_)
      simp only [directsAt, Array.getElem?_eq_getElem hk, directs, List.mem_map, List.mem_filter]
      exact ⟨e, ⟨by simpa using he, hb⟩, rfl⟩
  have fin : ∀ {c : Nat} {listed : Array Bool} {t : List Value} {m : Mem} {r : Rho} {a : Act} {w : World}, At P base p ops is K c listed t m r a w → Stp base r0 m0 w0 r m w → (∀ k, k < ops.size → listed.getD k false = true) → Q .normal a w := by
    intro c listed t m r a w hA hs hall
    have hc : c = (chIdx p is).length := by
      have := hA.cle
      rcases Nat.lt_or_ge c (chIdx p is).length with h | h
      · have h1 : (chIdx p is)[c]? = some (chIdx p is)[c] := List.getElem?_eq_getElem h
        obtain ⟨x, hx, _⟩ := mem_chIdx.1 (List.getElem_mem h)
        have h2 := (hA.ch c _ h1).1 (hall _ (by rw [← hlen]; exact (List.getElem?_eq_some_iff.1 hx).1))
        omega
      · omega
    have hr := hA.rest
    unfold Rest at hr
    rw [List.getElem?_eq_none (by omega)] at hr
    refine done t m r a w hr ?_ hA.defers hs
    refine .of_get (by simpa using hA.tsz.symm) fun x v v' hv hv' => ?_
    have e1 : t.getD x undef = v := by simp [List.getD_eq_getElem?_getD, hv]
    have e2 : a.tmps.getD x undef = v' := by
      have : a.tmps[x]? = some v' := by simpa using hv'
      simp [Array.getD_eq_getD_getElem?, this]
    rw [← e1, ← e2]
    refine hA.tmps x fun j li hj hli _ _ => ?_
    rw [hall j (by rw [← hlen]; exact (List.getElem?_eq_some_iff.1 hli).1)] at hj
    cases hj
  intro fuel
  induction fuel with
  | zero =>
    intro c listed t m r a w hU hA hs
    have hall : ∀ k, k < ops.size → listed.getD k false = true := by
      intro k hk
      cases h : listed.getD k false with
      | true => rfl
      | false => have := U_pos (n := ops.size) hk h; omega
    unfold wpAny
    refine ⟨?_, fin hA hs hall⟩
    rw [List.eq_nil_iff_forall_not_mem]
    intro j hj
    obtain ⟨h1, o, ho, _⟩ := mem_ready.1 hj
    have hlt : j < ops.size := (Array.getElem?_eq_some_iff.1 ho).1
    have := hall j hlt
    simp [Array.getD_eq_getD_getElem?, hA.size, hlt] at h1 this
    rw [h1] at this; cases this
  | succ fuel ih =>
    intro c listed t m r a w hU hA hs
    unfold wpAny
    constructor
    · intro hr
      refine fin hA hs fun k hk => ?_
      cases h : listed.getD k false with
      | true => rfl
      | false =>
        exfalso
        have : ∃ k, k < ops.size ∧ listed.getD k false = false ∧ ∀ i, i < k → listed.getD i false = true := by
          induction k using Nat.strongRecOn with
          | _ k ihk =>
            by_cases hx : ∃ i, i < k ∧ listed.getD i false = false
            · obtain ⟨i, h3, h4⟩ := hx
              exact ihk i h3 (by omega) h4
            · refine ⟨k, hk, h, fun i hi => ?_⟩
              cases h' : listed.getD i false with
              | true => rfl
              | false => exact absurd ⟨i, hi, h'⟩ hx
        obtain ⟨k, h1, h2, h3⟩ := this
        have := hready hA.size h1 h2 h3
        rw [hr] at this; cases this
    · intro k hk
      obtain ⟨h1, o', ho', hedges⟩ := mem_ready.1 hk
      have hklt : k < ops.size := (Array.getElem?_eq_some_iff.1 ho').1
      have hkf : listed.getD k false = false := by
        simpa [Array.getD_eq_getD_getElem?, hA.size, hklt] using h1
      have hdir : ∀ i ∈ directsAt ops k, listed.getD i false = true := by
        intro i hi
        simp only [directsAt, ho', directs, List.mem_map, List.mem_filter] at hi
        obtain ⟨e, ⟨he, hb⟩, rfl⟩ := hi
        exact hedges e (by simpa using he) hb
      have hdns : ∀ i ∈ dnsAt ops k, listed.getD i false = true := fun i hi => downs_sub (ops := ops) (L := fun j => listed.getD j false = true) hA.down k _ hdir i hi
      obtain ⟨li, hli⟩ : ∃ li, is[k]? = some li := ⟨is[k]'(by omega), List.getElem?_eq_getElem (by omega)⟩
      obtain ⟨o, ho, hc⟩ := hrel k li hli
      obtain ⟨hok, hlo, hdst⟩ := cInstr_some hc
      have hread : ∀ x, x ∈ readsOf li o → VR r (t.getD x undef) (a.tmps.getD x undef) := by
        intro x hx
        refine hA.tmps x fun j l hj hl hfl _ hd => ?_
        have := hdir j (ok.reads k o li x j l ho hli hx hl hd hfl)
        rw [hj] at this; cases this
      have hops : ∀ x ∈ o.op.operands.toList, VR r (evL t x) (a.eval x) := by
        intro x hx
        have hxo := List.all_eq_true.1 hok x hx
        cases x with
        | tmp i => exact hread i (List.mem_append_left _ (List.mem_filterMap.2 ⟨.tmp i, hx, rfl⟩))
        | const v => exact .base (flatB_rel hxo)
        | global g => simp [okO] at hxo
        | func f => exact .base (.cell (.func (f := []) (c := []) .nil .nil))
      have hwant := wanted_rel' (a := a) (r := r) (t := t) hc fun i b hg => hread i (List.mem_append_right _ (by simp [hg]))
      have hsz : ∀ b, (listed.setIfInBounds k true).getD b false = if b = k then true else listed.getD b false := by
        intro b
        by_cases e : k = b
        · subst e; simp [hA.size, hklt]
        · rw [getD_set_ne false e, if_neg (by omega)]
      have hU' : U ops.size (listed.setIfInBounds k true) ≤ fuel := by have := U_set hA.size hklt hkf; omega
      have hdown' : ∀ j, (listed.setIfInBounds k true).getD j false = true → ∀ i ∈ directsAt ops j, (listed.setIfInBounds k true).getD i false = true := by
        intro j hj i hi
        rw [hsz] at hj ⊢
        split at hj
        · rename_i e; subst e; rw [hdir i hi]; simp
        · rw [hA.down j hj i hi]; simp
      unfold wpOp
      simp only [ho, hwant]
      cases hch : isChAt p k li with
      | true =>
        -- the chain's next
        have hkm : k ∈ chIdx p is := mem_chIdx.2 ⟨li, hli, hch⟩
        obtain ⟨i, hik, hi⟩ := List.getElem_of_mem hkm
        have hi' : (chIdx p is)[i]? = some k := by rw [← hi]; exact List.getElem?_eq_getElem hik
        have hic : i = c := by
          have hge : ¬ i < c := fun h => by have := (hA.ch i k hi').2 h; rw [hkf] at this; cases this
          rcases Nat.lt_or_ge c i with h | h
          · have hcl : c < (chIdx p is).length := by omega
            have hcm := List.getElem_mem hcl
            have hlt : (chIdx p is)[c] < k := by
              have := List.pairwise_iff_getElem.1 (chIdx_sorted is) c i hcl hik h
              rw [hi] at this; exact this
            have := hdns _ (ok.total _ hcm k hkm hlt)
            have := (hA.ch c _ (List.getElem?_eq_getElem hcl)).1 this
            omega
          · omega
        subst hic
        have hr := hA.rest
        unfold Rest at hr
        rw [hi'] at hr
        simp only [hli] at hr
        have next : ∀ (v v' : Value) (m' : Mem) (r' : Rho) (w' : World), LChain P (pickL is (flAt p ops is (chIdx p is) (chIdx p is).length)) (pickL is (peAt p ops is (chIdx p is) (chIdx p is).length)) (stepsFrom p ops is (chIdx p is) (i + 1) ((chIdx p is).drop (i + 1))) K (putL t li.dst v) m' →
            VR r' v v' → Stp base r m w r' m' w' → wpAny P .any ops Q fuel (listed.setIfInBounds k true) (a.put o.dst v') w' := by
          intro v v' m' r' w' hL hv hst
          obtain ⟨t2, ⟨h2, h3⟩, hl2, hx2⟩ := LFl_run (fun j hj => by
            obtain ⟨q, hq, hqj⟩ := pickL_mem hj
            obtain ⟨l, hl, hlc⟩ := mem_flIdx.1 (List.mem_filter.1 hq).1
            rw [hqj] at hl; cases hl; exact isChAt_f hlc) (chain_open (by omega) hL)
          refine ih (i + 1) _ t2 m' r' _ w' hU' ⟨by simpa using hA.size, hdown', by omega, ?_, hst.mr, h2, h3, ?_, ?_, put_defers _ _ hA.defers⟩ (hs.trans hst)
          · intro q kq hq
            rw [hsz]
            by_cases e : kq = k
            · subst e
              have hql := (List.getElem?_eq_some_iff.1 hq).1
              have : q = i := by
                rcases Nat.lt_trichotomy q i with h | h | h
                · have := List.pairwise_iff_getElem.1 (chIdx_sorted is) q i hql hik h
                  rw [hi, (List.getElem?_eq_some_iff.1 hq).2] at this; omega
                · exact h
                · have := List.pairwise_iff_getElem.1 (chIdx_sorted is) i q hik hql h
                  rw [hi, (List.getElem?_eq_some_iff.1 hq).2] at this; omega
              simp; omega
            · rw [if_neg e, hA.ch q kq hq]
              constructor
              · omega
              · intro h
                rcases Nat.lt_or_ge q i with h' | h'
                · exact h'
                · have : q = i := by omega
                  subst this
                  rw [hi'] at hq; cases hq; exact absurd rfl e
          · intro x hx
            by_cases hxd : li.dst = some x
            · -- what it sets itself
              have hnf : ∀ j ∈ pickL is (flAt p ops is (chIdx p is) (i + 1)), j.dst ≠ some x := by
                intro j hj hjd
                obtain ⟨q, hq, hqj⟩ := pickL_mem hj
                obtain ⟨l, hl, hlc⟩ := mem_flIdx.1 (List.mem_filter.1 hq).1
                rw [hqj] at hl; cases hl
                have := ok.dsts q k j li x hqj hli hjd hxd
                subst this
                rw [hqj] at hli; cases hli
                rw [hlc] at hch; cases hch
              rw [hx2 x hnf, ← hdst, hxd]
              by_cases hxs : x < a.tmps.size
              · rw [get_put_same hxs]
                have : (putL t (some x) v).getD x undef = v := by
                  have : x < t.length := by rw [← hA.tsz]; exact hxs
                  simp [putL, List.getD_eq_getElem?_getD, this]
                rw [this]; exact hv
              · have e1 : (putL t (some x) v).getD x undef = undef := by
                  have : ¬ x < t.length := by rw [← hA.tsz]; exact hxs
                  rw [List.getD_eq_getElem?_getD, List.getElem?_eq_none (by simp [putL]; omega)]; rfl
                have e2 : (a.put (some x) v').tmps.getD x undef = undef := by
                  rw [Array.getD_eq_getD_getElem?, Array.getElem?_eq_none (by rw [size_put]; omega)]; rfl
                rw [e1, e2]; exact .undef
            · have hnf : ∀ j ∈ pickL is (flAt p ops is (chIdx p is) (i + 1)), j.dst ≠ some x := by
                intro j hj
                obtain ⟨q, hq, hqj⟩ := pickL_mem hj
                obtain ⟨hq1, hq2⟩ := List.mem_filter.1 hq
                obtain ⟨l, hl, hlc⟩ := mem_flIdx.1 hq1
                rw [hqj] at hl; cases hl
                have hlev : levCh ops (chIdx p is) q = i + 1 := by simpa using hq2
                refine hx q j ?_ hqj hlc (by omega)
                rw [hsz]
                split
                · rename_i e; subst e; rw [hqj] at hli; cases hli; rw [hlc] at hch; cases hch
                · cases hql : listed.getD q false with
                  | false => rfl
                  | true =>
                    exfalso
                    have : levCh ops (chIdx p is) q ≤ i := lev_le fun p kp hp hpm => by
                      refine (hA.ch p kp hp).1 ?_
                      exact downs_sub (ops := ops) (L := fun j => listed.getD j false = true) hA.down q _ (hA.down q hql) kp hpm
                    omega
              rw [hx2 x hnf, putL_get hxd, get_put (by rw [← hdst]; exact hxd)]
              refine (hA.tmps x fun j l hj hl hlc hlev => hx j l ?_ hl hlc (by omega)).mono (hst.le hA.mr)
              rw [hsz]
              split
              · rename_i e; subst e; rw [hl] at hli; cases hli; rw [hlc] at hch; cases hch
              · exact hj
          · rw [size_put, hl2, putL_len]; exact hA.tsz
        cases hw : wantedL t li.guard with
        | true =>
          simp only [if_true]
          left
          refine gives_wp (cop_sound (t := t) (a := a) hlo hA.mr hops (hr.1 hw)) ?_
          rintro v' w' ⟨v, m', r', hK, hv, hst⟩
          exact next v v' m' r' w' hK hv hst
        | false =>
          simp only [Bool.false_eq_true, if_false]
          exact next undef undef m r w (hr.2 hw) .undef (.refl hA.mr)
      | false =>
        have hlev : levCh ops (chIdx p is) k ≤ c := lev_le fun p kp hp hpm => (hA.ch p kp hp).1 (hdns kp hpm)
        have hpe : li ∈ pickL is (peAt p ops is (chIdx p is) c) := by
          refine mem_pickL (List.mem_filter.2 ⟨mem_flIdx.2 ⟨li, hli, hch⟩, ?_⟩) hli
          simp only [Bool.and_eq_true]
          refine ⟨Nat.ble_eq_true_of_le hlev, ?_⟩
          cases c with
          | zero => rfl
          | succ c =>
            simp only
            cases hq : (chIdx p is)[c]? with
            | none => rfl
            | some kc =>
              simp only [Bool.not_eq_true', List.contains_eq_mem, decide_eq_false_iff_not]
              intro hm
              have h1 := (hA.ch c kc hq).2 (by omega)
              have := downs_sub (ops := ops) (L := fun j => listed.getD j false = true) hA.down kc _ (hA.down kc h1) k hm
              rw [hkf] at this; cases this
        have hre := LSame_at hA.same hpe
        have next : ∀ (v v' : Value) (r' : Rho) (w' : World), dstIs t li.dst v → VR r' v v' → Stp base r m w r' m w' → wpAny P .any ops Q fuel (listed.setIfInBounds k true) (a.put o.dst v') w' := by
          intro v v' r' w' hd hv hst
          refine ih c _ t m r' _ w' hU' ⟨by simpa using hA.size, hdown', hA.cle, ?_, hst.mr, hA.same, hA.rest, ?_, by rw [size_put]; exact hA.tsz, put_defers _ _ hA.defers⟩ (hs.trans hst)
          · intro q kq hq
            rw [hsz, if_neg, hA.ch q kq hq]
            intro e; subst e
            obtain ⟨l, hl, hlc⟩ := mem_chIdx.1 (List.mem_of_getElem? hq)
            rw [hli] at hl; cases hl; rw [hch] at hlc; cases hlc
          · intro x hx
            by_cases hxd : li.dst = some x
            · rw [← hdst, hxd]
              rw [hxd] at hd
              by_cases hxs : x < a.tmps.size
              · rw [get_put_same hxs]
                have hd' : t.getD x undef = v := hd
                rw [hd']; exact hv
              · have e1 : t.getD x undef = undef := by
                  have : ¬ x < t.length := by rw [← hA.tsz]; exact hxs
                  rw [List.getD_eq_getElem?_getD, List.getElem?_eq_none (by omega)]; rfl
                have e2 : (a.put (some x) v').tmps.getD x undef = undef := by
                  rw [Array.getD_eq_getD_getElem?, Array.getElem?_eq_none (by rw [size_put]; omega)]; rfl
                rw [e1, e2]; exact .undef
            · rw [get_put (by rw [← hdst]; exact hxd)]
              refine (hA.tmps x fun j l hj hl hlc hlv => ?_).mono (hst.le hA.mr)
              by_cases e : j = k
              · subst e; rw [hli] at hl; cases hl; exact hxd
              · exact hx j l (by rw [hsz, if_neg e]; exact hj) hl hlc hlv
        cases hw : wantedL t li.guard with
        | true =>
          simp only [if_true]
          left
          refine gives_wp (cop_sound (t := t) (a := a) hlo hA.mr hops (hre.1 hw)) ?_
          rintro v' w' ⟨v, m', r', ⟨rfl, hK⟩, hv, hst⟩
          exact next v v' r' w' hK hv hst
        | false =>
          simp only [Bool.false_eq_true, if_false]
          exact next undef undef r w (hre.2 hw) .undef (.refl hA.mr)

theorem chain_sound {id : Nat} {ops : Array Oper} {l : LCode} (hc : cChain P p ops = some l) {Q : Exit → List Value → Mem → Prop} {t : List Value} {m : Mem} (h : LC P l Q t m) : LSem P (.region id ops true) Q t m := by
  unfold cChain at hc
  split at hc
  · rename_i is his
    split at hc
    · rename_i hcond
      simp only [Bool.and_eq_true] at hcond
      simp at hc
      subst hc
      have ok := chOK_spec hcond.1.2
      have hrel0 := cInstrs_rel (ops := ops) 0 his (fun j o hj => by simpa using hj)
      have hlen : is.length = ops.size := by have := hrel0.length; simpa using this.symm
      have hrel : ∀ (k : Nat) (li : LInstr), is[k]? = some li → ∃ o, ops[k]? = some o ∧ cInstr0 P ops o = some li := by
        intro k li hk
        obtain ⟨i, hi, o, ho, hco⟩ := hrel0.get' hk
        have hkl : k < ops.size := by have := (List.getElem?_eq_some_iff.1 hk).1; omega
        rw [List.getElem?_range' (by simpa using hkl)] at hi
        simp at hi
        subst hi
        refine ⟨o, by simpa using ho, ?_⟩
        rcases cInstr_or hco with hco | hco
        · exact hco
        · have := List.all_eq_true.1 hcond.2 li (List.mem_of_getElem? hk)
          subst hco
          simp [isBad] at this
      intro base r w a hm ht hd
      refine wp_region_any hcond.1.1 ?_
      have hdr := Stp.drew hm
      have hfalse : ∀ j, (Array.replicate ops.size false).getD j false = false := by
        intro j
        simp [Array.getD_eq_getD_getElem?, Array.getElem?_replicate]
        split <;> rfl
      simp only [LC] at h
      obtain ⟨t2, ⟨h2, h3⟩, hl2, hx2⟩ := LFl_run (fun j hj => by
        obtain ⟨q, hq, hqj⟩ := pickL_mem hj
        obtain ⟨l, hl, hlc⟩ := mem_flIdx.1 (List.mem_filter.1 hq).1
        rw [hqj] at hl; cases hl; exact isChAt_f hlc) (chain_open (c := 0) (Nat.zero_le _) (by simpa using h))
      refine At.sound (r0 := r) (m0 := m) (w0 := { w with drawn := w.drawn + 1 }) hlen hrel ok (fun t' m' r' a' w' g1 g2 g3 g4 => ⟨t', m', r', g1, g2, g3, hdr.trans g4⟩) ops.size 0 _ t2 m r a _ ?_ ⟨by simp, fun j hj => (by rw [hfalse] at hj; cases hj), Nat.zero_le _, fun i k _ => (by rw [hfalse]; simp), hdr.mr, h2, h3, ?_, ?_, hd⟩ (.refl hdr.mr)
      · simp only [U]
        exact Nat.le_trans List.countP_le_length (by simp)
      · intro x hx
        have hnf : ∀ j ∈ pickL is (flAt p ops is (chIdx p is) 0), j.dst ≠ some x := by
          intro j hj
          obtain ⟨q, hq, hqj⟩ := pickL_mem hj
          obtain ⟨hq1, hq2⟩ := List.mem_filter.1 hq
          obtain ⟨l, hl, hlc⟩ := mem_flIdx.1 hq1
          rw [hqj] at hl; cases hl
          exact hx q j (hfalse q) hqj hlc (by have : levCh ops (chIdx p is) q = 0 := by simpa using hq2
                                              omega)
        rw [hx2 x hnf]
        exact ev_rel ht (.tmp x) rfl
      · rw [hl2]; have := ht.length; simpa using this.symm
    · simp at hc
  · simp at hc

end Go.Lg
