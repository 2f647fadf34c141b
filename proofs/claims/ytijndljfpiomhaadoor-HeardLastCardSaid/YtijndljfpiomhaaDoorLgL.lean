/- Code in short, what it does to the logical memory, and what this is worth. -/
import Derived.Test.YtijndljfpiomhaaDoorLgK
import Derived.Scope
namespace Go.Lg

def wantedL (t : List Value) : Option (Nat × Bool) → Bool
  | none => true
  | some (i, want) => match t[i]? with
    | some (.bool b) => b == want
    | _ => false

def putL (t : List Value) (dst : Option Nat) (v : Value) : List Value :=
  match dst with
  | some d => t.set d v
  | none => t

def LOps (P : Program) : List LInstr → (List Value → Mem → Prop) → List Value → Mem → Prop
  | [], K, t, m => K t m
  | i :: is, K, t, m => CondP (wantedL t i.guard) (LExec P i.op (evL t) m fun v m' => LOps P is K (putL t i.dst v) m') (LOps P is K (putL t i.dst undef) m)

/-- Operations that only read and make: each on the memory that those before it in the text have left. -/
def LRo (P : Program) : List LInstr → (List Value → Mem → Prop) → List Value → Mem → Prop
  | [], K, t, m => K t m
  | i :: is, K, t, m => CondP (wantedL t i.guard)
      (∃ v g, LExec P i.op (evL t) m (fun v' m' => v' = v ∧ m' = m ++ g) ∧ LRo P is K (putL t i.dst v) (m ++ g))
      (LRo P is K (putL t i.dst undef) m)

/-- What is set is this. -/
def dstIs (t : List Value) : Option Nat → Value → Prop
  | some d, v => t.getD d undef = v
  | none, _ => True

/-- Operations that only read. -/
def LFl (P : Program) : List LInstr → (List Value → Mem → Prop) → List Value → Mem → Prop
  | [], K, t, m => K t m
  | i :: is, K, t, m => CondP (wantedL t i.guard) (LExec P i.op (evL t) m fun v m' => m' = m ∧ LFl P is K (putL t i.dst v) m') (LFl P is K (putL t i.dst undef) m)

/-- Operations that only read come to what stands already. -/
def LSame (P : Program) : List LInstr → List Value → Mem → Prop
  | [], _, _ => True
  | i :: is, t, m => CondP (wantedL t i.guard) (LExec P i.op (evL t) m fun v m' => m' = m ∧ dstIs t i.dst v) (dstIs t i.dst undef) ∧ LSame P is t m

abbrev LStep := List LInstr × List LInstr × LInstr

/-- A chain of operations, and others between, that only read and may run earlier or later. -/
def LChain (P : Program) (ff fp : List LInstr) : List LStep → (List Value → Mem → Prop) → List Value → Mem → Prop
  | [], K, t, m => LFl P ff (fun t m => LSame P fp t m ∧ K t m) t m
  | (fl, pe, x) :: st, K, t, m => LFl P fl (fun t m => LSame P pe t m ∧
      CondP (wantedL t x.guard) (LExec P x.op (evL t) m fun v m' => LChain P ff fp st K (putL t x.dst v) m') (LChain P ff fp st K (putL t x.dst undef) m)) t m

inductive LCode where
  | skip
  | region (is : List LInstr)
  | draw (pre tail : List LInstr)
  | chainD (ff fp : List LInstr) (st : List LStep)
  | seq (a b : LCode)
  | cond (c : Operand) (a b : LCode)
  | block (id : Nat) (c : LCode)
  | loop (c : LCode)
  | exit (id : Nat)
  | ret
  | bad
  | label (l : Nat)
  | goto (l : Nat)
  | scope (c : LCode)

/-- Does such a label stand in a row of code? -/
def hasL : LCode → Nat → Bool
  | .seq a b, l => hasL a l || hasL b l
  | .label l', l => l' == l
  | _, _ => false

/-- By a jump to a label: X. -/
def jumpL (X : Nat → List Value → Mem → Prop) (Q : Exit → List Value → Mem → Prop) : Exit → List Value → Mem → Prop
  | .goto l, t, m => X l t m
  | e, t, m => Q e t m

def thenL (N : List Value → Mem → Prop) (Q : Exit → List Value → Mem → Prop) : Exit → List Value → Mem → Prop
  | .normal, t, m => N t m
  | e, t, m => Q e t m
def blockL (id : Nat) (Q : Exit → List Value → Mem → Prop) : Exit → List Value → Mem → Prop
  | .exit j, t, m => if j = id then Q .normal t m else Q (.exit j) t m
  | e, t, m => Q e t m

mutual
def LC (P : Program) : LCode → (Exit → List Value → Mem → Prop) → List Value → Mem → Prop
  | .skip, Q, t, m => Q .normal t m
  | .region is, Q, t, m => LOps P is (Q .normal) t m
  | .draw pre tail, Q, t, m => LRo P pre (fun t m => LOps P tail (Q .normal) t m) t m
  | .chainD ff fp st, Q, t, m => LChain P ff fp st (Q .normal) t m
  | .seq a b, Q, t, m => LC P a (thenL (LC P b Q) Q) t m
  | .cond c a b, Q, t, m => match evL t c with
    | .bool x => CondP x (LC P a Q t m) (LC P b Q t m)
    | _ => False
  | .block id c, Q, t, m => LC P c (blockL id Q) t m
  | .loop c, Q, t, m => ∀ X : List Value → Mem → Prop, (∀ t m, LC P c (thenL X Q) t m → X t m) → X t m
  | .exit id, Q, t, m => Q (.exit id) t m
  | .ret, Q, t, m => Q .ret t m
  | .bad, _, _, _ => False
  | .label _, Q, t, m => Q .normal t m
  | .goto l, Q, t, m => Q (.goto l) t m
  | .scope c, Q, t, m => ∀ X : Nat → List Value → Mem → Prop, (∀ l t m, LF P c l (jumpL X Q) t m → X l t m) → LC P c (jumpL X Q) t m
termination_by structural c => c
/-- From a label on. -/
def LF (P : Program) : LCode → Nat → (Exit → List Value → Mem → Prop) → List Value → Mem → Prop
  | .seq a b, l, Q, t, m => if hasL a l = true then LF P a l (thenL (LC P b Q) Q) t m else LF P b l Q t m
  | .label l', l, Q, t, m => l' = l ∧ Q .normal t m
  | _, _, _, _, _ => False
termination_by structural c => c
end

section mono
variable {P : Program}
theorem CondP.mono {c : Bool} {X Y X' Y' : Prop} (h : CondP c X Y) (hx : X → X') (hy : Y → Y') : CondP c X' Y' := ⟨fun e => hx (h.1 e), fun e => hy (h.2 e)⟩
theorem optP.mono {α : Type} {x : Option α} {f g : α → Prop} (h : optP x f) (hm : ∀ v, f v → g v) : optP x g := by
  obtain ⟨v, e, hv⟩ := h; exact ⟨v, e, hm v hv⟩

theorem slK_mono {m : Mem} {K K' : Value → Mem → Prop} (hk : ∀ v m', K v m' → K' v m') {sz l h : Nat} {a : Option Addr} (hh : slK m K sz l h a) : slK m K' sz l h a := by
  cases a with
  | none => exact hk _ _ hh
  | some q => exact optP.mono hh fun k hq => ⟨hq.1, hk _ _ hq.2⟩
theorem apK_mono {m : Mem} {K K' : Value → Mem → Prop} (hk : ∀ v m', K v m' → K' v m') {T sz bytes k : Nat} {new : List Value} {x : Value} (hh : apK m K T sz bytes k new x) : apK m K' T sz bytes k new x := by
  unfold apK at *
  split at hh
  · refine ⟨hh.1, ?_⟩
    have := hh.2
    split
    · rename_i h0; rw [if_pos h0] at this; exact hk _ _ this
    · rename_i h0; rw [if_neg h0] at this; exact hk _ _ this
  · refine optP.mono hh fun b hb => ⟨hb.1, ?_⟩
    have := hb.2
    split
    · rename_i h0; rw [if_pos h0] at this; exact hk _ _ this
    · rename_i h0; rw [if_neg h0] at this; exact hk _ _ this
  · exact hh

theorem putK_mono {m : Mem} {K K' : Value → Mem → Prop} (hk : ∀ v m', K v m' → K' v m') {v : Value} {b o : Nat} {new : List Value} (h : putK m K v b o new) : putK m K' v b o new :=
  optP.mono h fun _ h => ⟨h.1, hk _ _ h.2⟩
theorem usK_mono {m : Mem} {K K' : Value → Mem → Prop} (hk : ∀ v m', K v m' → K' v m') {T b o n : Nat} (h : usK m K T b o n) : usK m K' T b o n :=
  optP.mono h fun _ h => optP.mono h fun _ h => ⟨h.1, hk _ _ h.2⟩

theorem lrun_mono {op : LOp} {ev : Operand → Value} {m : Mem} {K K' : Value → Mem → Prop} (hk : ∀ v m', K v m' → K' v m') (h : lrun op ev m K) : lrun op ev m K' := by
  cases op <;> simp only [lrun] at h ⊢ <;> first
    | exact hk _ _ h
    | exact ⟨h.1, hk _ _ h.2⟩
    | exact optP.mono h fun _ => hk _ _
    | exact optP.mono h fun _ h => optP.mono h fun _ => apK_mono hk
    | exact h
    | (split at h <;> first
        | exact h
        | exact hk _ _ h
        | exact ⟨h.1, hk _ _ h.2⟩
        | exact CondP.mono h (hk _ _) (hk _ _)
        | exact optP.mono h fun _ => hk _ _
        | exact optP.mono h fun _ h => ⟨h.1, hk _ _ h.2⟩
        | exact ⟨h.1, optP.mono h.2 fun _ => hk _ _⟩
        | exact optP.mono h fun _ h => optP.mono h fun _ => hk _ _
        | exact optP.mono h fun _ h => optP.mono h fun _ => slK_mono hk
        | exact optP.mono h fun _ h => optP.mono h fun _ => putK_mono hk
        | exact ⟨h.1, usK_mono hk h.2⟩
        | (split
           · rename_i h0; rw [if_pos h0] at h; exact hk _ _ h
           · rename_i h0; rw [if_neg h0] at h; exact putK_mono hk h)
        | exact optP.mono h fun _ h => optP.mono h fun _ h => optP.mono h fun _ h => ⟨h.1, hk _ _ h.2⟩)

theorem LExec_mono {op : LOp} {ev : Operand → Value} {m : Mem} {K K' : Value → Mem → Prop} (hk : ∀ v m', K v m' → K' v m') (h : LExec P op ev m K) : LExec P op ev m K' := by
  unfold LExec at *
  split at h
  · exact h.mono hk
  · split at h
    · exact ⟨h.1, h.2.mono hk⟩
    · exact h
  · exact lrun_mono hk h

theorem LOps_mono {is : List LInstr} : ∀ {K K' : List Value → Mem → Prop} {t : List Value} {m : Mem}, (∀ t m, K t m → K' t m) → LOps P is K t m → LOps P is K' t m := by
  induction is with
  | nil => exact fun hk h => hk _ _ h
  | cons i is ih =>
    intro K K' t m hk h
    exact CondP.mono h (LExec_mono fun v m' => ih hk) (ih hk)

theorem LRo_mono {is : List LInstr} : ∀ {K K' : List Value → Mem → Prop} {t : List Value} {m : Mem}, (∀ t m, K t m → K' t m) → LRo P is K t m → LRo P is K' t m := by
  induction is with
  | nil => exact fun hk h => hk _ _ h
  | cons i is ih =>
    intro K K' t m hk h
    exact CondP.mono h (fun ⟨v, g, h1, h2⟩ => ⟨v, g, h1, ih hk h2⟩) (ih hk)

theorem LFl_mono {is : List LInstr} : ∀ {K K' : List Value → Mem → Prop} {t : List Value} {m : Mem}, (∀ t m, K t m → K' t m) → LFl P is K t m → LFl P is K' t m := by
  induction is with
  | nil => exact fun hk h => hk _ _ h
  | cons i is ih =>
    intro K K' t m hk h
    exact CondP.mono h (LExec_mono fun v m' h => ⟨h.1, ih hk h.2⟩) (ih hk)
theorem LChain_mono {ff fp : List LInstr} {st : List LStep} : ∀ {K K' : List Value → Mem → Prop} {t : List Value} {m : Mem}, (∀ t m, K t m → K' t m) → LChain P ff fp st K t m → LChain P ff fp st K' t m := by
  induction st with
  | nil => exact fun hk h => LFl_mono (fun _ _ h => ⟨h.1, hk _ _ h.2⟩) h
  | cons s st ih =>
    obtain ⟨fl, pe, x⟩ := s
    intro K K' t m hk h
    exact LFl_mono (fun _ _ h => ⟨h.1, CondP.mono h.2 (LExec_mono fun v m' => ih hk) (ih hk)⟩) h

theorem thenL_mono {N N' : List Value → Mem → Prop} {Q Q' : Exit → List Value → Mem → Prop} (hn : ∀ t m, N t m → N' t m) (hq : ∀ e t m, Q e t m → Q' e t m) : ∀ e t m, thenL N Q e t m → thenL N' Q' e t m := by
  intro e t m h
  cases e <;> first | exact hn _ _ h | exact hq _ _ _ h
theorem blockL_mono {id : Nat} {Q Q' : Exit → List Value → Mem → Prop} (hq : ∀ e t m, Q e t m → Q' e t m) : ∀ e t m, blockL id Q e t m → blockL id Q' e t m := by
  intro e t m h
  cases e with
  | exit j =>
    simp only [blockL] at h ⊢
    split
    · rename_i e; rw [if_pos e] at h; exact hq _ _ _ h
    · rename_i e; rw [if_neg e] at h; exact hq _ _ _ h
  | _ => exact hq _ _ _ h

theorem jumpL_mono {X X' : Nat → List Value → Mem → Prop} {Q Q' : Exit → List Value → Mem → Prop} (hx : ∀ l t m, X l t m → X' l t m) (hq : ∀ e t m, Q e t m → Q' e t m) : ∀ e t m, jumpL X Q e t m → jumpL X' Q' e t m := by
  intro e t m h
  cases e <;> first | exact hx _ _ _ h | exact hq _ _ _ h

theorem LC_LF_mono {c : LCode} : (∀ {Q Q' : Exit → List Value → Mem → Prop} {t : List Value} {m : Mem}, (∀ e t m, Q e t m → Q' e t m) → LC P c Q t m → LC P c Q' t m) ∧
    (∀ {l : Nat} {Q Q' : Exit → List Value → Mem → Prop} {t : List Value} {m : Mem}, (∀ e t m, Q e t m → Q' e t m) → LF P c l Q t m → LF P c l Q' t m) := by
  induction c with
  | skip => exact ⟨fun hq h => hq _ _ _ h, fun _ h => h⟩
  | region is => exact ⟨fun hq h => LOps_mono (fun t m => hq _ _ _) h, fun _ h => h⟩
  | draw pre tail => exact ⟨fun hq h => LRo_mono (fun t m => LOps_mono fun t m => hq _ _ _) h, fun _ h => h⟩
  | chainD ff fp st => exact ⟨fun hq h => LChain_mono (fun t m => hq _ _ _) h, fun _ h => h⟩
  | seq a b iha ihb =>
    refine ⟨fun hq h => iha.1 (thenL_mono (fun t m => ihb.1 hq) hq) h, fun {l Q Q' t m} hq h => ?_⟩
    simp only [LF] at h ⊢
    split
    · rename_i e; rw [if_pos e] at h; exact iha.2 (thenL_mono (fun t m => ihb.1 hq) hq) h
    · rename_i e; rw [if_neg e] at h; exact ihb.2 hq h
  | cond c a b iha ihb =>
    refine ⟨?_, fun _ h => h⟩
    intro Q Q' t m hq h
    simp only [LC] at h ⊢
    split
    · rename_i x hx; rw [hx] at h; exact CondP.mono h (iha.1 hq) (ihb.1 hq)
    · rename_i hx; split at h
      · rename_i x hx'; exact absurd hx' (hx x)
      · exact h
  | block id c ih => exact ⟨fun hq h => ih.1 (blockL_mono hq) h, fun _ h => h⟩
  | loop c ih =>
    refine ⟨?_, fun _ h => h⟩
    intro Q Q' t m hq h X hX
    exact h X fun t m hc => hX t m (ih.1 (thenL_mono (fun _ _ h => h) hq) hc)
  | exit id => exact ⟨fun hq h => hq _ _ _ h, fun _ h => h⟩
  | ret => exact ⟨fun hq h => hq _ _ _ h, fun _ h => h⟩
  | bad => exact ⟨fun _ h => h, fun _ h => h⟩
  | label l => exact ⟨fun hq h => hq _ _ _ h, fun hq h => ⟨h.1, hq _ _ _ h.2⟩⟩
  | goto l => exact ⟨fun hq h => hq _ _ _ h, fun _ h => h⟩
  | scope c ih =>
    refine ⟨?_, fun _ h => h⟩
    intro Q Q' t m hq h X hX
    exact ih.1 (jumpL_mono (fun _ _ _ h => h) hq) (h X fun l t m hl => hX l t m (ih.2 (jumpL_mono (fun _ _ _ h => h) hq) hl))
theorem LC_mono {c : LCode} {Q Q' : Exit → List Value → Mem → Prop} {t : List Value} {m : Mem} (hq : ∀ e t m, Q e t m → Q' e t m) (h : LC P c Q t m) : LC P c Q' t m := LC_LF_mono.1 hq h

/-- One round. -/
theorem LC_loop {c : LCode} {Q : Exit → List Value → Mem → Prop} {t : List Value} {m : Mem} (h : LC P c (thenL (LC P (.loop c) Q) Q) t m) : LC P (.loop c) Q t m := by
  intro X hX
  exact hX t m (LC_mono (thenL_mono (fun t m hl => hl X hX) fun _ _ _ h => h) h)
end mono

/-- Reading off. -/
def cInstr0 (P : Program) (ops : Array Oper) (o : Oper) : Option LInstr :=
  if o.op.operands.toList.all okO then
    match cop P o.op with
    | some lo => match o.guard with
      | none => some ⟨o.dst, none, lo⟩
      | some (j, want) => match (ops[j]?).bind (·.dst) with
        | some i => some ⟨o.dst, some (i, want), lo⟩
        | none => none
    | none => none
  else none

/-- An operation that is not covered is read as one that no walk passes. -/
def cInstr (P : Program) (ops : Array Oper) (o : Oper) : Option LInstr :=
  match cInstr0 P ops o with
  | some i => some i
  | none => some ⟨o.dst, none, .bad⟩

def isBad : LOp → Bool
  | .bad => true
  | _ => false
theorem isBad_e {o : LOp} (h : isBad o = true) : o = .bad := by unfold isBad at h; split at h <;> first | rfl | cases h

def cInstrs (P : Program) (ops : Array Oper) : List Oper → Option (List LInstr)
  | [] => some []
  | o :: os => match cInstr P ops o, cInstrs P ops os with
    | some i, some is => some (i :: is)
    | _, _ => none

def directs (o : Oper) : List Nat := (o.after.toList.filter fun e => Region.binds .any e).map (·.on)
def directsAt (ops : Array Oper) (j : Nat) : List Nat := match ops[j]? with
  | some o => directs o
  | none => []
def downs (ops : Array Oper) : Nat → List Nat → List Nat
  | 0, R => R
  | i + 1, R => downs ops i (if R.contains i then directsAt ops i ++ R else R)

def readsOf (li : LInstr) (o : Oper) : List Nat :=
  (o.op.operands.toList.filterMap fun | .tmp x => some x | _ => none) ++ (match li.guard with | some (x, _) => [x] | none => [])

/-- What is asked of a statement whose order is open: edges go back; what an operation of the first p reads is not written by any of these but such as it must wait for; each of the others waits for all before it. -/
def drawOK (ops : Array Oper) (pre : List LInstr) : Bool :=
  ((List.range ops.size).all fun j => (directsAt ops j).all (· < j)) &&
  ((List.range pre.length).all fun k => match ops[k]?, pre[k]? with
    | some o, some li => (readsOf li o).all fun x => (List.range pre.length).all fun i => match pre[i]? with
      | some l => l.dst != some x || (directsAt ops k).contains i
      | none => true
    | _, _ => false) &&
  ((List.range pre.length).all fun i => (List.range pre.length).all fun j => i == j || (match pre[i]?, pre[j]? with
    | some l, some l' => l.dst.isNone || l.dst != l'.dst
    | _, _ => true)) &&
  ((List.range ops.size).all fun j => j < pre.length || (List.range j).all fun i => (downs ops j (directsAt ops j)).contains i)

/-- From where on each operation waits for all before it. -/
def tailFrom (ops : Array Oper) : Nat → Nat
  | 0 => 0
  | n + 1 => if (List.range n).all fun i => (downs ops n (directsAt ops n)).contains i then tailFrom ops n else n + 1

/-- Of a chain: what changes the memory, makes something, or calls. -/
def isCh : LOp → Bool
  | .zero .. | .box .. | .buildSlice .. | .store .. | .s2b .. | .append .. | .copy .. | .clear .. | .makeSlice .. | .unsafeStr .. | .noZero .. | .zeroV .. | .call .. | .callv .. | .bad => true
  | _ => false

def dnsAt (ops : Array Oper) (j : Nat) : List Nat := downs ops j (directsAt ops j)
/-- From p on all are of the chain. -/
def isChAt (p i : Nat) (l : LInstr) : Bool := Nat.ble p i || isCh l.op
def chIdx (p : Nat) (is : List LInstr) : List Nat := (List.range is.length).filter fun i => match is[i]? with
  | some l => isChAt p i l
  | none => false
def flIdx (p : Nat) (is : List LInstr) : List Nat := (List.range is.length).filter fun i => match is[i]? with
  | some l => !isChAt p i l
  | none => false
def levCh (ops : Array Oper) (ch : List Nat) (j : Nat) : Nat := (ch.filter fun c => (dnsAt ops j).contains c).length
def pickL (is : List LInstr) (l : List Nat) : List LInstr := l.filterMap fun i => is[i]?

/-- The floats of level c; those of a level up to c that may still be to come. -/
def flAt (p : Nat) (ops : Array Oper) (is : List LInstr) (ch : List Nat) (c : Nat) : List Nat := (flIdx p is).filter fun j => levCh ops ch j == c
def peAt (p : Nat) (ops : Array Oper) (is : List LInstr) (ch : List Nat) (c : Nat) : List Nat := (flIdx p is).filter fun j => Nat.ble (levCh ops ch j) c && (match c with
  | 0 => true
  | c + 1 => match ch[c]? with
    | some k => !(dnsAt ops k).contains j
    | none => true)

def stepsFrom (p : Nat) (ops : Array Oper) (is : List LInstr) (ch : List Nat) : Nat → List Nat → List LStep
  | _, [] => []
  | c, k :: ks => match is[k]? with
    | some l => (pickL is (flAt p ops is ch c), pickL is (peAt p ops is ch c), l) :: stepsFrom p ops is ch (c + 1) ks
    | none => []

def chOK (p : Nat) (ops : Array Oper) (is : List LInstr) : Bool :=
  ((List.range ops.size).all fun j => (directsAt ops j).all (· < j)) &&
  ((List.range is.length).all fun k => match ops[k]?, is[k]? with
    | some o, some li => (readsOf li o).all fun x => (List.range is.length).all fun i => match is[i]? with
      | some l => l.dst != some x || isChAt p i l || (directsAt ops k).contains i
      | none => true
    | _, _ => false) &&
  ((List.range is.length).all fun i => (List.range is.length).all fun j => i == j || (match is[i]?, is[j]? with
    | some l, some l' => l.dst.isNone || l.dst != l'.dst
    | _, _ => true)) &&
  ((chIdx p is).all fun i => (chIdx p is).all fun j => !Nat.blt i j || (dnsAt ops j).contains i)

def cChain (P : Program) (p : Nat) (ops : Array Oper) : Option LCode :=
  match cInstrs P ops ops.toList with
  | some is =>
    if P.follows .mixedOrders && chOK p ops is && is.all fun i => !isBad i.op then
      some (.chainD (pickL is (flAt p ops is (chIdx p is) (chIdx p is).length)) (pickL is (peAt p ops is (chIdx p is) (chIdx p is).length)) (stepsFrom p ops is (chIdx p is) 0 (chIdx p is))) else none
  | none => none

/-- A fresh variable's block, made somewhere in the statement: read as made ahead of all else. -/
def zeroAt : LInstr → Option (Nat × TypeId × List Value)
  | ⟨some d, none, .zero T cs⟩ => if cs.all flatA then some (d, T, cs) else none
  | _ => none
def zF (i : LInstr) : LInstr := match zeroAt i with
  | some (d, T, cs) => ⟨some d, none, .zeroF T cs (.tmp d)⟩
  | none => i
def zsOf (is : List LInstr) : List LInstr := is.filter fun i => (zeroAt i).isSome
def isZF : LOp → Bool
  | .zeroF .. => true
  | _ => false
def cChainZ (P : Program) (p : Nat) (ops : Array Oper) : Option LCode :=
  match cInstrs P ops ops.toList with
  | some is =>
    if P.follows .mixedOrders && chOK p ops (is.map zF) && (is.all fun i => !isBad i.op) && (is.all fun i => !isZF i.op) && ((List.range is.length).all fun k => match (is.map zF)[k]? with
        | some i => !isZF i.op || (!isChAt p k i && levCh ops (chIdx p (is.map zF)) k == 0)
        | none => true) then
      some (.seq (.region (zsOf is)) (.chainD (pickL (is.map zF) (flAt p ops (is.map zF) (chIdx p (is.map zF)) (chIdx p (is.map zF)).length)) (pickL (is.map zF) (peAt p ops (is.map zF) (chIdx p (is.map zF)) (chIdx p (is.map zF)).length)) (stepsFrom p ops (is.map zF) (chIdx p (is.map zF)) 0 (chIdx p (is.map zF))))) else none
  | none => none

/-- Does a call, or what changes the memory, stand where the order is open? -/
def mixes (ops : Array Oper) (is : List LInstr) : Bool := (is.take (tailFrom ops ops.size)).any fun i => match i.op with
  | .store .. | .append .. | .copy .. | .clear .. | .unsafeStr .. | .call .. | .callv .. => true
  | _ => false

def cDraw1 (P : Program) (ops : Array Oper) : Option LCode :=
  match cInstrs P ops ops.toList with
  | some is => if mixes ops is then (match cChain P ops.size ops with | some c => some c | none => match cChain P (tailFrom ops ops.size) ops with | some c => some c | none => cChainZ P ops.size ops) else none
  | none => none

def cDraw (P : Program) (ops : Array Oper) : Option LCode :=
  match cInstrs P ops ops.toList with
  | some is =>
    if P.follows .mixedOrders && drawOK ops (is.take (tailFrom ops ops.size)) && is.all fun i => !isBad i.op then some (.draw (is.take (tailFrom ops ops.size)) (is.drop (tailFrom ops ops.size))) else none
  | none => none

def cCode (P : Program) : Code → Option LCode
  | .skip => some .skip
  | .region _ ops draw => if draw then (match cDraw1 P ops with | some c => some c | none => match cDraw P ops with | some c => some c | none => some .bad) else (cInstrs P ops ops.toList).map .region
  | .seq a b => match cCode P a, cCode P b with
    | some x, some y => some (.seq x y)
    | _, _ => none
  | .cond c a b => if okO c then
      match cCode P a, cCode P b with
      | some x, some y => some (.cond c x y)
      | _, _ => none
    else some .bad
  | .block id c => (cCode P c).map (.block id)
  | .loop c => (cCode P c).map .loop
  | .exit id => some (.exit id)
  | .ret => some .ret
  | .label l => some (.label l)
  | .goto l => some (.goto l)
  | .scope c => (cCode P c).map .scope
  | _ => some .bad

/-- What stands behind code: in the world, of what stands behind it in the memory. -/
def Post (base : Nat) (r : Rho) (m : Mem) (w : World) (Q : Exit → List Value → Mem → Prop) : Exit → Act → World → Prop :=
  fun e a w' => ∃ t m' r', Q e t m' ∧ F2 (VR r') t a.tmps.toList ∧ a.defers = [] ∧ Stp base r m w r' m' w'

theorem Post.trans {base : Nat} {r r' : Rho} {m m' : Mem} {w w' : World} {Q : Exit → List Value → Mem → Prop} (h : Stp base r m w r' m' w') {e : Exit} {a : Act} {w'' : World} (k : Post base r' m' w' Q e a w'') : Post base r m w Q e a w'' := by
  obtain ⟨t, m'', r'', h1, h2, h3, h4⟩ := k
  exact ⟨t, m'', r'', h1, h2, h3, h.trans h4⟩

def LSem (P : Program) (c : Code) (Q : Exit → List Value → Mem → Prop) (t : List Value) (m : Mem) : Prop :=
  ∀ (base : Nat) (r : Rho) (w : World) (a : Act), MR base r m w → F2 (VR r) t a.tmps.toList → a.defers = [] → c.wp P (Post base r m w Q) a w

theorem ev_rel {r : Rho} {t : List Value} {a : Act} (h : F2 (VR r) t a.tmps.toList) (x : Operand) (hx : okO x = true) : VR r (evL t x) (a.eval x) := by
  cases x with
  | tmp i =>
    simp only [evL, Act.eval, List.getD_eq_getElem?_getD, Array.getD_eq_getD_getElem?]
    cases hi : t[i]? with
    | some v =>
      obtain ⟨v', e, hv⟩ := h.get hi
      have : a.tmps[i]? = some v' := by simpa using e
      simpa [this] using hv
    | none =>
      have hl := h.length
      have : a.tmps[i]? = none := by
        rw [Array.getElem?_eq_none]
        rw [List.getElem?_eq_none_iff] at hi
        simp at hl; omega
      simpa [this] using VR.undef
  | const v => exact .base (flatB_rel hx)
  | global g => simp [okO] at hx
  | func f => exact .base (.cell (.func (f := []) (c := []) .nil .nil))

theorem put_rel {r : Rho} {t : List Value} {a : Act} (h : F2 (VR r) t a.tmps.toList) (dst : Option Nat) {v v' : Value} (hv : VR r v v') : F2 (VR r) (putL t dst v) (a.put dst v').tmps.toList := by
  cases dst with
  | none => exact h
  | some d => simpa [putL, Act.put] using h.set d hv

theorem put_defers {a : Act} (dst : Option Nat) (v : Value) (h : a.defers = []) : (a.put dst v).defers = [] := by
  cases dst <;> exact h

theorem cInstr_or {P : Program} {ops : Array Oper} {o : Oper} {li : LInstr} (hc : cInstr P ops o = some li) : cInstr0 P ops o = some li ∨ li = ⟨o.dst, none, .bad⟩ := by
  unfold cInstr at hc
  split at hc
  · rename_i i h; simp at hc; subst hc; exact .inl h
  · simp at hc; exact .inr hc.symm

theorem wanted_rel {P : Program} {ops : Array Oper} {o : Oper} {li : LInstr} {r : Rho} {t : List Value} {a : Act} (hc : cInstr0 P ops o = some li) (h : F2 (VR r) t a.tmps.toList) : Region.wanted o (yielded ops a.tmps) = wantedL t li.guard := by
  unfold cInstr0 at hc
  split at hc
  · split at hc
    · split at hc
      · rename_i hg; simp at hc; subst hc; simp [Region.wanted, hg, wantedL]
      · rename_i j want hg
        split at hc
        · rename_i i hd
          simp at hc; subst hc
          simp only [Region.wanted, hg, wantedL, yielded, hd, Option.bind_some]
          cases hi : t[i]? with
          | some v =>
            obtain ⟨v', e, hv⟩ := h.get hi
            have e' : a.tmps[i]? = some v' := by simpa using e
            rw [e']
            cases v with
            | bool b => rw [hv.bool_inv]; simp
            | _ =>
              have : ∀ b, v' ≠ .bool b := by
                intro b hb
                subst hb
                rcases hv with ⟨hv⟩ | _
                rcases hv with ⟨hv⟩ | _
                cases hv with
                | atom hv => cases hv
              cases v' <;> first | rfl | exact absurd rfl (this _)
          | none =>
            have hl := h.length
            have : a.tmps[i]? = none := by
              rw [Array.getElem?_eq_none]
              rw [List.getElem?_eq_none_iff] at hi
              simp at hl; omega
            rw [this]; rfl
        · simp at hc
    · simp at hc
  · simp at hc

end Go.Lg
