/- The evaluator, continued: code, functions, and what a closed call comes to in whatever memory. -/
import Derived.Test.YtijndljfpiomhaaDoorLgAA
namespace Go.Lg
open Go.RowKit

variable {P : Program}

def atomEq : Value → Value → Bool
  | .bool a, .bool b => a == b
  | .int k a, .int l b => decide (k = l) && decide (a = b)
  | .string a, .string b => strEq a b
  | .pointer none, .pointer none => true
  | .pointer (some ⟨b, o, none⟩), .pointer (some ⟨c, p, none⟩) => decide (b = c) && decide (o = p)
  | .slice none n c, .slice none n' c' => decide (n = n') && decide (c = c')
  | .slice (some ⟨b, o, none⟩) n c, .slice (some ⟨b', o', none⟩) n' c' => decide (b = b') && decide (o = o') && decide (n = n') && decide (c = c')
  | .nilFunc, .nilFunc => true
  | .nilIface, .nilIface => true
  | _, _ => false
theorem atomEq_e {a b : Value} (h : atomEq a b = true) : a = b := by
  unfold atomEq at h
  split at h <;> simp_all [strEq_e]
def rowEq : List Value → List Value → Bool
  | [], [] => true
  | a :: as, b :: bs => atomEq a b && rowEq as bs
  | _, _ => false
theorem rowEq_e : ∀ {a b : List Value}, rowEq a b = true → a = b
  | [], [], _ => rfl
  | a :: as, b :: bs, h => by
    simp only [rowEq, Bool.and_eq_true] at h
    rw [atomEq_e h.1, rowEq_e h.2]
  | [], _ :: _, h => by simp [rowEq] at h
  | _ :: _, [], h => by simp [rowEq] at h
def kindEq : Kind → Kind → Bool
  | .own, .own | .ro, .ro | .dead, .dead => true
  | _, _ => false
theorem kindEq_e {a b : Kind} (h : kindEq a b = true) : a = b := by
  unfold kindEq at h; split at h <;> simp_all
/-- The memory goes on from another one; what is new. -/
def beyond : Mem → Mem → Option Mem
  | [], m => some m
  | _ :: _, [] => none
  | k :: ks, l :: ls => if rowEq k.cells l.cells && decide (k.elem = l.elem) && decide (k.esz = l.esz) && decide (k.frz = l.frz) && kindEq k.kind l.kind then beyond ks ls else none
theorem beyond_e : ∀ {m m' g : Mem}, beyond m m' = some g → m' = m ++ g
  | [], m, g, h => by simp [beyond] at h; subst h; rfl
  | _ :: _, [], g, h => by simp [beyond] at h
  | k :: ks, l :: ls, g, h => by
    simp only [beyond] at h
    split at h
    · rename_i hc
      simp only [Bool.and_eq_true, decide_eq_true_eq] at hc
      obtain ⟨⟨⟨⟨h1, h2⟩, h3⟩, h4⟩, h5⟩ := hc
      have e : k = l := by
        obtain ⟨a, b, c, d, e⟩ := k
        obtain ⟨a', b', c', d', e'⟩ := l
        simp only at h1 h2 h3 h4 h5
        rw [rowEq_e h1, h2, h3, h4, kindEq_e h5]
      rw [e, beyond_e h]; rfl
    · cases h

abbrev CallE := FuncId → List Value → Mem → Option (Value × Mem)

def runOp (P : Program) (call : CallE) (op : LOp) (ev : Operand → Value) (m : Mem) : Option (Value × Mem) :=
  match op with
  | .call f args => call f (args.map ev) m
  | .callv x args => match ev x with
    | .func (.func f) first cap => if callable P f = true then call f (first.toList ++ args.map ev ++ cap.toList) m else none
    | _ => none
  | op => lexec op ev m

def runOps (P : Program) (call : CallE) : List LInstr → List Value → Mem → Option (List Value × Mem)
  | [], t, m => some (t, m)
  | i :: is, t, m => match wantedL t i.guard with
    | true => match runOp P call i.op (evL t) m with
      | some (v, m') => runOps P call is (putL t i.dst v) m'
      | none => none
    | false => runOps P call is (putL t i.dst undef) m

def runRo (P : Program) (call : CallE) : List LInstr → List Value → Mem → Option (List Value × Mem)
  | [], t, m => some (t, m)
  | i :: is, t, m => match wantedL t i.guard with
    | true => match runOp P call i.op (evL t) m with
      | some (v, m') => match beyond m m' with
        | some _ => runRo P call is (putL t i.dst v) m'
        | none => none
      | none => none
    | false => runRo P call is (putL t i.dst undef) m

def runFl (P : Program) (call : CallE) : List LInstr → List Value → Mem → Option (List Value)
  | [], t, _ => some t
  | i :: is, t, m => match wantedL t i.guard with
    | true => match isCh i.op with
      | true => none
      | false => match lexec i.op (evL t) m with
        | some (v, m') => match beyond m m' with
          | some [] => runFl P call is (putL t i.dst v) m
          | _ => none
        | none => none
    | false => runFl P call is (putL t i.dst undef) m

def cellEq : Value → Value → Bool
  | .agg xs, .agg ys => rowEq xs.toList ys.toList
  | .tuple xs, .tuple ys => xs.toList.isEmpty && ys.toList.isEmpty
  | .func (.func f) a b, .func (.func g) c d => decide (f = g) && rowEq a.toList c.toList && rowEq b.toList d.toList
  | x, y => atomEq x y
theorem cellEq_e {a b : Value} (h : cellEq a b = true) : a = b := by
  unfold cellEq at h
  split at h
  · have := rowEq_e h; congr 1; exact Array.ext' this
  · rename_i xs ys
    simp only [Bool.and_eq_true, List.isEmpty_iff] at h
    congr 1
    exact Array.ext' (h.1.trans h.2.symm)
  · simp only [Bool.and_eq_true, decide_eq_true_eq] at h
    obtain ⟨⟨rfl, h1⟩, h2⟩ := h
    rw [Array.ext' (rowEq_e h1), Array.ext' (rowEq_e h2)]
  · exact atomEq_e h

def runSame (P : Program) : List LInstr → List Value → Mem → Bool
  | [], _, _ => true
  | i :: is, t, m => (match i.dst with
    | none => false
    | some d => match wantedL t i.guard with
      | true => match isCh i.op with
        | true => false
        | false => match lexec i.op (evL t) m with
          | some (v, m') => match beyond m m' with
            | some [] => cellEq (t.getD d undef) v
            | _ => false
          | none => false
      | false => cellEq (t.getD d undef) undef) && runSame P is t m

def runChain (P : Program) (call : CallE) (ff fp : List LInstr) : List LStep → List Value → Mem → Option (List Value × Mem)
  | [], t, m => match runFl P call ff t m with
    | some t' => if runSame P fp t' m = true then some (t', m) else none
    | none => none
  | (fl, pe, x) :: st, t, m => match runFl P call fl t m with
    | some t1 => if runSame P pe t1 m = true then match wantedL t1 x.guard with
      | true => match runOp P call x.op (evL t1) m with
        | some (v, m') => runChain P call ff fp st (putL t1 x.dst v) m'
        | none => none
      | false => runChain P call ff fp st (putL t1 x.dst undef) m
      else none
    | none => none

abbrev OutE := Option (Exit × List Value × Mem)

def loopE (f : List Value → Mem → OutE) : Nat → List Value → Mem → OutE
  | 0, _, _ => none
  | n + 1, t, m => match f t m with
    | some (.normal, t', m') => loopE f n t' m'
    | r => r

def scopeE (f : Nat → List Value → Mem → OutE) : Nat → OutE → OutE
  | 0, r => match r with
    | some (.goto _, _, _) => none
    | r => r
  | n + 1, r => match r with
    | some (.goto l, t, m) => scopeE f n (f l t m)
    | r => r

mutual
def runC (P : Program) (call : CallE) (n : Nat) : LCode → List Value → Mem → OutE
  | .skip, t, m => some (.normal, t, m)
  | .region is, t, m => match runOps P call is t m with
    | some (t', m') => some (.normal, t', m')
    | none => none
  | .draw pre tail, t, m => match runRo P call pre t m with
    | some (t', m') => match runOps P call tail t' m' with
      | some (t2, m2) => some (.normal, t2, m2)
      | none => none
    | none => none
  | .chainD ff fp st, t, m => match runChain P call ff fp st t m with
    | some (t', m') => some (.normal, t', m')
    | none => none
  | .seq a b, t, m => match runC P call n a t m with
    | some (.normal, t', m') => runC P call n b t' m'
    | r => r
  | .cond c a b, t, m => match evL t c with
    | .bool true => runC P call n a t m
    | .bool false => runC P call n b t m
    | _ => none
  | .block id c, t, m => match runC P call n c t m with
    | some (.exit j, t', m') => if j = id then some (.normal, t', m') else some (.exit j, t', m')
    | r => r
  | .loop c, t, m => loopE (fun t m => runC P call n c t m) n t m
  | .exit id, t, m => some (.exit id, t, m)
  | .ret, t, m => some (.ret, t, m)
  | .bad, _, _ => none
  | .label _, t, m => some (.normal, t, m)
  | .goto l, t, m => some (.goto l, t, m)
  | .scope c, t, m => scopeE (fun l t m => runL P call n c l t m) n (runC P call n c t m)
termination_by structural c => c
def runL (P : Program) (call : CallE) (n : Nat) : LCode → Nat → List Value → Mem → OutE
  | .seq a b, l, t, m => if hasL a l = true then (match runL P call n a l t m with
    | some (.normal, t', m') => runC P call n b t' m'
    | r => r) else runL P call n b l t m
  | .label l', l, t, m => if l' = l then some (.normal, t, m) else none
  | _, _, _, _ => none
termination_by structural c => c
end

def runF (P : Program) (fs : FuncId → Option LFunc) (n : Nat) : Nat → CallE
  | 0, _, _, _ => none
  | d + 1, f, args, m => match fs f with
    | some lf => match runC P (runF P fs n d) n lf.code (args ++ List.replicate (lf.nt - args.length) undef) m with
      | some (.normal, t, m') | some (.ret, t, m') => match resVs t m' lf.res with
        | some vs => some (resOf vs, m')
        | none => none
      | _ => none
    | none => none

def CallOK (P : Program) (call : CallE) : Prop := ∀ f args m v m', call f args m = some (v, m') → LCall P f args m fun u m2 => u = v ∧ m2 = m'

section
variable {call : CallE} (hc : CallOK P call)
include hc

theorem runOp_sound {op : LOp} {ev : Operand → Value} {m m' : Mem} {v : Value} (h : runOp P call op ev m = some (v, m')) {K : Value → Mem → Prop} (hk : K v m') : LExec P op ev m K := by
  cases op <;> simp only [runOp] at h <;> simp only [LExec]
  case call f args =>
    exact (hc _ _ _ _ _ h).mono fun _ _ ⟨e1, e2⟩ => by rw [e1, e2]; exact hk
  case callv x args =>
    split at h
    · rename_i f first cap hx
      simp only [hx]
      split at h
      · rename_i hcall
        exact ⟨hcall, (hc _ _ _ _ _ h).mono fun _ _ ⟨e1, e2⟩ => by rw [e1, e2]; exact hk⟩
      · cases h
    · cases h
  all_goals exact lexec_sound h hk

theorem runOps_sound : ∀ {is : List LInstr} {t t' : List Value} {m m' : Mem}, runOps P call is t m = some (t', m') → ∀ {K : List Value → Mem → Prop}, K t' m' → LOps P is K t m
  | [], t, t', m, m', h, K, hk => by simp [runOps] at h; obtain ⟨rfl, rfl⟩ := h; exact hk
  | i :: is, t, t', m, m', h, K, hk => by
    simp only [runOps] at h
    split at h
    · rename_i hw
      split at h
      · rename_i v m2 hr
        exact ⟨fun _ => runOp_sound hc hr (runOps_sound h hk), fun e => absurd (hw.symm.trans e) (by simp)⟩
      · cases h
    · rename_i hw
      exact ⟨fun e => absurd (hw.symm.trans e) (by simp), fun _ => runOps_sound h hk⟩

theorem runRo_sound : ∀ {is : List LInstr} {t t' : List Value} {m m' : Mem}, runRo P call is t m = some (t', m') → ∀ {K : List Value → Mem → Prop}, K t' m' → LRo P is K t m
  | [], t, t', m, m', h, K, hk => by simp [runRo] at h; obtain ⟨rfl, rfl⟩ := h; exact hk
  | i :: is, t, t', m, m', h, K, hk => by
    simp only [runRo] at h
    split at h
    · rename_i hw
      split at h
      · rename_i v m2 hr
        split at h
        · rename_i g hg
          have e := beyond_e hg
          subst e
          exact ⟨fun _ => ⟨v, g, runOp_sound hc hr ⟨rfl, rfl⟩, runRo_sound h hk⟩, fun e => absurd (hw.symm.trans e) (by simp)⟩
        · cases h
      · cases h
    · rename_i hw
      exact ⟨fun e => absurd (hw.symm.trans e) (by simp), fun _ => runRo_sound h hk⟩

omit hc in
theorem lexec_ex {op : LOp} (hn : isCh op = false) {ev : Operand → Value} {m m' : Mem} {v : Value} (h : lexec op ev m = some (v, m')) {K : Value → Mem → Prop} (hk : K v m') : LExec P op ev m K := by
  rw [LExec_eq (ch_noCall hn)]; exact lexec_sound h hk

omit hc in
theorem runFl_sound : ∀ {is : List LInstr} {t t' : List Value} {m : Mem}, runFl P call is t m = some t' → ∀ {K : List Value → Mem → Prop}, K t' m → LFl P is K t m
  | [], t, t', m, h, K, hk => by simp [runFl] at h; subst h; exact hk
  | i :: is, t, t', m, h, K, hk => by
    simp only [runFl] at h
    split at h
    · rename_i hw
      split at h
      · cases h
      · rename_i hn
        split at h
        · rename_i v m2 hr
          split at h
          · rename_i hb
            have e := beyond_e hb
            simp at e; subst e
            exact ⟨fun _ => lexec_ex hn hr ⟨rfl, runFl_sound h hk⟩, fun e => absurd (hw.symm.trans e) (by simp)⟩
          · cases h
        · cases h
    · rename_i hw
      exact ⟨fun e => absurd (hw.symm.trans e) (by simp), fun _ => runFl_sound h hk⟩

omit hc in
theorem runSame_sound : ∀ {is : List LInstr} {t : List Value} {m : Mem}, runSame P is t m = true → LSame P is t m
  | [], _, _, _ => trivial
  | i :: is, t, m, h => by
    simp only [runSame, Bool.and_eq_true] at h
    obtain ⟨h, h0⟩ := h
    refine ⟨?_, runSame_sound h0⟩
    cases hd : i.dst with
    | none => simp [hd] at h
    | some d =>
      simp only [hd] at h
      show CondP (wantedL t i.guard) (LExec P i.op (evL t) m fun v m' => m' = m ∧ dstIs t (some d) v) (dstIs t (some d) undef)
      split at h
      · rename_i hw
        split at h
        · cases h
        · rename_i hn
          split at h
          · rename_i v m2 hr
            split at h
            · rename_i hb
              have e := beyond_e hb
              simp at e; subst e
              exact ⟨fun _ => lexec_ex hn hr ⟨rfl, cellEq_e h⟩, fun e => absurd (hw.symm.trans e) (by simp)⟩
            · cases h
          · cases h
      · rename_i hw
        exact ⟨fun e => absurd (hw.symm.trans e) (by simp), fun _ => cellEq_e h⟩

theorem runChain_sound {ff fp : List LInstr} : ∀ {st : List LStep} {t t' : List Value} {m m' : Mem}, runChain P call ff fp st t m = some (t', m') → ∀ {K : List Value → Mem → Prop}, K t' m' → LChain P ff fp st K t m
  | [], t, t', m, m', h, K, hk => by
    simp only [runChain] at h
    split at h
    · rename_i t1 hr
      split at h
      · rename_i hs; simp at h; obtain ⟨rfl, rfl⟩ := h; exact runFl_sound hr ⟨runSame_sound hs, hk⟩
      · cases h
    · cases h
  | (fl, pe, x) :: st, t, t', m, m', h, K, hk => by
    simp only [runChain] at h
    split at h
    · rename_i t1 hr
      split at h
      · rename_i hs
        refine runFl_sound hr ⟨runSame_sound hs, ?_⟩
        split at h
        · rename_i hw
          split at h
          · rename_i v m2 hx
            exact ⟨fun _ => runOp_sound hc hx (runChain_sound h hk), fun e => absurd (hw.symm.trans e) (by simp)⟩
          · cases h
        · rename_i hw
          exact ⟨fun e => absurd (hw.symm.trans e) (by simp), fun _ => runChain_sound h hk⟩
      · cases h
    · cases h

theorem runC_runL_sound {n : Nat} : ∀ {c : LCode}, (∀ {t t' : List Value} {m m' : Mem} {e : Exit}, runC P call n c t m = some (e, t', m') → ∀ {Q : Exit → List Value → Mem → Prop}, Q e t' m' → LC P c Q t m) ∧
    (∀ {l : Nat} {t t' : List Value} {m m' : Mem} {e : Exit}, runL P call n c l t m = some (e, t', m') → ∀ {Q : Exit → List Value → Mem → Prop}, Q e t' m' → LF P c l Q t m) := by
  intro c
  induction c with
  | skip =>
    refine ⟨?_, by intro l t t' m m' e h; simp [runL] at h⟩
    intro t t' m m' e h Q hq; simp [runC] at h; obtain ⟨rfl, rfl, rfl⟩ := h; exact hq
  | region is =>
    refine ⟨?_, by intro l t t' m m' e h; simp [runL] at h⟩
    intro t t' m m' e h Q hq
    simp only [runC] at h
    split at h
    · rename_i hr; simp at h; obtain ⟨rfl, rfl, rfl⟩ := h; exact runOps_sound hc hr hq
    · cases h
  | draw pre tail =>
    refine ⟨?_, by intro l t t' m m' e h; simp [runL] at h⟩
    intro t t' m m' e h Q hq
    simp only [runC] at h
    split at h
    · rename_i hr
      split at h
      · rename_i hr2; simp at h; obtain ⟨rfl, rfl, rfl⟩ := h; exact runRo_sound hc hr (runOps_sound hc hr2 hq)
      · cases h
    · cases h
  | chainD ff fp st =>
    refine ⟨?_, by intro l t t' m m' e h; simp [runL] at h⟩
    intro t t' m m' e h Q hq
    simp only [runC] at h
    split at h
    · rename_i hr; simp at h; obtain ⟨rfl, rfl, rfl⟩ := h; exact runChain_sound hc hr hq
    · cases h
  | seq a b iha ihb =>
    constructor
    · intro t t' m m' e h Q hq
      simp only [runC] at h
      split at h
      · rename_i hr; exact iha.1 hr (Q := thenL (LC P b Q) Q) (ihb.1 h hq)
      · rename_i r hn
        refine iha.1 h (Q := thenL (LC P b Q) Q) ?_
        cases e <;> first | exact hq | exact absurd h (hn _ _)
    · intro l t t' m m' e h Q hq
      simp only [runL] at h
      simp only [LF]
      split at h
      · rename_i hl
        rw [if_pos hl]
        split at h
        · rename_i hr; exact iha.2 hr (Q := thenL (LC P b Q) Q) (ihb.1 h hq)
        · rename_i r hn
          refine iha.2 h (Q := thenL (LC P b Q) Q) ?_
          cases e <;> first | exact hq | exact absurd h (hn _ _)
      · rename_i hl
        rw [if_neg hl]
        exact ihb.2 h hq
  | cond c a b iha ihb =>
    refine ⟨?_, by intro l t t' m m' e h; simp [runL] at h⟩
    intro t t' m m' e h Q hq
    simp only [runC] at h
    simp only [LC]
    split at h
    · rename_i hv; rw [hv]; exact ⟨fun _ => iha.1 h hq, fun e => by cases e⟩
    · rename_i hv; rw [hv]; exact ⟨fun e => (by cases e), fun _ => ihb.1 h hq⟩
    · cases h
  | block id c ih =>
    refine ⟨?_, by intro l t t' m m' e h; simp [runL] at h⟩
    intro t t' m m' e h Q hq
    simp only [runC] at h
    simp only [LC]
    split at h
    · rename_i j t2 m2 hr
      split at h
      · rename_i hj; simp at h; obtain ⟨rfl, rfl, rfl⟩ := h; exact ih.1 hr (by simp only [blockL, if_pos hj]; exact hq)
      · rename_i hj; simp at h; obtain ⟨rfl, rfl, rfl⟩ := h; exact ih.1 hr (by simp only [blockL, if_neg hj]; exact hq)
    · rename_i r hn
      refine ih.1 h ?_
      cases e <;> first | exact hq | exact absurd h (hn _ _ _)
  | loop c ih =>
    refine ⟨?_, by intro l t t' m m' e h; simp [runL] at h⟩
    intro t t' m m' e h Q hq
    simp only [runC] at h
    have key : ∀ k t m, loopE (fun t m => runC P call n c t m) k t m = some (e, t', m') → LC P (.loop c) Q t m := by
      intro k
      induction k with
      | zero => intro t m h; simp [loopE] at h
      | succ k ihk =>
        intro t m h
        simp only [loopE] at h
        refine LC_loop ?_
        split at h
        · rename_i hr; exact ih.1 hr (Q := thenL (LC P (.loop c) Q) Q) (ihk _ _ h)
        · rename_i r hn
          refine ih.1 h (Q := thenL (LC P (.loop c) Q) Q) ?_
          cases e <;> first | exact hq | exact absurd h (hn _ _)
    exact key n t m h
  | exit id =>
    refine ⟨?_, by intro l t t' m m' e h; simp [runL] at h⟩
    intro t t' m m' e h Q hq; simp [runC] at h; obtain ⟨rfl, rfl, rfl⟩ := h; exact hq
  | ret =>
    refine ⟨?_, by intro l t t' m m' e h; simp [runL] at h⟩
    intro t t' m m' e h Q hq; simp [runC] at h; obtain ⟨rfl, rfl, rfl⟩ := h; exact hq
  | bad =>
    refine ⟨?_, by intro l t t' m m' e h; simp [runL] at h⟩
    intro t t' m m' e h Q hq; simp [runC] at h
  | label l' =>
    constructor
    · intro t t' m m' e h Q hq; simp [runC] at h; obtain ⟨rfl, rfl, rfl⟩ := h; exact hq
    · intro l t t' m m' e h Q hq
      simp only [runL] at h
      split at h
      · rename_i hl; simp at h; obtain ⟨rfl, rfl, rfl⟩ := h; exact ⟨hl, hq⟩
      · cases h
  | goto l' =>
    refine ⟨?_, by intro l t t' m m' e h; simp [runL] at h⟩
    intro t t' m m' e h Q hq; simp [runC] at h; obtain ⟨rfl, rfl, rfl⟩ := h; exact hq
  | scope c ih =>
    refine ⟨?_, by intro l t t' m m' e h; simp [runL] at h⟩
    intro t t' m m' e h Q hq X hX
    simp only [runC] at h
    have key : ∀ k e1 t1 m1, scopeE (fun l t m => runL P call n c l t m) k (some (e1, t1, m1)) = some (e, t', m') → jumpL X Q e1 t1 m1 := by
      intro k
      induction k with
      | zero =>
        intro e1 t1 m1 h
        cases e1 <;> simp [scopeE] at h <;> (obtain ⟨rfl, rfl, rfl⟩ := h; exact hq)
      | succ k ihk =>
        intro e1 t1 m1 h
        cases e1 with
        | goto l =>
          simp only [scopeE] at h
          cases hr : runL P call n c l t1 m1 with
          | none => rw [hr] at h; cases k <;> simp [scopeE] at h
          | some x =>
            obtain ⟨e2, t2, m2⟩ := x
            rw [hr] at h
            exact hX l t1 m1 (ih.2 hr (ihk _ _ _ h))
        | _ => simp [scopeE] at h; obtain ⟨rfl, rfl, rfl⟩ := h; exact hq
    cases hr : runC P call n c t m with
    | none => rw [hr] at h; cases n <;> simp [scopeE] at h
    | some x =>
      obtain ⟨e1, t1, m1⟩ := x
      rw [hr] at h
      exact ih.1 hr (key _ _ _ _ h)
theorem runC_sound {n : Nat} {c : LCode} {t t' : List Value} {m m' : Mem} {e : Exit} (h : runC P call n c t m = some (e, t', m')) {Q : Exit → List Value → Mem → Prop} (hq : Q e t' m') : LC P c Q t m := (runC_runL_sound hc).1 h hq
end

def TableOK (P : Program) (fs : FuncId → Option LFunc) : Prop := ∀ f lf, fs f = some lf → ∃ fn, P.funcs[f]? = some fn ∧ cFunc P fn = some lf
theorem runF_sound {fs : FuncId → Option LFunc} (hf : TableOK P fs) (n : Nat) : ∀ d, CallOK P (runF P fs n d)
  | 0 => fun f args m v m' h => by simp [runF] at h
  | d + 1 => fun f args m v m' h => by
    have ih := runF_sound hf n d
    simp only [runF] at h
    split at h
    · rename_i lf hl
      obtain ⟨fn, h1, h2⟩ := hf f lf hl
      refine LCall_enter h1 h2 ?_
      split at h
      · rename_i t m2 hr
        split at h
        · rename_i vs hv; simp at h; obtain ⟨rfl, rfl⟩ := h; exact runC_sound ih hr ⟨vs, hv, rfl, rfl⟩
        · cases h
      · rename_i t m2 hr
        split at h
        · rename_i vs hv; simp at h; obtain ⟨rfl, rfl⟩ := h; exact runC_sound ih hr ⟨vs, hv, rfl, rfl⟩
        · cases h
      · cases h
    · cases h

theorem flatA_same {r : Rho} {v v' : Value} (hf : flatA v = true) (h : AR r v v') : v' = v := by
  cases h <;> first | rfl | (simp [flatA] at hf)
theorem flatC_same {r : Rho} {v v' : Value} (hf : flatA v = true) (h : CR r v v') : v' = v := by
  cases h with
  | atom h => exact flatA_same hf h
  | func _ _ => simp [flatA] at hf
theorem flat_rows {r : Rho} {xs ys : List Value} (h : F2 (CR r) xs ys) : xs.all flatA = true → ys = xs := by
  induction h with
  | nil => intro _; rfl
  | cons h1 _ ih =>
    intro hf
    simp only [List.all_cons, Bool.and_eq_true] at hf
    rw [flatC_same hf.1 h1, ih hf.2]
theorem flat_same {r : Rho} {v v' : Value} (hf : flatB v = true) (h : VR r v v') : v' = v := by
  cases h with
  | base h =>
    cases h with
    | cell h =>
      refine flatC_same ?_ h
      cases h with
      | atom h => cases h <;> first | rfl | exact hf
      | func _ _ => exact hf
    | agg h => rw [flat_rows h (by simpa [flatB] using hf)]
  | tuple _ => simp [flatB, flatA] at hf

theorem MR.heap_lt {base : Nat} {r : Rho} {m : Mem} {w : World} (hm : MR base r m w) {i b d t z : Nat} {k : Blk} (hk : m[i]? = some k) (hi : r i = some (b, d, t, z)) (hl : k.kind ≠ .dead) : b < w.heap.size := by
  have hb := hm.blk i k b d t z hk hi
  unfold Bears at hb
  rcases Nat.lt_or_ge b w.heap.size with h | h
  · exact h
  · rw [Array.getElem?_eq_none h] at hb
    split at hb
    · rename_i e; exact absurd e hl
    · obtain ⟨_, _, c, fz, h1, _⟩ := hb; cases h1
    · obtain ⟨_, _, c, T, fz, h1, _⟩ := hb; cases h1

theorem Bears.past {base : Nat} {r : Rho} {m : Mem} {w w' : World} (hm : MR base r m w) (hb : Below w.heap.size w w') {i b d t z : Nat} {k : Blk} (hk : m[i]? = some k) (hi : r i = some (b, d, t, z)) : Bears r base k b d t z w'.heap[b]? := by
  by_cases hl : k.kind = .dead
  · unfold Bears; rw [hl]; trivial
  · rw [hb.block b (hm.heap_lt hk hi hl)]; exact hm.blk i k b d t z hk hi

/-- A world with more in it bears the same memory. -/
theorem MR.past {base : Nat} {r : Rho} {m : Mem} {w w' : World} (hm : MR base r m w) (hb : Below w.heap.size w w') : Stp base r m w r m w' :=
  ⟨⟨hm.dom, fun _ _ _ _ _ _ hk hi => Bears.past hm hb hk hi, hm.inj, Nat.le_trans hm.base hb.size⟩, fun _ _ => rfl, Nat.le_refl _, fun b h _ => hb.block b h, fun _ _ h => h, hb.size, hb.os, hb.tape, hb.output⟩

theorem flat_args {r : Rho} {xs ys : List Value} (hf : F2 (VR r) xs ys) : xs.all flatB = true → F2 (VR (fun _ => none)) xs ys := by
  induction hf with
  | nil => intro _; exact .nil
  | cons h1 _ ih =>
    intro hx
    simp only [List.all_cons, Bool.and_eq_true] at hx
    refine .cons ?_ (ih hx.2)
    rw [flat_same hx.1 h1]
    exact .base (flatB_rel hx.1)

/-- What a call of plain arguments does in no memory, it does in any. -/
theorem LCall_alone {f : FuncId} {args : List Value} {m : Mem} {v : Value} (ha : args.all flatB = true) (hv : flatB v = true) (h : LCall P f args [] fun u _ => u = v) {K : Value → Mem → Prop} (hk : K v m) : LCall P f args m K := by
  intro base r w args' hm hargs
  refine (h w.heap.size (fun _ => none) w args' (MR.nil w) (flat_args hargs ha)).mono ?_
  rintro e w' ⟨v', rfl, u, m2, r2, hu, hvr, hs⟩
  subst hu
  have hb := hs.below (by simp)
  rw [flat_same hv hvr]
  exact ⟨u, rfl, u, m, r, hk, .base (flatB_rel hv), hm.past hb⟩

/-- Names moved up. -/
def shA (L : Nat) : Value → Value
  | .pointer (some ⟨i, o, none⟩) => .pointer (some ⟨L + i, o, none⟩)
  | .slice (some ⟨i, o, none⟩) n c => .slice (some ⟨L + i, o, none⟩) n c
  | v => v
def shC (L : Nat) : Value → Value
  | .func fn f c => .func fn (f.toList.map (shA L)).toArray (c.toList.map (shA L)).toArray
  | v => shA L v
def shB (L : Nat) : Value → Value
  | .agg cs => .agg (cs.toList.map (shC L)).toArray
  | v => shC L v
def shV (L : Nat) : Value → Value
  | .tuple vs => .tuple (vs.toList.map (shB L)).toArray
  | v => shB L v
def shK (L : Nat) (k : Blk) : Blk := { k with cells := k.cells.map (shC L) }

section
variable {r q : Rho} {L : Nat} (h : ∀ i, q (L + i) = r i)
include h
theorem AR.sh {v v' : Value} (a : AR r v v') : AR q (shA L v) v' := by
  cases a with
  | ptr hi => exact .ptr (by rw [h]; exact hi)
  | slice hi hn ha => exact .slice (by rw [h]; exact hi) hn ha
  | bool b => exact .bool b
  | int k n => exact .int k n
  | string s => exact .string s
  | nilPtr => exact .nilPtr
  | nilSlice => exact .nilSlice
  | nilFunc => exact .nilFunc
  | nilIface => exact .nilIface
theorem F2A.sh {xs ys : List Value} (hf : F2 (AR r) xs ys) : F2 (AR q) (xs.map (shA L)) ys := by
  induction hf with
  | nil => exact .nil
  | cons h1 _ ih => exact .cons (AR.sh h h1) ih
theorem CR.sh {v v' : Value} (a : CR r v v') : CR q (shC L v) v' := by
  cases a with
  | atom a =>
    have e : shC L v = shA L v := by cases a <;> rfl
    rw [e]; exact .atom (AR.sh h a)
  | func hf hc => exact .func (F2A.sh h hf) (F2A.sh h hc)
theorem F2C.sh {xs ys : List Value} (hf : F2 (CR r) xs ys) : F2 (CR q) (xs.map (shC L)) ys := by
  induction hf with
  | nil => exact .nil
  | cons h1 _ ih => exact .cons (CR.sh h h1) ih
theorem BR.sh {v v' : Value} (a : BR r v v') : BR q (shB L v) v' := by
  cases a with
  | cell a =>
    have e : shB L v = shC L v := by
      cases a with
      | atom a => cases a <;> rfl
      | func _ _ => rfl
    rw [e]; exact .cell (CR.sh h a)
  | agg hf => exact .agg (F2C.sh h hf)
theorem F2B.sh {xs ys : List Value} (hf : F2 (BR r) xs ys) : F2 (BR q) (xs.map (shB L)) ys := by
  induction hf with
  | nil => exact .nil
  | cons h1 _ ih => exact .cons (BR.sh h h1) ih
theorem VR.sh {v v' : Value} (a : VR r v v') : VR q (shV L v) v' := by
  cases a with
  | base a =>
    have e : shV L v = shB L v := by
      cases a with
      | cell a =>
        cases a with
        | atom a => cases a <;> rfl
        | func _ _ => rfl
      | agg _ => rfl
    rw [e]; exact .base (BR.sh h a)
  | tuple hf => exact .tuple (F2B.sh h hf)
end

def noRo (m : Mem) : Bool := m.all fun k => match k.kind with | .ro => false | _ => true

/-- What a call of plain arguments makes out of no memory, it makes behind any. -/
theorem LCall_shift {f : FuncId} {args : List Value} {m m0 : Mem} {v : Value} (ha : args.all flatB = true) (h0 : noRo m0 = true) (h : LCall P f args [] fun u m2 => u = v ∧ m2 = m0) {K : Value → Mem → Prop} (hk : K (shV m.length v) (m ++ m0.map (shK m.length))) : LCall P f args m K := by
  intro base r w args' hm hargs
  refine (h w.heap.size (fun _ => none) w args' (MR.nil w) (flat_args hargs ha)).mono ?_
  rintro e w' ⟨v', rfl, u, m2, r2, ⟨hu, hm2⟩, hvr, hs⟩
  subst hu hm2
  have hb := hs.below (by simp)
  let q : Rho := fun i => if i < m.length then r i else r2 (i - m.length)
  have hq : ∀ i, q (m.length + i) = r2 i := fun i => by simp only [q]; rw [if_neg (by omega)]; congr 1; omega
  have hql : ∀ i, i < m.length → q i = r i := fun i hi => by simp only [q]; rw [if_pos hi]
  have hle : r.le q := hm.le_of_ext hql
  have cases' : ∀ {i : Nat} {k : Blk} {x : Nat × Nat × Nat × Nat}, (m ++ m2.map (shK m.length))[i]? = some k → q i = some x → (i < m.length ∧ m[i]? = some k ∧ r i = some x) ∨ ∃ j k0, i = m.length + j ∧ m2[j]? = some k0 ∧ k = shK m.length k0 ∧ r2 j = some x := by
    intro i k x hk hx
    rcases Nat.lt_or_ge i m.length with hi | hi
    · left
      rw [List.getElem?_append_left hi] at hk
      rw [hql i hi] at hx
      exact ⟨hi, hk, hx⟩
    · right
      obtain ⟨j, rfl⟩ : ∃ j, i = m.length + j := ⟨i - m.length, by omega⟩
      rw [List.getElem?_append_right (by omega)] at hk
      rw [hq] at hx
      simp only [Nat.add_sub_cancel_left, List.getElem?_map, Option.map_eq_some_iff] at hk
      obtain ⟨k0, h1, h2⟩ := hk
      exact ⟨j, k0, rfl, h1, h2.symm, hx⟩
  have hro : ∀ {j : Nat} {k0 : Blk}, m2[j]? = some k0 → k0.kind ≠ .ro := by
    intro j k0 hj e
    have := List.all_eq_true.1 h0 k0 (List.mem_of_getElem? hj)
    rw [e] at this; cases this
  have hnew : ∀ {j : Nat} {k0 : Blk} {b d t z : Nat}, m2[j]? = some k0 → k0.kind = .own → r2 j = some (b, d, t, z) → w.heap.size ≤ b := by
    intro j k0 b d t z hj ho hr
    have := hs.mr.blk j k0 b d t z hj hr
    unfold Bears at this
    rw [ho] at this
    exact this.1
  refine ⟨v', rfl, shV m.length u, _, q, hk, VR.sh hq hvr, ⟨?_, ?_, ?_, Nat.le_trans hm.base hb.size⟩, hql, by simp, fun b h _ => hb.block b h, ?_, hb.size, hb.os, hb.tape, hb.output⟩
  · intro i x hx
    rcases Nat.lt_or_ge i m.length with hi | hi
    · simp; omega
    · obtain ⟨j, rfl⟩ : ∃ j, i = m.length + j := ⟨i - m.length, by omega⟩
      rw [hq] at hx
      have := hs.mr.dom j x hx
      simp; omega
  · intro i k b d t z hk hi
    rcases cases' hk hi with ⟨_, h1, h2⟩ | ⟨j, k0, rfl, h1, rfl, h2⟩
    · exact (Bears.past hm hb h1 h2).mono hle
    · have hbl := hs.mr.blk j k0 b d t z h1 h2
      have hn := hro h1
      have hnw := @hnew j k0 b d t z h1
      unfold Bears at hbl ⊢
      show match k0.kind with | .dead => True | .own => _ | .ro => _
      split at hbl
      · rename_i e; rw [e]; trivial
      · rename_i e
        rw [e]
        obtain ⟨a0, az, c, fz, a1, at', a2, a3, a4⟩ := hbl
        refine ⟨Nat.le_trans hm.base (hnw e h2), az, c, fz, a1, at', by simpa [shK] using a2, fun j' v hv => ?_, a4.1, by simpa [shK] using a4.2⟩
        simp only [shK, List.getElem?_map, Option.map_eq_some_iff] at hv
        obtain ⟨v0, hv0, rfl⟩ := hv
        obtain ⟨v', e', hc⟩ := a3 j' v0 hv0
        exact ⟨v', e', CR.sh hq hc⟩
      · rename_i e; exact absurd e hn
  · intro i j k l b x y hk hl ho1 ho2 hi hj
    rcases cases' hk hi with ⟨_, h1, h2⟩ | ⟨i', k0, rfl, h1, rfl, h2⟩ <;> rcases cases' hl hj with ⟨_, h3, h4⟩ | ⟨j', l0, rfl, h3, rfl, h4⟩
    · exact hm.inj i j k l b x y h1 h3 ho1 ho2 h2 h4
    · have a := hm.heap_lt (d := x.1) (t := x.2.1) (z := x.2.2) h1 h2 (by rw [ho1]; simp)
      have c := hnew (d := y.1) (t := y.2.1) (z := y.2.2) h3 ho2 h4
      omega
    · have a := hm.heap_lt (d := y.1) (t := y.2.1) (z := y.2.2) h3 h4 (by rw [ho2]; simp)
      have c := hnew (d := x.1) (t := x.2.1) (z := x.2.2) h1 ho1 h2
      omega
    · rw [hs.mr.inj i' j' k0 l0 b x y h1 h3 ho1 ho2 h2 h4]
  · rintro b hbs ⟨i, k, x, hk, ho, hi⟩
    rcases cases' hk hi with ⟨_, h1, h2⟩ | ⟨j, k0, rfl, h1, rfl, h2⟩
    · exact ⟨i, k, x, h1, ho, h2⟩
    · have c := hnew (d := x.1) (t := x.2.1) (z := x.2.2) h1 ho h2
      omega

end Go.Lg
