/- What a call has made and nobody holds may be forgotten. -/
import Derived.Test.YtijndljfpiomhaaDoorLgW
namespace Go.Lg

variable {P : Program}

def atomB (L : Nat) : Value → Prop
  | .pointer (some a) => a.block < L
  | .slice (some a) _ _ => a.block < L
  | _ => True
def belowA (L : Nat) : Value → Prop
  | .pointer (some a) => a.block < L
  | .slice (some a) _ _ => a.block < L
  | .func _ f c => (∀ v ∈ f.toList, atomB L v) ∧ (∀ v ∈ c.toList, atomB L v)
  | _ => True
def belowB (L : Nat) : Value → Prop
  | .agg cs => ∀ v ∈ cs.toList, belowA L v
  | v => belowA L v
def below (L : Nat) : Value → Prop
  | .tuple vs => ∀ v ∈ vs.toList, belowB L v
  | v => belowB L v

theorem F2.sub {R S : Value → Value → Prop} {B : Value → Prop} (hs : ∀ v v', R v v' → B v → S v v') {xs ys : List Value} (hf : F2 R xs ys) (hb : ∀ v ∈ xs, B v) : F2 S xs ys := by
  induction hf with
  | nil => exact .nil
  | cons h1 _ ih => exact .cons (hs _ _ h1 (hb _ (by simp))) (ih fun v hv => hb v (by simp [hv]))

section
variable {r q : Rho} {L : Nat} (h : ∀ i, i < L → q i = r i)
include h
theorem AR.below {v v' : Value} (a : AR r v v') (hb : atomB L v) : AR q v v' := by
  cases a with
  | ptr hi => exact .ptr (by rw [h _ hb]; exact hi)
  | slice hi hn ha => exact .slice (by rw [h _ hb]; exact hi) hn ha
  | bool b => exact .bool b
  | int k n => exact .int k n
  | string s => exact .string s
  | nilPtr => exact .nilPtr
  | nilSlice => exact .nilSlice
  | nilFunc => exact .nilFunc
  | nilIface => exact .nilIface
theorem CR.below {v v' : Value} (a : CR r v v') (hb : belowA L v) : CR q v v' := by
  cases a with
  | atom a =>
    refine .atom (AR.below h a ?_)
    cases a <;> first | trivial | exact hb
  | func hf hc => exact .func (F2.sub (fun v v' hv => AR.below h hv) hf hb.1) (F2.sub (fun v v' hv => AR.below h hv) hc hb.2)
theorem BR.below {v v' : Value} (a : BR r v v') (hb : belowB L v) : BR q v v' := by
  cases a with
  | cell a =>
    refine .cell (CR.below h a ?_)
    cases a with
    | atom a => cases a <;> first | trivial | exact hb
    | func _ _ => exact hb
  | agg hf => exact .agg (F2.sub (fun v v' hv => CR.below h hv) hf hb)
theorem VR.below {v v' : Value} (a : VR r v v') (hb : Lg.below L v) : VR q v v' := by
  cases a with
  | base a =>
    refine .base (BR.below h a ?_)
    cases a with
    | cell a =>
      cases a with
      | atom a => cases a <;> first | trivial | exact hb
      | func _ _ => exact hb
    | agg _ => exact hb
  | tuple hf => exact .tuple (F2.sub (fun v v' hv => BR.below h hv) hf hb)
end

/-- The memory cut down to its first L blocks: what is new in these speaks of these alone. -/
def Cut (m : Mem) (L : Nat) (m2 : Mem) : Prop := m.length ≤ L ∧ L ≤ m2.length ∧ ∀ i k, i < L → m2[i]? = some k → m[i]? = some k ∨ ∀ v ∈ k.cells, belowA L v

theorem Stp.cut {base : Nat} {r r2 : Rho} {m m2 : Mem} {w w' : World} {L : Nat} (h : MR base r m w) (hs : Stp base r m w r2 m2 w') (hc : Cut m L m2) : Stp base r m w (restr r2 L) (m2.take L) w' := by
  obtain ⟨h1, h2, h3⟩ := hc
  have hlen : (m2.take L).length = L := by simp; omega
  have hin : ∀ {i k}, (m2.take L)[i]? = some k → i < L ∧ m2[i]? = some k := by
    intro i k hk
    rw [List.getElem?_take] at hk
    split at hk
    · exact ⟨by assumption, hk⟩
    · cases hk
  refine ⟨⟨fun i x hx => by rw [hlen]; exact restr_dom hx, ?_, ?_, hs.mr.base⟩, ?_, by rw [hlen]; exact h1, hs.fr, ?_, hs.size, hs.os, hs.tape, hs.output⟩
  · intro i k b d t z hk hi
    obtain ⟨hiL, hk⟩ := hin hk
    have hi2 := restr_le _ _ _ _ hi
    have hb := hs.mr.blk i k b d t z hk hi2
    rcases h3 i k hiL hk with hm | hcl
    · have him : i < m.length := (List.getElem?_eq_some_iff.1 hm).1
      have hri : r i = some (b, d, t, z) := by rw [← hs.ext i him]; exact hi2
      refine Bears.transfer ?_ (h.blk i k b d t z hm hri) hb
      intro j x y hj hj2
      have hjm := h.dom j x hj
      unfold restr; rw [if_pos (by omega)]; exact hj2
    · unfold Bears at hb ⊢
      split at hb
      · trivial
      · obtain ⟨a0, az, c, fz, a1, at', a2, a3, a4⟩ := hb
        refine ⟨a0, az, c, fz, a1, at', a2, fun j v hv => ?_, a4⟩
        obtain ⟨v', e, hv'⟩ := a3 j v hv
        exact ⟨v', e, CR.below (L := L) (fun i hi => by unfold restr; rw [if_pos hi]) hv' (hcl v (List.mem_of_getElem? hv))⟩
      · obtain ⟨a0, az, c, T, fz, a1, a3⟩ := hb
        refine ⟨a0, az, c, T, fz, a1, fun j v hv => ?_⟩
        obtain ⟨v', e, hv'⟩ := a3 j v hv
        exact ⟨v', e, CR.below (L := L) (fun i hi => by unfold restr; rw [if_pos hi]) hv' (hcl v (List.mem_of_getElem? hv))⟩
  · intro i j k l b x y hk hl ho1 ho2 hi hj
    exact hs.mr.inj i j k l b x y (hin hk).2 (hin hl).2 ho1 ho2 (restr_le _ _ _ _ hi) (restr_le _ _ _ _ hj)
  · intro i hi
    unfold restr; rw [if_pos (by omega)]; exact hs.ext i hi
  · rintro b hb ⟨i, k, x, hk, ho, hi⟩
    exact hs.own b hb ⟨i, k, x, (hin hk).2, ho, restr_le _ _ _ _ hi⟩

/-- A call may forget what is beyond the first L blocks. -/
theorem LCall_cut {f : FuncId} {args : List Value} {m : Mem} {K : Value → Mem → Prop} (h : LCall P f args m fun v m2 => ∃ L, Cut m L m2 ∧ below L v ∧ K v (m2.take L)) : LCall P f args m K := by
  intro base r w args' hm ha
  refine (h base r w args' hm ha).mono ?_
  rintro e w' ⟨v', rfl, v, m2, r2, ⟨L, hc, hb, hk⟩, hv, hs⟩
  exact ⟨v', rfl, v, _, restr r2 L, hk, VR.below (L := L) (fun i hi => by unfold restr; rw [if_pos hi]) hv hb, hs.cut hm hc⟩

theorem Cut.ext {m g : Mem} : Cut m m.length (m ++ g) := ⟨Nat.le_refl _, by simp, fun i k hi hk => .inl (by rw [List.getElem?_append_left hi] at hk; exact hk)⟩

def ext (m m' : Mem) : Prop := ∃ g, m' = m ++ g
theorem ext_refl (m : Mem) : ext m m := ⟨[], by simp⟩
theorem ext_one (m g : Mem) : ext m (m ++ g) := ⟨g, rfl⟩
theorem ext_app {m m' : Mem} (g : Mem) (h : ext m m') : ext m (m' ++ g) := by
  obtain ⟨a, rfl⟩ := h; exact ⟨a ++ g, by simp⟩

/-- A call that only makes, and whose value speaks of none of it. -/
def kDrop (m : Mem) (K : Value → Mem → Prop) (v : Value) (m2 : Mem) : Prop := ext m m2 ∧ below m.length v ∧ K v m
theorem kDrop_e {m m2 : Mem} {K : Value → Mem → Prop} {v : Value} : kDrop m K v m2 = (ext m m2 ∧ below m.length v ∧ K v m) := rfl
theorem LCall_drop {f : FuncId} {args : List Value} {m : Mem} {K : Value → Mem → Prop} (h : LCall P f args m (kDrop m K)) : LCall P f args m K := by
  refine LCall_cut (h.mono ?_)
  rintro v m2 ⟨⟨g, rfl⟩, hb, hk⟩
  exact ⟨m.length, .ext, hb, by simpa using hk⟩

def kRo (P : Program) (is : List LInstr) (KT : List Value → Mem → Prop) (t : List Value) (d : Option Nat) (m : Mem) (v : Value) (m' : Mem) : Prop := ext m m' ∧ LRo P is KT (putL t d v) m'
theorem kRo_e {is : List LInstr} {KT : List Value → Mem → Prop} {t : List Value} {d : Option Nat} {m m' : Mem} {v : Value} : kRo P is KT t d m v m' = (ext m m' ∧ LRo P is KT (putL t d v) m') := rfl
theorem ro_step {is : List LInstr} {d : Option Nat} {op : LOp} {KT : List Value → Mem → Prop} {t : List Value} {m : Mem} (h : noCall op = true) :
    LRo P (⟨d, none, op⟩ :: is) KT t m = LExec P op (evL t) m (kRo P is KT t d m) := by
  rw [ro_n]
  apply propext
  constructor
  · rintro ⟨v, g, h1, h2⟩
    exact LExec_mono (fun v' m' hv => by obtain ⟨rfl, rfl⟩ := hv; exact ⟨⟨g, rfl⟩, h2⟩) h1
  · intro hx
    obtain ⟨v, m', ⟨⟨g, rfl⟩, h1⟩, h2⟩ := LExec_det h _ hx
    exact ⟨v, g, h2, h1⟩
theorem ro_gstep {is : List LInstr} {d : Option Nat} {i : Nat} {b : Bool} {op : LOp} {KT : List Value → Mem → Prop} {t : List Value} {m : Mem} (h : noCall op = true) :
    LRo P (⟨d, some (i, b), op⟩ :: is) KT t m = guardK (t.getD i undef) b (LExec P op (evL t) m (kRo P is KT t d m)) (LRo P is KT (putL t d undef) m) := by
  rw [ro_g, ← ro_n, ro_step h]
/-- A call in a statement whose order is open: it leaves the memory as it is. -/
def roCall (P : Program) (f : FuncId) (args : List Value) (m : Mem) (C : Value → Prop) : Prop := ∃ v, LCall P f args m (fun v' m' => v' = v ∧ m' = m) ∧ C v
theorem ro_call {is : List LInstr} {d : Option Nat} {f : FuncId} {xs : List Operand} {KT : List Value → Mem → Prop} {t : List Value} {m : Mem} (h : roCall P f (xs.map (evL t)) m fun v => LRo P is KT (putL t d v) m) :
    LRo P (⟨d, none, .call f xs⟩ :: is) KT t m := by
  rw [ro_n]
  obtain ⟨v, h1, h2⟩ := h
  exact ⟨v, [], by simpa [LExec] using h1, by simpa using h2⟩

theorem lc_loop {c : LCode} {Q : Exit → List Value → Mem → Prop} {t : List Value} {m : Mem} : LC P (.loop c) Q t m = LC P c (thenL (LC P (.loop c) Q) Q) t m := by
  apply propext
  constructor
  · intro h
    exact h (fun t m => LC P c (thenL (LC P (.loop c) Q) Q) t m) fun t m hx => LC_mono (thenL_mono (fun t m hl => LC_loop hl) fun _ _ _ h => h) hx
  · exact LC_loop

theorem fill_nil {ev : Operand → Value} {z : List Value} : fillL ev z [] = some z := rfl
theorem fill_cons {ev : Operand → Value} {z : List Value} {o s : Nat} {x : Operand} {ps : List (Nat × Nat × Operand)} :
    fillL ev z ((o, s, x) :: ps) = if basic (ev x) = true ∧ (cellsL (ev x)).length = s ∧ o + s ≤ z.length then fillL ev (splice z o (cellsL (ev x))) ps else none := rfl

/-- More steps. -/
def idxK (len : Nat) (x i : Value) (m : Mem) (K : Value → Mem → Prop) : Prop := match x, i with
  | .agg cs, .int _ j => (0 ≤ j ∧ j < len) ∧ optK cs.toList[j.toNat]? m K
  | _, _ => False
def idxNK (len sz : Nat) (x i : Value) (m : Mem) (K : Value → Mem → Prop) : Prop := match x, i with
  | .agg cs, .int _ j => (0 ≤ j ∧ j < len) ∧ K (.agg ((cs.toList.drop (j.toNat * sz)).take sz).toArray) m
  | _, _ => False
def optU (o : Option UInt8) (m : Mem) (K : Value → Mem → Prop) : Prop := optP o fun b => K (.int .u8 b.toNat) m
def idxStrK (x i : Value) (m : Mem) (K : Value → Mem → Prop) : Prop := match x, i with
  | .string s, .int _ j => 0 ≤ j ∧ optU s.data.toList[j.toNat]? m K
  | _, _ => False
def idxAddrSK (sz : Nat) (x i : Value) (m : Mem) (K : Value → Mem → Prop) : Prop := match x, i with
  | .slice (some ⟨b, o, none⟩) n _, .int _ j => (0 ≤ j ∧ j < n) ∧ K (.pointer (some ⟨b, o + j.toNat * sz, none⟩)) m
  | _, _ => False
def idxAddrAK (len sz : Nat) (x i : Value) (m : Mem) (K : Value → Mem → Prop) : Prop := match x, i with
  | .pointer (some ⟨b, o, none⟩), .int _ j => (0 ≤ j ∧ j < len) ∧ K (.pointer (some ⟨b, o + j.toNat * sz, none⟩)) m
  | _, _ => False
def optL (o : Option Nat) (s : ByteArray) (h : Nat) (m : Mem) (K : Value → Mem → Prop) : Prop := optP o fun l => K (.string (s.extract l h)) m
def optH (ev : Operand → Value) (lo : Option Operand) (o : Option Nat) (s : ByteArray) (m : Mem) (K : Value → Mem → Prop) : Prop := optP o fun h => optL (boundL ev lo 0 h) s h m K
def sliceStrK (ev : Operand → Value) (x : Value) (lo hi : Option Operand) (m : Mem) (K : Value → Mem → Prop) : Prop := match x with
  | .string s => optH ev lo (boundL ev hi s.size s.size) s m K
  | _ => False
def optSl (o : Option Nat) (a : Option Addr) (sz h : Nat) (m : Mem) (K : Value → Mem → Prop) : Prop := optP o fun l => slK m K sz l h a
def optSh (ev : Operand → Value) (lo : Option Operand) (o : Option Nat) (a : Option Addr) (sz : Nat) (m : Mem) (K : Value → Mem → Prop) : Prop := optP o fun h => optSl (boundL ev lo 0 h) a sz h m K
def sliceSlK (ev : Operand → Value) (sz : Nat) (x : Value) (lo hi : Option Operand) (m : Mem) (K : Value → Mem → Prop) : Prop := match x with
  | .slice a n _ => optSh ev lo (boundL ev hi n n) a sz m K
  | _ => False
def slB (b : Option Blk) (i o n sz : Nat) (m : Mem) (K : Value → Mem → Prop) : Prop := optP b fun k => (k.kind.live = true ∧ k.esz = sz) ∧ K (.slice (some ⟨i, o, none⟩) n n) m
def boundV (v : Value) (most : Nat) : Option Nat := match v with
  | .int _ n => if 0 ≤ n ∧ n ≤ most then some n.toNat else none
  | _ => none
def strK (x : Value) (m : Mem) (K : Value → Mem → Prop) : Prop := match x with
  | .string s => K (.string s) m
  | _ => False
def s2bK (T : TypeId) (x : Value) (m : Mem) (K : Value → Mem → Prop) : Prop := match x with
  | .string s => K (.slice (some ⟨m.length, 0, none⟩) s.size s.size) (m ++ [⟨byteCells s.data.toList, T, 1, 0, .own⟩])
  | _ => False
def optBy (o : Option (List UInt8)) (m : Mem) (K : Value → Mem → Prop) : Prop := optP o fun l => K (.string ⟨l.toArray⟩) m
def b2sK (x : Value) (m : Mem) (K : Value → Mem → Prop) : Prop := match x with
  | .slice none _ _ => K (.string .empty) m
  | .slice (some ⟨i, o, none⟩) n _ => optBy ((cellsB m[i]? o n).bind bytesL) m K
  | _ => False
def lenStrK (x : Value) (m : Mem) (K : Value → Mem → Prop) : Prop := match x with
  | .string s => K (.int .i64 s.size) m
  | _ => False
def lenSlK (x : Value) (m : Mem) (K : Value → Mem → Prop) : Prop := match x with
  | .slice _ n _ => K (.int .i64 n) m
  | _ => False
def appN (new : Option (List Value)) (T sz bytes k : Nat) (x : Value) (m : Mem) (K : Value → Mem → Prop) : Prop := optP new fun new => apK m K T sz bytes k new x
def appL (k : Option Nat) (T sz bytes : Nat) (x y : Value) (m : Mem) (K : Value → Mem → Prop) : Prop := optP k fun k => appN (newCells m sz y) T sz bytes k x m K
def apB (b : Option Blk) (T sz bytes k i o n : Nat) (new : List Value) (m : Mem) (K : Value → Mem → Prop) : Prop := optP b fun blk =>
  (blk.kind.live = true ∧ blk.esz = sz ∧ o + n * sz ≤ blk.cells.length ∧ (k ≠ 0 → blk.kind.isOwn = true ∧ blk.elem = T ∧ blk.frz ≤ o + n * sz) ∧ (n + k) * (bytes + 1) ≤ 140737488355328) ∧
    (if k = 0 then K (.slice (some ⟨i, o, none⟩) n n) m else
      K (.slice (some ⟨m.length, 0, none⟩) (n + k) (n + k)) (m.set i (dead blk) ++ [⟨(blk.cells.drop o).take (n * sz) ++ new, T, sz, blk.frz - o, .own⟩]))
def funcK (P : Program) (x : Value) (args : List Value) (m : Mem) (K : Value → Mem → Prop) : Prop := match x with
  | .func (.func f) first cap => callable P f = true ∧ LCall P f (first.toList ++ args ++ cap.toList) m K
  | _ => False
def mmK (v : Option Value) (m : Mem) (K : Value → Mem → Prop) : Prop := optK v m K
def minO (vs : List Value) : Option Value := match vs with | v :: r => minL v r | [] => none
def maxO (vs : List Value) : Option Value := match vs with | v :: r => maxL v r | [] => none

section more
variable {K : Value → Mem → Prop} {t : List Value} {m : Mem}
theorem ex_idx {n : Nat} {x i : Operand} : LExec P (.idx n x i) (evL t) m K = idxK n (evL t x) (evL t i) m K := rfl
theorem ex_idxN {n s : Nat} {x i : Operand} : LExec P (.idxN n s x i) (evL t) m K = idxNK n s (evL t x) (evL t i) m K := rfl
theorem ex_idxStr {x i : Operand} : LExec P (.idxStr x i) (evL t) m K = idxStrK (evL t x) (evL t i) m K := rfl
theorem ex_idxAddrS {s : Nat} {x i : Operand} : LExec P (.idxAddrS s x i) (evL t) m K = idxAddrSK s (evL t x) (evL t i) m K := rfl
theorem ex_idxAddrA {n s : Nat} {x i : Operand} : LExec P (.idxAddrA n s x i) (evL t) m K = idxAddrAK n s (evL t x) (evL t i) m K := rfl
theorem ex_sliceStr {x : Operand} {lo hi : Option Operand} : LExec P (.sliceStr x lo hi) (evL t) m K = sliceStrK (evL t) (evL t x) lo hi m K := rfl
theorem ex_sliceSl {s : Nat} {x : Operand} {lo hi : Option Operand} : LExec P (.sliceSl s x lo hi) (evL t) m K = sliceSlK (evL t) s (evL t x) lo hi m K := rfl
theorem ex_str {x : Operand} : LExec P (.str x) (evL t) m K = strK (evL t x) m K := rfl
theorem ex_s2b {T : Nat} {x : Operand} : LExec P (.s2b T x) (evL t) m K = s2bK T (evL t x) m K := rfl
theorem ex_b2s {x : Operand} : LExec P (.b2s x) (evL t) m K = b2sK (evL t x) m K := rfl
theorem ex_lenStr {x : Operand} : LExec P (.lenStr x) (evL t) m K = lenStrK (evL t x) m K := rfl
theorem ex_lenSl {x : Operand} : LExec P (.lenSl x) (evL t) m K = lenSlK (evL t x) m K := rfl
theorem ex_append {T s b : Nat} {x y : Operand} : LExec P (.append T s b x y) (evL t) m K = appL (lenV (evL t y)) T s b (evL t x) (evL t y) m K := rfl
theorem ex_mkFunc {f : Fn} {a c : List Operand} : LExec P (.mkFunc f a c) (evL t) m K = (((a.map (evL t)).all isAtom = true ∧ (c.map (evL t)).all isAtom = true) ∧ K (.func f (a.map (evL t)).toArray (c.map (evL t)).toArray) m) := rfl
theorem ex_callv {x : Operand} {as : List Operand} : LExec P (.callv x as) (evL t) m K = funcK P (evL t x) (as.map (evL t)) m K := rfl
theorem ex_min {xs : List Operand} : LExec P (.min xs) (evL t) m K = optK (minO (xs.map (evL t))) m K := by
  simp only [LExec, lrun, minO, optK]
  cases xs.map (evL t) with
  | nil => simp [optP]
  | cons v r => rfl
theorem ex_max {xs : List Operand} : LExec P (.max xs) (evL t) m K = optK (maxO (xs.map (evL t))) m K := by
  simp only [LExec, lrun, maxO, optK]
  cases xs.map (evL t) with
  | nil => simp [optP]
  | cons v r => rfl
theorem min_e {k : IntKind} {a b : Int} : minO [.int k a, .int k b] = some (.int k (if b < a then b else a)) := rfl
theorem max_e {k : IntKind} {a b : Int} : maxO [.int k a, .int k b] = some (.int k (if a < b then b else a)) := rfl
theorem idxK_e {n : Nat} {cs : List Value} {k : IntKind} {j : Int} : idxK n (.agg cs.toArray) (.int k j) m K = ((0 ≤ j ∧ j < n) ∧ optK cs[j.toNat]? m K) := rfl
theorem idxNK_e {n s : Nat} {cs : List Value} {k : IntKind} {j : Int} : idxNK n s (.agg cs.toArray) (.int k j) m K = ((0 ≤ j ∧ j < n) ∧ K (.agg ((cs.drop (j.toNat * s)).take s).toArray) m) := rfl
theorem idxStrK_e {s : ByteArray} {k : IntKind} {j : Int} : idxStrK (.string s) (.int k j) m K = (0 ≤ j ∧ optU s.data.toList[j.toNat]? m K) := rfl
theorem optU_some {b : UInt8} : optU (some b) m K = K (.int .u8 b.toNat) m := by simp [optU, optP]
theorem idxAddrSK_e {s b o n c : Nat} {k : IntKind} {j : Int} : idxAddrSK s (.slice (some ⟨b, o, none⟩) n c) (.int k j) m K = ((0 ≤ j ∧ j < n) ∧ K (.pointer (some ⟨b, o + j.toNat * s, none⟩)) m) := rfl
theorem idxAddrAK_e {l s b o : Nat} {k : IntKind} {j : Int} : idxAddrAK l s (.pointer (some ⟨b, o, none⟩)) (.int k j) m K = ((0 ≤ j ∧ j < l) ∧ K (.pointer (some ⟨b, o + j.toNat * s, none⟩)) m) := rfl
theorem sliceStrK_e {ev : Operand → Value} {s : ByteArray} {lo hi : Option Operand} : sliceStrK ev (.string s) lo hi m K = optH ev lo (boundL ev hi s.size s.size) s m K := rfl
theorem optH_some {ev : Operand → Value} {s : ByteArray} {lo : Option Operand} {h : Nat} : optH ev lo (some h) s m K = optL (boundL ev lo 0 h) s h m K := by simp [optH, optP]
theorem optL_some {s : ByteArray} {l h : Nat} : optL (some l) s h m K = K (.string (s.extract l h)) m := by simp [optL, optP]
theorem bound_n {ev : Operand → Value} {a b : Nat} : boundL ev none a b = some a := rfl
theorem bound_s {ev : Operand → Value} {x : Operand} {a b : Nat} : boundL ev (some x) a b = boundV (ev x) b := by
  simp only [boundL, boundV]
  cases ev x <;> rfl
theorem boundV_e {k : IntKind} {n : Int} {b : Nat} (h : 0 ≤ n ∧ n ≤ b) : boundV (.int k n) b = some n.toNat := by simp [boundV, h]
theorem sliceSlK_e {ev : Operand → Value} {s n c : Nat} {a : Option Addr} {lo hi : Option Operand} : sliceSlK ev s (.slice a n c) lo hi m K = optSh ev lo (boundL ev hi n n) a s m K := rfl
theorem optSh_some {ev : Operand → Value} {lo : Option Operand} {a : Option Addr} {s h : Nat} : optSh ev lo (some h) a s m K = optSl (boundL ev lo 0 h) a s h m K := by simp [optSh, optP]
theorem optSl_n {s l h : Nat} : optSl (some l) none s h m K = K (.slice none 0 0) m := by simp [optSl, optP, slK]
theorem optSl_s {s l h b o : Nat} : optSl (some l) (some ⟨b, o, none⟩) s h m K = slB m[b]? b (o + l * s) (h - l) s m K := by simp [optSl, optP, slK, slB]
theorem slB_e {cs : List Value} {T z f i o n s : Nat} : slB (some ⟨cs, T, z, f, .own⟩) i o n s m K = (z = s ∧ K (.slice (some ⟨i, o, none⟩) n n) m) := by simp [slB, optP, Kind.live]
theorem slB_r {cs : List Value} {T z f i o n s : Nat} : slB (some ⟨cs, T, z, f, .ro⟩) i o n s m K = (z = s ∧ K (.slice (some ⟨i, o, none⟩) n n) m) := by simp [slB, optP, Kind.live]
theorem strK_e {s : ByteArray} : strK (.string s) m K = K (.string s) m := rfl
theorem s2bK_e {T : Nat} {s : ByteArray} : s2bK T (.string s) m K = K (.slice (some ⟨m.length, 0, none⟩) s.size s.size) (m ++ [⟨byteCells s.data.toList, T, 1, 0, .own⟩]) := rfl
theorem b2sK_n {n c : Nat} : b2sK (.slice none n c) m K = K (.string .empty) m := rfl
theorem b2sK_s {i o n c : Nat} : b2sK (.slice (some ⟨i, o, none⟩) n c) m K = optBy ((cellsB m[i]? o n).bind bytesL) m K := rfl
theorem optBy_some {l : List UInt8} : optBy (some l) m K = K (.string ⟨l.toArray⟩) m := by simp [optBy, optP]
theorem lenStrK_e {s : ByteArray} : lenStrK (.string s) m K = K (.int .i64 s.size) m := rfl
theorem lenSlK_e {a : Option Addr} {n c : Nat} : lenSlK (.slice a n c) m K = K (.int .i64 n) m := rfl
theorem lenV_s {s : ByteArray} : lenV (.string s) = some s.size := rfl
theorem lenV_sl {a : Option Addr} {n c : Nat} : lenV (.slice a n c) = some n := rfl
theorem appL_some {T s b k : Nat} {x y : Value} : appL (some k) T s b x y m K = appN (newCells m s y) T s b k x m K := by simp [appL, optP]
theorem appN_n {T s b k n c : Nat} {new : List Value} (hk : k ≠ 0) : appN (some new) T s b k (.slice none n c) m K = (k * (b + 1) ≤ 140737488355328 ∧ K (.slice (some ⟨m.length, 0, none⟩) k k) (m ++ [⟨new, T, s, 0, .own⟩])) := by simp [appN, optP, apK, hk]
theorem appN_n0 {T s b n c : Nat} {new : List Value} : appN (some new) T s b 0 (.slice none n c) m K = K (.slice none 0 0) m := by simp [appN, optP, apK]
theorem appN_s {T s b k i o n c : Nat} {new : List Value} : appN (some new) T s b k (.slice (some ⟨i, o, none⟩) n c) m K = apB m[i]? T s b k i o n new m K := by simp [appN, optP, apK, apB]
theorem apB_e {cs : List Value} {T s f b k i o n : Nat} {new : List Value} (hk : k ≠ 0) : apB (some ⟨cs, T, s, f, .own⟩) T s b k i o n new m K = ((o + n * s ≤ cs.length ∧ f ≤ o + n * s ∧ (n + k) * (b + 1) ≤ 140737488355328) ∧ K (.slice (some ⟨m.length, 0, none⟩) (n + k) (n + k)) (m.set i ⟨[], T, s, 0, .dead⟩ ++ [⟨(cs.drop o).take (n * s) ++ new, T, s, f - o, .own⟩])) := by
  simp [apB, optP, hk, Kind.live, Kind.isOwn, dead]
theorem new_str {s : ByteArray} : newCells m 1 (.string s) = some (byteCells s.data.toList) := rfl
theorem new_nil {s n c : Nat} : newCells m s (.slice none n c) = some [] := rfl
theorem new_sl {s i o n c : Nat} : newCells m s (.slice (some ⟨i, o, none⟩) n c) = orNil (cellsB m[i]? o (n * s)) (n * s) := rfl
theorem orNil_some {l : List Value} {n : Nat} : orNil (some l) n = some l := rfl
theorem funcK_e {f : Nat} {a c : List Value} {as : List Value} : funcK P (.func (.func f) a.toArray c.toArray) as m K = (callable P f = true ∧ LCall P f (a ++ as ++ c) m K) := rfl
theorem funcK_f {f : Nat} {as : List Value} : funcK P (.func (.func f) #[] #[]) as m K = (callable P f = true ∧ LCall P f as m K) := by simp [funcK]
end more

section ros
variable {is : List LInstr} {d : Option Nat} {i : Nat} {b : Bool} {KT : List Value → Mem → Prop} {t : List Value} {m : Mem}
theorem ro_move (x : Operand) : LRo P (⟨d, none, (.move x)⟩ :: is) KT t m = LExec P (.move x) (evL t) m (kRo P is KT t d m) := ro_step rfl
theorem rog_move (x : Operand) : LRo P (⟨d, some (i, b), (.move x)⟩ :: is) KT t m = guardK (t.getD i undef) b (LExec P (.move x) (evL t) m (kRo P is KT t d m)) (LRo P is KT (putL t d undef) m) := ro_gstep rfl
theorem ro_pick (c y z : Operand) : LRo P (⟨d, none, (.pick c y z)⟩ :: is) KT t m = LExec P (.pick c y z) (evL t) m (kRo P is KT t d m) := ro_step rfl
theorem rog_pick (c y z : Operand) : LRo P (⟨d, some (i, b), (.pick c y z)⟩ :: is) KT t m = guardK (t.getD i undef) b (LExec P (.pick c y z) (evL t) m (kRo P is KT t d m)) (LRo P is KT (putL t d undef) m) := ro_gstep rfl
theorem ro_zero (T : Nat) (cs : List Value) : LRo P (⟨d, none, (.zero T cs)⟩ :: is) KT t m = LExec P (.zero T cs) (evL t) m (kRo P is KT t d m) := ro_step rfl
theorem rog_zero (T : Nat) (cs : List Value) : LRo P (⟨d, some (i, b), (.zero T cs)⟩ :: is) KT t m = guardK (t.getD i undef) b (LExec P (.zero T cs) (evL t) m (kRo P is KT t d m)) (LRo P is KT (putL t d undef) m) := ro_gstep rfl
theorem ro_box (T : Nat) (x : Operand) : LRo P (⟨d, none, (.box T x)⟩ :: is) KT t m = LExec P (.box T x) (evL t) m (kRo P is KT t d m) := ro_step rfl
theorem rog_box (T : Nat) (x : Operand) : LRo P (⟨d, some (i, b), (.box T x)⟩ :: is) KT t m = guardK (t.getD i undef) b (LExec P (.box T x) (evL t) m (kRo P is KT t d m)) (LRo P is KT (putL t d undef) m) := ro_gstep rfl
theorem ro_build (z : List Value) (ps : List (Nat × Nat × Operand)) : LRo P (⟨d, none, (.build z ps)⟩ :: is) KT t m = LExec P (.build z ps) (evL t) m (kRo P is KT t d m) := ro_step rfl
theorem rog_build (z : List Value) (ps : List (Nat × Nat × Operand)) : LRo P (⟨d, some (i, b), (.build z ps)⟩ :: is) KT t m = guardK (t.getD i undef) b (LExec P (.build z ps) (evL t) m (kRo P is KT t d m)) (LRo P is KT (putL t d undef) m) := ro_gstep rfl
theorem ro_buildSlice (T s n : Nat) (z : List Value) (ps : List (Nat × Nat × Operand)) : LRo P (⟨d, none, (.buildSlice T s n z ps)⟩ :: is) KT t m = LExec P (.buildSlice T s n z ps) (evL t) m (kRo P is KT t d m) := ro_step rfl
theorem rog_buildSlice (T s n : Nat) (z : List Value) (ps : List (Nat × Nat × Operand)) : LRo P (⟨d, some (i, b), (.buildSlice T s n z ps)⟩ :: is) KT t m = guardK (t.getD i undef) b (LExec P (.buildSlice T s n z ps) (evL t) m (kRo P is KT t d m)) (LRo P is KT (putL t d undef) m) := ro_gstep rfl
theorem ro_load (x : Operand) : LRo P (⟨d, none, (.load x)⟩ :: is) KT t m = LExec P (.load x) (evL t) m (kRo P is KT t d m) := ro_step rfl
theorem rog_load (x : Operand) : LRo P (⟨d, some (i, b), (.load x)⟩ :: is) KT t m = guardK (t.getD i undef) b (LExec P (.load x) (evL t) m (kRo P is KT t d m)) (LRo P is KT (putL t d undef) m) := ro_gstep rfl
theorem ro_loadN (n : Nat) (x : Operand) : LRo P (⟨d, none, (.loadN n x)⟩ :: is) KT t m = LExec P (.loadN n x) (evL t) m (kRo P is KT t d m) := ro_step rfl
theorem rog_loadN (n : Nat) (x : Operand) : LRo P (⟨d, some (i, b), (.loadN n x)⟩ :: is) KT t m = guardK (t.getD i undef) b (LExec P (.loadN n x) (evL t) m (kRo P is KT t d m)) (LRo P is KT (putL t d undef) m) := ro_gstep rfl
theorem ro_nilCheck (x : Operand) : LRo P (⟨d, none, (.nilCheck x)⟩ :: is) KT t m = LExec P (.nilCheck x) (evL t) m (kRo P is KT t d m) := ro_step rfl
theorem rog_nilCheck (x : Operand) : LRo P (⟨d, some (i, b), (.nilCheck x)⟩ :: is) KT t m = guardK (t.getD i undef) b (LExec P (.nilCheck x) (evL t) m (kRo P is KT t d m)) (LRo P is KT (putL t d undef) m) := ro_gstep rfl
theorem ro_bin (o : BinOp) (x y : Operand) : LRo P (⟨d, none, (.bin o x y)⟩ :: is) KT t m = LExec P (.bin o x y) (evL t) m (kRo P is KT t d m) := ro_step rfl
theorem rog_bin (o : BinOp) (x y : Operand) : LRo P (⟨d, some (i, b), (.bin o x y)⟩ :: is) KT t m = guardK (t.getD i undef) b (LExec P (.bin o x y) (evL t) m (kRo P is KT t d m)) (LRo P is KT (putL t d undef) m) := ro_gstep rfl
theorem ro_eq1 (n : Bool) (c : EqC) (x y : Operand) : LRo P (⟨d, none, (.eq1 n c x y)⟩ :: is) KT t m = LExec P (.eq1 n c x y) (evL t) m (kRo P is KT t d m) := ro_step rfl
theorem rog_eq1 (n : Bool) (c : EqC) (x y : Operand) : LRo P (⟨d, some (i, b), (.eq1 n c x y)⟩ :: is) KT t m = guardK (t.getD i undef) b (LExec P (.eq1 n c x y) (evL t) m (kRo P is KT t d m)) (LRo P is KT (putL t d undef) m) := ro_gstep rfl
theorem ro_eqN (n : Bool) (c : List (Nat × EqC)) (x y : Operand) : LRo P (⟨d, none, (.eqN n c x y)⟩ :: is) KT t m = LExec P (.eqN n c x y) (evL t) m (kRo P is KT t d m) := ro_step rfl
theorem rog_eqN (n : Bool) (c : List (Nat × EqC)) (x y : Operand) : LRo P (⟨d, some (i, b), (.eqN n c x y)⟩ :: is) KT t m = guardK (t.getD i undef) b (LExec P (.eqN n c x y) (evL t) m (kRo P is KT t d m)) (LRo P is KT (putL t d undef) m) := ro_gstep rfl
theorem ro_str (x : Operand) : LRo P (⟨d, none, (.str x)⟩ :: is) KT t m = LExec P (.str x) (evL t) m (kRo P is KT t d m) := ro_step rfl
theorem rog_str (x : Operand) : LRo P (⟨d, some (i, b), (.str x)⟩ :: is) KT t m = guardK (t.getD i undef) b (LExec P (.str x) (evL t) m (kRo P is KT t d m)) (LRo P is KT (putL t d undef) m) := ro_gstep rfl
theorem ro_un (o : UnOp) (x : Operand) : LRo P (⟨d, none, (.un o x)⟩ :: is) KT t m = LExec P (.un o x) (evL t) m (kRo P is KT t d m) := ro_step rfl
theorem rog_un (o : UnOp) (x : Operand) : LRo P (⟨d, some (i, b), (.un o x)⟩ :: is) KT t m = guardK (t.getD i undef) b (LExec P (.un o x) (evL t) m (kRo P is KT t d m)) (LRo P is KT (putL t d undef) m) := ro_gstep rfl
theorem ro_conv (k : IntKind) (x : Operand) : LRo P (⟨d, none, (.conv k x)⟩ :: is) KT t m = LExec P (.conv k x) (evL t) m (kRo P is KT t d m) := ro_step rfl
theorem rog_conv (k : IntKind) (x : Operand) : LRo P (⟨d, some (i, b), (.conv k x)⟩ :: is) KT t m = guardK (t.getD i undef) b (LExec P (.conv k x) (evL t) m (kRo P is KT t d m)) (LRo P is KT (putL t d undef) m) := ro_gstep rfl
theorem ro_s2b (T : Nat) (x : Operand) : LRo P (⟨d, none, (.s2b T x)⟩ :: is) KT t m = LExec P (.s2b T x) (evL t) m (kRo P is KT t d m) := ro_step rfl
theorem rog_s2b (T : Nat) (x : Operand) : LRo P (⟨d, some (i, b), (.s2b T x)⟩ :: is) KT t m = guardK (t.getD i undef) b (LExec P (.s2b T x) (evL t) m (kRo P is KT t d m)) (LRo P is KT (putL t d undef) m) := ro_gstep rfl
theorem ro_b2s (x : Operand) : LRo P (⟨d, none, (.b2s x)⟩ :: is) KT t m = LExec P (.b2s x) (evL t) m (kRo P is KT t d m) := ro_step rfl
theorem rog_b2s (x : Operand) : LRo P (⟨d, some (i, b), (.b2s x)⟩ :: is) KT t m = guardK (t.getD i undef) b (LExec P (.b2s x) (evL t) m (kRo P is KT t d m)) (LRo P is KT (putL t d undef) m) := ro_gstep rfl
theorem ro_fieldAddr (o : Nat) (x : Operand) : LRo P (⟨d, none, (.fieldAddr o x)⟩ :: is) KT t m = LExec P (.fieldAddr o x) (evL t) m (kRo P is KT t d m) := ro_step rfl
theorem rog_fieldAddr (o : Nat) (x : Operand) : LRo P (⟨d, some (i, b), (.fieldAddr o x)⟩ :: is) KT t m = guardK (t.getD i undef) b (LExec P (.fieldAddr o x) (evL t) m (kRo P is KT t d m)) (LRo P is KT (putL t d undef) m) := ro_gstep rfl
theorem ro_field (o : Nat) (x : Operand) : LRo P (⟨d, none, (.field o x)⟩ :: is) KT t m = LExec P (.field o x) (evL t) m (kRo P is KT t d m) := ro_step rfl
theorem rog_field (o : Nat) (x : Operand) : LRo P (⟨d, some (i, b), (.field o x)⟩ :: is) KT t m = guardK (t.getD i undef) b (LExec P (.field o x) (evL t) m (kRo P is KT t d m)) (LRo P is KT (putL t d undef) m) := ro_gstep rfl
theorem ro_fieldN (o n : Nat) (x : Operand) : LRo P (⟨d, none, (.fieldN o n x)⟩ :: is) KT t m = LExec P (.fieldN o n x) (evL t) m (kRo P is KT t d m) := ro_step rfl
theorem rog_fieldN (o n : Nat) (x : Operand) : LRo P (⟨d, some (i, b), (.fieldN o n x)⟩ :: is) KT t m = guardK (t.getD i undef) b (LExec P (.fieldN o n x) (evL t) m (kRo P is KT t d m)) (LRo P is KT (putL t d undef) m) := ro_gstep rfl
theorem ro_idxAddrS (s : Nat) (x j : Operand) : LRo P (⟨d, none, (.idxAddrS s x j)⟩ :: is) KT t m = LExec P (.idxAddrS s x j) (evL t) m (kRo P is KT t d m) := ro_step rfl
theorem rog_idxAddrS (s : Nat) (x j : Operand) : LRo P (⟨d, some (i, b), (.idxAddrS s x j)⟩ :: is) KT t m = guardK (t.getD i undef) b (LExec P (.idxAddrS s x j) (evL t) m (kRo P is KT t d m)) (LRo P is KT (putL t d undef) m) := ro_gstep rfl
theorem ro_idxAddrA (l s : Nat) (x j : Operand) : LRo P (⟨d, none, (.idxAddrA l s x j)⟩ :: is) KT t m = LExec P (.idxAddrA l s x j) (evL t) m (kRo P is KT t d m) := ro_step rfl
theorem rog_idxAddrA (l s : Nat) (x j : Operand) : LRo P (⟨d, some (i, b), (.idxAddrA l s x j)⟩ :: is) KT t m = guardK (t.getD i undef) b (LExec P (.idxAddrA l s x j) (evL t) m (kRo P is KT t d m)) (LRo P is KT (putL t d undef) m) := ro_gstep rfl
theorem ro_idxStr (x j : Operand) : LRo P (⟨d, none, (.idxStr x j)⟩ :: is) KT t m = LExec P (.idxStr x j) (evL t) m (kRo P is KT t d m) := ro_step rfl
theorem rog_idxStr (x j : Operand) : LRo P (⟨d, some (i, b), (.idxStr x j)⟩ :: is) KT t m = guardK (t.getD i undef) b (LExec P (.idxStr x j) (evL t) m (kRo P is KT t d m)) (LRo P is KT (putL t d undef) m) := ro_gstep rfl
theorem ro_idx (l : Nat) (x j : Operand) : LRo P (⟨d, none, (.idx l x j)⟩ :: is) KT t m = LExec P (.idx l x j) (evL t) m (kRo P is KT t d m) := ro_step rfl
theorem rog_idx (l : Nat) (x j : Operand) : LRo P (⟨d, some (i, b), (.idx l x j)⟩ :: is) KT t m = guardK (t.getD i undef) b (LExec P (.idx l x j) (evL t) m (kRo P is KT t d m)) (LRo P is KT (putL t d undef) m) := ro_gstep rfl
theorem ro_idxN (l s : Nat) (x j : Operand) : LRo P (⟨d, none, (.idxN l s x j)⟩ :: is) KT t m = LExec P (.idxN l s x j) (evL t) m (kRo P is KT t d m) := ro_step rfl
theorem rog_idxN (l s : Nat) (x j : Operand) : LRo P (⟨d, some (i, b), (.idxN l s x j)⟩ :: is) KT t m = guardK (t.getD i undef) b (LExec P (.idxN l s x j) (evL t) m (kRo P is KT t d m)) (LRo P is KT (putL t d undef) m) := ro_gstep rfl
theorem ro_sliceStr (x : Operand) (lo hi : Option Operand) : LRo P (⟨d, none, (.sliceStr x lo hi)⟩ :: is) KT t m = LExec P (.sliceStr x lo hi) (evL t) m (kRo P is KT t d m) := ro_step rfl
theorem rog_sliceStr (x : Operand) (lo hi : Option Operand) : LRo P (⟨d, some (i, b), (.sliceStr x lo hi)⟩ :: is) KT t m = guardK (t.getD i undef) b (LExec P (.sliceStr x lo hi) (evL t) m (kRo P is KT t d m)) (LRo P is KT (putL t d undef) m) := ro_gstep rfl
theorem ro_sliceSl (s : Nat) (x : Operand) (lo hi : Option Operand) : LRo P (⟨d, none, (.sliceSl s x lo hi)⟩ :: is) KT t m = LExec P (.sliceSl s x lo hi) (evL t) m (kRo P is KT t d m) := ro_step rfl
theorem rog_sliceSl (s : Nat) (x : Operand) (lo hi : Option Operand) : LRo P (⟨d, some (i, b), (.sliceSl s x lo hi)⟩ :: is) KT t m = guardK (t.getD i undef) b (LExec P (.sliceSl s x lo hi) (evL t) m (kRo P is KT t d m)) (LRo P is KT (putL t d undef) m) := ro_gstep rfl
theorem ro_sliceArr (n s : Nat) (x : Operand) (lo hi : Option Operand) : LRo P (⟨d, none, (.sliceArr n s x lo hi)⟩ :: is) KT t m = LExec P (.sliceArr n s x lo hi) (evL t) m (kRo P is KT t d m) := ro_step rfl
theorem rog_sliceArr (n s : Nat) (x : Operand) (lo hi : Option Operand) : LRo P (⟨d, some (i, b), (.sliceArr n s x lo hi)⟩ :: is) KT t m = guardK (t.getD i undef) b (LExec P (.sliceArr n s x lo hi) (evL t) m (kRo P is KT t d m)) (LRo P is KT (putL t d undef) m) := ro_gstep rfl
theorem ro_extract (x : Operand) (j : Nat) : LRo P (⟨d, none, (.extract x j)⟩ :: is) KT t m = LExec P (.extract x j) (evL t) m (kRo P is KT t d m) := ro_step rfl
theorem rog_extract (x : Operand) (j : Nat) : LRo P (⟨d, some (i, b), (.extract x j)⟩ :: is) KT t m = guardK (t.getD i undef) b (LExec P (.extract x j) (evL t) m (kRo P is KT t d m)) (LRo P is KT (putL t d undef) m) := ro_gstep rfl
theorem ro_lenStr (x : Operand) : LRo P (⟨d, none, (.lenStr x)⟩ :: is) KT t m = LExec P (.lenStr x) (evL t) m (kRo P is KT t d m) := ro_step rfl
theorem rog_lenStr (x : Operand) : LRo P (⟨d, some (i, b), (.lenStr x)⟩ :: is) KT t m = guardK (t.getD i undef) b (LExec P (.lenStr x) (evL t) m (kRo P is KT t d m)) (LRo P is KT (putL t d undef) m) := ro_gstep rfl
theorem ro_lenSl (x : Operand) : LRo P (⟨d, none, (.lenSl x)⟩ :: is) KT t m = LExec P (.lenSl x) (evL t) m (kRo P is KT t d m) := ro_step rfl
theorem rog_lenSl (x : Operand) : LRo P (⟨d, some (i, b), (.lenSl x)⟩ :: is) KT t m = guardK (t.getD i undef) b (LExec P (.lenSl x) (evL t) m (kRo P is KT t d m)) (LRo P is KT (putL t d undef) m) := ro_gstep rfl
theorem ro_lenC (n : Nat) : LRo P (⟨d, none, (.lenC n)⟩ :: is) KT t m = LExec P (.lenC n) (evL t) m (kRo P is KT t d m) := ro_step rfl
theorem rog_lenC (n : Nat) : LRo P (⟨d, some (i, b), (.lenC n)⟩ :: is) KT t m = guardK (t.getD i undef) b (LExec P (.lenC n) (evL t) m (kRo P is KT t d m)) (LRo P is KT (putL t d undef) m) := ro_gstep rfl
theorem ro_append (T s y : Nat) (x z : Operand) : LRo P (⟨d, none, (.append T s y x z)⟩ :: is) KT t m = LExec P (.append T s y x z) (evL t) m (kRo P is KT t d m) := ro_step rfl
theorem rog_append (T s y : Nat) (x z : Operand) : LRo P (⟨d, some (i, b), (.append T s y x z)⟩ :: is) KT t m = guardK (t.getD i undef) b (LExec P (.append T s y x z) (evL t) m (kRo P is KT t d m)) (LRo P is KT (putL t d undef) m) := ro_gstep rfl
theorem ro_mkFunc (f : Fn) (x z : List Operand) : LRo P (⟨d, none, (.mkFunc f x z)⟩ :: is) KT t m = LExec P (.mkFunc f x z) (evL t) m (kRo P is KT t d m) := ro_step rfl
theorem rog_mkFunc (f : Fn) (x z : List Operand) : LRo P (⟨d, some (i, b), (.mkFunc f x z)⟩ :: is) KT t m = guardK (t.getD i undef) b (LExec P (.mkFunc f x z) (evL t) m (kRo P is KT t d m)) (LRo P is KT (putL t d undef) m) := ro_gstep rfl
theorem ro_min (x : List Operand) : LRo P (⟨d, none, (.min x)⟩ :: is) KT t m = LExec P (.min x) (evL t) m (kRo P is KT t d m) := ro_step rfl
theorem rog_min (x : List Operand) : LRo P (⟨d, some (i, b), (.min x)⟩ :: is) KT t m = guardK (t.getD i undef) b (LExec P (.min x) (evL t) m (kRo P is KT t d m)) (LRo P is KT (putL t d undef) m) := ro_gstep rfl
theorem ro_max (x : List Operand) : LRo P (⟨d, none, (.max x)⟩ :: is) KT t m = LExec P (.max x) (evL t) m (kRo P is KT t d m) := ro_step rfl
theorem rog_max (x : List Operand) : LRo P (⟨d, some (i, b), (.max x)⟩ :: is) KT t m = guardK (t.getD i undef) b (LExec P (.max x) (evL t) m (kRo P is KT t d m)) (LRo P is KT (putL t d undef) m) := ro_gstep rfl
end ros

end Go.Lg
