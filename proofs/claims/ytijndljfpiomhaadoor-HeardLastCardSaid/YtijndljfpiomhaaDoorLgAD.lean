/- Walking, continued: chains, further operations, calls that come to one value. -/
import Derived.Test.YtijndljfpiomhaaDoorLgAC
namespace Go.Lg

variable {P : Program}

/-- A call comes to one value and one memory. -/
def Ret (P : Program) (f : FuncId) (args : List Value) (m : Mem) (v : Value) (m' : Mem) : Prop := LCall P f args m fun u m2 => u = v ∧ m2 = m'
theorem Ret.use {f : FuncId} {args : List Value} {m m' : Mem} {v : Value} {K : Value → Mem → Prop} (h : Ret P f args m v m') (hk : K v m') : LCall P f args m K := by
  refine LCall.mono h ?_
  rintro _ _ ⟨rfl, rfl⟩; exact hk

theorem run_alone {fs : FuncId → Option LFunc} (hf : TableOK P fs) {f : FuncId} {n d : Nat} {args : List Value} {v : Value} (h : (runF P fs n d f args []).map (·.1) = some v) (ha : args.all flatB = true) (hv : flatB v = true) (m : Mem) : Ret P f args m v m := by
  rw [Option.map_eq_some_iff] at h
  obtain ⟨⟨u, m'⟩, h1, rfl⟩ := h
  exact LCall_alone ha hv ((runF_sound hf n d f args [] u m' h1).mono fun _ _ h => h.1) ⟨rfl, rfl⟩

section eqs
variable {K : Value → Mem → Prop} {KT : List Value → Mem → Prop} {t : List Value} {m m' : Mem} {is ff fp fl pe : List LInstr} {d : Option Nat} {op : LOp} {Q : Exit → List Value → Mem → Prop} {st : List LStep} {v : Value}

def kFl (P : Program) (is : List LInstr) (KT : List Value → Mem → Prop) (t : List Value) (d : Option Nat) (m : Mem) (v : Value) (m' : Mem) : Prop := m' = m ∧ LFl P is KT (putL t d v) m'
def kSm (t : List Value) (d : Option Nat) (m : Mem) (v : Value) (m' : Mem) : Prop := m' = m ∧ dstIs t d v
def kEnd (P : Program) (fp : List LInstr) (KT : List Value → Mem → Prop) (t : List Value) (m : Mem) : Prop := LSame P fp t m ∧ KT t m
def kCh (P : Program) (ff fp : List LInstr) (st : List LStep) (KT : List Value → Mem → Prop) (t : List Value) (d : Option Nat) (v : Value) (m : Mem) : Prop := LChain P ff fp st KT (putL t d v) m
def kSt (P : Program) (ff fp : List LInstr) (st : List LStep) (KT : List Value → Mem → Prop) (pe : List LInstr) (x : LInstr) (t : List Value) (m : Mem) : Prop :=
  LSame P pe t m ∧ CondP (wantedL t x.guard) (LExec P x.op (evL t) m (kCh P ff fp st KT t x.dst)) (LChain P ff fp st KT (putL t x.dst undef) m)

theorem lc_chain : LC P (.chainD ff fp st) Q t m = LChain P ff fp st (Q .normal) t m := rfl
theorem lc_bad : LC P .bad Q t m = False := rfl
theorem lch_nil : LChain P ff fp [] KT t m = LFl P ff (kEnd P fp KT) t m := rfl
theorem lch_cons {x : LInstr} : LChain P ff fp ((fl, pe, x) :: st) KT t m = LFl P fl (kSt P ff fp st KT pe x) t m := rfl
theorem kEnd_e : kEnd P fp KT t m = (LSame P fp t m ∧ KT t m) := rfl
theorem kCh_e : kCh P ff fp st KT t d v m = LChain P ff fp st KT (putL t d v) m := rfl
theorem kSt_n : kSt P ff fp st KT pe ⟨d, none, op⟩ t m = (LSame P pe t m ∧ LExec P op (evL t) m (kCh P ff fp st KT t d)) := by
  simp [kSt, CondP, wantedL]
theorem wanted_guard {t : List Value} {i : Nat} {b : Bool} {X Y : Prop} : CondP (wantedL t (some (i, b))) X Y = guardK (t.getD i undef) b X Y := by
  simp only [guardK, wantedL]
  congr 1
  simp only [List.getD_eq_getElem?_getD]
  cases t[i]? with
  | none => rfl
  | some v => cases v <;> rfl
theorem kSt_g {i : Nat} {b : Bool} : kSt P ff fp st KT pe ⟨d, some (i, b), op⟩ t m = (LSame P pe t m ∧ guardK (t.getD i undef) b (LExec P op (evL t) m (kCh P ff fp st KT t d)) (LChain P ff fp st KT (putL t d undef) m)) := by
  simp only [kSt, wanted_guard]
theorem lfl_nil : LFl P [] KT t m = KT t m := rfl
theorem lfl_n : LFl P (⟨d, none, op⟩ :: is) KT t m = LExec P op (evL t) m (kFl P is KT t d m) := by
  simp [LFl, CondP, wantedL]
  rfl
theorem lfl_g {i : Nat} {b : Bool} : LFl P (⟨d, some (i, b), op⟩ :: is) KT t m = guardK (t.getD i undef) b (LExec P op (evL t) m (kFl P is KT t d m)) (LFl P is KT (putL t d undef) m) := by
  simp only [LFl, wanted_guard]
  rfl
theorem kFl_e : kFl P is KT t d m v m' = (m' = m ∧ LFl P is KT (putL t d v) m') := rfl
theorem same_nil : LSame P [] t m = True := rfl
theorem same_n : LSame P (⟨d, none, op⟩ :: is) t m = (LExec P op (evL t) m (kSm t d m) ∧ LSame P is t m) := by
  show (CondP true _ _ ∧ _) = _
  rw [CondP_t]; rfl
theorem same_g {i : Nat} {b : Bool} : LSame P (⟨d, some (i, b), op⟩ :: is) t m = (guardK (t.getD i undef) b (LExec P op (evL t) m (kSm t d m)) (dstIs t d undef) ∧ LSame P is t m) := by
  simp only [LSame, wanted_guard]
  rfl
theorem kSm_s {i : Nat} : kSm t (some i) m v m' = (m' = m ∧ t.getD i undef = v) := rfl
theorem kSm_n : kSm t none m v m' = (m' = m ∧ True) := rfl
theorem dstIs_s {i : Nat} : dstIs t (some i) v = (t.getD i undef = v) := rfl
theorem dstIs_n : dstIs t none v = True := rfl

theorem LFl_congr {t' : List Value} (h : t = t') (k : m = m') : LFl P is KT t m = LFl P is KT t' m' := by rw [h, k]
theorem LChain_congr {t' : List Value} (h : t = t') (k : m = m') : LChain P ff fp st KT t m = LChain P ff fp st KT t' m' := by rw [h, k]
theorem LSame_congr {t' : List Value} (h : t = t') (k : m = m') : LSame P is t m = LSame P is t' m' := by rw [h, k]
attribute [congr] LFl_congr LChain_congr LSame_congr

/-- Further operations. -/
theorem ex_bad : LExec P .bad (evL t) m K = False := rfl
def clearK (zero : List Value) (x : Value) (m : Mem) (K : Value → Mem → Prop) : Prop := match x with
  | .slice none _ _ => K undef m
  | .slice (some ⟨b, o, none⟩) n _ => if n = 0 then K undef m else putK m K undef b o (zeroRow zero (n * zero.length))
  | _ => False
theorem ex_clear {z : List Value} {x : Operand} : LExec P (.clear z x) (evL t) m K = clearK z (evL t x) m K := rfl
theorem clearK_n {z : List Value} {n c : Nat} : clearK z (.slice none n c) m K = K undef m := rfl
theorem clearK_s {z : List Value} {b o n c : Nat} : clearK z (.slice (some ⟨b, o, none⟩) n c) m K = if n = 0 then K undef m else putK m K undef b o (zeroRow z (n * z.length)) := rfl
def putBK (blk : Option Blk) (m : Mem) (K : Value → Mem → Prop) (v : Value) (b o : Nat) (new : List Value) : Prop :=
  optP blk fun k => (k.kind.isOwn = true ∧ k.frz ≤ o ∧ o + new.length ≤ k.cells.length) ∧ K v (m.set b { k with cells := setAt k.cells o new })
theorem putK_e {b o : Nat} {new : List Value} : putK m K v b o new = putBK m[b]? m K v b o new := rfl
theorem putBK_s {c : List Value} {T z f b o : Nat} {new : List Value} (h : f ≤ o) (h2 : o + new.length ≤ c.length) : putBK (some ⟨c, T, z, f, .own⟩) m K v b o new = K v (m.set b ⟨setAt c o new, T, z, f, .own⟩) := by
  simp [putBK, optP, Kind.isOwn, h, h2]
def copyK (sz : Nat) (x y : Value) (m : Mem) (K : Value → Mem → Prop) : Prop := match x with
  | .slice none _ _ => optP (lenV y) fun _ => K (.int .i64 0) m
  | .slice (some ⟨b, o, none⟩) n _ => optP (lenV y) fun k => optP (firstL m sz (Nat.min k n) y) fun new => putK m K (.int .i64 (Nat.min k n)) b o new
  | _ => False
theorem ex_copy {sz : Nat} {x y : Operand} : LExec P (.copy sz x y) (evL t) m K = copyK sz (evL t x) (evL t y) m K := rfl
def sdK (x : Value) (m : Mem) (K : Value → Mem → Prop) : Prop := match x with
  | .slice none _ _ => K (.pointer none) m
  | .slice (some a) n _ => n ≠ 0 ∧ K (.pointer (some a)) m
  | _ => False
theorem ex_sliceData {x : Operand} : LExec P (.sliceData x) (evL t) m K = sdK (evL t x) m K := rfl
theorem sdK_n {n c : Nat} : sdK (.slice none n c) m K = K (.pointer none) m := rfl
theorem sdK_s {a : Addr} {n c : Nat} : sdK (.slice (some a) n c) m K = (n ≠ 0 ∧ K (.pointer (some a)) m) := rfl
def capK (x : Value) (m : Mem) (K : Value → Mem → Prop) : Prop := match x with
  | .slice none _ _ => K (.int .i64 0) m
  | _ => False
theorem ex_capNil {x : Operand} : LExec P (.capNil x) (evL t) m K = capK (evL t x) m K := rfl
theorem capK_n {n c : Nat} : capK (.slice none n c) m K = K (.int .i64 0) m := rfl
def usvK (T : Nat) (x y : Value) (m : Mem) (K : Value → Mem → Prop) : Prop := match x, y with
  | .pointer none, .int _ n => n = 0 ∧ K (.string .empty) m
  | .pointer (some ⟨b, o, none⟩), .int _ n => 0 < n ∧ usK m K T b o n.toNat
  | _, _ => False
theorem ex_unsafeStr {T : Nat} {x y : Operand} : LExec P (.unsafeStr T x y) (evL t) m K = usvK T (evL t x) (evL t y) m K := rfl
theorem usvK_n {T : Nat} {k : IntKind} {n : Int} : usvK T (.pointer none) (.int k n) m K = (n = 0 ∧ K (.string .empty) m) := rfl
theorem usvK_s {T b o : Nat} {k : IntKind} {n : Int} : usvK T (.pointer (some ⟨b, o, none⟩)) (.int k n) m K = (0 < n ∧ usK m K T b o n.toNat) := rfl
def mkK (T sz bytes : Nat) (zero : List Value) (x y : Value) (m : Mem) (K : Value → Mem → Prop) : Prop := match x, y with
  | .int _ a, .int _ b => (0 ≤ a ∧ a ≤ b ∧ b.toNat * bytes ≤ 16777216 ∧ b ≤ 16777216) ∧ K (.slice (some ⟨m.length, 0, none⟩) a.toNat a.toNat) (m ++ [⟨zeroRow zero (a.toNat * sz), T, sz, 0, .own⟩])
  | _, _ => False
theorem ex_makeSlice {T sz bytes : Nat} {z : List Value} {x y : Operand} : LExec P (.makeSlice T sz bytes z x y) (evL t) m K = mkK T sz bytes z (evL t x) (evL t y) m K := rfl
theorem mkK_i {T sz bytes : Nat} {z : List Value} {k l : IntKind} {a b : Int} : mkK T sz bytes z (.int k a) (.int l b) m K = ((0 ≤ a ∧ a ≤ b ∧ b.toNat * bytes ≤ 16777216 ∧ b ≤ 16777216) ∧ K (.slice (some ⟨m.length, 0, none⟩) a.toNat a.toNat) (m ++ [⟨zeroRow z (a.toNat * sz), T, sz, 0, .own⟩])) := rfl
def nzK (T : Nat) (x : Value) (m : Mem) (K : Value → Mem → Prop) : Prop := match x with
  | .int .i64 n => (0 ≤ n ∧ n ≤ 16777216) ∧ K (.slice (some ⟨m.length, 0, none⟩) n.toNat n.toNat) (m ++ [⟨[], T, 1, 0, .own⟩])
  | _ => False
theorem ex_noZero {T : Nat} {x : Operand} : LExec P (.noZero T x) (evL t) m K = nzK T (evL t x) m K := rfl
theorem ex_zeroV {T : Nat} {cs : List Value} : LExec P (.zeroV T cs) (evL t) m K = K (.pointer (some ⟨m.length, 0, none⟩)) (m ++ [⟨cs, T, 0, 0, .own⟩]) := rfl
def toUK (x : Value) (m : Mem) (K : Value → Mem → Prop) : Prop := match x with
  | .pointer none => K (.pointer none) m
  | .pointer (some ⟨i, o, none⟩) => optP (cell? m i o) fun _ => K (.pointer (some ⟨i, o, none⟩)) m
  | _ => False
def seenK (c : Option Value) (v : Value) (m : Mem) (K : Value → Mem → Prop) : Prop := optP c fun _ => K v m
theorem ex_toU {x : Operand} : LExec P (.toU x) (evL t) m K = toUK (evL t x) m K := rfl
theorem toUK_n : toUK (.pointer none) m K = K (.pointer none) m := rfl
theorem toUK_s {i o : Nat} : toUK (.pointer (some ⟨i, o, none⟩)) m K = seenK (cellB m[i]? o) (.pointer (some ⟨i, o, none⟩)) m K := rfl
theorem seenK_s {u v : Value} : seenK (some u) v m K = K v m := by simp [seenK, optP]
def ofUK (T n : Nat) (x : Value) (m : Mem) (K : Value → Mem → Prop) : Prop := match x with
  | .pointer none => K (.pointer none) m
  | .pointer (some ⟨i, 0, none⟩) => optP m[i]? fun k => (k.kind.isOwn = true ∧ k.esz = 0 ∧ k.elem = T ∧ k.cells.length = n ∧ 0 < n) ∧ K (.pointer (some ⟨i, 0, none⟩)) m
  | _ => False
def ofB (b : Option Blk) (T n : Nat) (v : Value) (m : Mem) (K : Value → Mem → Prop) : Prop := optP b fun k => (k.kind.isOwn = true ∧ k.esz = 0 ∧ k.elem = T ∧ k.cells.length = n ∧ 0 < n) ∧ K v m
theorem ex_ofU {T n : Nat} {x : Operand} : LExec P (.ofU T n x) (evL t) m K = ofUK T n (evL t x) m K := rfl
theorem ofUK_n {T n : Nat} : ofUK T n (.pointer none) m K = K (.pointer none) m := rfl
theorem ofUK_s {T n i : Nat} : ofUK T n (.pointer (some ⟨i, 0, none⟩)) m K = ofB m[i]? T n (.pointer (some ⟨i, 0, none⟩)) m K := rfl
theorem ofB_s {cs : List Value} {T n f : Nat} {v : Value} (h : cs.length = n) (h0 : 0 < n) : ofB (some ⟨cs, T, 0, f, .own⟩) T n v m K = K v m := by
  simp [ofB, optP, Kind.isOwn, h, h0]
theorem seenK_congr {c c' : Option Value} {v v' : Value} {m' : Mem} (h : c = c') (hv : v = v') (k : m = m') : seenK c v m K = seenK c' v' m' K := by rw [h, hv, k]
theorem toUK_congr {v v' : Value} {m' : Mem} (hv : v = v') (k : m = m') : toUK v m K = toUK v' m' K := by rw [hv, k]
theorem ofUK_congr {T n : Nat} {v v' : Value} {m' : Mem} (hv : v = v') (k : m = m') : ofUK T n v m K = ofUK T n v' m' K := by rw [hv, k]
theorem ofB_congr {T n : Nat} {b b' : Option Blk} {v v' : Value} {m' : Mem} (h : b = b') (hv : v = v') (k : m = m') : ofB b T n v m K = ofB b' T n v' m' K := by rw [h, hv, k]
attribute [congr] seenK_congr toUK_congr ofUK_congr ofB_congr
end eqs
end Go.Lg
