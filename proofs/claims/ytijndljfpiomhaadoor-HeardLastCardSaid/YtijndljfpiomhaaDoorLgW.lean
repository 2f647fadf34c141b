/- Walking the short form: each step as an equation, what stands behind kept closed. -/
import Derived.Test.YtijndljfpiomhaaDoorLgN
import Derived.IntWalk
set_option linter.unusedVariables false
set_option linter.unusedSimpArgs false
namespace Go.Lg

variable {P : Program}

def guardK (v : Value) (want : Bool) (X Y : Prop) : Prop := CondP (match v with | .bool b => b == want | _ => false) X Y
def optK (o : Option Value) (m : Mem) (K : Value → Mem → Prop) : Prop := optP o fun v => K v m
def optB (o : Option Bool) (neg : Bool) (m : Mem) (K : Value → Mem → Prop) : Prop := optP o fun b => K (.bool (neg != b)) m
def optC (o : Option (List Value)) (m : Mem) (K : Value → Mem → Prop) : Prop := optP o fun cs => K (.agg cs.toArray) m
def optS (o : Option (List Value)) (T sz n : Nat) (m : Mem) (K : Value → Mem → Prop) : Prop := optP o fun cs => K (.slice (some ⟨m.length, 0, none⟩) n n) (m ++ [⟨cs, T, sz, 0, .own⟩])
def cellB (b : Option Blk) (o : Nat) : Option Value := match b with
  | some k => if k.kind.live then k.cells[o]? else none
  | none => none
def cellsB (b : Option Blk) (o n : Nat) : Option (List Value) := match b with
  | some k => if k.kind.live = true ∧ o + n ≤ k.cells.length then some ((k.cells.drop o).take n) else none
  | none => none
def loadK (v : Value) (m : Mem) (K : Value → Mem → Prop) : Prop := match v with
  | .pointer (some ⟨i, o, none⟩) => optK (cell? m i o) m K
  | _ => False
def loadNK (v : Value) (n : Nat) (m : Mem) (K : Value → Mem → Prop) : Prop := match v with
  | .pointer (some ⟨i, o, none⟩) => optC (cells? m i o n) m K
  | _ => False
def storeB (b : Option Blk) (i o n : Nat) (x : Value) (m : Mem) (K : Value → Mem → Prop) : Prop :=
  optP b fun k => (k.kind.isOwn = true ∧ basic x = true ∧ (cellsL x).length = n ∧ k.frz ≤ o ∧ o + n ≤ k.cells.length) ∧ K undef (m.set i { k with cells := setAt k.cells o (cellsL x) })
def zfK (T : Nat) (cs : List Value) (v : Value) (m : Mem) (K : Value → Mem → Prop) : Prop := match v with
  | .pointer (some ⟨i, 0, none⟩) => m[i]? = some ⟨cs, T, 1, 0, .own⟩ ∧ K (.pointer (some ⟨i, 0, none⟩)) m
  | _ => False
def storeK (a x : Value) (n : Nat) (m : Mem) (K : Value → Mem → Prop) : Prop := match a with
  | .pointer (some ⟨i, o, none⟩) => storeB m[i]? i o n x m K
  | _ => False
def pickK (c a b : Value) (m : Mem) (K : Value → Mem → Prop) : Prop := match c with
  | .bool c => CondP c (K a m) (K b m)
  | _ => False
def boxK (T : TypeId) (x : Value) (m : Mem) (K : Value → Mem → Prop) : Prop := basic x = true ∧ K (.pointer (some ⟨m.length, 0, none⟩)) (m ++ [⟨cellsL x, T, 1, 0, .own⟩])
def nilK (x : Value) (m : Mem) (K : Value → Mem → Prop) : Prop := match x with
  | .pointer (some a) => K (.pointer (some a)) m
  | _ => False
def convK (k : IntKind) (x : Value) (m : Mem) (K : Value → Mem → Prop) : Prop := match x with
  | .int _ n => K (.int k (k.wrap n)) m
  | _ => False
def faddrK (off : Nat) (x : Value) (m : Mem) (K : Value → Mem → Prop) : Prop := match x with
  | .pointer (some ⟨i, o, none⟩) => K (.pointer (some ⟨i, o + off, none⟩)) m
  | _ => False
def fieldK (off : Nat) (x : Value) (m : Mem) (K : Value → Mem → Prop) : Prop := match x with
  | .agg cs => optK cs.toList[off]? m K
  | _ => False
def fieldNK (off n : Nat) (x : Value) (m : Mem) (K : Value → Mem → Prop) : Prop := match x with
  | .agg cs => K (.agg ((cs.toList.drop off).take n).toArray) m
  | _ => False
def extractK (i : Nat) (x : Value) (m : Mem) (K : Value → Mem → Prop) : Prop := match x with
  | .tuple vs => optK vs.toList[i]? m K
  | _ => False
def condK (v : Value) (X Y : Prop) : Prop := match v with
  | .bool b => CondP b X Y
  | _ => False
def resK (o : Option (List Value)) (m : Mem) (K : Value → Mem → Prop) : Prop := optP o fun vs => K (resOf vs) m

/-- What stands behind an operation, behind a read one in an open order: never opened but at a value. -/
def kOps (P : Program) (is : List LInstr) (KT : List Value → Mem → Prop) (t : List Value) (d : Option Nat) (v : Value) (m : Mem) : Prop := LOps P is KT (putL t d v) m

section eqs
variable {K : Value → Mem → Prop} {KT : List Value → Mem → Prop} {t : List Value} {m : Mem} {is : List LInstr} {d : Option Nat} {op : LOp} {Q : Exit → List Value → Mem → Prop}

theorem ops_nil : LOps P [] KT t m = KT t m := rfl
theorem ops_n : LOps P (⟨d, none, op⟩ :: is) KT t m = LExec P op (evL t) m (kOps P is KT t d) := by
  simp [LOps, CondP, wantedL]
  rfl
theorem kOps_e {v : Value} : kOps P is KT t d v m = LOps P is KT (putL t d v) m := rfl
theorem ops_g {i : Nat} {b : Bool} : LOps P (⟨d, some (i, b), op⟩ :: is) KT t m = guardK (t.getD i undef) b (LExec P op (evL t) m (kOps P is KT t d)) (LOps P is KT (putL t d undef) m) := by
  simp only [LOps, guardK, wantedL, kOps]
  congr 1
  simp only [List.getD_eq_getElem?_getD]
  cases t[i]? with
  | none => rfl
  | some v => cases v <;> rfl
theorem guardK_bt {b : Bool} {X Y : Prop} : guardK (.bool b) true X Y = CondP b X Y := by cases b <;> rfl
theorem guardK_bf {b : Bool} {X Y : Prop} : guardK (.bool b) false X Y = CondP b Y X := by cases b <;> simp [guardK, CondP]
theorem guardK_u {b : Bool} {X Y : Prop} : guardK (.tuple #[]) b X Y = Y := by simp [guardK, CondP]
theorem CondP_t {X Y : Prop} : CondP true X Y = X := by simp [CondP]
theorem CondP_f {X Y : Prop} : CondP false X Y = Y := by simp [CondP]

theorem ex_move {x : Operand} : LExec P (.move x) (evL t) m K = K (evL t x) m := rfl
theorem ex_pick {c a b : Operand} : LExec P (.pick c a b) (evL t) m K = pickK (evL t c) (evL t a) (evL t b) m K := rfl
theorem ex_zeroF {T : Nat} {cs : List Value} {x : Operand} : LExec P (.zeroF T cs x) (evL t) m K = zfK T cs (evL t x) m K := rfl
theorem zfK_p {T i : Nat} {cs : List Value} : zfK T cs (.pointer (some ⟨i, 0, none⟩)) m K = (m[i]? = some ⟨cs, T, 1, 0, .own⟩ ∧ K (.pointer (some ⟨i, 0, none⟩)) m) := rfl
theorem ex_zero {T : Nat} {cs : List Value} : LExec P (.zero T cs) (evL t) m K = K (.pointer (some ⟨m.length, 0, none⟩)) (m ++ [⟨cs, T, 1, 0, .own⟩]) := rfl
theorem ex_box {T : Nat} {x : Operand} : LExec P (.box T x) (evL t) m K = boxK T (evL t x) m K := rfl
theorem ex_build {z : List Value} {ps : List (Nat × Nat × Operand)} : LExec P (.build z ps) (evL t) m K = optC (fillL (evL t) z ps) m K := rfl
theorem ex_buildSlice {T sz n : Nat} {z : List Value} {ps : List (Nat × Nat × Operand)} : LExec P (.buildSlice T sz n z ps) (evL t) m K = optS (fillL (evL t) z ps) T sz n m K := rfl
theorem ex_load {x : Operand} : LExec P (.load x) (evL t) m K = loadK (evL t x) m K := rfl
theorem ex_loadN {n : Nat} {x : Operand} : LExec P (.loadN n x) (evL t) m K = loadNK (evL t x) n m K := rfl
theorem ex_store {n : Nat} {a x : Operand} : LExec P (.store n a x) (evL t) m K = storeK (evL t a) (evL t x) n m K := rfl
theorem ex_nil {x : Operand} : LExec P (.nilCheck x) (evL t) m K = nilK (evL t x) m K := rfl
theorem ex_bin {o : BinOp} {x y : Operand} : LExec P (.bin o x y) (evL t) m K = optK (binV o (evL t x) (evL t y)) m K := rfl
theorem ex_eq1 {n : Bool} {c : EqC} {x y : Operand} : LExec P (.eq1 n c x y) (evL t) m K = optB (eqLeaf c (evL t x) (evL t y)) n m K := rfl
theorem ex_eqN {n : Bool} {ls : List (Nat × EqC)} {x y : Operand} : LExec P (.eqN n ls x y) (evL t) m K = optB (eqN ls (evL t x) (evL t y)) n m K := rfl
theorem ex_un {o : UnOp} {x : Operand} : LExec P (.un o x) (evL t) m K = optK (unV o (evL t x)) m K := rfl
theorem ex_conv {k : IntKind} {x : Operand} : LExec P (.conv k x) (evL t) m K = convK k (evL t x) m K := rfl
theorem ex_faddr {o : Nat} {x : Operand} : LExec P (.fieldAddr o x) (evL t) m K = faddrK o (evL t x) m K := rfl
theorem ex_field {o : Nat} {x : Operand} : LExec P (.field o x) (evL t) m K = fieldK o (evL t x) m K := rfl
theorem ex_fieldN {o n : Nat} {x : Operand} : LExec P (.fieldN o n x) (evL t) m K = fieldNK o n (evL t x) m K := rfl
theorem ex_extract {i : Nat} {x : Operand} : LExec P (.extract x i) (evL t) m K = extractK i (evL t x) m K := rfl
theorem ex_lenC {n : Nat} : LExec P (.lenC n) (evL t) m K = K (.int .i64 n) m := rfl
theorem ex_call {f : Nat} {xs : List Operand} : LExec P (.call f xs) (evL t) m K = LCall P f (xs.map (evL t)) m K := rfl

theorem optK_some {v : Value} : optK (some v) m K = K v m := by simp [optK, optP]
theorem optB_some {b n : Bool} : optB (some b) n m K = K (.bool (n != b)) m := by simp [optB, optP]
theorem optC_some {cs : List Value} : optC (some cs) m K = K (.agg cs.toArray) m := by simp [optC, optP]
theorem optS_some {cs : List Value} {T sz n : Nat} : optS (some cs) T sz n m K = K (.slice (some ⟨m.length, 0, none⟩) n n) (m ++ [⟨cs, T, sz, 0, .own⟩]) := by simp [optS, optP]
theorem resK_some {vs : List Value} : resK (some vs) m K = K (resOf vs) m := by simp [resK, optP]
theorem pickK_b {c : Bool} {a b : Value} : pickK (.bool c) a b m K = CondP c (K a m) (K b m) := rfl
theorem loadK_p {i o : Nat} : loadK (.pointer (some ⟨i, o, none⟩)) m K = optK (cellB m[i]? o) m K := rfl
theorem loadNK_p {i o n : Nat} : loadNK (.pointer (some ⟨i, o, none⟩)) n m K = optC (cellsB m[i]? o n) m K := rfl
theorem storeK_p {i o n : Nat} {x : Value} : storeK (.pointer (some ⟨i, o, none⟩)) x n m K = storeB m[i]? i o n x m K := rfl
theorem storeB_s {cs : List Value} {T z f i o n : Nat} {x : Value} : storeB (some ⟨cs, T, z, f, .own⟩) i o n x m K = ((basic x = true ∧ (cellsL x).length = n ∧ f ≤ o ∧ o + n ≤ cs.length) ∧ K undef (m.set i ⟨setAt cs o (cellsL x), T, z, f, .own⟩)) := by
  simp [storeB, optP, Kind.isOwn]
theorem cellB_s {cs : List Value} {T z f o : Nat} : cellB (some ⟨cs, T, z, f, .own⟩) o = cs[o]? := rfl
theorem cellB_r {cs : List Value} {T z f o : Nat} : cellB (some ⟨cs, T, z, f, .ro⟩) o = cs[o]? := rfl
theorem cellsB_s {cs : List Value} {T z f o n : Nat} (h : o + n ≤ cs.length) : cellsB (some ⟨cs, T, z, f, .own⟩) o n = some ((cs.drop o).take n) := by
  simp [cellsB, Kind.live, h]
theorem cellsB_r {cs : List Value} {T z f o n : Nat} (h : o + n ≤ cs.length) : cellsB (some ⟨cs, T, z, f, .ro⟩) o n = some ((cs.drop o).take n) := by
  simp [cellsB, Kind.live, h]
theorem boxK_e {T : Nat} {x : Value} : boxK T x m K = (basic x = true ∧ K (.pointer (some ⟨m.length, 0, none⟩)) (m ++ [⟨cellsL x, T, 1, 0, .own⟩])) := rfl
theorem nilK_p {a : Addr} : nilK (.pointer (some a)) m K = K (.pointer (some a)) m := rfl
theorem convK_i {k k' : IntKind} {n : Int} : convK k (.int k' n) m K = K (.int k (k.wrap n)) m := rfl
theorem faddrK_p {off i o : Nat} : faddrK off (.pointer (some ⟨i, o, none⟩)) m K = K (.pointer (some ⟨i, o + off, none⟩)) m := rfl
theorem fieldK_a {off : Nat} {cs : List Value} : fieldK off (.agg cs.toArray) m K = optK cs[off]? m K := rfl
theorem fieldNK_a {off n : Nat} {cs : List Value} : fieldNK off n (.agg cs.toArray) m K = K (.agg ((cs.drop off).take n).toArray) m := rfl
theorem extractK_t {i : Nat} {vs : List Value} : extractK i (.tuple vs.toArray) m K = optK vs[i]? m K := rfl
theorem condK_b {b : Bool} {X Y : Prop} : condK (.bool b) X Y = CondP b X Y := rfl

theorem lc_skip : LC P .skip Q t m = Q .normal t m := rfl
theorem lc_region : LC P (.region is) Q t m = LOps P is (Q .normal) t m := rfl
theorem lc_draw {pre tail : List LInstr} : LC P (.draw pre tail) Q t m = LRo P pre (LOps P tail (Q .normal)) t m := rfl
theorem lc_seq {a b : LCode} : LC P (.seq a b) Q t m = LC P a (thenL (LC P b Q) Q) t m := rfl
theorem lc_cond {c : Operand} {a b : LCode} : LC P (.cond c a b) Q t m = condK (evL t c) (LC P a Q t m) (LC P b Q t m) := rfl
theorem lc_block {id : Nat} {c : LCode} : LC P (.block id c) Q t m = LC P c (blockL id Q) t m := rfl
theorem lc_exit {id : Nat} : LC P (.exit id) Q t m = Q (.exit id) t m := rfl
theorem lc_ret : LC P .ret Q t m = Q .ret t m := rfl
theorem then_n {N : List Value → Mem → Prop} : thenL N Q .normal t m = N t m := rfl
theorem then_e {N : List Value → Mem → Prop} {i : Nat} : thenL N Q (.exit i) t m = Q (.exit i) t m := rfl
theorem then_r {N : List Value → Mem → Prop} : thenL N Q .ret t m = Q .ret t m := rfl
theorem block_n {i : Nat} : blockL i Q .normal t m = Q .normal t m := rfl
theorem block_r {i : Nat} : blockL i Q .ret t m = Q .ret t m := rfl
theorem block_e {i j : Nat} : blockL i Q (.exit j) t m = if j = i then Q .normal t m else Q (.exit j) t m := rfl
theorem end_n {rs : List LRes} : endL rs K .normal t m = resK (resVs t m rs) m K := rfl
theorem end_r {rs : List LRes} : endL rs K .ret t m = resK (resVs t m rs) m K := rfl

theorem ro_nil : LRo P [] KT t m = KT t m := rfl
theorem ro_n : LRo P (⟨d, none, op⟩ :: is) KT t m = ∃ v g, LExec P op (evL t) m (fun v' m' => v' = v ∧ m' = m ++ g) ∧ LRo P is KT (putL t d v) (m ++ g) := by
  simp [LRo, CondP, wantedL]
theorem ro_g {i : Nat} {b : Bool} : LRo P (⟨d, some (i, b), op⟩ :: is) KT t m = guardK (t.getD i undef) b (∃ v g, LExec P op (evL t) m (fun v' m' => v' = v ∧ m' = m ++ g) ∧ LRo P is KT (putL t d v) (m ++ g)) (LRo P is KT (putL t d undef) m) := by
  simp only [LRo, guardK, wantedL]
  congr 1
  simp only [List.getD_eq_getElem?_getD]
  cases t[i]? with
  | none => rfl
  | some v => cases v <;> rfl

theorem ev_t {i : Nat} : evL t (.tmp i) = t.getD i undef := rfl
theorem ev_c {v : Value} : evL t (.const v) = v := rfl
theorem ev_f {f : Nat} : evL t (.func f) = .func (.func f) #[] #[] := rfl
theorem put_s {i : Nat} {v : Value} : putL t (some i) v = t.set i v := rfl
theorem put_n {v : Value} : putL t none v = t := rfl
theorem undef_eq : undef = .tuple #[] := rfl

theorem rv_nil : resVs t m [] = some [] := rfl
def consO (a : Option Value) (b : Option (List Value)) : Option (List Value) := match a, b with
  | some v, some vs => some (v :: vs)
  | _, _ => none
theorem consO_s {v : Value} {vs : List Value} : consO (some v) (some vs) = some (v :: vs) := rfl
theorem rv_cons {r : LRes} {rs : List LRes} : resVs t m (r :: rs) = consO (resV t m r) (resVs t m rs) := by
  cases h1 : resV t m r <;> cases h2 : resVs t m rs <;> simp [resVs, consO, h1, h2]
def tmpR (v : Value) : Option Value := match v with
  | .tuple _ => none
  | v => some v
def cellR (v : Value) (m : Mem) : Option Value := match v with
  | .pointer (some ⟨b, o, none⟩) => cellB m[b]? o
  | _ => none
def cellsR (v : Value) (n : Nat) (m : Mem) : Option Value := match v with
  | .pointer (some ⟨b, o, none⟩) => (cellsB m[b]? o n).map fun cs => .agg cs.toArray
  | _ => none
theorem rv_tmp {i : Nat} : resV t m (.tmp i) = tmpR (t.getD i undef) := by
  simp only [resV, tmpR]
  cases t.getD i undef <;> rfl
theorem rv_cell {i : Nat} : resV t m (.cell i) = cellR (t.getD i undef) m := by
  simp only [resV, cellR]; rfl
theorem rv_cells {i n : Nat} : resV t m (.cells i n) = cellsR (t.getD i undef) n m := by
  simp only [resV, cellsR]; rfl
theorem tmpR_i {k : IntKind} {n : Int} : tmpR (.int k n) = some (.int k n) := rfl
theorem tmpR_b {b : Bool} : tmpR (.bool b) = some (.bool b) := rfl
theorem tmpR_s {s : ByteArray} : tmpR (.string s) = some (.string s) := rfl
theorem tmpR_p {a : Option Addr} : tmpR (.pointer a) = some (.pointer a) := rfl
theorem tmpR_sl {a : Option Addr} {n c : Nat} : tmpR (.slice a n c) = some (.slice a n c) := rfl
theorem tmpR_a {a : Array Value} : tmpR (.agg a) = some (.agg a) := rfl
theorem tmpR_f {f : Fn} {a c : Array Value} : tmpR (.func f a c) = some (.func f a c) := rfl
theorem cellR_p {b o : Nat} : cellR (.pointer (some ⟨b, o, none⟩)) m = cellB m[b]? o := rfl
theorem cellsR_p {b o n : Nat} : cellsR (.pointer (some ⟨b, o, none⟩)) n m = (cellsB m[b]? o n).map fun cs => .agg cs.toArray := rfl

theorem bin_add {k : IntKind} {a b : Int} : binV .add (.int k a) (.int k b) = some (.int k (k.wrap (a + b))) := by simp [binV, binInt]
theorem bin_sub {k : IntKind} {a b : Int} : binV .sub (.int k a) (.int k b) = some (.int k (k.wrap (a - b))) := by simp [binV, binInt]
theorem bin_mul {k : IntKind} {a b : Int} : binV .mul (.int k a) (.int k b) = some (.int k (k.wrap (a * b))) := by simp [binV, binInt]
theorem bin_quo {k : IntKind} {a b : Int} (h : b ≠ 0) : binV .quo (.int k a) (.int k b) = some (.int k (k.wrap (a.tdiv b))) := by simp [binV, binInt, h]
theorem bin_rem {k : IntKind} {a b : Int} (h : b ≠ 0) : binV .rem (.int k a) (.int k b) = some (.int k (a.tmod b)) := by simp [binV, binInt, h]
theorem bin_and {k : IntKind} {a b : Int} : binV .and (.int k a) (.int k b) = some (.int k (k.wrap (BitVec.ofInt k.bits a &&& BitVec.ofInt k.bits b).toNat)) := by simp [binV, binInt]
theorem bin_or {k : IntKind} {a b : Int} : binV .or (.int k a) (.int k b) = some (.int k (k.wrap (BitVec.ofInt k.bits a ||| BitVec.ofInt k.bits b).toNat)) := by simp [binV, binInt]
theorem bin_xor {k : IntKind} {a b : Int} : binV .xor (.int k a) (.int k b) = some (.int k (k.wrap (BitVec.ofInt k.bits a ^^^ BitVec.ofInt k.bits b).toNat)) := by simp [binV, binInt]
theorem bin_andNot {k : IntKind} {a b : Int} : binV .andNot (.int k a) (.int k b) = some (.int k (k.wrap (BitVec.ofInt k.bits a &&& ~~~ BitVec.ofInt k.bits b).toNat)) := by simp [binV, binInt]
theorem bin_eql {k : IntKind} {a b : Int} : binV .eql (.int k a) (.int k b) = some (.bool (decide (a = b))) := by simp [binV, binInt]
theorem bin_neq {k : IntKind} {a b : Int} : binV .neq (.int k a) (.int k b) = some (.bool (!decide (a = b))) := by simp [binV, binInt]
theorem bin_lss {k : IntKind} {a b : Int} : binV .lss (.int k a) (.int k b) = some (.bool (decide (a < b))) := by simp [binV, binInt]
theorem bin_leq {k : IntKind} {a b : Int} : binV .leq (.int k a) (.int k b) = some (.bool (decide (a ≤ b))) := by simp [binV, binInt]
theorem bin_gtr {k : IntKind} {a b : Int} : binV .gtr (.int k a) (.int k b) = some (.bool (decide (b < a))) := by simp [binV, binInt]
theorem bin_geq {k : IntKind} {a b : Int} : binV .geq (.int k a) (.int k b) = some (.bool (decide (b ≤ a))) := by simp [binV, binInt]
theorem bin_shl {k k' : IntKind} {a b : Int} (h : 0 ≤ b) : binV .shl (.int k a) (.int k' b) = some (.int k (k.wrap (a * 2 ^ (min b.toNat k.bits)))) := by
  have : ¬ b < 0 := by omega
  simp [binV, this]
theorem bin_shr {k k' : IntKind} {a b : Int} (h : 0 ≤ b) : binV .shr (.int k a) (.int k' b) = some (.int k (a.fdiv (2 ^ (min b.toNat k.bits)))) := by
  have : ¬ b < 0 := by omega
  simp [binV, this]
theorem bin_sadd {a b : ByteArray} (h : (a.size : Int) + b.size ≤ 9223372036854775807) : binV .add (.string a) (.string b) = some (.string (a ++ b)) := by simp [binV, maxI64, h]
theorem bin_seql {a b : ByteArray} : binV .eql (.string a) (.string b) = some (.bool (decide (a = b))) := rfl
theorem bin_sneq {a b : ByteArray} : binV .neq (.string a) (.string b) = some (.bool (!decide (a = b))) := rfl
theorem un_not {b : Bool} : unV .not (.bool b) = some (.bool (!b)) := rfl
theorem un_neg {k : IntKind} {n : Int} : unV .neg (.int k n) = some (.int k (k.wrap (0 - n))) := rfl
theorem eqL_b {a b : Bool} : eqLeaf .bool (.bool a) (.bool b) = some (decide (a = b)) := rfl
theorem eqL_i {k : IntKind} {a b : Int} : eqLeaf .int (.int k a) (.int k b) = some (decide (a = b)) := by simp [eqLeaf]
theorem eqL_s {a b : ByteArray} : eqLeaf .string (.string a) (.string b) = some (decide (a = b)) := rfl
theorem eqL_pnn : eqLeaf .ptr (.pointer none) (.pointer none) = some true := rfl
theorem eqL_pns {a : Addr} : eqLeaf .ptr (.pointer none) (.pointer (some a)) = some false := rfl
theorem eqL_psn {a : Addr} : eqLeaf .ptr (.pointer (some a)) (.pointer none) = some false := rfl
theorem eqL_pp {i o p : Nat} : eqLeaf .ptr (.pointer (some ⟨i, o, none⟩)) (.pointer (some ⟨i, p, none⟩)) = some (decide (o = p)) := by simp [eqLeaf]
theorem eqL_slnn {n c l d : Nat} : eqLeaf .slice (.slice none n c) (.slice none l d) = some true := rfl
theorem eqL_slns {n c l d : Nat} {a : Addr} : eqLeaf .slice (.slice none n c) (.slice (some a) l d) = some false := rfl
theorem eqL_slsn {n c l d : Nat} {a : Addr} : eqLeaf .slice (.slice (some a) n c) (.slice none l d) = some false := rfl
end eqs

/-- What stands behind is not looked into. -/
theorem LC_congr {c : LCode} {Q : Exit → List Value → Mem → Prop} {t t' : List Value} {m m' : Mem} (h : t = t') (k : m = m') : LC P c Q t m = LC P c Q t' m' := by rw [h, k]
theorem LOps_congr {is : List LInstr} {K : List Value → Mem → Prop} {t t' : List Value} {m m' : Mem} (h : t = t') (k : m = m') : LOps P is K t m = LOps P is K t' m' := by rw [h, k]
theorem LRo_congr {is : List LInstr} {K : List Value → Mem → Prop} {t t' : List Value} {m m' : Mem} (h : t = t') (k : m = m') : LRo P is K t m = LRo P is K t' m' := by rw [h, k]
theorem LExec_congr {op : LOp} {ev : Operand → Value} {m m' : Mem} {K : Value → Mem → Prop} (k : m = m') : LExec P op ev m K = LExec P op ev m' K := by rw [k]
theorem LCall_congr {f : FuncId} {as as' : List Value} {m m' : Mem} {K : Value → Mem → Prop} (h : as = as') (k : m = m') : LCall P f as m K = LCall P f as' m' K := by rw [h, k]
theorem thenL_congr {N : List Value → Mem → Prop} {Q : Exit → List Value → Mem → Prop} {e e' : Exit} {t t' : List Value} {m m' : Mem} (he : e = e') (h : t = t') (k : m = m') : thenL N Q e t m = thenL N Q e' t' m' := by rw [he, h, k]
theorem blockL_congr {i : Nat} {Q : Exit → List Value → Mem → Prop} {e e' : Exit} {t t' : List Value} {m m' : Mem} (he : e = e') (h : t = t') (k : m = m') : blockL i Q e t m = blockL i Q e' t' m' := by rw [he, h, k]
theorem endL_congr {rs : List LRes} {K : Value → Mem → Prop} {e e' : Exit} {t t' : List Value} {m m' : Mem} (he : e = e') (h : t = t') (k : m = m') : endL rs K e t m = endL rs K e' t' m' := by rw [he, h, k]
theorem CondP_congr {c c' : Bool} {X X' Y Y' : Prop} (h : c = c') (hx : c' = true → X = X') (hy : c' = false → Y = Y') : CondP c X Y = CondP c' X' Y' := by
  subst h
  cases c with
  | true => rw [CondP_t, CondP_t]; exact hx rfl
  | false => rw [CondP_f, CondP_f]; exact hy rfl
theorem guardK_congr {v v' : Value} {b : Bool} {X Y : Prop} (h : v = v') : guardK v b X Y = guardK v' b X Y := by rw [h]
theorem condK_congr {v v' : Value} {X Y : Prop} (h : v = v') : condK v X Y = condK v' X Y := by rw [h]
theorem optK_congr {o o' : Option Value} {m m' : Mem} {K : Value → Mem → Prop} (h : o = o') (k : m = m') : optK o m K = optK o' m' K := by rw [h, k]
theorem optB_congr {o o' : Option Bool} {n : Bool} {m m' : Mem} {K : Value → Mem → Prop} (h : o = o') (k : m = m') : optB o n m K = optB o' n m' K := by rw [h, k]
theorem optC_congr {o o' : Option (List Value)} {m m' : Mem} {K : Value → Mem → Prop} (h : o = o') (k : m = m') : optC o m K = optC o' m' K := by rw [h, k]
theorem optS_congr {o o' : Option (List Value)} {T sz n : Nat} {m m' : Mem} {K : Value → Mem → Prop} (h : o = o') (k : m = m') : optS o T sz n m K = optS o' T sz n m' K := by rw [h, k]
theorem resK_congr {o o' : Option (List Value)} {m m' : Mem} {K : Value → Mem → Prop} (h : o = o') (k : m = m') : resK o m K = resK o' m' K := by rw [h, k]
theorem loadK_congr {v v' : Value} {m m' : Mem} {K : Value → Mem → Prop} (h : v = v') (k : m = m') : loadK v m K = loadK v' m' K := by rw [h, k]
theorem loadNK_congr {v v' : Value} {n : Nat} {m m' : Mem} {K : Value → Mem → Prop} (h : v = v') (k : m = m') : loadNK v n m K = loadNK v' n m' K := by rw [h, k]
theorem storeK_congr {a a' x x' : Value} {n : Nat} {m m' : Mem} {K : Value → Mem → Prop} (h : a = a') (hx : x = x') (k : m = m') : storeK a x n m K = storeK a' x' n m' K := by rw [h, hx, k]
theorem storeB_congr {b b' : Option Blk} {i o n : Nat} {x : Value} {m : Mem} {K : Value → Mem → Prop} (h : b = b') : storeB b i o n x m K = storeB b' i o n x m K := by rw [h]
theorem pickK_congr {c c' a a' b b' : Value} {m m' : Mem} {K : Value → Mem → Prop} (h : c = c') (ha : a = a') (hb : b = b') (k : m = m') : pickK c a b m K = pickK c' a' b' m' K := by rw [h, ha, hb, k]
theorem boxK_congr {T : Nat} {x x' : Value} {m m' : Mem} {K : Value → Mem → Prop} (h : x = x') (k : m = m') : boxK T x m K = boxK T x' m' K := by rw [h, k]
theorem nilK_congr {x x' : Value} {m m' : Mem} {K : Value → Mem → Prop} (h : x = x') (k : m = m') : nilK x m K = nilK x' m' K := by rw [h, k]
theorem convK_congr {q : IntKind} {x x' : Value} {m m' : Mem} {K : Value → Mem → Prop} (h : x = x') (k : m = m') : convK q x m K = convK q x' m' K := by rw [h, k]
theorem faddrK_congr {o : Nat} {x x' : Value} {m m' : Mem} {K : Value → Mem → Prop} (h : x = x') (k : m = m') : faddrK o x m K = faddrK o x' m' K := by rw [h, k]
theorem fieldK_congr {o : Nat} {x x' : Value} {m m' : Mem} {K : Value → Mem → Prop} (h : x = x') (k : m = m') : fieldK o x m K = fieldK o x' m' K := by rw [h, k]
theorem fieldNK_congr {o n : Nat} {x x' : Value} {m m' : Mem} {K : Value → Mem → Prop} (h : x = x') (k : m = m') : fieldNK o n x m K = fieldNK o n x' m' K := by rw [h, k]
theorem extractK_congr {i : Nat} {x x' : Value} {m m' : Mem} {K : Value → Mem → Prop} (h : x = x') (k : m = m') : extractK i x m K = extractK i x' m' K := by rw [h, k]

attribute [congr] LC_congr LOps_congr LRo_congr LExec_congr LCall_congr thenL_congr blockL_congr endL_congr CondP_congr guardK_congr condK_congr optK_congr optB_congr optC_congr optS_congr resK_congr loadK_congr loadNK_congr storeK_congr storeB_congr pickK_congr boxK_congr nilK_congr convK_congr faddrK_congr fieldK_congr fieldNK_congr extractK_congr

theorem wrap_i64 {n : Int} (h1 : -9223372036854775808 ≤ n) (h2 : n ≤ 9223372036854775807) : IntKind.i64.wrap n = n := by
  simp only [IntKind.wrap, IntKind.bits, IntKind.signed]
  simp
  omega

end Go.Lg
