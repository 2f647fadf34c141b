/- The operations in short, what each does to the logical memory, and how each is read off the program's own. -/
import Derived.Test.YtijndljfpiomhaaDoorLgB
import GoSem.Dispatch
namespace Go.Lg

def CondP (c : Bool) (X Y : Prop) : Prop := (c = true → X) ∧ (c = false → Y)

def Kind.isOwn : Kind → Bool | .own => true | _ => false
def Kind.live : Kind → Bool | .dead => false | _ => true
theorem Kind.own_of {k : Kind} (h : k.isOwn = true) : k = .own := by cases k <;> first | rfl | cases h
theorem Kind.live_of {k : Kind} (h : k.live = true) : k ≠ .dead := by intro e; subst e; cases h

inductive EqC where | bool | int | string | ptr | slice | func

inductive LOp where
  | move (x : Operand)
  | pick (c a b : Operand)
  | zero (T : TypeId) (cells : List Value)
  | box (T : TypeId) (x : Operand)
  | build (zero : List Value) (parts : List (Nat × Nat × Operand))
  | buildSlice (T : TypeId) (sz len : Nat) (zero : List Value) (parts : List (Nat × Nat × Operand))
  | load (x : Operand)
  | loadN (n : Nat) (x : Operand)
  | store (n : Nat) (a x : Operand)
  | nilCheck (x : Operand)
  | bin (op : BinOp) (x y : Operand)
  | eq1 (neg : Bool) (c : EqC) (x y : Operand)
  | eqN (neg : Bool) (leaves : List (Nat × EqC)) (x y : Operand)
  | str (x : Operand)
  | un (op : UnOp) (x : Operand)
  | conv (k : IntKind) (x : Operand)
  | s2b (T : TypeId) (x : Operand)
  | b2s (x : Operand)
  | fieldAddr (off : Nat) (x : Operand)
  | field (off : Nat) (x : Operand)
  | fieldN (off n : Nat) (x : Operand)
  | idxAddrS (sz : Nat) (x i : Operand)
  | idxAddrA (len sz : Nat) (x i : Operand)
  | idxStr (x i : Operand)
  | idx (len : Nat) (x i : Operand)
  | idxN (len sz : Nat) (x i : Operand)
  | sliceStr (x : Operand) (lo hi : Option Operand)
  | sliceSl (sz : Nat) (x : Operand) (lo hi : Option Operand)
  | sliceArr (len sz : Nat) (x : Operand) (lo hi : Option Operand)
  | extract (x : Operand) (i : Nat)
  | lenStr (x : Operand)
  | lenSl (x : Operand)
  | lenC (n : Nat)
  | append (T : TypeId) (sz bytes : Nat) (x y : Operand)
  | copy (sz : Nat) (x y : Operand)
  | clear (zero : List Value) (x : Operand)
  | mkFunc (fn : Fn) (first captured : List Operand)
  | min (xs : List Operand)
  | max (xs : List Operand)
  | makeSlice (T : TypeId) (sz bytes : Nat) (zero : List Value) (l c : Operand)
  | capNil (x : Operand)
  | sliceData (x : Operand)
  | unsafeStr (T : TypeId) (x n : Operand)
  | noZero (T : TypeId) (x : Operand)
  | zeroV (T : TypeId) (cells : List Value)
  | toU (x : Operand)
  | ofU (T : TypeId) (n : Nat) (x : Operand)
  | zeroF (T : TypeId) (cells : List Value) (x : Operand)
  | bad
  | call (f : FuncId) (args : List Operand)
  | callv (x : Operand) (args : List Operand)

structure LInstr where
  dst : Option Nat
  guard : Option (Nat × Bool)
  op : LOp

def evL (t : List Value) : Operand → Value
  | .tmp i => t.getD i undef
  | .const v => v
  | .global _ => undef
  | .func f => .func (.func f) #[] #[]

def cellsL : Value → List Value
  | .agg cs => cs.toList
  | v => [v]

def basic : Value → Bool
  | .tuple _ => false
  | _ => true

def cell? (m : Mem) (i o : Nat) : Option Value := match m[i]? with
  | some k => if k.kind.live then k.cells[o]? else none
  | none => none
def cells? (m : Mem) (i o n : Nat) : Option (List Value) := match m[i]? with
  | some k => if k.kind.live = true ∧ o + n ≤ k.cells.length then some ((k.cells.drop o).take n) else none
  | none => none

def splice (l : List Value) (off : Nat) (cs : List Value) : List Value := l.take off ++ cs ++ l.drop (off + cs.length)

def fillL (ev : Operand → Value) : List Value → List (Nat × Nat × Operand) → Option (List Value)
  | z, [] => some z
  | z, (off, size, x) :: ps =>
    if basic (ev x) = true ∧ (cellsL (ev x)).length = size ∧ off + size ≤ z.length then fillL ev (splice z off (cellsL (ev x))) ps else none

def eqLeaf : EqC → Value → Value → Option Bool
  | .bool, .bool a, .bool b => some (decide (a = b))
  | .int, .int k a, .int k' b => if k = k' then some (decide (a = b)) else none
  | .string, .string a, .string b => some (decide (a = b))
  | .ptr, .pointer none, .pointer none => some true
  | .ptr, .pointer none, .pointer (some _) => some false
  | .ptr, .pointer (some _), .pointer none => some false
  | .ptr, .pointer (some ⟨i, o, none⟩), .pointer (some ⟨j, p, none⟩) => if i = j then some (decide (o = p)) else none
  | .slice, .slice none _ _, .slice none _ _ => some true
  | .slice, .slice none _ _, .slice (some _) _ _ => some false
  | .slice, .slice (some _) _ _, .slice none _ _ => some false
  | .func, .nilFunc, .nilFunc => some true
  | .func, .nilFunc, .func _ _ _ => some false
  | .func, .func _ _ _, .nilFunc => some false
  | _, _, _ => none

def eqLeaves (xs ys : List Value) : List (Nat × EqC) → Option Bool
  | [] => some true
  | (o, c) :: os => match xs[o]?, ys[o]? with
    | some x, some y => match eqLeaf c x y, eqLeaves xs ys os with
      | some a, some b => some (a && b)
      | _, _ => none
    | _, _ => none

def eqN (leaves : List (Nat × EqC)) : Value → Value → Option Bool
  | .agg xs, .agg ys => eqLeaves xs.toList ys.toList leaves
  | _, _ => none

def maxI64 : Int := 9223372036854775807

def binInt (op : BinOp) (k : IntKind) (a b : Int) : Option Value :=
  match op with
  | .add => some (.int k (k.wrap (a + b)))
  | .sub => some (.int k (k.wrap (a - b)))
  | .mul => some (.int k (k.wrap (a * b)))
  | .quo => if b = 0 then none else some (.int k (k.wrap (a.tdiv b)))
  | .rem => if b = 0 then none else some (.int k (a.tmod b))
  | .and => some (.int k (k.wrap (BitVec.ofInt k.bits a &&& BitVec.ofInt k.bits b).toNat))
  | .or => some (.int k (k.wrap (BitVec.ofInt k.bits a ||| BitVec.ofInt k.bits b).toNat))
  | .xor => some (.int k (k.wrap (BitVec.ofInt k.bits a ^^^ BitVec.ofInt k.bits b).toNat))
  | .andNot => some (.int k (k.wrap (BitVec.ofInt k.bits a &&& ~~~ BitVec.ofInt k.bits b).toNat))
  | .eql => some (.bool (decide (a = b)))
  | .neq => some (.bool (!decide (a = b)))
  | .lss => some (.bool (decide (a < b)))
  | .leq => some (.bool (decide (a ≤ b)))
  | .gtr => some (.bool (decide (b < a)))
  | .geq => some (.bool (decide (b ≤ a)))
  | _ => none

def binV (op : BinOp) (x y : Value) : Option Value :=
  match op, x, y with
  | .shl, .int k a, .int _ b => if b < 0 then none else some (.int k (k.wrap (a * 2 ^ (min b.toNat k.bits))))
  | .shr, .int k a, .int _ b => if b < 0 then none else some (.int k (a.fdiv (2 ^ (min b.toNat k.bits))))
  | op, .int k a, .int k' b => if k = k' then binInt op k a b else none
  | .add, .string a, .string b => if (a.size : Int) + b.size ≤ maxI64 then some (.string (a ++ b)) else none
  | .eql, .string a, .string b => some (.bool (decide (a = b)))
  | .neq, .string a, .string b => some (.bool (!decide (a = b)))
  | _, _, _ => none

def unV (op : UnOp) (x : Value) : Option Value :=
  match op, x with
  | .not, .bool b => some (.bool (!b))
  | .neg, .int k n => some (.int k (k.wrap (0 - n)))
  | .xor, .int k n => binInt .xor k (if k.signed then -1 else k.max) n
  | _, _ => none

def bytesL (cs : List Value) : Option (List UInt8) :=
  match cs with
  | [] => some []
  | .int .u8 n :: r => (bytesL r).map (UInt8.ofNat n.toNat :: ·)
  | _ => none

/-- A bound's value: absent, or a number from 0 to the greatest. -/
def boundL (ev : Operand → Value) (x : Option Operand) (absent most : Nat) : Option Nat :=
  match x with
  | none => some absent
  | some x => match ev x with
    | .int _ n => if 0 ≤ n ∧ n ≤ most then some n.toNat else none
    | _ => none

def minL : Value → List Value → Option Value
  | v, [] => some v
  | .int k x, .int _ y :: r => minL (.int k (if y < x then y else x)) r
  | _, _ => none
def maxL : Value → List Value → Option Value
  | v, [] => some v
  | .int k x, .int _ y :: r => maxL (.int k (if x < y then y else x)) r
  | _, _ => none

/-- Bytes as cells. -/
def byteCells (l : List UInt8) : List Value := l.map fun b => .int .u8 b.toNat

/-- What is read where nothing is to be read. -/
def orNil : Option (List Value) → Nat → Option (List Value)
  | some l, _ => some l
  | none, n => if n = 0 then some [] else none
/-- What an append appends. -/
def newCells (m : Mem) (sz : Nat) : Value → Option (List Value)
  | .string s => if sz = 1 then some (byteCells s.data.toList) else none
  | .slice none _ _ => some []
  | .slice (some ⟨i, o, none⟩) n _ => orNil (cells? m i o (n * sz)) (n * sz)
  | _ => none
def lenV : Value → Option Nat
  | .string s => some s.size
  | .slice _ n _ => some n
  | _ => none

def isAtom : Value → Bool
  | .agg _ | .tuple _ | .func _ _ _ => false
  | _ => true

def dead (k : Blk) : Blk := { cells := [], elem := k.elem, esz := k.esz, frz := 0, kind := .dead }

def optP {α : Type} (x : Option α) (f : α → Prop) : Prop := ∃ v, x = some v ∧ f v

/-- What an append comes to. -/
def apK (m : Mem) (K : Value → Mem → Prop) (T sz bytes k : Nat) (new : List Value) : Value → Prop
  | .slice none _ _ => (k * (bytes + 1) ≤ 140737488355328) ∧ (if k = 0 then K (.slice none 0 0) m else K (.slice (some ⟨m.length, 0, none⟩) k k) (m ++ [⟨new, T, sz, 0, .own⟩]))
  | .slice (some ⟨b, o, none⟩) n _ => optP m[b]? fun blk =>
      (blk.kind.live = true ∧ blk.esz = sz ∧ o + n * sz ≤ blk.cells.length ∧ (k ≠ 0 → blk.kind.isOwn = true ∧ blk.elem = T ∧ blk.frz ≤ o + n * sz) ∧ (n + k) * (bytes + 1) ≤ 140737488355328) ∧
        (if k = 0 then K (.slice (some ⟨b, o, none⟩) n n) m else
          K (.slice (some ⟨m.length, 0, none⟩) (n + k) (n + k)) (m.set b (dead blk) ++ [⟨(blk.cells.drop o).take (n * sz) ++ new, T, sz, blk.frz - o, .own⟩]))
  | _ => False

/-- What a slice's slice is. -/
def slK (m : Mem) (K : Value → Mem → Prop) (sz l h : Nat) : Option Addr → Prop
  | none => K (.slice none 0 0) m
  | some ⟨b, o, _⟩ => optP m[b]? fun k => (k.kind.live = true ∧ k.esz = sz) ∧ K (.slice (some ⟨b, o + l * sz, none⟩) (h - l) (h - l)) m

def zeroRow (zs : List Value) (n : Nat) : List Value := (List.range n).map fun i => zs.toArray[i % zs.length]!

/-- Cells of a slice are set. -/
def putK (m : Mem) (K : Value → Mem → Prop) (v : Value) (b o : Nat) (new : List Value) : Prop :=
  optP m[b]? fun k => (k.kind.isOwn = true ∧ k.frz ≤ o ∧ o + new.length ≤ k.cells.length) ∧ K v (m.set b { k with cells := setAt k.cells o new })

/-- The first n elements. -/
def firstL (m : Mem) (sz n : Nat) : Value → Option (List Value)
  | .string s => if sz = 1 then some ((byteCells s.data.toList).take n) else none
  | .slice none _ _ => some []
  | .slice (some ⟨i, o, none⟩) _ _ => cells? m i o (n * sz)
  | _ => none

/-- Bytes turn to a text; they are not written again. -/
def usK (m : Mem) (K : Value → Mem → Prop) (T b o n : Nat) : Prop :=
  optP m[b]? fun k => optP (bytesL ((k.cells.drop o).take n)) fun l => ((k.kind.isOwn = true ∧ k.elem = T ∧ o + n ≤ k.cells.length) ∧ n ≤ 9223372036854775807) ∧ K (.string ⟨l.toArray⟩) (m.set b (dead k))

/-- One operation that makes no call: its value, and the memory behind it. -/
def lrun (op : LOp) (ev : Operand → Value) (m : Mem) (K : Value → Mem → Prop) : Prop :=
  match op with
  | .move x => K (ev x) m
  | .pick c a b => match ev c with
    | .bool c => CondP c (K (ev a) m) (K (ev b) m)
    | _ => False
  | .zero T cs => K (.pointer (some ⟨m.length, 0, none⟩)) (m ++ [⟨cs, T, 1, 0, .own⟩])
  | .box T x => basic (ev x) = true ∧ K (.pointer (some ⟨m.length, 0, none⟩)) (m ++ [⟨cellsL (ev x), T, 1, 0, .own⟩])
  | .build z ps => optP (fillL ev z ps) fun cs => K (.agg cs.toArray) m
  | .buildSlice T sz n z ps => optP (fillL ev z ps) fun cs => K (.slice (some ⟨m.length, 0, none⟩) n n) (m ++ [⟨cs, T, sz, 0, .own⟩])
  | .load x => match ev x with
    | .pointer (some ⟨i, o, none⟩) => optP (cell? m i o) fun v => K v m
    | _ => False
  | .loadN n x => match ev x with
    | .pointer (some ⟨i, o, none⟩) => optP (cells? m i o n) fun cs => K (.agg cs.toArray) m
    | _ => False
  | .store n a x => match ev a with
    | .pointer (some ⟨i, o, none⟩) => optP m[i]? fun k => (k.kind.isOwn = true ∧ basic (ev x) = true ∧ (cellsL (ev x)).length = n ∧ k.frz ≤ o ∧ o + n ≤ k.cells.length) ∧ K undef (m.set i { k with cells := setAt k.cells o (cellsL (ev x)) })
    | _ => False
  | .nilCheck x => match ev x with
    | .pointer (some a) => K (.pointer (some a)) m
    | _ => False
  | .bin op x y => optP (binV op (ev x) (ev y)) fun v => K v m
  | .eq1 neg c x y => optP (eqLeaf c (ev x) (ev y)) fun b => K (.bool (neg != b)) m
  | .eqN neg ls x y => optP (Lg.eqN ls (ev x) (ev y)) fun b => K (.bool (neg != b)) m
  | .str x => match ev x with
    | .string s => K (.string s) m
    | _ => False
  | .un op x => optP (unV op (ev x)) fun v => K v m
  | .conv k x => match ev x with
    | .int _ n => K (.int k (k.wrap n)) m
    | _ => False
  | .s2b T x => match ev x with
    | .string s => K (.slice (some ⟨m.length, 0, none⟩) s.size s.size) (m ++ [⟨byteCells s.data.toList, T, 1, 0, .own⟩])
    | _ => False
  | .b2s x => match ev x with
    | .slice none _ _ => K (.string .empty) m
    | .slice (some ⟨i, o, none⟩) n _ => optP ((cells? m i o n).bind bytesL) fun l => K (.string ⟨l.toArray⟩) m
    | _ => False
  | .fieldAddr off x => match ev x with
    | .pointer (some ⟨i, o, none⟩) => K (.pointer (some ⟨i, o + off, none⟩)) m
    | _ => False
  | .field off x => match ev x with
    | .agg cs => optP cs.toList[off]? fun v => K v m
    | _ => False
  | .fieldN off n x => match ev x with
    | .agg cs => K (.agg ((cs.toList.drop off).take n).toArray) m
    | _ => False
  | .idxAddrS sz x i => match ev x, ev i with
    | .slice (some ⟨b, o, none⟩) n _, .int _ j => (0 ≤ j ∧ j < n) ∧ K (.pointer (some ⟨b, o + j.toNat * sz, none⟩)) m
    | _, _ => False
  | .idxAddrA len sz x i => match ev x, ev i with
    | .pointer (some ⟨b, o, none⟩), .int _ j => (0 ≤ j ∧ j < len) ∧ K (.pointer (some ⟨b, o + j.toNat * sz, none⟩)) m
    | _, _ => False
  | .idxStr x i => match ev x, ev i with
    | .string s, .int _ j => 0 ≤ j ∧ optP s.data.toList[j.toNat]? fun b => K (.int .u8 b.toNat) m
    | _, _ => False
  | .idx len x i => match ev x, ev i with
    | .agg cs, .int _ j => (0 ≤ j ∧ j < len) ∧ optP cs.toList[j.toNat]? fun v => K v m
    | _, _ => False
  | .idxN len sz x i => match ev x, ev i with
    | .agg cs, .int _ j => (0 ≤ j ∧ j < len) ∧ K (.agg ((cs.toList.drop (j.toNat * sz)).take sz).toArray) m
    | _, _ => False
  | .sliceStr x lo hi => match ev x with
    | .string s => optP (boundL ev hi s.size s.size) fun h => optP (boundL ev lo 0 h) fun l => K (.string (s.extract l h)) m
    | _ => False
  | .sliceSl sz x lo hi => match ev x with
    | .slice a n _ => optP (boundL ev hi n n) fun h => optP (boundL ev lo 0 h) fun l => slK m K sz l h a
    | _ => False
  | .sliceArr len sz x lo hi => match ev x with
    | .pointer (some ⟨b, o, none⟩) => optP (boundL ev hi len len) fun h => optP (boundL ev lo 0 h) fun l =>
      optP m[b]? fun k => (k.kind.isOwn = true ∧ k.esz = 1 ∧ 1 ≤ sz ∧ o + len * sz ≤ k.cells.length) ∧ K (.slice (some ⟨b, o + l * sz, none⟩) (h - l) (h - l)) m
    | _ => False
  | .extract x i => match ev x with
    | .tuple vs => optP vs.toList[i]? fun v => K v m
    | _ => False
  | .lenStr x => match ev x with
    | .string s => K (.int .i64 s.size) m
    | _ => False
  | .lenSl x => match ev x with
    | .slice _ n _ => K (.int .i64 n) m
    | _ => False
  | .lenC n => K (.int .i64 n) m
  | .append T sz bytes x y => optP (lenV (ev y)) fun k => optP (newCells m sz (ev y)) fun new => apK m K T sz bytes k new (ev x)
  | .mkFunc fn first captured => ((first.map ev).all isAtom = true ∧ (captured.map ev).all isAtom = true) ∧ K (.func fn (first.map ev).toArray (captured.map ev).toArray) m
  | .min xs => match xs.map ev with
    | v :: r => optP (minL v r) fun u => K u m
    | [] => False
  | .max xs => match xs.map ev with
    | v :: r => optP (maxL v r) fun u => K u m
    | [] => False
  | .copy sz x y => match ev x with
    | .slice none _ _ => optP (lenV (ev y)) fun _ => K (.int .i64 0) m
    | .slice (some ⟨b, o, none⟩) n _ => optP (lenV (ev y)) fun k => optP (firstL m sz (Nat.min k n) (ev y)) fun new => putK m K (.int .i64 (Nat.min k n)) b o new
    | _ => False
  | .clear zero x => match ev x with
    | .slice none _ _ => K undef m
    | .slice (some ⟨b, o, none⟩) n _ => if n = 0 then K undef m else putK m K undef b o (zeroRow zero (n * zero.length))
    | _ => False
  | .makeSlice T sz bytes zero l c => match ev l, ev c with
    | .int _ a, .int _ b => (0 ≤ a ∧ a ≤ b ∧ b.toNat * bytes ≤ 16777216 ∧ b ≤ 16777216) ∧ K (.slice (some ⟨m.length, 0, none⟩) a.toNat a.toNat) (m ++ [⟨zeroRow zero (a.toNat * sz), T, sz, 0, .own⟩])
    | _, _ => False
  | .capNil x => match ev x with
    | .slice none _ _ => K (.int .i64 0) m
    | _ => False
  | .sliceData x => match ev x with
    | .slice none _ _ => K (.pointer none) m
    | .slice (some a) n _ => n ≠ 0 ∧ K (.pointer (some a)) m
    | _ => False
  | .unsafeStr T x n => match ev x, ev n with
    | .pointer none, .int _ n => n = 0 ∧ K (.string .empty) m
    | .pointer (some ⟨b, o, none⟩), .int _ n => 0 < n ∧ usK m K T b o n.toNat
    | _, _ => False
  | .noZero T x => match ev x with
    | .int .i64 n => (0 ≤ n ∧ n ≤ 16777216) ∧ K (.slice (some ⟨m.length, 0, none⟩) n.toNat n.toNat) (m ++ [⟨[], T, 1, 0, .own⟩])
    | _ => False
  | .zeroV T cs => K (.pointer (some ⟨m.length, 0, none⟩)) (m ++ [⟨cs, T, 0, 0, .own⟩])
  | .toU x => match ev x with
    | .pointer none => K (.pointer none) m
    | .pointer (some ⟨i, o, none⟩) => optP (cell? m i o) fun _ => K (.pointer (some ⟨i, o, none⟩)) m
    | _ => False
  | .ofU T n x => match ev x with
    | .pointer none => K (.pointer none) m
    | .pointer (some ⟨i, 0, none⟩) => optP m[i]? fun k => (k.kind.isOwn = true ∧ k.esz = 0 ∧ k.elem = T ∧ k.cells.length = n ∧ 0 < n) ∧ K (.pointer (some ⟨i, 0, none⟩)) m
    | _ => False
  | .zeroF T cs x => match ev x with
    | .pointer (some ⟨i, 0, none⟩) => m[i]? = some ⟨cs, T, 1, 0, .own⟩ ∧ K (.pointer (some ⟨i, 0, none⟩)) m
    | _ => False
  | .bad | .call .. | .callv .. => False

end Go.Lg
