/- An evaluator of the short form: what it comes to, the program's own call comes to. -/
import Derived.Test.YtijndljfpiomhaaDoorLgV
namespace Go.Lg

variable {P : Program}

/-- Texts, as lists, for quick reduction. -/
def strApp (a b : ByteArray) : ByteArray := ⟨⟨a.data.toList ++ b.data.toList⟩⟩
theorem strApp_e (a b : ByteArray) : strApp a b = a ++ b := by
  apply ByteArray.ext
  apply Array.ext'
  simp [strApp]
def strEq (a b : ByteArray) : Bool := decide (a.data.toList = b.data.toList)
theorem strEq_e (a b : ByteArray) : strEq a b = decide (a = b) := by
  unfold strEq
  congr 1
  exact propext ⟨fun h => ByteArray.ext (Array.ext' h), fun h => by rw [h]⟩
def strCut (s : ByteArray) (a b : Nat) : ByteArray := ⟨⟨(s.data.toList.drop a).take (b - a)⟩⟩
theorem strCut_e (s : ByteArray) (a b : Nat) : strCut s a b = s.extract a b := by
  apply ByteArray.ext
  apply Array.ext'
  simp [strCut, List.take_drop]
def strSize (s : ByteArray) : Nat := s.data.toList.length
theorem strSize_e (s : ByteArray) : strSize s = s.size := by
  show s.data.toList.length = s.data.size
  exact Array.length_toList

def binE (op : BinOp) (x y : Value) : Option Value :=
  match op, x, y with
  | .add, .string a, .string b => if (strSize a : Int) + strSize b ≤ maxI64 then some (.string (strApp a b)) else none
  | .eql, .string a, .string b => some (.bool (strEq a b))
  | .neq, .string a, .string b => some (.bool (!strEq a b))
  | op, x, y => binV op x y
theorem binE_e (op : BinOp) (x y : Value) : binE op x y = binV op x y := by
  unfold binE
  split
  · simp only [strSize_e, strApp_e]; rfl
  · simp only [strEq_e]; rfl
  · simp only [strEq_e]; rfl
  · rfl

def leafE : EqC → Value → Value → Option Bool
  | .string, .string a, .string b => some (strEq a b)
  | c, x, y => eqLeaf c x y
theorem leafE_e (c : EqC) (x y : Value) : leafE c x y = eqLeaf c x y := by
  unfold leafE
  split
  · simp only [strEq_e]; rfl
  · rfl
def leavesE (xs ys : List Value) : List (Nat × EqC) → Option Bool
  | [] => some true
  | (o, c) :: os => match xs[o]?, ys[o]? with
    | some x, some y => match leafE c x y, leavesE xs ys os with
      | some a, some b => some (a && b)
      | _, _ => none
    | _, _ => none
theorem leavesE_e (xs ys : List Value) : ∀ l, leavesE xs ys l = eqLeaves xs ys l
  | [] => rfl
  | (o, c) :: os => by unfold leavesE eqLeaves; simp only [leafE_e, leavesE_e xs ys os]; rfl
def eqNE (leaves : List (Nat × EqC)) : Value → Value → Option Bool
  | .agg xs, .agg ys => leavesE xs.toList ys.toList leaves
  | _, _ => none
theorem eqNE_e (l : List (Nat × EqC)) (x y : Value) : eqNE l x y = eqN l x y := by
  unfold eqNE eqN; split <;> simp only [leavesE_e]

def apE (m : Mem) (T sz bytes k : Nat) (new : List Value) : Value → Option (Value × Mem)
  | .slice none _ _ => if k * (bytes + 1) ≤ 140737488355328 then (if k = 0 then some (.slice none 0 0, m) else some (.slice (some ⟨m.length, 0, none⟩) k k, m ++ [⟨new, T, sz, 0, .own⟩])) else none
  | .slice (some ⟨b, o, none⟩) n _ => match m[b]? with
    | none => none
    | some blk =>
      if blk.kind.live = true ∧ blk.esz = sz ∧ o + n * sz ≤ blk.cells.length ∧ (k ≠ 0 → blk.kind.isOwn = true ∧ blk.elem = T ∧ blk.frz ≤ o + n * sz) ∧ (n + k) * (bytes + 1) ≤ 140737488355328 then
        (if k = 0 then some (.slice (some ⟨b, o, none⟩) n n, m) else
          some (.slice (some ⟨m.length, 0, none⟩) (n + k) (n + k), m.set b (dead blk) ++ [⟨(blk.cells.drop o).take (n * sz) ++ new, T, sz, blk.frz - o, .own⟩])) else none
  | _ => none

def slE (m : Mem) (sz l h : Nat) : Option Addr → Option (Value × Mem)
  | none => some (.slice none 0 0, m)
  | some ⟨b, o, _⟩ => match m[b]? with
    | none => none
    | some k => if k.kind.live = true ∧ k.esz = sz then some (.slice (some ⟨b, o + l * sz, none⟩) (h - l) (h - l), m) else none

def putE (m : Mem) (v : Value) (b o : Nat) (new : List Value) : Option (Value × Mem) := match m[b]? with
  | none => none
  | some k => if k.kind.isOwn = true ∧ k.frz ≤ o ∧ o + new.length ≤ k.cells.length then some (v, m.set b { k with cells := setAt k.cells o new }) else none
def usE (m : Mem) (T b o n : Nat) : Option (Value × Mem) := match m[b]? with
  | none => none
  | some k => match bytesL ((k.cells.drop o).take n) with
    | none => none
    | some l => if (k.kind.isOwn = true ∧ k.elem = T ∧ o + n ≤ k.cells.length) ∧ n ≤ 9223372036854775807 then some (.string ⟨l.toArray⟩, m.set b (dead k)) else none

/-- One operation that makes no call. -/
def lexec (op : LOp) (ev : Operand → Value) (m : Mem) : Option (Value × Mem) :=
  match op with
  | .move x => some (ev x, m)
  | .pick c a b => match ev c with
    | .bool c => some (if c then ev a else ev b, m)
    | _ => none
  | .zero T cs => some (.pointer (some ⟨m.length, 0, none⟩), m ++ [⟨cs, T, 1, 0, .own⟩])
  | .box T x => if basic (ev x) = true then some (.pointer (some ⟨m.length, 0, none⟩), m ++ [⟨cellsL (ev x), T, 1, 0, .own⟩]) else none
  | .build z ps => match fillL ev z ps with
    | some cs => some (.agg cs.toArray, m)
    | none => none
  | .buildSlice T sz n z ps => match fillL ev z ps with
    | some cs => some (.slice (some ⟨m.length, 0, none⟩) n n, m ++ [⟨cs, T, sz, 0, .own⟩])
    | none => none
  | .load x => match ev x with
    | .pointer (some ⟨i, o, none⟩) => match cell? m i o with
      | some v => some (v, m)
      | none => none
    | _ => none
  | .loadN n x => match ev x with
    | .pointer (some ⟨i, o, none⟩) => match cells? m i o n with
      | some cs => some (.agg cs.toArray, m)
      | none => none
    | _ => none
  | .store n a x => match ev a with
    | .pointer (some ⟨i, o, none⟩) => match m[i]? with
      | some k => if k.kind.isOwn = true ∧ basic (ev x) = true ∧ (cellsL (ev x)).length = n ∧ k.frz ≤ o ∧ o + n ≤ k.cells.length then some (undef, m.set i { k with cells := setAt k.cells o (cellsL (ev x)) }) else none
      | none => none
    | _ => none
  | .nilCheck x => match ev x with
    | .pointer (some a) => some (.pointer (some a), m)
    | _ => none
  | .bin op x y => match binE op (ev x) (ev y) with
    | some v => some (v, m)
    | none => none
  | .eq1 neg c x y => match leafE c (ev x) (ev y) with
    | some b => some (.bool (neg != b), m)
    | none => none
  | .eqN neg ls x y => match eqNE ls (ev x) (ev y) with
    | some b => some (.bool (neg != b), m)
    | none => none
  | .str x => match ev x with
    | .string s => some (.string s, m)
    | _ => none
  | .un op x => match unV op (ev x) with
    | some v => some (v, m)
    | none => none
  | .conv k x => match ev x with
    | .int _ n => some (.int k (k.wrap n), m)
    | _ => none
  | .s2b T x => match ev x with
    | .string s => some (.slice (some ⟨m.length, 0, none⟩) (strSize s) (strSize s), m ++ [⟨byteCells s.data.toList, T, 1, 0, .own⟩])
    | _ => none
  | .b2s x => match ev x with
    | .slice none _ _ => some (.string .empty, m)
    | .slice (some ⟨i, o, none⟩) n _ => match (cells? m i o n).bind bytesL with
      | some l => some (.string ⟨l.toArray⟩, m)
      | none => none
    | _ => none
  | .fieldAddr off x => match ev x with
    | .pointer (some ⟨i, o, none⟩) => some (.pointer (some ⟨i, o + off, none⟩), m)
    | _ => none
  | .field off x => match ev x with
    | .agg cs => match cs.toList[off]? with
      | some v => some (v, m)
      | none => none
    | _ => none
  | .fieldN off n x => match ev x with
    | .agg cs => some (.agg ((cs.toList.drop off).take n).toArray, m)
    | _ => none
  | .idxAddrS sz x i => match ev x, ev i with
    | .slice (some ⟨b, o, none⟩) n _, .int _ j => if 0 ≤ j ∧ j < n then some (.pointer (some ⟨b, o + j.toNat * sz, none⟩), m) else none
    | _, _ => none
  | .idxAddrA len sz x i => match ev x, ev i with
    | .pointer (some ⟨b, o, none⟩), .int _ j => if 0 ≤ j ∧ j < len then some (.pointer (some ⟨b, o + j.toNat * sz, none⟩), m) else none
    | _, _ => none
  | .idxStr x i => match ev x, ev i with
    | .string s, .int _ j => if 0 ≤ j then match s.data.toList[j.toNat]? with
      | some b => some (.int .u8 b.toNat, m)
      | none => none
      else none
    | _, _ => none
  | .idx len x i => match ev x, ev i with
    | .agg cs, .int _ j => if 0 ≤ j ∧ j < len then match cs.toList[j.toNat]? with
      | some v => some (v, m)
      | none => none
      else none
    | _, _ => none
  | .idxN len sz x i => match ev x, ev i with
    | .agg cs, .int _ j => if 0 ≤ j ∧ j < len then some (.agg ((cs.toList.drop (j.toNat * sz)).take sz).toArray, m) else none
    | _, _ => none
  | .sliceStr x lo hi => match ev x with
    | .string s => match boundL ev hi (strSize s) (strSize s) with
      | some h => match boundL ev lo 0 h with
        | some l => some (.string (strCut s l h), m)
        | none => none
      | none => none
    | _ => none
  | .sliceSl sz x lo hi => match ev x with
    | .slice a n _ => match boundL ev hi n n with
      | some h => match boundL ev lo 0 h with
        | some l => slE m sz l h a
        | none => none
      | none => none
    | _ => none
  | .sliceArr len sz x lo hi => match ev x with
    | .pointer (some ⟨b, o, none⟩) => match boundL ev hi len len with
      | some h => match boundL ev lo 0 h with
        | some l => match m[b]? with
          | some k => if k.kind.isOwn = true ∧ k.esz = 1 ∧ 1 ≤ sz ∧ o + len * sz ≤ k.cells.length then some (.slice (some ⟨b, o + l * sz, none⟩) (h - l) (h - l), m) else none
          | none => none
        | none => none
      | none => none
    | _ => none
  | .extract x i => match ev x with
    | .tuple vs => match vs.toList[i]? with
      | some v => some (v, m)
      | none => none
    | _ => none
  | .lenStr x => match ev x with
    | .string s => some (.int .i64 (strSize s), m)
    | _ => none
  | .lenSl x => match ev x with
    | .slice _ n _ => some (.int .i64 n, m)
    | _ => none
  | .lenC n => some (.int .i64 n, m)
  | .append T sz bytes x y => match lenV (ev y) with
    | some k => match newCells m sz (ev y) with
      | some new => apE m T sz bytes k new (ev x)
      | none => none
    | none => none
  | .mkFunc fn first captured => if (first.map ev).all isAtom = true ∧ (captured.map ev).all isAtom = true then some (.func fn (first.map ev).toArray (captured.map ev).toArray, m) else none
  | .min xs => match xs.map ev with
    | v :: r => match minL v r with
      | some u => some (u, m)
      | none => none
    | [] => none
  | .max xs => match xs.map ev with
    | v :: r => match maxL v r with
      | some u => some (u, m)
      | none => none
    | [] => none
  | .copy sz x y => match ev x with
    | .slice none _ _ => match lenV (ev y) with
      | some _ => some (.int .i64 0, m)
      | none => none
    | .slice (some ⟨b, o, none⟩) n _ => match lenV (ev y) with
      | some k => match firstL m sz (Nat.min k n) (ev y) with
        | some new => putE m (.int .i64 (Nat.min k n)) b o new
        | none => none
      | none => none
    | _ => none
  | .clear zero x => match ev x with
    | .slice none _ _ => some (undef, m)
    | .slice (some ⟨b, o, none⟩) n _ => if n = 0 then some (undef, m) else putE m undef b o (zeroRow zero (n * zero.length))
    | _ => none
  | .makeSlice T sz bytes zero l c => match ev l, ev c with
    | .int _ a, .int _ b => if 0 ≤ a ∧ a ≤ b ∧ b.toNat * bytes ≤ 16777216 ∧ b ≤ 16777216 then some (.slice (some ⟨m.length, 0, none⟩) a.toNat a.toNat, m ++ [⟨zeroRow zero (a.toNat * sz), T, sz, 0, .own⟩]) else none
    | _, _ => none
  | .capNil x => match ev x with
    | .slice none _ _ => some (.int .i64 0, m)
    | _ => none
  | .sliceData x => match ev x with
    | .slice none _ _ => some (.pointer none, m)
    | .slice (some a) n _ => if n ≠ 0 then some (.pointer (some a), m) else none
    | _ => none
  | .unsafeStr T x n => match ev x, ev n with
    | .pointer none, .int _ n => if n = 0 then some (.string .empty, m) else none
    | .pointer (some ⟨b, o, none⟩), .int _ n => if 0 < n then usE m T b o n.toNat else none
    | _, _ => none
  | .noZero T x => match ev x with
    | .int .i64 n => if 0 ≤ n ∧ n ≤ 16777216 then some (.slice (some ⟨m.length, 0, none⟩) n.toNat n.toNat, m ++ [⟨[], T, 1, 0, .own⟩]) else none
    | _ => none
  | .zeroV T cs => some (.pointer (some ⟨m.length, 0, none⟩), m ++ [⟨cs, T, 0, 0, .own⟩])
  | .toU x => match ev x with
    | .pointer none => some (.pointer none, m)
    | .pointer (some ⟨i, o, none⟩) => match cell? m i o with
      | some _ => some (.pointer (some ⟨i, o, none⟩), m)
      | none => none
    | _ => none
  | .ofU T n x => match ev x with
    | .pointer none => some (.pointer none, m)
    | .pointer (some ⟨i, 0, none⟩) => match m[i]? with
      | some k => if k.kind.isOwn = true ∧ k.esz = 0 ∧ k.elem = T ∧ k.cells.length = n ∧ 0 < n then some (.pointer (some ⟨i, 0, none⟩), m) else none
      | none => none
    | _ => none
  | .bad | .call .. | .callv .. | .zeroF .. => none

theorem putE_sound {m : Mem} {u : Value} {b o : Nat} {new : List Value} {v : Value} {m' : Mem} (h : putE m u b o new = some (v, m')) {K : Value → Mem → Prop} (hk : K v m') : putK m K u b o new := by
  unfold putE at h
  split at h
  · cases h
  · rename_i k hb
    split at h
    · rename_i hc; simp at h; obtain ⟨rfl, rfl⟩ := h; exact ⟨k, hb, hc, hk⟩
    · cases h
theorem usE_sound {m : Mem} {T b o n : Nat} {v : Value} {m' : Mem} (h : usE m T b o n = some (v, m')) {K : Value → Mem → Prop} (hk : K v m') : usK m K T b o n := by
  unfold usE at h
  split at h
  · cases h
  · rename_i k hb
    split at h
    · cases h
    · rename_i l hl
      split at h
      · rename_i hc; simp at h; obtain ⟨rfl, rfl⟩ := h; exact ⟨k, hb, l, hl, hc, hk⟩
      · cases h

theorem optP_i {α : Type} {x : Option α} {v : α} {f : α → Prop} (h : x = some v) (hf : f v) : optP x f := ⟨v, h, hf⟩

theorem apE_sound {m : Mem} {T sz bytes k : Nat} {new : List Value} {x v : Value} {m' : Mem} (h : apE m T sz bytes k new x = some (v, m')) {K : Value → Mem → Prop} (hk : K v m') : apK m K T sz bytes k new x := by
  unfold apE at h
  unfold apK
  split at h
  · split at h
    · rename_i hb
      refine ⟨hb, ?_⟩
      split at h
      · rename_i h0; simp at h; obtain ⟨rfl, rfl⟩ := h; rw [if_pos h0]; exact hk
      · rename_i h0; simp at h; obtain ⟨rfl, rfl⟩ := h; rw [if_neg h0]; exact hk
    · cases h
  · split at h
    · cases h
    · rename_i blk hb
      refine optP_i hb ?_
      split at h
      · rename_i hc
        refine ⟨hc, ?_⟩
        split at h
        · rename_i h0; simp at h; obtain ⟨rfl, rfl⟩ := h; rw [if_pos h0]; exact hk
        · rename_i h0; simp at h; obtain ⟨rfl, rfl⟩ := h; rw [if_neg h0]; exact hk
      · cases h
  · cases h

theorem slE_sound {m : Mem} {sz l n : Nat} {a : Option Addr} {v : Value} {m' : Mem} (h : slE m sz l n a = some (v, m')) {K : Value → Mem → Prop} (hk : K v m') : slK m K sz l n a := by
  unfold slE at h
  unfold slK
  split at h
  · simp at h; obtain ⟨rfl, rfl⟩ := h; exact hk
  · split at h
    · cases h
    · rename_i k hb
      refine optP_i hb ?_
      split at h
      · rename_i hc; simp at h; obtain ⟨rfl, rfl⟩ := h; exact ⟨hc, hk⟩
      · cases h

theorem lexec_sound {op : LOp} {ev : Operand → Value} {m m' : Mem} {v : Value} (h : lexec op ev m = some (v, m')) {K : Value → Mem → Prop} (hk : K v m') : lrun op ev m K := by
  cases op <;> simp only [lexec, lrun, binE_e, leafE_e, eqNE_e, strCut_e, strSize_e] at h ⊢
  case pick c a b =>
    split at h
    · rename_i c hc
      simp at h; obtain ⟨rfl, rfl⟩ := h
      simp only [hc]
      exact ⟨fun e => by simpa [e] using hk, fun e => by simpa [e] using hk⟩
    · cases h
  case store n a x =>
    split at h
    · rename_i i o ha
      simp only [ha]
      split at h
      · rename_i k hm
        split at h
        · rename_i hc; simp at h; obtain ⟨rfl, rfl⟩ := h; exact optP_i hm ⟨hc, hk⟩
        · cases h
      · cases h
    · cases h
  case b2s x =>
    split at h
    · rename_i a b hx; simp at h; obtain ⟨rfl, rfl⟩ := h; simp only [hx]; exact hk
    · rename_i i o n _ hx
      simp only [hx]
      split at h
      · rename_i l hl; simp at h; obtain ⟨rfl, rfl⟩ := h; exact optP_i hl hk
      · cases h
    · cases h
  case idxStr x i =>
    split at h
    · rename_i s k j hx hi
      simp only [hx, hi]
      split at h
      · rename_i hj
        split at h
        · rename_i b hb; simp at h; obtain ⟨rfl, rfl⟩ := h; exact ⟨hj, optP_i hb hk⟩
        · cases h
      · cases h
    · cases h
  case idx len x i =>
    split at h
    · rename_i s k j hx hi
      simp only [hx, hi]
      split at h
      · rename_i hj
        split at h
        · rename_i b hb; simp at h; obtain ⟨rfl, rfl⟩ := h; exact ⟨hj, optP_i hb hk⟩
        · cases h
      · cases h
    · cases h
  case sliceStr x lo hi =>
    split at h
    · rename_i s hx
      simp only [hx]
      split at h
      · rename_i b hb
        split at h
        · rename_i l hl; simp at h; obtain ⟨rfl, rfl⟩ := h; exact optP_i hb (optP_i hl hk)
        · cases h
      · cases h
    · cases h
  case sliceSl sz x lo hi =>
    split at h
    · rename_i a n _ hx
      simp only [hx]
      split at h
      · rename_i b hb
        split at h
        · rename_i l hl; exact optP_i hb (optP_i hl (slE_sound h hk))
        · cases h
      · cases h
    · cases h
  case sliceArr len sz x lo hi =>
    split at h
    · rename_i b o hx
      simp only [hx]
      split at h
      · rename_i e he
        split at h
        · rename_i l hl
          split at h
          · rename_i k hm
            split at h
            · rename_i hc; simp at h; obtain ⟨rfl, rfl⟩ := h; exact optP_i he (optP_i hl (optP_i hm ⟨hc, hk⟩))
            · cases h
          · cases h
        · cases h
      · cases h
    · cases h
  case copy sz x y =>
    split at h
    · rename_i hx
      simp only [hx]
      split at h
      · rename_i hl; simp at h; obtain ⟨rfl, rfl⟩ := h; exact ⟨_, hl, hk⟩
      · cases h
    · rename_i hx
      simp only [hx]
      split at h
      · rename_i k hl
        split at h
        · rename_i new hf; exact ⟨k, hl, new, hf, putE_sound h hk⟩
        · cases h
      · cases h
    · cases h
  case clear zero x =>
    split at h
    · rename_i hx; simp only [hx]; simp at h; obtain ⟨rfl, rfl⟩ := h; exact hk
    · rename_i hx
      simp only [hx]
      split at h
      · rename_i h0; simp at h; obtain ⟨rfl, rfl⟩ := h; rw [if_pos h0]; exact hk
      · rename_i h0; rw [if_neg h0]; exact putE_sound h hk
    · cases h
  case toU x =>
    split at h
    · rename_i hx; simp only [hx]; simp at h; obtain ⟨rfl, rfl⟩ := h; exact hk
    · rename_i hx
      simp only [hx]
      split at h
      · rename_i hc; simp at h; obtain ⟨rfl, rfl⟩ := h; exact optP_i hc hk
      · cases h
    · cases h
  case ofU T n x =>
    split at h
    · rename_i hx; simp only [hx]; simp at h; obtain ⟨rfl, rfl⟩ := h; exact hk
    · rename_i hx
      simp only [hx]
      split at h
      · rename_i k hm
        split at h
        · rename_i hc; simp at h; obtain ⟨rfl, rfl⟩ := h; exact optP_i hm ⟨hc, hk⟩
        · cases h
      · cases h
    · cases h
  case sliceData x =>
    split at h
    · rename_i hx; simp only [hx]; simp at h; obtain ⟨rfl, rfl⟩ := h; exact hk
    · rename_i hx
      simp only [hx]
      split at h
      · rename_i h0; simp at h; obtain ⟨rfl, rfl⟩ := h; exact ⟨h0, hk⟩
      · cases h
    · cases h
  case unsafeStr T x n =>
    split at h
    · rename_i hx hn
      simp only [hx, hn]
      split at h
      · rename_i h0; simp at h; obtain ⟨rfl, rfl⟩ := h; exact ⟨h0, hk⟩
      · cases h
    · rename_i hx hn
      simp only [hx, hn]
      split at h
      · rename_i h0; exact ⟨h0, usE_sound h hk⟩
      · cases h
    · cases h
  case append T sz bytes x y =>
    split at h
    · rename_i k hk'
      split at h
      · rename_i new hn; exact optP_i hk' (optP_i hn (apE_sound h hk))
      · cases h
    · cases h
  all_goals first
    | (simp at h; obtain ⟨rfl, rfl⟩ := h; exact hk)
    | (simp at h; done)
    | (split at h
       · rename_i hc; simp at h; obtain ⟨rfl, rfl⟩ := h; first | exact ⟨hc, hk⟩ | exact optP_i hc hk | (simp only [hc]; exact hk)
       · cases h)
    | (split at h
       · rename_i hx
         simp only [hx]
         split at h
         · rename_i hc; simp at h; obtain ⟨rfl, rfl⟩ := h; first | exact optP_i hc hk | exact ⟨hc, hk⟩
         · cases h
       · cases h)
    | (split at h
       · rename_i hx hy
         simp only [hx, hy]
         split at h
         · rename_i hc; simp at h; obtain ⟨rfl, rfl⟩ := h; exact ⟨hc, hk⟩
         · cases h
       · cases h)

end Go.Lg
