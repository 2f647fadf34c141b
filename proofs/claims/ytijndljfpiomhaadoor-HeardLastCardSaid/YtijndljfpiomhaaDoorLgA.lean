/- The logical memory: lists of blocks with names of their own, values that speak of these names, and how a world bears them. -/
import Derived.Orders
import Derived.Laws.World
import Derived.Laws.Sem
namespace Go.Lg

/-- Two lists, place by place. -/
inductive F2 {α β : Type} (R : α → β → Prop) : List α → List β → Prop
  | nil : F2 R [] []
  | cons {a b as bs} : R a b → F2 R as bs → F2 R (a :: as) (b :: bs)

namespace F2
variable {α β : Type} {R S : α → β → Prop}
theorem length {xs : List α} {ys : List β} (h : F2 R xs ys) : xs.length = ys.length := by
  induction h with
  | nil => rfl
  | cons _ _ ih => simp [ih]
theorem mono {xs : List α} {ys : List β} (h : F2 R xs ys) (hm : ∀ a b, R a b → S a b) : F2 S xs ys := by
  induction h with
  | nil => exact .nil
  | cons h _ ih => exact .cons (hm _ _ h) ih
theorem append {xs us : List α} {ys vs : List β} (h : F2 R xs ys) (k : F2 R us vs) : F2 R (xs ++ us) (ys ++ vs) := by
  induction h with
  | nil => exact k
  | cons h _ ih => exact .cons h ih
theorem get {xs : List α} {ys : List β} (h : F2 R xs ys) : ∀ {i : Nat} {a : α}, xs[i]? = some a → ∃ b, ys[i]? = some b ∧ R a b := by
  induction h with
  | nil => intro i a h; simp at h
  | cons h _ ih =>
    intro i a ha
    cases i with
    | zero => simp at ha; subst ha; exact ⟨_, by simp, h⟩
    | succ i => simpa using ih (by simpa using ha)
theorem get' {xs : List α} {ys : List β} (h : F2 R xs ys) : ∀ {i : Nat} {b : β}, ys[i]? = some b → ∃ a, xs[i]? = some a ∧ R a b := by
  induction h with
  | nil => intro i a h; simp at h
  | cons h _ ih =>
    intro i a ha
    cases i with
    | zero => simp at ha; subst ha; exact ⟨_, by simp, h⟩
    | succ i => simpa using ih (by simpa using ha)
theorem of_get {xs : List α} : ∀ {ys : List β}, xs.length = ys.length → (∀ (i : Nat) (a : α) (b : β), xs[i]? = some a → ys[i]? = some b → R a b) → F2 R xs ys := by
  induction xs with
  | nil => intro ys hl _; cases ys with | nil => exact .nil | cons => simp at hl
  | cons x xs ih =>
    intro ys hl h
    cases ys with
    | nil => simp at hl
    | cons y ys => exact .cons (h 0 x y (by simp) (by simp)) (ih (by simpa using hl) fun i a b ha hb => h (i + 1) a b (by simpa using ha) (by simpa using hb))
theorem set {xs : List α} {ys : List β} (h : F2 R xs ys) (i : Nat) {a : α} {b : β} (hab : R a b) : F2 R (xs.set i a) (ys.set i b) := by
  induction h generalizing i with
  | nil => exact .nil
  | cons h t ih =>
    cases i with
    | zero => exact .cons hab t
    | succ i => exact .cons h (ih i)
theorem take {xs : List α} {ys : List β} (h : F2 R xs ys) (n : Nat) : F2 R (xs.take n) (ys.take n) := by
  induction h generalizing n with
  | nil => simp; exact .nil
  | cons h t ih =>
    cases n with
    | zero => simp; exact .nil
    | succ n => simp; exact .cons h (ih n)
theorem drop {xs : List α} {ys : List β} (h : F2 R xs ys) (n : Nat) : F2 R (xs.drop n) (ys.drop n) := by
  induction h generalizing n with
  | nil => simp; exact .nil
  | cons h t ih =>
    cases n with
    | zero => simpa using .cons h t
    | succ n => simpa using ih n
theorem refl {R : α → α → Prop} {xs : List α} (h : ∀ x ∈ xs, R x x) : F2 R xs xs := by
  induction xs with
  | nil => exact .nil
  | cons x xs ih => exact .cons (h x (by simp)) (ih fun y hy => h y (by simp [hy]))
theorem map {γ δ : Type} {f : γ → α} {g : δ → β} {T : γ → δ → Prop} {xs : List γ} {ys : List δ} (h : F2 T xs ys) (hm : ∀ c d, T c d → R (f c) (g d)) : F2 R (xs.map f) (ys.map g) := by
  induction h with
  | nil => exact .nil
  | cons h _ ih => exact .cons (hm _ _ h) ih
theorem map_same {γ : Type} {f : γ → α} {g : γ → β} {xs : List γ} (hm : ∀ c ∈ xs, R (f c) (g c)) : F2 R (xs.map f) (xs.map g) := by
  induction xs with
  | nil => exact .nil
  | cons x xs ih => exact .cons (hm x (by simp)) (ih fun y hy => hm y (by simp [hy]))
theorem nil_inv {ys : List β} (h : F2 R [] ys) : ys = [] := by cases h; rfl
theorem cons_inv {a : α} {as : List α} {ys : List β} (h : F2 R (a :: as) ys) : ∃ b bs, ys = b :: bs ∧ R a b ∧ F2 R as bs := by
  cases h with | cons h t => exact ⟨_, _, rfl, h, t⟩
end F2

/-- Where a block of the logical memory lies: a block of the world, the place of its first cell, how many cells the world's block has, and how many of them an element takes. -/
abbrev Rho := Nat → Option (Nat × Nat × Nat × Nat)

def Rho.le (r r' : Rho) : Prop := ∀ i x, r i = some x → r' i = some x
theorem Rho.le_refl (r : Rho) : r.le r := fun _ _ h => h
theorem Rho.le_trans {a b c : Rho} (h : a.le b) (k : b.le c) : a.le c := fun i x hx => k i x (h i x hx)

inductive AR (r : Rho) : Value → Value → Prop
  | bool (b : Bool) : AR r (.bool b) (.bool b)
  | int (k : IntKind) (n : Int) : AR r (.int k n) (.int k n)
  | string (s : ByteArray) : AR r (.string s) (.string s)
  | nilPtr : AR r (.pointer none) (.pointer none)
  | nilSlice : AR r (.slice none 0 0) (.slice none 0 0)
  | nilFunc : AR r .nilFunc .nilFunc
  | nilIface : AR r .nilIface .nilIface
  | ptr {i o b d t z : Nat} (h : r i = some (b, d, t, z)) : AR r (.pointer (some ⟨i, o, none⟩)) (.pointer (some ⟨b, d + o, none⟩))
  | slice {i o n b d t z c : Nat} {a : Addr} (h : r i = some (b, d, t, z)) (hn : n ≤ c) (ha : c = 0 ∨ a = ⟨b, d + o, none⟩ ∧ d + o + c * z ≤ t) : AR r (.slice (some ⟨i, o, none⟩) n n) (.slice (some a) n c)

inductive CR (r : Rho) : Value → Value → Prop
  | atom {v v' : Value} : AR r v v' → CR r v v'
  | func {fn : Fn} {f f' c c' : List Value} : F2 (AR r) f f' → F2 (AR r) c c' → CR r (.func fn f.toArray c.toArray) (.func fn f'.toArray c'.toArray)

inductive BR (r : Rho) : Value → Value → Prop
  | cell {v v' : Value} : CR r v v' → BR r v v'
  | agg {xs ys : List Value} : F2 (CR r) xs ys → BR r (.agg xs.toArray) (.agg ys.toArray)

inductive VR (r : Rho) : Value → Value → Prop
  | base {v v' : Value} : BR r v v' → VR r v v'
  | tuple {xs ys : List Value} : F2 (BR r) xs ys → VR r (.tuple xs.toArray) (.tuple ys.toArray)

section mono
variable {r r' : Rho} (h : r.le r') {v v' : Value}
include h
theorem AR.mono (hv : AR r v v') : AR r' v v' := by
  cases hv with
  | ptr hi => exact .ptr (h _ _ hi)
  | slice hi hn ha => exact .slice (h _ _ hi) hn ha
  | bool b => exact .bool b
  | int k n => exact .int k n
  | string s => exact .string s
  | nilPtr => exact .nilPtr
  | nilSlice => exact .nilSlice
  | nilFunc => exact .nilFunc
  | nilIface => exact .nilIface
theorem CR.mono (hv : CR r v v') : CR r' v v' := by
  cases hv with
  | atom hv => exact .atom (AR.mono h hv)
  | func hf hc => exact .func (hf.mono fun _ _ => AR.mono h) (hc.mono fun _ _ => AR.mono h)
theorem BR.mono (hv : BR r v v') : BR r' v v' := by
  cases hv with
  | cell hv => exact .cell (CR.mono h hv)
  | agg hf => exact .agg (hf.mono fun _ _ => CR.mono h)
theorem VR.mono (hv : VR r v v') : VR r' v v' := by
  cases hv with
  | base hv => exact .base (BR.mono h hv)
  | tuple hf => exact .tuple (hf.mono fun _ _ => BR.mono h)
end mono

abbrev VR.atom {r : Rho} {v v' : Value} (h : AR r v v') : VR r v v' := .base (.cell (.atom h))
theorem VR.undef {r : Rho} : VR r undef undef := .tuple (xs := []) (ys := []) .nil

section inv
variable {r : Rho} {v' : Value}
theorem VR.bool_inv {b : Bool} (h : VR r (.bool b) v') : v' = .bool b := by
  rcases h with ⟨⟨⟨h⟩⟩⟩; cases h; rfl
theorem VR.int_inv {k : IntKind} {n : Int} (h : VR r (.int k n) v') : v' = .int k n := by
  rcases h with ⟨⟨⟨h⟩⟩⟩; cases h; rfl
theorem VR.string_inv {s : ByteArray} (h : VR r (.string s) v') : v' = .string s := by
  rcases h with ⟨⟨⟨h⟩⟩⟩; cases h; rfl
theorem VR.nilPtr_inv (h : VR r (.pointer none) v') : v' = .pointer none := by
  rcases h with ⟨⟨⟨h⟩⟩⟩; cases h; rfl
theorem VR.nilFunc_inv (h : VR r .nilFunc v') : v' = .nilFunc := by
  rcases h with ⟨⟨⟨h⟩⟩⟩; cases h; rfl
theorem VR.ptr_inv {i o : Nat} (h : VR r (.pointer (some ⟨i, o, none⟩)) v') : ∃ b d t z, r i = some (b, d, t, z) ∧ v' = .pointer (some ⟨b, d + o, none⟩) := by
  rcases h with ⟨⟨⟨h⟩⟩⟩; cases h; exact ⟨_, _, _, _, by assumption, rfl⟩
theorem VR.nilSlice_inv (h : VR r (.slice none 0 0) v') : v' = .slice none 0 0 := by
  rcases h with ⟨⟨⟨h⟩⟩⟩; cases h; rfl
theorem VR.slice_inv {i o n m : Nat} (h : VR r (.slice (some ⟨i, o, none⟩) n m) v') : m = n ∧ ∃ b d t z c a, r i = some (b, d, t, z) ∧ n ≤ c ∧ (c = 0 ∨ a = ⟨b, d + o, none⟩ ∧ d + o + c * z ≤ t) ∧ v' = .slice (some a) n c := by
  rcases h with ⟨⟨⟨h⟩⟩⟩; cases h; exact ⟨rfl, _, _, _, _, _, _, by assumption, by assumption, by assumption, rfl⟩
theorem VR.agg_inv {xs : List Value} (h : VR r (.agg xs.toArray) v') : ∃ ys, v' = .agg ys.toArray ∧ F2 (CR r) xs ys := by
  generalize hx : Value.agg xs.toArray = v at h
  cases h with
  | base h =>
    cases h with
    | cell h => cases h with | atom h => cases h <;> simp at hx | func _ _ => simp at hx
    | agg h => simp at hx; subst hx; exact ⟨_, rfl, h⟩
  | tuple _ => simp at hx
theorem VR.tuple_inv {xs : List Value} (h : VR r (.tuple xs.toArray) v') : ∃ ys, v' = .tuple ys.toArray ∧ F2 (BR r) xs ys := by
  generalize hx : Value.tuple xs.toArray = v at h
  cases h with
  | base h =>
    cases h with
    | cell h => cases h with | atom h => cases h <;> simp at hx | func _ _ => simp at hx
    | agg h => simp at hx
  | tuple h => simp at hx; subst hx; exact ⟨_, rfl, h⟩
theorem VR.func_inv {fn : Fn} {f c : List Value} (h : VR r (.func fn f.toArray c.toArray) v') : ∃ f' c', v' = .func fn f'.toArray c'.toArray ∧ F2 (AR r) f f' ∧ F2 (AR r) c c' := by
  generalize hx : Value.func fn f.toArray c.toArray = v at h
  cases h with
  | base h =>
    cases h with
    | cell h =>
      cases h with
      | atom h => cases h <;> simp at hx
      | func h k => simp at hx; obtain ⟨rfl, rfl, rfl⟩ := hx; exact ⟨_, _, rfl, h, k⟩
    | agg h => simp at hx
  | tuple h => simp at hx
end inv

/-- What a value is as cells. -/
theorem BR.cells {r : Rho} {v v' : Value} (h : BR r v v') : F2 (CR r) v.cells.toList v'.cells.toList := by
  cases h with
  | cell h =>
    have e : ∀ {u u' : Value}, CR r u u' → u.cells = #[u] ∧ u'.cells = #[u'] := by
      intro u u' hu
      cases hu with
      | atom h => cases h <;> exact ⟨rfl, rfl⟩
      | func => exact ⟨rfl, rfl⟩
    obtain ⟨e1, e2⟩ := e h
    rw [e1, e2]
    exact .cons h .nil
  | agg h => simpa [Value.cells] using h

inductive Kind where | own | ro | dead

structure Blk where
  cells : List Value
  elem : TypeId
  esz : Nat
  frz : Nat
  kind : Kind

abbrev Mem := List Blk

def inFz (fz : Nat × Nat) (x : Nat) : Bool := fz.1 ≤ x && x < fz.2

/-- A world's block bears a logical one, from place d on. -/
def Bears (r : Rho) (base : Nat) (k : Blk) (b d t z : Nat) (o : Option Obj) : Prop :=
  match k.kind with
  | .dead => True
  | .own => base ≤ b ∧ k.esz = z ∧ ∃ c fz, o = some (.cells c k.elem fz) ∧ c.size = t ∧ d + k.cells.length ≤ c.size ∧ (∀ j v, k.cells[j]? = some v → ∃ v', c[d + j]? = some v' ∧ CR r v v') ∧ (∀ x, d + k.frz ≤ x → x < c.size → inFz fz x = false) ∧ (z = 0 → 0 < k.cells.length → d = 0 ∧ c.size = k.cells.length) ∧ (1 < z → fz = (0, 0))
  | .ro => b < base ∧ k.esz = z ∧ ∃ c T fz, o = some (.cells c T fz) ∧ (∀ j v, k.cells[j]? = some v → ∃ v', c[d + j]? = some v' ∧ CR r v v')

theorem Bears.mono {r r' : Rho} (h : r.le r') {base : Nat} {k : Blk} {b d t z : Nat} {o : Option Obj} (hb : Bears r base k b d t z o) : Bears r' base k b d t z o := by
  unfold Bears at *
  split at hb
  · trivial
  · obtain ⟨h0, hz, c, fz, h1, ht, h2, h3, h4⟩ := hb
    exact ⟨h0, hz, c, fz, h1, ht, h2, fun j v hv => let ⟨v', e, q⟩ := h3 j v hv; ⟨v', e, q.mono h⟩, h4⟩
  · obtain ⟨h0, hz, c, T, fz, h1, h3⟩ := hb
    exact ⟨h0, hz, c, T, fz, h1, fun j v hv => let ⟨v', e, q⟩ := h3 j v hv; ⟨v', e, q.mono h⟩⟩

/-- The memory as the world bears it. -/
structure MR (base : Nat) (r : Rho) (m : Mem) (w : World) : Prop where
  dom : ∀ i x, r i = some x → i < m.length
  blk : ∀ i k b d t z, m[i]? = some k → r i = some (b, d, t, z) → Bears r base k b d t z w.heap[b]?
  inj : ∀ i j k l b x y, m[i]? = some k → m[j]? = some l → k.kind = .own → l.kind = .own → r i = some (b, x) → r j = some (b, y) → i = j
  base : base ≤ w.heap.size

/-- The world's blocks that the memory owns. -/
def Own (r : Rho) (m : Mem) (b : Nat) : Prop := ∃ i k x, m[i]? = some k ∧ k.kind = .own ∧ r i = some (b, x)

/-- From one memory and world to the next. -/
structure Stp (base : Nat) (r : Rho) (m : Mem) (w : World) (r' : Rho) (m' : Mem) (w' : World) : Prop where
  mr : MR base r' m' w'
  ext : ∀ i, i < m.length → r' i = r i
  len : m.length ≤ m'.length
  fr : ∀ b, b < w.heap.size → ¬ Own r m b → w'.heap[b]? = w.heap[b]?
  own : ∀ b, b < w.heap.size → Own r' m' b → Own r m b
  size : w.heap.size ≤ w'.heap.size
  os : w'.os = w.os
  tape : w'.tape = w.tape
  output : w'.output = w.output

theorem MR.le_of_ext {base : Nat} {r r' : Rho} {m : Mem} {w : World} (h : MR base r m w) (he : ∀ i, i < m.length → r' i = r i) : r.le r' :=
  fun i x hx => by rw [he i (h.dom i x hx)]; exact hx

namespace Stp
variable {base : Nat} {r r' r'' : Rho} {m m' m'' : Mem} {w w' w'' : World}
theorem refl (h : MR base r m w) : Stp base r m w r m w :=
  ⟨h, fun _ _ => rfl, Nat.le_refl _, fun _ _ _ => rfl, fun _ _ h => h, Nat.le_refl _, rfl, rfl, rfl⟩
theorem trans (h : Stp base r m w r' m' w') (k : Stp base r' m' w' r'' m'' w'') : Stp base r m w r'' m'' w'' where
  mr := k.mr
  ext := fun i hi => (k.ext i (Nat.lt_of_lt_of_le hi h.len)).trans (h.ext i hi)
  len := Nat.le_trans h.len k.len
  fr := fun b hb hn => (k.fr b (Nat.lt_of_lt_of_le hb h.size) fun ho => hn (h.own b hb ho)).trans (h.fr b hb hn)
  own := fun b hb ho => h.own b hb (k.own b (Nat.lt_of_lt_of_le hb h.size) ho)
  size := Nat.le_trans h.size k.size
  os := k.os.trans h.os
  tape := k.tape.trans h.tape
  output := k.output.trans h.output
theorem le (h : MR base r m w) (k : Stp base r m w r' m' w') : r.le r' := h.le_of_ext k.ext
/-- A draw. -/
theorem drew (h : MR base r m w) : Stp base r m w r m { w with drawn := w.drawn + 1 } :=
  ⟨⟨h.dom, h.blk, h.inj, h.base⟩, fun _ _ => rfl, Nat.le_refl _, fun _ _ _ => rfl, fun _ _ h => h, Nat.le_refl _, rfl, rfl, rfl⟩
end Stp

end Go.Lg
