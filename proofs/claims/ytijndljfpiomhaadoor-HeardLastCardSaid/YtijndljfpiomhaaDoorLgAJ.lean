/- Bytes: slices of them, texts of them, what is appended to them. -/
import Derived.Test.YtijndljfpiomhaaDoorLgAI
namespace Go.Lg
set_option linter.unnecessarySimpa false
set_option linter.unusedSimpArgs false
set_option linter.unusedVariables false

variable {P : Program}

def bRow (b : UInt8) : List Value := [.int .u8 b.toNat]
theorem bRow_len (b : UInt8) : (bRow b).length = 1 := rfl
theorem bRows_len (l : List UInt8) : ∀ r ∈ l.map bRow, r.length = 1 := by
  intro r hr
  obtain ⟨b, _, rfl⟩ := List.mem_map.mp hr
  rfl
theorem byteCells_flat : ∀ l : List UInt8, byteCells l = (l.map bRow).flatten
  | [] => rfl
  | b :: l => by
    have ih := byteCells_flat l
    unfold byteCells at ih ⊢
    rw [List.map_cons, List.map_cons, List.flatten_cons, ih]; rfl
theorem byteCells_len (l : List UInt8) : (byteCells l).length = l.length := by simp [byteCells]
theorem byteCells_cons (b : UInt8) (l : List UInt8) : byteCells (b :: l) = .int .u8 b.toNat :: byteCells l := rfl
theorem byteCells_append (a b : List UInt8) : byteCells (a ++ b) = byteCells a ++ byteCells b := by simp [byteCells]
theorem byteCells_get {l : List UInt8} {i : Nat} {b : UInt8} (h : l[i]? = some b) : (byteCells l)[i]? = some (.int .u8 b.toNat) := by
  simp [byteCells, h]
theorem bytesL_cells : ∀ l : List UInt8, bytesL (byteCells l) = some l
  | [] => rfl
  | b :: l => by
    rw [byteCells_cons]
    simp only [bytesL, bytesL_cells l, Option.map_some, Int.toNat_natCast, UInt8.ofNat_toNat]
theorem string_list (s : ByteArray) : (⟨s.data.toList.toArray⟩ : ByteArray) = s := by
  cases s; simp
theorem string_ext {a b : ByteArray} (h : a.data.toList = b.data.toList) : a = b := by
  cases a; cases b
  simp only [ByteArray.mk.injEq]
  exact Array.ext' h
theorem string_app (a b : ByteArray) : (a ++ b).data.toList = a.data.toList ++ b.data.toList := by
  simp
theorem string_mk (l : List UInt8) : (⟨l.toArray⟩ : ByteArray).data.toList = l := by simp
theorem string_size (s : ByteArray) : s.size = s.data.toList.length := by cases s; simp [ByteArray.size]
theorem string_mk_size (l : List UInt8) : (⟨l.toArray⟩ : ByteArray).size = l.length := by simp [ByteArray.size]

/-- Bytes in a slice. -/
abbrev By (T : Nat) (m : Mem) (v : Value) (F : List Nat) (l : List UInt8) : Prop := Sl m T 1 v F (l.map bRow)

/-- What a walk sees of them. -/
theorem By.form {T : Nat} {m : Mem} {v : Value} {F : List Nat} {l : List UInt8} (h : By T m v F l) : ∃ a, v = .slice a l.length l.length ∧ (0 < l.length → ∃ b o cs, a = some ⟨b, o, none⟩ ∧ F = [b] ∧ m[b]? = some ⟨cs, T, 1, 0, .own⟩ ∧ o + l.length ≤ cs.length ∧ (cs.drop o).take l.length = byteCells l ∧
    ∀ i x, l[i]? = some x → cs[o + i]? = some (.int .u8 x.toNat)) := by
  obtain ⟨a, rfl, hd⟩ := Sl.form h
  refine ⟨a, by simp, fun h0 => ?_⟩
  obtain ⟨b, o, cs, h1, h2, h3, h4, h5, h6⟩ := hd (by simpa using h0)
  refine ⟨b, o, cs, h1, h2, h3, by simpa using h4, by rw [byteCells_flat, ← h5]; simp, fun i x hi => ?_⟩
  have := h6 i (bRow x) (by simp [hi])
  have := row_cell this (j := 0) (by omega)
  simpa [bRow] using this
theorem app_bytes {T : Nat} {m : Mem} {k : Nat} {sv : Value} {F : List Nat} {l new : List UInt8} {cells : List Value} {K : Value → Mem → Prop} (h : By T m sv F l) (hk : k = new.length) (hc : cells = byteCells new)
    (hmax : l.length + k ≤ 70368744177664)
    (hK : ∀ v m' G, m.length ≤ m'.length → Frm F m m' → By T m' v G (l ++ new) → (∀ x ∈ G, x ∈ F ∨ m.length ≤ x) → K v m') :
    appN (some cells) T 1 1 k sv m K := by
  refine app_any h (new := new.map bRow) (by simpa using hk) (bRows_len new) (by rw [hc, byteCells_flat]) (by simp; omega) fun v m' G h1 h2 h3 h4 => ?_
  rw [← List.map_append] at h3
  exact hK v m' G h1 h2 h3 h4
theorem By.new {T : Nat} {m g : Mem} {l : List UInt8} {n : Nat} {cells : List Value} (hc : cells = byteCells l) (hn : n = l.length) : By T (m ++ ⟨cells, T, 1, 0, .own⟩ :: g) (.slice (some ⟨m.length, 0, none⟩) n n) [m.length] l :=
  Sl.make (cs := cells) (by simp) (bRows_len l) (by rw [hc, byteCells_flat]) (by simpa using hn)
/-- Bytes as a text. -/
theorem b2s_By {T : Nat} {m : Mem} {v : Value} {F : List Nat} {l : List UInt8} {K : Value → Mem → Prop} (h : By T m v F l) (hk : K (.string ⟨l.toArray⟩) m) : b2sK v m K := by
  obtain ⟨rows, hr⟩ : ∃ rows, l.map bRow = rows := ⟨_, rfl⟩
  unfold By at h
  rw [hr] at h
  cases h with
  | nil =>
    have : l = [] := by simpa using hr
    subst this
    exact hk
  | @own b o cs _ hb hrl hc hl =>
    subst hr
    rw [b2sK_s, hb, cellsB_s (by simpa using hl)]
    have e : (cs.drop o).take ((l.map bRow).length) = byteCells l := by rw [byteCells_flat, ← hc]; simp
    rw [Option.bind_some, e, bytesL_cells, optBy_some]
    exact hk
theorem ofB_2 {x y : Value} {T f : Nat} {v : Value} {m : Mem} {K : Value → Mem → Prop} : ofB (some ⟨[x, y], T, 0, f, .own⟩) T 2 v m K = K v m := ofB_s (n := 2) rfl (by decide)
theorem tmpR_if : tmpR .nilIface = some .nilIface := rfl

section ros
variable {is : List LInstr} {d : Option Nat} {KT : List Value → Mem → Prop} {t : List Value} {m : Mem}
theorem ro_sliceData (x : Operand) : LRo P (⟨d, none, (.sliceData x)⟩ :: is) KT t m = LExec P (.sliceData x) (evL t) m (kRo P is KT t d m) := ro_step rfl
theorem ro_capNil (x : Operand) : LRo P (⟨d, none, (.capNil x)⟩ :: is) KT t m = LExec P (.capNil x) (evL t) m (kRo P is KT t d m) := ro_step rfl
theorem ro_noZero (T : Nat) (x : Operand) : LRo P (⟨d, none, (.noZero T x)⟩ :: is) KT t m = LExec P (.noZero T x) (evL t) m (kRo P is KT t d m) := ro_step rfl
end ros
theorem usvK_u {T b o : Nat} {k : IntKind} {n : Int} {m : Mem} {K : Value → Mem → Prop} : usvK T (.pointer (some ⟨b, o, none⟩)) (.int k n) m K = (0 < n ∧ usK m K T b o n.toNat) := rfl
/-- The bytes of a block turn to a text. -/
theorem us_bytes {m : Mem} {K : Value → Mem → Prop} {T b o n : Nat} {cs : List Value} {l : List UInt8} (hb : m[b]? = some ⟨cs, T, 1, 0, .own⟩) (hc : (cs.drop o).take n = byteCells l) (ho : o + n ≤ cs.length) (hn : n ≤ 9223372036854775807)
    (hK : K (.string ⟨l.toArray⟩) (m.set b (dead ⟨cs, T, 1, 0, .own⟩))) : usK m K T b o n :=
  ⟨_, hb, l, by simp only [hc, bytesL_cells], ⟨⟨rfl, rfl, ho⟩, hn⟩, hK⟩

/-- A library's builder: the bytes that it holds. -/
def Bd (TB T : Nat) (m : Mem) (i : Nat) (F : List Nat) (l : List UInt8) : Prop :=
  ∃ p sv G, F = i :: G ∧ i ∉ G ∧ m[i]? = some ⟨[p, sv], TB, 0, 0, .own⟩ ∧ (p = .pointer none ∨ p = .pointer (some ⟨i, 0, none⟩)) ∧ By T m sv G l
theorem Bd.frm {TB T : Nat} {m m' : Mem} {i : Nat} {F G : List Nat} {l : List UInt8} (h : Bd TB T m i F l) (k : Frm G m m') (hd : ∀ x ∈ F, x ∉ G) : Bd TB T m' i F l := by
  obtain ⟨p, sv, H, rfl, h1, h2, h3, h4⟩ := h
  exact ⟨p, sv, H, rfl, h1, k.get h2 (hd _ (by simp)), h3, h4.frm k fun x hx => hd x (by simp [hx])⟩
theorem Bd.frm0 {TB T : Nat} {m m' : Mem} {i : Nat} {F : List Nat} {l : List UInt8} (h : Bd TB T m i F l) (k : Frm [] m m') : Bd TB T m' i F l := h.frm k (by simp)
theorem Bd.lt {TB T : Nat} {m : Mem} {i : Nat} {F : List Nat} {l : List UInt8} (h : Bd TB T m i F l) : ∀ x ∈ F, x < m.length := by
  obtain ⟨p, sv, H, rfl, h1, h2, h3, h4⟩ := h
  intro x hx
  rcases List.mem_cons.mp hx with rfl | hx
  · exact lt_of_some h2
  · exact h4.lt x hx
theorem Bd.new {TB T : Nat} {m : Mem} : Bd TB T (m ++ [⟨[.pointer none, .slice none 0 0], TB, 0, 0, .own⟩]) m.length [m.length] [] :=
  ⟨_, _, [], rfl, by simp, by simp, .inl rfl, .nil⟩
theorem Frm.ext {F : List Nat} {m m' : Mem} (h : Frm F m m') (hF : ∀ x ∈ F, m.length ≤ x) : ext m m' := by
  refine ⟨m'.drop m.length, ?_⟩
  have e : m'.take m.length = m := by
    apply List.ext_getElem?
    intro j
    by_cases hj : j < m.length
    · rw [List.getElem?_take_of_lt hj]
      exact h.same j hj fun hx => by have := hF j hx; omega
    · have := h.len
      rw [List.getElem?_eq_none (by simp; omega), List.getElem?_eq_none (by omega)]
  conv => lhs; rw [← List.take_append_drop m.length m', e]
/-- The footprint behind a call: of the old one, or new. -/
def NwF (m : Mem) (F F' : List Nat) : Prop := ∀ x ∈ F', x ∈ F ∨ m.length ≤ x

theorem ext_2 {m : Mem} {a b : Blk} : ext (m ++ [a]) (m ++ [a, b]) = True := eq_true ⟨[b], by simp⟩
theorem ext_3 {m : Mem} {a b c : Blk} : ext (m ++ [a, b]) (m ++ [a, b, c]) = True := eq_true ⟨[c], by simp⟩
theorem ext_4 {m : Mem} {a b c d : Blk} : ext (m ++ [a, b, c]) (m ++ [a, b, c, d]) = True := eq_true ⟨[d], by simp⟩
theorem ext_5 {m : Mem} {a b c d e : Blk} : ext (m ++ [a, b, c, d]) (m ++ [a, b, c, d, e]) = True := eq_true ⟨[e], by simp⟩
/-- Texts as lists of bytes. -/
theorem str_cut (l : List UInt8) (a b : Nat) : (⟨l.toArray⟩ : ByteArray).extract a b = ⟨((l.drop a).take (b - a)).toArray⟩ := by
  rw [← strCut_e]; simp [strCut]
theorem str_app (a b : List UInt8) : (⟨a.toArray⟩ : ByteArray) ++ ⟨b.toArray⟩ = ⟨(a ++ b).toArray⟩ := string_ext (by rw [string_app])
theorem bin_ladd {a b : List UInt8} (h : (a.length : Int) + b.length ≤ 9223372036854775807) : binV .add (.string ⟨a.toArray⟩) (.string ⟨b.toArray⟩) = some (.string ⟨(a ++ b).toArray⟩) := by
  rw [bin_sadd (by rw [string_mk_size, string_mk_size]; exact h), str_app]
theorem str_eq (a b : List UInt8) : ((⟨a.toArray⟩ : ByteArray) = ⟨b.toArray⟩) = (a = b) := by
  apply propext
  constructor
  · intro h
    have := congrArg (fun s : ByteArray => s.data.toList) h
    simpa using this
  · rintro rfl; rfl
theorem str_nil : (⟨#[]⟩ : ByteArray) = ⟨([] : List UInt8).toArray⟩ := rfl
theorem str_is (s : ByteArray) : ∃ l : List UInt8, s = ⟨l.toArray⟩ := ⟨s.data.toList, by cases s; simp⟩
end Go.Lg
