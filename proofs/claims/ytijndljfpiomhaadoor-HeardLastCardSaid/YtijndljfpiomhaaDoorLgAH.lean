/- States that move: what stays of a memory behind a call, slices of rows, appends and reads of rows. -/
import Derived.Test.YtijndljfpiomhaaDoorLgAG
namespace Go.Lg
set_option linter.unnecessarySimpa false
set_option linter.unusedSimpArgs false
set_option linter.unusedVariables false

variable {P : Program}

/-- From one memory to a later one: of what was there only blocks of F have changed. -/
structure Frm (F : List Nat) (m m' : Mem) : Prop where
  len : m.length ≤ m'.length
  same : ∀ j, j < m.length → j ∉ F → m'[j]? = m[j]?

namespace Frm
variable {F G : List Nat} {m m' m'' : Mem}
theorem refl : Frm F m m := ⟨Nat.le_refl _, fun _ _ _ => rfl⟩
theorem set (h : Frm F m m') {i : Nat} {b : Blk} (hi : i ∈ F ∨ m.length ≤ i) : Frm F m (m'.set i b) := by
  refine ⟨by simpa using h.len, fun j hj hn => ?_⟩
  have hne : i ≠ j := by
    rintro rfl
    rcases hi with hi | hi
    · exact hn hi
    · omega
  rw [List.getElem?_set_ne hne]
  exact h.same j hj hn
theorem app (h : Frm F m m') {g : Mem} : Frm F m (m' ++ g) := by
  refine ⟨by have := h.len; simp; omega, fun j hj hn => ?_⟩
  have := h.len
  rw [List.getElem?_append_left (by omega)]
  exact h.same j hj hn
theorem trans (h : Frm F m m') (k : Frm G m' m'') (hG : ∀ x ∈ G, x ∈ F ∨ m.length ≤ x) : Frm F m m'' := by
  refine ⟨Nat.le_trans h.len k.len, fun j hj hn => ?_⟩
  rw [k.same j (Nat.lt_of_lt_of_le hj h.len) fun hg => ?_]
  · exact h.same j hj hn
  · rcases hG j hg with h1 | h1
    · exact hn h1
    · omega
theorem mono (h : Frm F m m') (hG : ∀ x ∈ F, x ∈ G) : Frm G m m' := ⟨h.len, fun j hj hn => h.same j hj fun hf => hn (hG j hf)⟩
theorem get (h : Frm F m m') {i : Nat} {b : Blk} (hb : m[i]? = some b) (hi : i ∉ F) : m'[i]? = some b := by
  rw [h.same i (List.getElem?_eq_some_iff.mp hb).1 hi]; exact hb
theorem nil_trans (h : Frm F m m') (k : Frm [] m' m'') : Frm F m m'' := h.trans k (by simp)
theorem app_of {g : Mem} (h : Frm F (m ++ g) m') : Frm F m m' := by
  have := h.len
  simp only [List.length_append] at this
  refine ⟨by omega, fun j hj hn => ?_⟩
  rw [h.same j (by simp; omega) hn, List.getElem?_append_left hj]
theorem of_nil (h : Frm [] m m') : Frm F m m' := h.mono (by simp)
theorem get0 (h : Frm [] m m') {i : Nat} {b : Blk} (hb : m[i]? = some b) : m'[i]? = some b := h.get hb (by simp)
end Frm

theorem lt_of_some {m : Mem} {i : Nat} {b : Blk} (h : m[i]? = some b) : i < m.length := (List.getElem?_eq_some_iff.mp h).1

/-- A slice of rows: its value, the block in which it lies, and its rows. -/
inductive Sl (m : Mem) (T sz : Nat) : Value → List Nat → List (List Value) → Prop
  | nil : Sl m T sz (.slice none 0 0) [] []
  | own {b o : Nat} {cs : List Value} {rows : List (List Value)} (hb : m[b]? = some ⟨cs, T, sz, 0, .own⟩) (hr : ∀ r ∈ rows, r.length = sz) (hc : (cs.drop o).take (rows.length * sz) = rows.flatten) (hl : o + rows.length * sz ≤ cs.length) :
      Sl m T sz (.slice (some ⟨b, o, none⟩) rows.length rows.length) [b] rows

theorem flat_len {sz : Nat} : ∀ {rows : List (List Value)}, (∀ r ∈ rows, r.length = sz) → rows.flatten.length = rows.length * sz
  | [], _ => by simp
  | r :: rows, h => by
    simp only [List.flatten_cons, List.length_append, List.length_cons, h r (by simp), flat_len (rows := rows) fun x hx => h x (by simp [hx]), Nat.succ_mul]
    omega
theorem flat_row {sz : Nat} : ∀ {rows : List (List Value)} {i : Nat} {r : List Value}, (∀ r ∈ rows, r.length = sz) → rows[i]? = some r → (rows.flatten.drop (i * sz)).take sz = r
  | [], _, _, _, h => by simp at h
  | a :: rows, 0, r, hr, h => by
    simp at h; subst h
    have := hr a (by simp)
    simp [List.take_append, this]
  | a :: rows, i + 1, r, hr, h => by
    have h' : rows[i]? = some r := by simpa using h
    have ha := hr a (by simp)
    rw [List.flatten_cons, List.drop_append, List.drop_eq_nil_of_le (by rw [ha, Nat.succ_mul]; omega), List.nil_append, ha, show (i + 1) * sz - sz = i * sz by rw [Nat.succ_mul]; omega]
    exact flat_row (fun x hx => hr x (by simp [hx])) h'
theorem flat_inj {sz : Nat} : ∀ {rows rows' : List (List Value)}, (∀ r ∈ rows, r.length = sz) → (∀ r ∈ rows', r.length = sz) → rows.length = rows'.length → rows.flatten = rows'.flatten → rows = rows'
  | [], [], _, _, _, _ => rfl
  | [], _ :: _, _, _, h, _ => by simp at h
  | _ :: _, [], _, _, h, _ => by simp at h
  | a :: as, b :: bs, ha, hb, hl, h => by
    simp only [List.flatten_cons] at h
    obtain ⟨h1, h2⟩ := List.append_inj h (by rw [ha a (by simp), hb b (by simp)])
    rw [h1, flat_inj (fun r hr => ha r (by simp [hr])) (fun r hr => hb r (by simp [hr])) (by simpa using hl) h2]

/-- A row as it lies in its block. -/
theorem row_of {cs : List Value} {o sz i : Nat} {rows : List (List Value)} {r : List Value} (hr : ∀ r ∈ rows, r.length = sz) (hc : (cs.drop o).take (rows.length * sz) = rows.flatten) (hi : rows[i]? = some r) : (cs.drop (o + i * sz)).take sz = r := by
  have hlt : i < rows.length := (List.getElem?_eq_some_iff.mp hi).1
  have h1 : (i + 1) * sz ≤ rows.length * sz := Nat.mul_le_mul_right _ hlt
  rw [Nat.succ_mul] at h1
  rw [← flat_row hr hi, ← hc, ← List.drop_drop, List.drop_take, List.take_take]
  congr 1
  omega
theorem len2 {r : List Value} (h : r.length = 2) : ∃ x y, r = [x, y] := by
  match r, h with
  | [x, y], _ => exact ⟨x, y, rfl⟩
theorem len3 {r : List Value} (h : r.length = 3) : ∃ x y z, r = [x, y, z] := by
  match r, h with
  | [x, y, z], _ => exact ⟨x, y, z, rfl⟩
theorem zeroRow_length {z : List Value} {n : Nat} : (zeroRow z n).length = n := by simp [zeroRow]
theorem take_snoc {α : Type} {l : List α} {k : Nat} {r : α} (h : l[k]? = some r) : l.take (k + 1) = l.take k ++ [r] := by
  rw [List.take_add_one, h]; rfl
theorem take_set_self {α : Type} {l : List α} {i : Nat} {r : α} (h : i < l.length) : (l.set i r).take (i + 1) = l.take i ++ [r] := by
  rw [take_snoc (r := r) (by rw [List.getElem?_set_self h])]
  congr 1
  apply List.ext_getElem?
  intro j
  by_cases hj : j < i
  · rw [List.getElem?_take_of_lt hj, List.getElem?_take_of_lt hj, List.getElem?_set_ne (by omega)]
  · rw [List.getElem?_eq_none (by simp; omega), List.getElem?_eq_none (by simp; omega)]
theorem drop_set_lt {α : Type} {l : List α} {i j : Nat} {r : α} (h : i < j) : (l.set i r).drop j = l.drop j := by
  apply List.ext_getElem?
  intro k
  rw [List.getElem?_drop, List.getElem?_drop, List.getElem?_set_ne (by omega)]

namespace Sl
variable {m m' : Mem} {T sz : Nat} {v : Value} {F G : List Nat} {rows : List (List Value)}
theorem frm (h : Sl m T sz v F rows) (k : Frm G m m') (hd : ∀ x ∈ F, x ∉ G) : Sl m' T sz v F rows := by
  cases h with
  | nil => exact .nil
  | own hb hr hc hl => exact .own (k.get hb (hd _ (by simp))) hr hc hl
theorem setb (h : Sl m T sz v F rows) {c : Nat} {B : Blk} (hc : c ∉ F) : Sl (m.set c B) T sz v F rows :=
  h.frm (Frm.refl.set (F := [c]) (by simp)) fun x hx hx' => by simp at hx'; subst hx'; exact hc hx
theorem frm0 (h : Sl m T sz v F rows) (k : Frm [] m m') : Sl m' T sz v F rows := h.frm k (by simp)
theorem lt (h : Sl m T sz v F rows) : ∀ x ∈ F, x < m.length := by
  cases h with
  | nil => simp
  | own hb hr hc hl => simpa using lt_of_some hb
theorem rows_len (h : Sl m T sz v F rows) : ∀ r ∈ rows, r.length = sz := by
  cases h with
  | nil => simp
  | own hb hr hc hl => exact hr
/-- What a walk sees of it. -/
theorem form (h : Sl m T sz v F rows) : ∃ a, v = .slice a rows.length rows.length ∧ (0 < rows.length → ∃ b o cs, a = some ⟨b, o, none⟩ ∧ F = [b] ∧ m[b]? = some ⟨cs, T, sz, 0, .own⟩ ∧ o + rows.length * sz ≤ cs.length ∧ (cs.drop o).take (rows.length * sz) = rows.flatten ∧
    ∀ i r, rows[i]? = some r → (cs.drop (o + i * sz)).take sz = r) := by
  cases h with
  | nil => exact ⟨none, rfl, fun h => by simp at h⟩
  | @own b o cs _ hb hr hc hl =>
    exact ⟨_, rfl, fun _ => ⟨b, o, cs, rfl, rfl, hb, hl, hc, fun i r hi => row_of hr hc hi⟩⟩
/-- A slice that was made of rows. -/
theorem make {b : Nat} {cs : List Value} (hb : m[b]? = some ⟨cs, T, sz, 0, .own⟩) (hr : ∀ r ∈ rows, r.length = sz) (hc : cs = rows.flatten) {n : Nat} (hn : n = rows.length) : Sl m T sz (.slice (some ⟨b, 0, none⟩) n n) [b] rows := by
  subst hn
  have := flat_len hr
  exact .own hb hr (by rw [hc, List.drop_zero, List.take_of_length_le (by omega)]) (by rw [hc]; omega)
end Sl

theorem row_cell {cs : List Value} {k sz j : Nat} {r : List Value} (h : (cs.drop k).take sz = r) (hj : j < sz) : cs[k + j]? = r[j]? := by
  rw [← h, List.getElem?_take_of_lt hj, List.getElem?_drop]

/-- An append to a slice of rows. -/
theorem app_rows {m : Mem} {T sz bytes k : Nat} {sv : Value} {F : List Nat} {rows new : List (List Value)} {cells : List Value} {K : Value → Mem → Prop} (h : Sl m T sz sv F rows) (hk : k = new.length) (hk0 : 0 < k) (hn : ∀ r ∈ new, r.length = sz) (hcells : cells = new.flatten)
    (hmax : (rows.length + k) * (bytes + 1) ≤ 140737488355328)
    (hK : ∀ v m' G, m'.length = m.length + 1 → Frm F m m' → Sl m' T sz v G (rows ++ new) → (∀ x ∈ G, m.length ≤ x) → K v m') :
    appN (some cells) T sz bytes k sv m K := by
  subst hcells
  refine ⟨_, rfl, ?_⟩
  cases h with
  | nil =>
    simp only [List.length_nil, Nat.zero_add, List.nil_append] at hK hmax
    refine ⟨hmax, ?_⟩
    rw [if_neg (by omega)]
    exact hK _ _ [m.length] (by simp) Frm.refl.app (Sl.make (by simp) hn rfl hk) (by simp)
  | @own b o cs _ hb hr hc hl =>
    refine ⟨_, hb, ⟨rfl, rfl, hl, fun _ => ⟨rfl, rfl, Nat.zero_le _⟩, hmax⟩, ?_⟩
    rw [if_neg (by omega)]
    simp only [hc, Nat.zero_sub]
    refine hK _ _ [m.length] (by simp) (Frm.refl.set (by simp)).app (Sl.make (cs := rows.flatten ++ new.flatten) ?_ ?_ ?_ ?_) (by simp)
    · rw [List.getElem?_append_right (by simp)]; simp
    · intro r h; rcases List.mem_append.mp h with h | h; exact hr r h; exact hn r h
    · simp
    · simp [hk]
/-- One row. -/
theorem app_row {m : Mem} {T sz bytes : Nat} {sv : Value} {F : List Nat} {rows : List (List Value)} {cells : List Value} {K : Value → Mem → Prop} (h : Sl m T sz sv F rows) (hn : cells.length = sz)
    (hmax : (rows.length + 1) * (bytes + 1) ≤ 140737488355328)
    (hK : ∀ v m' G, m'.length = m.length + 1 → Frm F m m' → Sl m' T sz v G (rows ++ [cells]) → (∀ x ∈ G, m.length ≤ x) → K v m') :
    appN (some cells) T sz bytes 1 sv m K :=
  app_rows (new := [cells]) h rfl (by omega) (by simpa using hn) (by simp) hmax hK

theorem setAt_get {vs : List Value} : ∀ {cs : List Value} {k j : Nat}, k + vs.length ≤ cs.length → (setAt cs k vs)[j]? = if k ≤ j ∧ j < k + vs.length then vs[j - k]? else cs[j]? := by
  induction vs with
  | nil => intro cs k j _; rw [if_neg (by simp)]; rfl
  | cons v vs ih =>
    intro cs k j h
    simp only [List.length_cons] at h ⊢
    simp only [setAt]
    rw [ih (by simp; omega)]
    by_cases h1 : k + 1 ≤ j ∧ j < k + 1 + vs.length
    · rw [if_pos h1, if_pos (by omega)]
      rw [show j - k = (j - (k + 1)) + 1 by omega, List.getElem?_cons_succ]
    · rw [if_neg h1]
      by_cases h2 : j = k
      · subst h2
        rw [if_pos (by omega), List.getElem?_set_self (by omega)]; simp
      · rw [if_neg (by omega), List.getElem?_set_ne (by omega)]
theorem setAt_len {vs : List Value} {cs : List Value} {k : Nat} : (setAt cs k vs).length = cs.length := setAt_length cs k vs

/-- A row of a slice is written. -/
theorem store_row {cs : List Value} {o sz i : Nat} {rows : List (List Value)} {r : List Value} (hr : ∀ r ∈ rows, r.length = sz) (hc : (cs.drop o).take (rows.length * sz) = rows.flatten) (hl : o + rows.length * sz ≤ cs.length) (hi : i < rows.length) (hz : r.length = sz) :
    ((setAt cs (o + i * sz) r).drop o).take ((rows.set i r).length * sz) = (rows.set i r).flatten := by
  have h1 : (i + 1) * sz ≤ rows.length * sz := Nat.mul_le_mul_right _ hi
  rw [Nat.succ_mul] at h1
  have hr' : ∀ x ∈ rows.set i r, x.length = sz := by
    intro x hx
    rcases List.mem_or_eq_of_mem_set hx with h | h
    · exact hr x h
    · rw [h]; exact hz
  have hfl := flat_len hr
  have hfl' := flat_len hr'
  rw [List.length_set] at hfl' ⊢
  apply List.ext_getElem?
  intro j
  by_cases hj : j < rows.length * sz
  · rw [List.getElem?_take_of_lt hj, List.getElem?_drop, setAt_get (by omega)]
    have hsz : 0 < sz := by rcases Nat.eq_zero_or_pos sz with h | h; (rw [h] at hj; omega); exact h
    -- row q, cell c
    obtain ⟨q, c, hq, rfl⟩ : ∃ q c, c < sz ∧ j = q * sz + c := ⟨j / sz, j % sz, Nat.mod_lt _ hsz, by rw [Nat.mul_comm]; exact (Nat.div_add_mod j sz).symm⟩
    have hqn : q < rows.length := by
      rcases Nat.lt_or_ge q rows.length with h | h
      · exact h
      · have := Nat.mul_le_mul_right sz h; omega
    have rowat : ∀ {l : List (List Value)} {x : List Value}, (∀ r ∈ l, r.length = sz) → l[q]? = some x → l.flatten[q * sz + c]? = x[c]? := by
      intro l x hl hx
      have := flat_row hl hx
      exact row_cell this hq
    by_cases hqi : q = i
    · subst hqi
      rw [if_pos (by omega), rowat hr' (x := r) (by rw [List.getElem?_set_self hqn])]
      congr 1; omega
    · have : ¬ (o + i * sz ≤ o + (q * sz + c) ∧ o + (q * sz + c) < o + i * sz + r.length) := by
        rw [hz]
        rintro ⟨a, b⟩
        rcases Nat.lt_or_ge q i with h | h
        · have := Nat.mul_le_mul_right sz (show q + 1 ≤ i from h); rw [Nat.succ_mul] at this; omega
        · have := Nat.mul_le_mul_right sz (show i + 1 ≤ q by omega); rw [Nat.succ_mul] at this; omega
      rw [if_neg this]
      have hx : (rows.set i r)[q]? = some rows[q] := by rw [List.getElem?_set_ne (by omega), List.getElem?_eq_getElem hqn]
      rw [rowat hr' hx, ← rowat hr (List.getElem?_eq_getElem hqn), ← hc, List.getElem?_take_of_lt hj, List.getElem?_drop]
  · rw [List.getElem?_eq_none (by simp; omega), List.getElem?_eq_none (by omega)]
/-- What lies ahead of what is written stays. -/
theorem setAt_head {cs vs : List Value} {o k n : Nat} (hk : k + vs.length ≤ cs.length) (h : o + n ≤ k) : ((setAt cs k vs).drop o).take n = (cs.drop o).take n := by
  apply List.ext_getElem?
  intro j
  by_cases hj : j < n
  · rw [List.getElem?_take_of_lt hj, List.getElem?_drop, setAt_get hk, if_neg (by omega), List.getElem?_take_of_lt hj, List.getElem?_drop]
  · rw [List.getElem?_eq_none (by simp; omega), List.getElem?_eq_none (by simp; omega)]
theorem take_rows {cs : List Value} {o sz i : Nat} {rows : List (List Value)} (hr : ∀ r ∈ rows, r.length = sz) (hc : (cs.drop o).take (rows.length * sz) = rows.flatten) (hi : i ≤ rows.length) : (cs.drop o).take ((rows.take i).length * sz) = (rows.take i).flatten := by
  have h1 : i * sz ≤ rows.length * sz := Nat.mul_le_mul_right _ hi
  have e : rows.flatten = (rows.take i).flatten ++ (rows.drop i).flatten := by rw [← List.flatten_append, List.take_append_drop]
  have hl := flat_len (rows := rows.take i) fun r h => hr r (List.mem_of_mem_take h)
  have hlen : (rows.take i).length = i := by rw [List.length_take]; omega
  rw [hlen] at hl ⊢
  have : (cs.drop o).take (i * sz) = ((cs.drop o).take (rows.length * sz)).take (i * sz) := by rw [List.take_take]; congr 1; omega
  rw [this, hc, e, List.take_append_of_le_length (by omega), List.take_of_length_le (by omega)]
theorem drop_rows {cs : List Value} {o sz i : Nat} {rows : List (List Value)} (hr : ∀ r ∈ rows, r.length = sz) (hc : (cs.drop o).take (rows.length * sz) = rows.flatten) (hi : i ≤ rows.length) : (cs.drop (o + i * sz)).take ((rows.drop i).length * sz) = (rows.drop i).flatten := by
  have e : rows.flatten = (rows.take i).flatten ++ (rows.drop i).flatten := by rw [← List.flatten_append, List.take_append_drop]
  have hl := flat_len (rows := rows.take i) fun r h => hr r (List.mem_of_mem_take h)
  have hlen : (rows.take i).length = i := by rw [List.length_take]; omega
  rw [hlen] at hl
  have h2 : (rows.drop i).length * sz = rows.length * sz - i * sz := by rw [List.length_drop, Nat.sub_mul]
  rw [h2, ← List.drop_drop, ← List.drop_take, hc, e, List.drop_append_of_le_length (by omega), List.drop_eq_nil_of_le (by omega), List.nil_append]
/-- An append of any number of rows. -/
theorem app_any {m : Mem} {T sz bytes k : Nat} {sv : Value} {F : List Nat} {rows new : List (List Value)} {cells : List Value} {K : Value → Mem → Prop} (h : Sl m T sz sv F rows) (hk : k = new.length) (hn : ∀ r ∈ new, r.length = sz) (hcells : cells = new.flatten)
    (hmax : (rows.length + k) * (bytes + 1) ≤ 140737488355328)
    (hK : ∀ v m' G, m.length ≤ m'.length → Frm F m m' → Sl m' T sz v G (rows ++ new) → (∀ x ∈ G, x ∈ F ∨ m.length ≤ x) → K v m') :
    appN (some cells) T sz bytes k sv m K := by
  rcases Nat.eq_zero_or_pos k with h0 | h0
  · subst h0
    have hnew : new = [] := List.eq_nil_of_length_eq_zero hk.symm
    subst hnew hcells
    rw [List.append_nil] at hK
    refine ⟨_, rfl, ?_⟩
    have := hK sv m F (Nat.le_refl _) Frm.refl h fun x hx => .inl hx
    cases h with
    | nil => exact ⟨by simpa using hmax, by rw [if_pos rfl]; exact this⟩
    | @own b o cs _ hb hr hc hl =>
      refine ⟨_, hb, ⟨rfl, rfl, hl, fun h => absurd rfl h, hmax⟩, ?_⟩
      rw [if_pos rfl]; exact this
  · exact app_rows h hk h0 hn hcells hmax fun v m' G h1 h2 h3 h4 => hK v m' G (by omega) h2 h3 fun x hx => .inr (h4 x hx)
theorem eraseP_at {α : Type} {p : α → Bool} : ∀ {l : List α} {i : Nat} {t : α}, (∀ x ∈ l.take i, p x = false) → l[i]? = some t → p t = true → l.eraseP p = l.take i ++ l.drop (i + 1)
  | [], _, _, _, h, _ => by simp at h
  | a :: l, 0, t, _, h, ht => by simp at h; subst h; simp [List.eraseP_cons, ht]
  | a :: l, i + 1, t, hno, h, ht => by
    have h1 := hno a (by simp)
    rw [List.eraseP_cons, h1]
    simp only [cond_false, List.take_succ_cons, List.drop_succ_cons, List.cons_append]
    rw [eraseP_at (l := l) (i := i) (fun x hx => hno x (by simp [hx])) (by simpa using h) ht]
/-- What is to hold at a place in the code, closed to a walk. -/
def kAt (R : List Value → Mem → Prop) (t : List Value) (m : Mem) : Prop := R t m
theorem kAt_congr {R : List Value → Mem → Prop} {t t' : List Value} {m m' : Mem} (h : t = t') (k : m = m') : kAt R t m = kAt R t' m' := by rw [h, k]
attribute [congr] kAt_congr
theorem kAt_go {R : List Value → Mem → Prop} {t : List Value} {m : Mem} (h : R t m) : kAt R t m := h
/-- Behind a switch all ways meet. -/
theorem condK_cut {v : Value} {a b : LCode} {id : Nat} {N : List Value → Mem → Prop} (R : List Value → Mem → Prop) {Q : Exit → List Value → Mem → Prop} {t : List Value} {m : Mem}
    (h : condK v (LC P a (blockL id (thenL (kAt R) Q)) t m) (LC P b (blockL id (thenL (kAt R) Q)) t m)) (hR : ∀ t m, R t m → N t m) :
    condK v (LC P a (blockL id (thenL N Q)) t m) (LC P b (blockL id (thenL N Q)) t m) := by
  have mono : ∀ {c : LCode}, LC P c (blockL id (thenL (kAt R) Q)) t m → LC P c (blockL id (thenL N Q)) t m := fun h => LC_mono (blockL_mono (thenL_mono (fun t m h => hR t m h) fun _ _ _ h => h)) h
  unfold condK at *
  split at h
  · exact CondP.mono h mono mono
  · exact h
/-- .. behind a block. -/
theorem LC_cut {c : LCode} {N : List Value → Mem → Prop} (R : List Value → Mem → Prop) {Q : Exit → List Value → Mem → Prop} {t : List Value} {m : Mem}
    (h : LC P c (thenL (kAt R) Q) t m) (hR : ∀ t m, R t m → N t m) : LC P c (thenL N Q) t m :=
  LC_mono (thenL_mono (fun t m h => hR t m h) fun _ _ _ h => h) h
end Go.Lg
