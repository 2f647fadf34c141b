/- Reading arguments off their types. -/
import Derived.Test.YtijndljfpiomhaaDoorLgAD
set_option linter.unusedVariables false
set_option linter.unusedSimpArgs false
namespace Go.Lg

variable {P : Program} {m : Mem} {n t : Nat} {v : Value}

theorem F2.one_inv {α β : Type} {R : α → β → Prop} {a : α} {ys : List β} (h : F2 R [a] ys) : ∃ y, ys = [y] ∧ R a y := by
  obtain ⟨y, l, rfl, h1, h2⟩ := h.cons_inv
  obtain rfl := h2.nil_inv
  exact ⟨y, rfl, h1⟩
theorem F2.two_inv {α β : Type} {R : α → β → Prop} {a b : α} {ys : List β} (h : F2 R [a, b] ys) : ∃ y z, ys = [y, z] ∧ R a y ∧ R b z := by
  obtain ⟨y, l, rfl, h1, h2⟩ := h.cons_inv
  obtain ⟨z, rfl, h3⟩ := h2.one_inv
  exact ⟨y, z, rfl, h1, h3⟩
theorem F2.three_inv {α β : Type} {R : α → β → Prop} {a b c : α} {ys : List β} (h : F2 R [a, b, c] ys) : ∃ y z u, ys = [y, z, u] ∧ R a y ∧ R b z ∧ R c u := by
  obtain ⟨y, l, rfl, h1, h2⟩ := h.cons_inv
  obtain ⟨z, u, rfl, h3, h4⟩ := h2.two_inv
  exact ⟨y, z, u, rfl, h1, h3, h4⟩

theorem wf_int {k : IntKind} {a : Int} (h : (Lit.int k a).wf = true) : k.min ≤ a ∧ a ≤ k.max := by
  simpa [Lit.wf] using h
theorem TyL.int {k : IntKind} {xs : List Value} (hu : P.underlying t = some (.int k)) (h : TyL P m (n + 1) t xs) : ∃ a, xs = [.int k a] ∧ k.min ≤ a ∧ a ≤ k.max := by
  unfold TyL at h; rw [hu] at h
  obtain ⟨a, rfl, h⟩ := h
  exact ⟨a, rfl, wf_int h⟩
theorem TyL.bool {xs : List Value} (hu : P.underlying t = some .bool) (h : TyL P m (n + 1) t xs) : ∃ a, xs = [.bool a] := by
  unfold TyL at h; rw [hu] at h
  exact h
theorem reach_le : reachBytes ≤ maxLen := by decide
theorem TyL.text {xs : List Value} (hu : P.underlying t = some .string) (h : TyL P m (n + 1) t xs) : ∃ a, xs = [.string a] ∧ a.size ≤ reachBytes := by
  unfold TyL at h; rw [hu] at h
  exact h
theorem TyL.string {xs : List Value} (hu : P.underlying t = some .string) (h : TyL P m (n + 1) t xs) : ∃ a, xs = [.string a] ∧ a.size ≤ maxLen := by
  obtain ⟨a, e, h⟩ := TyL.text hu h
  exact ⟨a, e, Nat.le_trans h reach_le⟩
theorem TyL.struct {fs : Array Field} {ts : List Nat} {xs : List Value} (hu : P.underlying t = some (.struct fs)) (hts : fs.toList.map (·.type) = ts) (h : TyL P m (n + 1) t xs) : TyAll (TyL P m n) ts xs := by
  unfold TyL at h; rw [hu] at h
  subst hts; exact h
theorem TyL.array {k e : Nat} {xs : List Value} (hu : P.underlying t = some (.array k e)) (h : TyL P m (n + 1) t xs) : TyAll (TyL P m n) (List.replicate k e) xs := by
  unfold TyL at h; rw [hu] at h
  exact h

/-- A slice that came in: its cells. -/
def SlIn (m : Mem) (sz : Nat) (cells : List Value) (n : Nat) (v : Value) : Prop :=
  (v = .slice none 0 0 ∧ cells = [] ∧ n = 0) ∨ ∃ i T k, v = .slice (some ⟨i, 0, none⟩) n n ∧ m[i]? = some ⟨k, T, sz, 0, .ro⟩ ∧ k = cells ∧ n ≤ maxLen ∨ v = .slice (some ⟨i, 0, none⟩) 0 0 ∧ m[i]? = some ⟨k, T, sz, 0, .dead⟩ ∧ cells = [] ∧ n = 0

theorem TyL.slice {e sz : Nat} {xs : List Value} (hu : P.underlying t = some (.slice e)) (hsz : P.cellsOf e = sz) (h : TyL P m (n + 1) t xs) : ∃ v cells k, xs = [v] ∧ SlIn m sz cells k v ∧ TyAll (TyL P m n) (List.replicate k e) cells := by
  unfold TyL at h; rw [hu] at h
  rcases h with rfl | ⟨i, k, b, rfl, h1, h2, h3, h4, h5⟩
  · exact ⟨_, [], 0, rfl, .inl ⟨rfl, rfl, rfl⟩, rfl⟩
  · obtain ⟨cs, T, z, f, kd⟩ := b
    simp only at h3 h4 h5
    subst h3 h4
    rw [hsz] at h2
    rcases h5 with ⟨rfl, h5⟩ | ⟨rfl, rfl⟩
    · exact ⟨_, cs, k, rfl, .inr ⟨i, T, cs, .inl ⟨rfl, h2, rfl, h1⟩⟩, h5⟩
    · exact ⟨_, [], 0, rfl, .inr ⟨i, T, cs, .inr ⟨rfl, h2, rfl, rfl⟩⟩, rfl⟩

theorem TyAll.map {Q : TypeId → List Value → Prop} {e : TypeId} {α : Type} {f : α → List Value} {G : α → Prop} (hq : ∀ xs, Q e xs → ∃ a, xs = f a ∧ G a) {n : Nat} {xs : List Value} (h : TyAll Q (List.replicate n e) xs) : ∃ l : List α, l.length = n ∧ xs = (l.map f).flatten ∧ ∀ a ∈ l, G a := by
  induction n generalizing xs with
  | zero => exact ⟨[], rfl, h, by simp⟩
  | succ n ih =>
    obtain ⟨a, b, rfl, h1, h2⟩ := h
    obtain ⟨x, rfl, hx⟩ := hq a h1
    obtain ⟨l, rfl, rfl, h3⟩ := ih h2
    exact ⟨x :: l, by simp, by simp, by simpa using ⟨hx, h3⟩⟩

theorem TyV.one {x : Value} (ha : aggT P t = false) (h : TyV P m n t v) : ∃ xs, TyL P m n t xs ∧ v = xs.headD undef := by
  obtain ⟨xs, h1, h2⟩ := h
  rw [ha] at h2
  exact ⟨xs, h1, by simpa using h2⟩
theorem TyV.agg (ha : aggT P t = true) (h : TyV P m n t v) : ∃ xs, TyL P m n t xs ∧ v = .agg xs.toArray := by
  obtain ⟨xs, h1, h2⟩ := h
  rw [ha] at h2
  exact ⟨xs, h1, by simpa using h2⟩
theorem aggT_no {d : TypeDesc} (hu : P.underlying t = some d) (hd : isAggD d = false) : aggT P t = false := by
  unfold aggT; rw [hu]; cases d <;> first | rfl | (simp [isAggD] at hd)
theorem TyV.int {k : IntKind} (hu : P.underlying t = some (.int k)) (h : TyV P m (n + 1) t v) : ∃ a, v = .int k a ∧ k.min ≤ a ∧ a ≤ k.max := by
  obtain ⟨xs, h1, rfl⟩ := TyV.one (x := v) (aggT_no hu rfl) h
  obtain ⟨a, rfl, h2⟩ := h1.int hu
  exact ⟨a, rfl, h2⟩
theorem TyV.bool (hu : P.underlying t = some .bool) (h : TyV P m (n + 1) t v) : ∃ a, v = .bool a := by
  obtain ⟨xs, h1, rfl⟩ := TyV.one (x := v) (aggT_no hu rfl) h
  obtain ⟨a, rfl⟩ := h1.bool hu
  exact ⟨a, rfl⟩
theorem TyV.string (hu : P.underlying t = some .string) (h : TyV P m (n + 1) t v) : ∃ a, v = .string a ∧ a.size ≤ maxLen := by
  obtain ⟨xs, h1, rfl⟩ := TyV.one (x := v) (aggT_no hu rfl) h
  obtain ⟨a, rfl, h2⟩ := h1.string hu
  exact ⟨a, rfl, h2⟩
theorem TyV.slice {e sz : Nat} (hu : P.underlying t = some (.slice e)) (hsz : P.cellsOf e = sz) (h : TyV P m (n + 1) t v) : ∃ cells k, SlIn m sz cells k v ∧ TyAll (TyL P m n) (List.replicate k e) cells := by
  obtain ⟨xs, h1, rfl⟩ := TyV.one (x := v) (aggT_no hu rfl) h
  obtain ⟨v, cells, k, rfl, h2, h3⟩ := h1.slice hu hsz
  exact ⟨cells, k, h2, h3⟩
theorem TyV.struct {fs : Array Field} {ts : List Nat} (hu : P.underlying t = some (.struct fs)) (hts : fs.toList.map (·.type) = ts) (h : TyV P m (n + 1) t v) : ∃ xs, v = .agg xs.toArray ∧ TyAll (TyL P m n) ts xs := by
  obtain ⟨xs, h1, rfl⟩ := TyV.agg (by unfold aggT; rw [hu]) h
  exact ⟨xs, rfl, h1.struct hu hts⟩
theorem TyV.array {k e : Nat} (hu : P.underlying t = some (.array k e)) (h : TyV P m (n + 1) t v) : ∃ xs, v = .agg xs.toArray ∧ TyAll (TyL P m n) (List.replicate k e) xs := by
  obtain ⟨xs, h1, rfl⟩ := TyV.agg (by unfold aggT; rw [hu]) h
  exact ⟨xs, rfl, h1.array hu⟩
end Go.Lg
