/- Tables of temporaries of which some entries are known; rows of strings. -/
import Derived.Test.YtijndljfpiomhaaDoorLgAE
namespace Go.Lg

variable {P : Program}

/-- Of a table some entries are known. -/
def Tab (n : Nat) (l : List (Nat × Value)) (t : List Value) : Prop := t.length = n ∧ ∀ p ∈ l, t[p.1]? = some p.2
def tabL (n : Nat) (l : List (Nat × Value)) (f : Nat → Value) : List Value := (List.range n).map fun i => (l.lookup i).getD (f i)
theorem lookup_mem {l : List (Nat × Value)} {i : Nat} {v : Value} (h : l.lookup i = some v) : (i, v) ∈ l := by
  induction l with
  | nil => simp at h
  | cons p l ih =>
    obtain ⟨a, b⟩ := p
    rw [List.lookup_cons] at h
    split at h
    · rename_i e
      have : i = a := by simpa using e
      subst this; simp at h; subst h; simp
    · simp [ih h]
theorem Tab.open {n : Nat} {l : List (Nat × Value)} {t : List Value} {X : (Nat → Value) → List Value} (h : Tab n l t) (hx : ∀ f, tabL n l f = X f) : ∃ f, t = X f := by
  refine ⟨fun i => t.getD i undef, ?_⟩
  rw [← hx]
  obtain ⟨h1, h2⟩ := h
  apply List.ext_getElem?
  intro i
  unfold tabL
  rw [List.getElem?_map]
  by_cases hi : i < n
  · rw [List.getElem?_range hi]
    simp only [Option.map_some]
    cases hl : l.lookup i with
    | none => simp [List.getD_eq_getElem?_getD, List.getElem?_eq_getElem (show i < t.length by omega)]
    | some v => rw [h2 _ (lookup_mem hl)]; rfl
  · rw [List.getElem?_eq_none (by omega), List.getElem?_eq_none (by simp; omega)]; rfl

theorem flatten_one {α β : Type} {f : α → β} : ∀ l : List α, (l.map fun a => [f a]).flatten = l.map f
  | [] => rfl
  | a :: l => by simp [flatten_one l]

theorem SlIn.form {m : Mem} {sz n : Nat} {cells : List Value} {v : Value} (h : SlIn m sz cells n v) : ∃ a, v = .slice a n n ∧ n ≤ maxLen ∧ (0 < n → ∃ i T, a = some ⟨i, 0, none⟩ ∧ m[i]? = some ⟨cells, T, sz, 0, .ro⟩ ∧ i < m.length) := by
  rcases h with ⟨rfl, rfl, rfl⟩ | ⟨i, T, k, ⟨rfl, h1, rfl, h2⟩ | ⟨rfl, h1, rfl, rfl⟩⟩
  · exact ⟨none, rfl, Nat.zero_le _, fun h => absurd h (by omega)⟩
  · exact ⟨_, rfl, h2, fun _ => ⟨i, T, rfl, h1, (List.getElem?_eq_some_iff.mp h1).1⟩⟩
  · exact ⟨_, rfl, Nat.zero_le _, fun h => absurd h (by omega)⟩

theorem kInv_go {I : Nat → List Value → Mem → Prop} {n n' : Nat} {t : List Value} {m : Mem} (h : I n' t m) (hn : n' < n) : kInv I n t m := ⟨n', hn, h⟩
end Go.Lg
