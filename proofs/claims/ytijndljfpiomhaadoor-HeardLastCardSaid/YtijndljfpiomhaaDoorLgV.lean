/- Loops by an invariant that counts down, and rows of equal parts. -/
import Derived.Test.YtijndljfpiomhaaDoorLgU
set_option linter.unusedVariables false
set_option linter.unusedSimpArgs false
namespace Go.Lg

variable {P : Program}

/-- The invariant, with a smaller count. Never opened by a walk. -/
def kInv (I : Nat → List Value → Mem → Prop) (n : Nat) (t : List Value) (m : Mem) : Prop := ∃ n', n' < n ∧ I n' t m
theorem kInv_congr {I : Nat → List Value → Mem → Prop} {n : Nat} {t t' : List Value} {m m' : Mem} (h : t = t') (k : m = m') : kInv I n t m = kInv I n t' m' := by rw [h, k]
attribute [congr] kInv_congr

theorem loop_inv {c : LCode} {Q : Exit → List Value → Mem → Prop} (I : Nat → List Value → Mem → Prop) {n : Nat} {t : List Value} {m : Mem} (h0 : I n t m)
    (step : ∀ n t m, I n t m → LC P c (thenL (kInv I n) Q) t m) : LC P (.loop c) Q t m := by
  induction n using Nat.strongRecOn generalizing t m with
  | ind n ih =>
    rw [lc_loop]
    refine LC_mono (thenL_mono ?_ fun _ _ _ h => h) (step n t m h0)
    rintro t' m' ⟨n', hn, hi⟩
    exact ih n' hn hi

theorem kInv_mk {I : Nat → List Value → Mem → Prop} {n n' : Nat} {t : List Value} {m : Mem} (hn : n' < n) (h : I n' t m) : kInv I n t m := ⟨n', hn, h⟩

theorem TyAll.parts {Q : TypeId → List Value → Prop} {e : TypeId} : ∀ {n : Nat} {xs : List Value}, TyAll Q (List.replicate n e) xs → ∃ l : List (List Value), l.length = n ∧ xs = l.flatten ∧ ∀ c ∈ l, Q e c
  | 0, _, h => ⟨[], rfl, h, by simp⟩
  | n + 1, xs, h => by
    obtain ⟨a, b, rfl, h1, h2⟩ := h
    obtain ⟨l, rfl, rfl, h3⟩ := TyAll.parts h2
    exact ⟨a :: l, by simp, by simp, by simpa using ⟨h1, h3⟩⟩

/-- A list each of whose members has a reading is the image of the readings. -/
theorem readAll {α β : Type} {f : α → β} : ∀ {l : List β}, (∀ c ∈ l, ∃ a, c = f a) → ∃ as : List α, l = as.map f
  | [], _ => ⟨[], rfl⟩
  | c :: l, h => by
    obtain ⟨a, rfl⟩ := h c (by simp)
    obtain ⟨as, rfl⟩ := readAll (f := f) (l := l) fun c hc => h c (by simp [hc])
    exact ⟨a :: as, rfl⟩

theorem flatten_length {α β : Type} {f : α → List β} {s : Nat} (hf : ∀ a, (f a).length = s) : ∀ as : List α, (as.map f).flatten.length = as.length * s
  | [] => by simp
  | a :: as => by simp only [List.map_cons, List.flatten_cons, List.length_append, hf, flatten_length hf as, List.length_cons, Nat.succ_mul]; omega

theorem flatten_part {α β : Type} {f : α → List β} {s : Nat} (hf : ∀ a, (f a).length = s) : ∀ (as : List α) (i : Nat) (a : α), as[i]? = some a → (((as.map f).flatten.drop (i * s)).take s) = f a
  | [], _, _, h => by simp at h
  | b :: as, 0, a, h => by
    simp at h; subst h
    simp [List.take_append, hf]
  | b :: as, i + 1, a, h => by
    have h' : as[i]? = some a := by simpa using h
    rw [List.map_cons, List.flatten_cons, List.drop_append]
    have e : (f b).drop ((i + 1) * s) = [] := List.drop_eq_nil_of_le (by rw [hf, Nat.succ_mul]; omega)
    rw [e, List.nil_append, hf, show (i + 1) * s - s = i * s by rw [Nat.succ_mul]; omega]
    exact flatten_part hf as i a h'
end Go.Lg
