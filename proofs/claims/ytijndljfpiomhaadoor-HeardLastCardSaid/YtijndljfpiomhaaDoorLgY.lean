/- Forgetting what a call has left behind, where some blocks have changed. -/
import Derived.Test.YtijndljfpiomhaaDoorLgX
namespace Go.Lg

variable {P : Program}

theorem guardK_it {c : Bool} {X Y : Prop} : guardK (.bool c) true X Y = if c = true then X else Y := by cases c <;> simp [guardK, CondP]
theorem guardK_if {c : Bool} {X Y : Prop} : guardK (.bool c) false X Y = if c = true then Y else X := by cases c <;> simp [guardK, CondP]
theorem condK_it {c : Bool} {X Y : Prop} : condK (.bool c) X Y = if c = true then X else Y := by cases c <;> simp [condK, CondP]
theorem pickK_it {c : Bool} {a b : Value} {m : Mem} {K : Value → Mem → Prop} : pickK (.bool c) a b m K = if c = true then K a m else K b m := by cases c <;> simp [pickK, CondP]
theorem ifI {c : Prop} [Decidable c] {X Y : Prop} (hx : c → X) (hy : ¬ c → Y) : if c then X else Y := by
  by_cases h : c
  · rw [if_pos h]; exact hx h
  · rw [if_neg h]; exact hy h
attribute [congr] ite_congr

/-- The memory m with some blocks changed, of which each new cell leads to what stays, and some new ones, which are forgotten. -/
def kKeep (m : Mem) (K : Value → Mem → Prop) (v : Value) (m2 : Mem) : Prop :=
  ∃ m1 g, m2 = m1 ++ g ∧ m.length ≤ m1.length ∧ (∀ (i : Nat) (k : Blk), m1[i]? = some k → m[i]? = some k ∨ ∀ x ∈ k.cells, belowA m1.length x) ∧ below m1.length v ∧ K v m1

theorem LCall_keep {f : FuncId} {args : List Value} {m : Mem} {K : Value → Mem → Prop} (h : LCall P f args m (kKeep m K)) : LCall P f args m K := by
  refine LCall_cut (h.mono ?_)
  rintro v m2 ⟨m1, g, rfl, hl, hc, hb, hk⟩
  refine ⟨m1.length, ⟨hl, by simp, fun i k hi hk => ?_⟩, hb, by simpa using hk⟩
  rw [List.getElem?_append_left hi] at hk
  exact hc i k hk

theorem kKeep_same {m g : Mem} {K : Value → Mem → Prop} {v : Value} (hb : below m.length v) (hk : K v m) : kKeep m K v (m ++ g) :=
  ⟨m, g, rfl, Nat.le_refl _, fun _ _ h => .inl h, hb, hk⟩
theorem kKeep_same0 {m : Mem} {K : Value → Mem → Prop} {v : Value} (hb : below m.length v) (hk : K v m) : kKeep m K v m :=
  ⟨m, [], by simp, Nat.le_refl _, fun _ _ h => .inl h, hb, hk⟩
theorem kKeep_set {m g : Mem} {i : Nat} {b : Blk} {K : Value → Mem → Prop} {v : Value} (hc : ∀ x ∈ b.cells, belowA m.length x) (hb : below m.length v) (hk : K v (m.set i b)) : kKeep m K v (m.set i b ++ g) := by
  refine ⟨m.set i b, g, rfl, by simp, fun j k hj => ?_, by simpa using hb, hk⟩
  by_cases h : i = j
  · subst h
    rw [List.getElem?_set] at hj
    simp only [↓reduceIte] at hj
    split at hj
    · cases hj; right; simpa using hc
    · cases hj
  · rw [List.getElem?_set_ne h] at hj; exact .inl hj
theorem kKeep_set0 {m : Mem} {i : Nat} {b : Blk} {K : Value → Mem → Prop} {v : Value} (hc : ∀ x ∈ b.cells, belowA m.length x) (hb : below m.length v) (hk : K v (m.set i b)) : kKeep m K v (m.set i b) := by
  have := kKeep_set (g := []) hc hb hk
  simpa using this

theorem set_same {m : Mem} {i : Nat} {b : Blk} (h : m[i]? = some b) : m.set i b = m := by
  apply List.ext_getElem?
  intro j
  by_cases hj : i = j
  · subst hj
    obtain ⟨hl, _⟩ := List.getElem?_eq_some_iff.mp h
    rw [List.getElem?_set_self hl, h]
  · rw [List.getElem?_set_ne hj]

end Go.Lg
