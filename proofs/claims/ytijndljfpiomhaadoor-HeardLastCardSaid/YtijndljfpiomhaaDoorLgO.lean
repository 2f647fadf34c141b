/- A statement whose order is left open, in short: what only reads and makes, in any order; then the rest, in its own. -/
import Derived.Test.YtijndljfpiomhaaDoorLgM
namespace Go.Lg

variable {P : Program}

theorem F2.transfer {R S T : Value → Value → Prop} (ht : ∀ v u v', R v u → S v v' → T v v') {xs us vs : List Value} (a : F2 R xs us) (b : F2 S xs vs) : F2 T xs vs := by
  induction a generalizing vs with
  | nil => rw [b.nil_inv]; exact .nil
  | cons h1 _ ih =>
    obtain ⟨w, ws, rfl, h2, h3⟩ := b.cons_inv
    exact .cons (ht _ _ _ h1 h2) (ih h3)

section transfer
variable {r p q : Rho} (h : ∀ i x y, r i = some x → p i = some y → q i = some y)
include h
theorem AR.transfer {v u v' : Value} (a : AR r v u) (b : AR p v v') : AR q v v' := by
  cases b with
  | ptr hi => cases a with | ptr hj => exact .ptr (h _ _ _ hj hi)
  | slice hi hn ha => cases a with | slice hj _ _ => exact .slice (h _ _ _ hj hi) hn ha
  | bool b => exact .bool b
  | int k n => exact .int k n
  | string s => exact .string s
  | nilPtr => exact .nilPtr
  | nilSlice => exact .nilSlice
  | nilFunc => exact .nilFunc
  | nilIface => exact .nilIface
theorem CR.transfer {v u v' : Value} (a : CR r v u) (b : CR p v v') : CR q v v' := by
  cases b with
  | atom hb =>
    cases a with
    | atom ha => exact .atom (AR.transfer h ha hb)
    | func _ _ => cases hb
  | func hf hc =>
    rename_i fn f f' c c'
    generalize hx : Value.func fn f.toArray c.toArray = x at a
    cases a with
    | atom ha => cases ha <;> simp at hx
    | func h1 h2 =>
      simp at hx
      obtain ⟨rfl, rfl, rfl⟩ := hx
      exact .func (F2.transfer (T := AR q) (fun _ _ _ => AR.transfer h) h1 hf) (F2.transfer (T := AR q) (fun _ _ _ => AR.transfer h) h2 hc)
theorem BR.transfer {v u v' : Value} (a : BR r v u) (b : BR p v v') : BR q v v' := by
  cases b with
  | cell hb =>
    cases a with
    | cell ha => exact .cell (CR.transfer h ha hb)
    | agg _ => cases hb with | atom hb => cases hb
  | agg hf =>
    rename_i xs ys
    generalize hx : Value.agg xs.toArray = x at a
    cases a with
    | cell ha => cases ha with | atom ha => cases ha <;> simp at hx | func _ _ => simp at hx
    | agg h1 => simp at hx; subst hx; exact .agg (F2.transfer (T := CR q) (fun _ _ _ => CR.transfer h) h1 hf)
theorem VR.transfer {v u v' : Value} (a : VR r v u) (b : VR p v v') : VR q v v' := by
  cases b with
  | base hb =>
    cases a with
    | base ha => exact .base (BR.transfer h ha hb)
    | tuple _ => cases hb with | cell hb => cases hb with | atom hb => cases hb
  | tuple hf =>
    rename_i xs ys
    generalize hx : Value.tuple xs.toArray = x at a
    cases a with
    | base ha =>
      cases ha with
      | cell ha => cases ha with | atom ha => cases ha <;> simp at hx | func _ _ => simp at hx
      | agg _ => simp at hx
    | tuple h1 => simp at hx; subst hx; exact .tuple (F2.transfer (T := BR q) (fun _ _ _ => BR.transfer h) h1 hf)
end transfer

def restr (r : Rho) (L : Nat) : Rho := fun i => if i < L then r i else none
theorem restr_le (r : Rho) (L : Nat) : (restr r L).le r := fun i x hx => by
  unfold restr at hx; split at hx
  · exact hx
  · cases hx
theorem restr_mono (r : Rho) {L L' : Nat} (h : L ≤ L') : (restr r L).le (restr r L') := fun i x hx => by
  unfold restr at *; split at hx
  · rw [if_pos (by omega)]; exact hx
  · cases hx
theorem restr_dom {r : Rho} {L i : Nat} {x : _} (h : restr r L i = some x) : i < L := by
  unfold restr at h; split at h
  · assumption
  · cases h

/-- The same, as a record of values and new blocks. -/
inductive Tr (P : Program) : List LInstr → List Value → Mem → List (Value × Mem) → List Value → Mem → Prop
  | nil {t m} : Tr P [] t m [] t m
  | yes {i is t m v g rs tp mp} : wantedL t i.guard = true → LExec P i.op (evL t) m (fun v' m' => v' = v ∧ m' = m ++ g) → Tr P is (putL t i.dst v) (m ++ g) rs tp mp → Tr P (i :: is) t m ((v, g) :: rs) tp mp
  | no {i is t m rs tp mp} : wantedL t i.guard = false → Tr P is (putL t i.dst undef) m rs tp mp → Tr P (i :: is) t m ((undef, []) :: rs) tp mp

theorem LRo_tr : ∀ {is : List LInstr} {K : List Value → Mem → Prop} {t : List Value} {m : Mem}, LRo P is K t m → ∃ rs tp mp, Tr P is t m rs tp mp ∧ K tp mp
  | [], K, t, m, h => ⟨[], t, m, .nil, h⟩
  | i :: is, K, t, m, h => by
    cases hw : wantedL t i.guard with
    | true =>
      obtain ⟨v, g, h1, h2⟩ := h.1 hw
      obtain ⟨rs, tp, mp, h3, h4⟩ := LRo_tr h2
      exact ⟨_, tp, mp, .yes hw h1 h3, h4⟩
    | false =>
      obtain ⟨rs, tp, mp, h3, h4⟩ := LRo_tr (h.2 hw)
      exact ⟨_, tp, mp, .no hw h3, h4⟩

def tAt : List LInstr → List (Value × Mem) → List Value → Nat → List Value
  | i :: is, (v, _) :: rs, t, k + 1 => tAt is rs (putL t i.dst v) k
  | _, _, t, _ => t
def mAt : List (Value × Mem) → Mem → Nat → Mem
  | (_, g) :: rs, m, k + 1 => mAt rs (m ++ g) k
  | _, m, _ => m

theorem Tr.at {is : List LInstr} {t : List Value} {m : Mem} {rs : List (Value × Mem)} {tp : List Value} {mp : Mem} (h : Tr P is t m rs tp mp) : ∀ {k : Nat} {i : LInstr}, is[k]? = some i →
    ∃ v g, rs[k]? = some (v, g) ∧ mAt rs m (k + 1) = mAt rs m k ++ g ∧ tAt is rs t (k + 1) = putL (tAt is rs t k) i.dst v ∧
      ((wantedL (tAt is rs t k) i.guard = true ∧ LExec P i.op (evL (tAt is rs t k)) (mAt rs m k) (fun v' m' => v' = v ∧ m' = mAt rs m k ++ g)) ∨ (wantedL (tAt is rs t k) i.guard = false ∧ v = undef ∧ g = [])) := by
  induction h with
  | nil => intro k i hk; simp at hk
  | yes hw hx _ ih =>
    intro k i hk
    cases k with
    | zero => simp at hk; subst hk; exact ⟨_, _, rfl, by simp [mAt], by simp [tAt], .inl ⟨hw, hx⟩⟩
    | succ k =>
      obtain ⟨v, g, h1, h2, h3, h4⟩ := ih (by simpa using hk)
      exact ⟨v, g, by simpa using h1, h2, h3, h4⟩
  | no hw _ ih =>
    intro k i hk
    cases k with
    | zero => simp at hk; subst hk; exact ⟨_, _, rfl, by simp [mAt], by simp [tAt], .inr ⟨hw, rfl, rfl⟩⟩
    | succ k =>
      obtain ⟨v, g, h1, h2, h3, h4⟩ := ih (by simpa using hk)
      refine ⟨v, g, by simpa using h1, ?_, h3, ?_⟩
      · simpa [mAt] using h2
      · simpa [mAt, tAt] using h4

theorem Tr.ends {is : List LInstr} {t : List Value} {m : Mem} {rs : List (Value × Mem)} {tp : List Value} {mp : Mem} (h : Tr P is t m rs tp mp) : rs.length = is.length ∧ tAt is rs t is.length = tp ∧ mAt rs m is.length = mp := by
  induction h with
  | nil => exact ⟨rfl, rfl, rfl⟩
  | yes _ _ _ ih => exact ⟨by simp [ih.1], ih.2.1, ih.2.2⟩
  | no _ _ ih => exact ⟨by simp [ih.1], ih.2.1, by simpa [mAt] using ih.2.2⟩

theorem mAt_prefix : ∀ {rs : List (Value × Mem)} {m : Mem} {k l : Nat}, k ≤ l → ∃ g, mAt rs m l = mAt rs m k ++ g
  | [], m, k, l, _ => ⟨[], by simp [mAt]⟩
  | (v, g) :: rs, m, 0, 0, _ => ⟨[], by simp [mAt]⟩
  | (v, g) :: rs, m, 0, l + 1, _ => by
    obtain ⟨g', h⟩ := mAt_prefix (rs := rs) (m := m ++ g) (Nat.zero_le l)
    refine ⟨g ++ g', ?_⟩
    simp only [mAt]
    rw [h]
    cases rs <;> simp [mAt]
  | (v, g) :: rs, m, k + 1, 0, h => by omega
  | (v, g) :: rs, m, k + 1, l + 1, h => by
    simpa [mAt] using mAt_prefix (rs := rs) (m := m ++ g) (k := k) (l := l) (by omega)
theorem mAt_zero {rs : List (Value × Mem)} {m : Mem} : mAt rs m 0 = m := by cases rs <;> rfl

end Go.Lg
