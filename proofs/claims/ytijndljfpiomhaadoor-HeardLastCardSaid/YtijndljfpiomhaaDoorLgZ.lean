/- What came in, as a logical memory: each input of integers, bools, strings, and slices, structs and arrays of such, is borne by its blocks, which are only read. -/
import Derived.Test.YtijndljfpiomhaaDoorLgY
import Derived.Below
import Derived.OpenShut
import Derived.SizedLaws
set_option linter.unusedVariables false
set_option linter.unusedSimpArgs false
namespace Go.Lg

variable {P : Program} {H : Type} {enc : TypeId × Value → H}

def TyAll (Q : TypeId → List Value → Prop) : List TypeId → List Value → Prop
  | [], xs => xs = []
  | t :: ts, xs => ∃ a b, xs = a ++ b ∧ Q t a ∧ TyAll Q ts b

/-- The cells of a value of a type over the logical memory m. -/
def TyL (P : Program) (m : Mem) : Nat → TypeId → List Value → Prop
  | 0, _, _ => False
  | fuel + 1, t, xs =>
    match P.underlying t with
    | some .bool => ∃ b, xs = [.bool b]
    | some (.int k) => ∃ n, xs = [.int k n] ∧ (Lit.int k n).wf = true
    | some .string => ∃ s, xs = [.string s] ∧ s.size ≤ reachBytes
    | some (.slice e) => xs = [.slice none 0 0] ∨ ∃ i n k, xs = [.slice (some ⟨i, 0, none⟩) n n] ∧ n ≤ maxLen ∧ m[i]? = some k ∧ k.frz = 0 ∧ k.esz = P.cellsOf e ∧
        ((k.kind = .ro ∧ TyAll (TyL P m fuel) (List.replicate n e) k.cells) ∨ (k.kind = .dead ∧ n = 0))
    | some (.struct fs) => TyAll (TyL P m fuel) (fs.toList.map (·.type)) xs
    | some (.array n e) => TyAll (TyL P m fuel) (List.replicate n e) xs
    | _ => False

/-- Types that are opened so. -/
def contig (P : Program) : Nat → List Field → Nat → Bool
  | off, [], n => off == n
  | off, f :: fs, n => (f.offset == off) && contig P (off + P.cellsOf f.type) fs n

def okTy (P : Program) : Nat → TypeId → Bool
  | 0, _ => false
  | fuel + 1, t =>
    match P.underlying t with
    | some .bool => true
    | some (.int _) => true
    | some .string => true
    | some (.slice e) => decide (0 < P.cellsOf e) && okTy P fuel e
    | some (.struct fs) => contig P 0 fs.toList (P.cellsOf t) && fs.toList.all fun f => okTy P fuel f.type
    | some (.array n e) => (n * P.cellsOf e == P.cellsOf t) && okTy P fuel e
    | _ => false

theorem TyAll.mono {Q Q' : TypeId → List Value → Prop} (h : ∀ t xs, Q t xs → Q' t xs) : ∀ {ts : List TypeId} {xs : List Value}, TyAll Q ts xs → TyAll Q' ts xs
  | [], _, hx => hx
  | _ :: _, _, ⟨a, b, e, q, r⟩ => ⟨a, b, e, h _ _ q, TyAll.mono h r⟩

theorem TyL.grow {m g : Mem} : ∀ {fuel : Nat} {t : TypeId} {xs : List Value}, TyL P m fuel t xs → TyL P (m ++ g) fuel t xs
  | 0, _, _, h => h
  | fuel + 1, t, xs, h => by
    have ih : ∀ t xs, TyL P m fuel t xs → TyL P (m ++ g) fuel t xs := fun _ _ => TyL.grow
    unfold TyL at h ⊢
    split <;> rename_i e <;> simp only [e] at h
    · exact h
    · exact h
    · exact h
    · rcases h with h | ⟨i, n, k, h1, h2, h3, h4, h5, h6⟩
      · exact .inl h
      · refine .inr ⟨i, n, k, h1, h2, ?_, h4, h5, ?_⟩
        · rw [List.getElem?_append_left (List.getElem?_eq_some_iff.mp h3).1]; exact h3
        · rcases h6 with ⟨h6, h7⟩ | h6
          · exact .inl ⟨h6, h7.mono ih⟩
          · exact .inr h6
    · exact TyAll.mono ih h
    · exact TyAll.mono ih h

theorem F2.append' {α β : Type} {R : α → β → Prop} {a c : List α} {b d : List β} (h : F2 R a b) (k : F2 R c d) : F2 R (a ++ c) (b ++ d) := by
  induction h with
  | nil => exact k
  | cons h _ ih => exact .cons h ih

/-- What an opening gives. -/
def Opened (P : Program) (base : Nat) (r : Rho) (m : Mem) (W : World) (cs : List Value) (Q : Mem → List Value → Prop) : Prop :=
  ∃ r' g xs, MR base r' (m ++ g) W ∧ (∀ k ∈ g, k.kind ≠ .own) ∧ (∀ i, i < m.length → r' i = r i) ∧ F2 (CR r') xs cs ∧ Q (m ++ g) xs

theorem open_all {base : Nat} {W : World} {Q : Mem → TypeId → List Value → Prop} (hQ : ∀ m g t xs, Q m t xs → Q (m ++ g) t xs) {R : TypeId → List Value → Prop}
    (ih : ∀ t cs, R t cs → ∀ r m, MR base r m W → Opened P base r m W cs fun m xs => Q m t xs) :
    ∀ (ts : List TypeId) (css : List (List Value)), F2 R ts css → ∀ r m, MR base r m W → Opened P base r m W css.flatten fun m xs => TyAll (Q m) ts xs
  | _, _, .nil, r, m, hm => ⟨r, [], [], by simpa using hm, by simp, fun _ _ => rfl, .nil, rfl⟩
  | _, _, .cons (a := t) (b := c) (as := ts) (bs := css) h1 h2, r, m, hm => by
    obtain ⟨r1, g1, x1, a1, a2, a3, a4, a5⟩ := ih _ _ h1 r m hm
    obtain ⟨r2, g2, x2, b1, b2, b3, b4, b5⟩ := open_all hQ ih ts css h2 r1 (m ++ g1) a1
    have hle : r1.le r2 := MR.le_of_ext a1 b3
    refine ⟨r2, g1 ++ g2, x1 ++ x2, by simpa using b1, ?_, ?_, ?_, ?_⟩
    · intro k hk
      rcases List.mem_append.mp hk with h | h
      · exact a2 k h
      · exact b2 k h
    · intro i hi
      rw [b3 i (by simp; omega), a3 i hi]
    · simp only [List.flatten_cons]
      exact F2.append' (a4.mono fun _ _ h => CR.mono hle h) b4
    · refine ⟨x1, x2, rfl, ?_, ?_⟩
      · have := hQ _ g2 _ _ a5
        simpa using this
      · simpa using b5

theorem F2.rep {α β : Type} {R : α → β → Prop} {e : α} {f : Nat → β} : ∀ n, (∀ i, i < n → R e (f i)) → F2 R (List.replicate n e) ((List.range n).map f)
  | 0, _ => .nil
  | n + 1, h => by
    rw [List.range_succ, List.replicate_succ', List.map_append]
    exact F2.append' (F2.rep n fun i hi => h i (by omega)) (.cons (h n (by omega)) .nil)

theorem flat_rep {α : Type} {f : Nat → List α} {sz : Nat} : ∀ n, (∀ i, i < n → (f i).length = sz) → ((List.range n).map f).flatten.length = n * sz ∧
    ∀ j v, ((List.range n).map f).flatten[j]? = some v → ∃ i k, i < n ∧ k < sz ∧ j = i * sz + k ∧ (f i)[k]? = some v
  | 0, _ => by simp
  | n + 1, h => by
    obtain ⟨h1, h2⟩ := flat_rep (f := f) n fun i hi => h i (by omega)
    have hn := h n (by omega)
    rw [List.range_succ, List.map_append, List.flatten_append]
    refine ⟨by simp only [List.length_append, h1, List.map_cons, List.map_nil, List.flatten_cons, List.flatten_nil, List.append_nil, hn, Nat.succ_mul], fun j v hj => ?_⟩
    by_cases hlt : j < ((List.range n).map f).flatten.length
    · rw [List.getElem?_append_left hlt] at hj
      obtain ⟨i, k, a, b, c, d⟩ := h2 j v hj
      exact ⟨i, k, by omega, b, c, d⟩
    · rw [List.getElem?_append_right (by omega)] at hj
      simp only [List.map_cons, List.map_nil, List.flatten_cons, List.flatten_nil, List.append_nil, h1] at hj
      have hk := (List.getElem?_eq_some_iff.mp hj).1
      refine ⟨n, j - n * sz, by omega, by omega, by omega, hj⟩

theorem flat_at {α : Type} {cs : List α} {sz : Nat} : ∀ n, cs.length = n * sz → ((List.range n).map fun i => (cs.drop (i * sz)).take sz).flatten = cs
  | 0, h => by
    rw [Nat.zero_mul] at h
    simp [List.length_eq_zero_iff.mp h]
  | n + 1, h => by
    rw [List.range_succ, List.map_append, List.flatten_append]
    have hl : cs.length = n * sz + sz := by rw [h, Nat.succ_mul]
    have ih := flat_at (cs := cs.take (n * sz)) (sz := sz) n (by simp; omega)
    have e : (List.range n).map (fun i => ((cs.take (n * sz)).drop (i * sz)).take sz) = (List.range n).map (fun i => (cs.drop (i * sz)).take sz) := by
      apply List.map_congr_left
      intro i hi
      have hi := List.mem_range.mp hi
      rw [List.drop_take, List.take_take]
      congr 1
      have : (i + 1) * sz ≤ n * sz := Nat.mul_le_mul_right _ hi
      rw [Nat.succ_mul] at this
      omega
    rw [e] at ih
    rw [ih]
    simp only [List.map_cons, List.map_nil, List.flatten_cons, List.flatten_nil, List.append_nil]
    rw [List.take_of_length_le (l := cs.drop (n * sz)) (by simp; omega)]
    exact List.take_append_drop _ _

theorem flat_fields {cs : List Value} {N : Nat} : ∀ (fs : List Field) (off : Nat), contig P off fs N = true → cs.length = N → off ≤ N → (fs.map fun f => (cs.drop f.offset).take (P.cellsOf f.type)).flatten = cs.drop off
  | [], off, h, hl, _ => by
    simp [contig] at h
    subst h
    simp [← hl]
  | f :: fs, off, h, hl, ho => by
    simp only [contig, Bool.and_eq_true, beq_iff_eq] at h
    obtain ⟨h1, h2⟩ := h
    by_cases hle : off + P.cellsOf f.type ≤ N
    · rw [List.map_cons, List.flatten_cons, flat_fields fs _ h2 hl hle, h1, ← List.drop_drop]
      exact List.take_append_drop _ _
    · exfalso
      have : ∀ (fs : List Field) (o : Nat), contig P o fs N = true → o ≤ N := by
        intro fs
        induction fs with
        | nil => intro o h; simp [contig] at h; omega
        | cons g gs ih => intro o h; simp only [contig, Bool.and_eq_true] at h; have := ih _ h.2; omega
      exact hle (this _ _ h2)

theorem F2.ofFields {R : TypeId → List Value → Prop} {g : Field → List Value} : ∀ {fs : List Field}, (∀ f ∈ fs, R f.type (g f)) → F2 R (fs.map (·.type)) (fs.map g)
  | [], _ => .nil
  | _ :: _, h => .cons (h _ (by simp)) (F2.ofFields fun f hf => h f (by simp [hf]))

theorem cells_at {W : World} {a : Addr} {n : Nat} {l : List Value} (h : W.cells? 0 a n = some l) : l.length = n ∧ ∀ k v, l[k]? = some v → W.cell? (a.add k) = some v := by
  unfold World.cells? at h
  rw [if_pos (Nat.zero_le _)] at h
  have hl := mapM_some_length h
  simp at hl
  refine ⟨hl, fun k v hk => ?_⟩
  have hk' := (List.getElem?_eq_some_iff.mp hk).1
  rw [← hk]
  exact mapM_some_get h k k (by rw [List.getElem?_range (by omega)])

theorem MR.addRo {base : Nat} {r : Rho} {m : Mem} {W : World} (hm : MR base r m W) (k : Blk) (b d t z : Nat) (hk : k.kind ≠ .own) (hb : ∀ r' : Rho, r.le r' → Bears r' base k b d t z W.heap[b]?) :
    ∃ r' : Rho, MR base r' (m ++ [k]) W ∧ (∀ i, i < m.length → r' i = r i) ∧ r' m.length = some (b, d, t, z) := by
  let r' : Rho := fun i => if i = m.length then some (b, d, t, z) else r i
  have hle : r.le r' := by
    intro i x hx
    have := hm.dom i x hx
    show (if i = m.length then _ else r i) = _
    rw [if_neg (by omega)]; exact hx
  have hext : ∀ i, i < m.length → r' i = r i := fun i hi => by
    show (if i = m.length then _ else r i) = _
    rw [if_neg (by omega)]
  refine ⟨r', ⟨?_, ?_, ?_, hm.base⟩, hext, ?_⟩
  · intro i x hx
    by_cases h : i = m.length
    · simp [h]
    · have : r i = some x := by
        have : r' i = r i := by show (if i = m.length then _ else r i) = _; rw [if_neg h]
        rw [← this]; exact hx
      have := hm.dom i x this
      simp; omega
  · intro i k' b' d' t' z' hk' hr
    by_cases h : i < m.length
    · rw [List.getElem?_append_left h] at hk'
      rw [hext i h] at hr
      exact (hm.blk i k' b' d' t' z' hk' hr).mono hle
    · have hi : i = m.length := by
        have := (List.getElem?_eq_some_iff.mp hk').1
        simp at this; omega
      subst hi
      have e1 : r' m.length = some (b, d, t, z) := if_pos rfl
      rw [e1] at hr
      simp at hk' hr
      obtain ⟨rfl, rfl, rfl, rfl⟩ := hr
      subst hk'
      exact hb r' hle
  · intro i j ki kj b' x y hi hj oi oj ri rj
    have hlt : ∀ {i k'}, (m ++ [k])[i]? = some k' → k'.kind = .own → i < m.length := by
      intro i k' h1 h2
      by_cases h : i < m.length
      · exact h
      · exfalso
        have := (List.getElem?_eq_some_iff.mp h1).1
        have e : i = m.length := by simp at this; omega
        subst e
        simp at h1
        subst h1
        exact hk h2
    have li := hlt hi oi
    have lj := hlt hj oj
    rw [List.getElem?_append_left li] at hi
    rw [List.getElem?_append_left lj] at hj
    rw [hext i li] at ri
    rw [hext j lj] at rj
    exact hm.inj i j ki kj b' x y hi hj oi oj ri rj
  · exact if_pos rfl
end Go.Lg
