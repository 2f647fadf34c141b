/- Reading, making and writing blocks: what each does to the world, said of the logical memory. -/
import Derived.Test.YtijndljfpiomhaaDoorLgA
namespace Go.Lg

theorem add_none (b x n : Nat) : (⟨b, x, none⟩ : Addr).add n = ⟨b, x + n, none⟩ := by
  unfold Addr.add; split
  · subst_vars; rfl
  · rfl

variable {base : Nat} {r : Rho} {m : Mem} {w : World}

theorem MR.lt (h : MR base r m w) {i : Nat} {x : Nat × Nat × Nat × Nat} (hi : r i = some x) : ∃ k, m[i]? = some k := by
  have := h.dom i x hi
  exact ⟨m[i], by simp [this]⟩

theorem MR.read (h : MR base r m w) {i b d t z o : Nat} {k : Blk} {v : Value} (hi : r i = some (b, d, t, z)) (hk : m[i]? = some k) (hl : k.kind ≠ .dead) (hv : k.cells[o]? = some v) :
    ∃ v', w.cell? ⟨b, d + o, none⟩ = some v' ∧ CR r v v' := by
  have hb := h.blk i k b d t z hk hi
  unfold Bears at hb
  split at hb
  · rename_i e; exact absurd e hl
  · obtain ⟨_, _, c, fz, h1, _, _, h3, _⟩ := hb
    obtain ⟨v', e, q⟩ := h3 o v hv
    exact ⟨v', by simp [World.cell?, h1, e], q⟩
  · obtain ⟨_, _, c, T, fz, h1, h3⟩ := hb
    obtain ⟨v', e, q⟩ := h3 o v hv
    exact ⟨v', by simp [World.cell?, h1, e], q⟩

theorem MR.own_lt (h : MR base r m w) {i b d t z : Nat} {k : Blk} (hi : r i = some (b, d, t, z)) (hk : m[i]? = some k) (hl : k.kind = .own) : base ≤ b ∧ b < w.heap.size := by
  have hb := h.blk i k b d t z hk hi
  unfold Bears at hb
  rw [hl] at hb
  obtain ⟨h0, _, c, fz, h1, _⟩ := hb
  refine ⟨h0, ?_⟩
  rcases Nat.lt_or_ge b w.heap.size with h' | h'
  · exact h'
  · simp [Array.getElem?_eq_none h'] at h1

theorem heap_alloc_old {o : Obj} {b : Nat} (h : b < w.heap.size) : (w.alloc o).heap[b]? = w.heap[b]? := by
  simp only [World.alloc, Array.getElem?_push]
  rw [if_neg (by omega)]
theorem heap_alloc_new {o : Obj} : (w.alloc o).heap[w.heap.size]? = some o := by
  show (w.heap.push o)[w.heap.size]? = some o
  simp

theorem Bears.some_of_live {k : Blk} {b d t z : Nat} {o : Option Obj} (h : Bears r base k b d t z o) (hl : k.kind ≠ .dead) : o.isSome = true := by
  unfold Bears at h
  split at h
  · rename_i e; exact absurd e hl
  · obtain ⟨_, _, c, fz, h1, _⟩ := h; simp [h1]
  · obtain ⟨_, _, c, T, fz, h1, _⟩ := h; simp [h1]

/-- What a block's bearing hangs on. -/
theorem Bears.congr {k : Blk} {b d t z : Nat} {o o' : Option Obj} (h : Bears r base k b d t z o) (he : k.kind ≠ .dead → o' = o) : Bears r base k b d t z o' := by
  unfold Bears at *
  split at h
  · trivial
  · rename_i e; rw [he (by simp [e])]; exact h
  · rename_i e; rw [he (by simp [e])]; exact h

/-- A new block. -/
theorem Stp.alloc (h : MR base r m w) {cs cs' : List Value} (T z f : Nat) (hc : F2 (CR r) cs cs') :
    Stp base r m w (fun i => if i = m.length then some (w.heap.size, 0, cs'.length, z) else r i) (m ++ [⟨cs, T, z, f, .own⟩]) (w.alloc (.cells cs'.toArray T)) := by
  have hle : r.le (fun i => if i = m.length then some (w.heap.size, 0, cs'.length, z) else r i) := by
    intro i x hx
    have := h.dom i x hx
    show (if i = m.length then some (w.heap.size, 0, cs'.length, z) else r i) = some x
    rw [if_neg (by omega)]
    exact hx
  have hlow : ∀ {i k b x}, m[i]? = some k → r i = some (b, x) → k.kind ≠ .dead → b < w.heap.size := by
    intro i k b x hk hi hl
    obtain ⟨d, t, z⟩ := x
    have := (h.blk i k b d t z hk hi).some_of_live hl
    rcases Nat.lt_or_ge b w.heap.size with h' | h'
    · exact h'
    · simp [Array.getElem?_eq_none h'] at this
  refine ⟨⟨?_, ?_, ?_, ?_⟩, ?_, ?_, ?_, ?_, ?_, rfl, rfl, rfl⟩
  · intro i x hx
    split at hx
    · simp; omega
    · have := h.dom i x hx; simp; omega
  · intro i k b d t z hk hi
    split at hi
    · rename_i e
      subst e
      simp at hk hi
      obtain ⟨rfl, rfl, rfl, rfl⟩ := hi
      subst hk
      refine ⟨h.base, rfl, cs'.toArray, (0, 0), heap_alloc_new, by simp, ?_, ?_, ?_, fun _ _ => ⟨rfl, by simp [hc.length]⟩, fun _ => rfl⟩
      · simp [hc.length]
      · intro j v hv
        obtain ⟨v', e, q⟩ := hc.get hv
        exact ⟨v', by simpa using e, q.mono hle⟩
      · intro x _ _; simp [inFz]
    · rename_i hne
      have hlt := h.dom i _ hi
      rw [List.getElem?_append_left hlt] at hk
      exact ((h.blk i k b d t z hk hi).mono hle).congr fun hl => heap_alloc_old (hlow hk hi hl)
  · intro i j k l b x y hi hj hki hlj hri hrj
    split at hri <;> split at hrj
    · omega
    · rename_i h1 h2
      simp at hri
      obtain ⟨rfl, rfl⟩ := hri
      have hlt := h.dom j _ hrj
      rw [List.getElem?_append_left hlt] at hj
      have := hlow hj hrj (by simp [hlj])
      omega
    · rename_i h1 h2
      simp at hrj
      obtain ⟨rfl, rfl⟩ := hrj
      have hlt := h.dom i _ hri
      rw [List.getElem?_append_left hlt] at hi
      have := hlow hi hri (by simp [hki])
      omega
    · rw [List.getElem?_append_left (h.dom i _ hri)] at hi
      rw [List.getElem?_append_left (h.dom j _ hrj)] at hj
      exact h.inj i j k l b x y hi hj hki hlj hri hrj
  · simp; have := h.base; omega
  · intro i hi; rw [if_neg (by omega)]
  · simp
  · intro b hb _; exact heap_alloc_old hb
  · rintro b hb ⟨i, k, x, hk, hl, hi⟩
    replace hi : (if i = m.length then some (w.heap.size, 0, cs'.length, z) else r i) = some (b, x) := hi
    split at hi
    · simp at hi; omega
    · rw [List.getElem?_append_left (h.dom i _ hi)] at hk
      exact ⟨i, k, x, hk, hl, hi⟩
  · simp

/-- A block is given up. -/
theorem Stp.kill (h : MR base r m w) (i : Nat) (k : Blk) (hk : k.kind = .dead) : Stp base r m w r (m.set i k) w := by
  refine ⟨⟨?_, ?_, ?_, h.base⟩, fun _ _ => rfl, by simp, fun _ _ _ => rfl, ?_, Nat.le_refl _, rfl, rfl, rfl⟩
  · intro j x hx; simpa using h.dom j x hx
  · intro j l b d t z hl hj
    rw [List.getElem?_set] at hl
    split at hl
    · split at hl
      · simp at hl; subst hl; unfold Bears; rw [hk]; trivial
      · simp at hl
    · exact h.blk j l b d t z hl hj
  · intro a c ka kc b x y ha hc hka hkc hra hrc
    have old : ∀ {j : Nat} {l : Blk}, (m.set i k)[j]? = some l → l.kind = .own → m[j]? = some l := by
      intro j l hl ho
      rw [List.getElem?_set] at hl
      split at hl
      · split at hl
        · simp at hl; subst hl; rw [hk] at ho; cases ho
        · simp at hl
      · exact hl
    exact h.inj a c ka kc b x y (old ha hka) (old hc hkc) hka hkc hra hrc
  · rintro b _ ⟨j, l, d, hl, ho, hj⟩
    rw [List.getElem?_set] at hl
    split at hl
    · split at hl
      · simp at hl; subst hl; rw [hk] at ho; cases ho
      · simp at hl
    · exact ⟨j, l, d, hl, ho, hj⟩

theorem heap_setCell_ne {a : Addr} {v : Value} {b : Nat} (h : b ≠ a.block) : (w.setCell a v).heap[b]? = w.heap[b]? := by
  simp only [World.setCell, Array.getElem?_modify]
  rw [if_neg (by omega)]
theorem heap_setCell_eq {b o : Nat} {v : Value} {c : Array Value} {T : TypeId} {fz : Nat × Nat} (h : w.heap[b]? = some (.cells c T fz)) :
    (w.setCell ⟨b, o, none⟩ v).heap[b]? = some (.cells (c.setIfInBounds o v) T fz) := by
  simp [World.setCell, Array.getElem?_modify, h]

/-- One cell is written. -/
theorem Stp.set (h : MR base r m w) {i b d t z o : Nat} {k : Blk} {v v' : Value} (hi : r i = some (b, d, t, z)) (hk : m[i]? = some k) (ho : k.kind = .own)
    (hlt : o < k.cells.length) (hv : CR r v v') :
    Stp base r m w r (m.set i { k with cells := k.cells.set o v }) (w.setCell ⟨b, d + o, none⟩ v') := by
  obtain ⟨hb0, hb1⟩ := h.own_lt hi hk ho
  have hil : i < m.length := h.dom _ _ hi
  have keep : ∀ {j : Nat} {l : Blk}, (m.set i { k with cells := k.cells.set o v })[j]? = some l → ∃ l', m[j]? = some l' ∧ l'.kind = l.kind ∧ (j ≠ i → l' = l) := by
    intro j l hl
    by_cases e : i = j
    · subst e
      rw [List.getElem?_set_self hil] at hl
      simp at hl; subst hl; exact ⟨k, hk, rfl, fun e => absurd rfl e⟩
    · rw [List.getElem?_set_ne e] at hl
      exact ⟨l, hl, rfl, fun _ => rfl⟩
  refine ⟨⟨?_, ?_, ?_, ?_⟩, fun _ _ => rfl, by simp, ?_, ?_, ?_, rfl, rfl, rfl⟩
  · intro j x hx; simpa using h.dom j x hx
  · intro j l b' d' t' z' hl hj
    by_cases hji : j = i
    · subst hji
      rw [hi] at hj
      simp at hj
      obtain ⟨rfl, rfl, rfl, rfl⟩ := hj
      simp [hil] at hl
      subst hl
      have hb := h.blk j k b d t z hk hi
      unfold Bears at hb ⊢
      rw [ho] at hb
      simp only [ho]
      obtain ⟨h0, hz, c, fz, h1, ht, h2, h3, h4⟩ := hb
      refine ⟨h0, hz, _, fz, heap_setCell_eq h1, by simpa using ht, by simpa using h2, ?_, by simpa using h4⟩
      intro q u hu
      by_cases e : o = q
      · subst e
        rw [List.getElem?_set_self hlt] at hu; simp at hu; subst hu
        refine ⟨v', ?_, hv⟩
        rw [Array.getElem?_setIfInBounds]
        simp; omega
      · rw [List.getElem?_set_ne e] at hu
        obtain ⟨u', e', q'⟩ := h3 q u hu
        refine ⟨u', ?_, q'⟩
        rw [Array.getElem?_setIfInBounds_ne (by omega)]; exact e'
    · obtain ⟨l', hl', hkk, hee⟩ := keep hl
      obtain rfl := hee hji
      refine (h.blk j l' b' d' t' z' hl' hj).congr fun hdead => heap_setCell_ne ?_
      intro e
      simp at e
      subst e
      have hb := h.blk j l' b' d' t' z' hl' hj
      unfold Bears at hb
      split at hb
      · rename_i e; exact absurd e hdead
      · rename_i e; exact hji (h.inj j i l' k b' _ _ hl' hk e ho hj hi)
      · obtain ⟨h0, _⟩ := hb; omega
  · intro a c ka kc b' x y ha hc hka hkc hra hrc
    obtain ⟨ka', ha', e1, _⟩ := keep ha
    obtain ⟨kc', hc', e2, _⟩ := keep hc
    exact h.inj a c ka' kc' b' x y ha' hc' (e1.trans hka) (e2.trans hkc) hra hrc
  · simpa using h.base
  · intro b' hb' hn
    refine heap_setCell_ne ?_
    intro e; simp at e; subst e
    exact hn ⟨i, k, _, hk, ho, hi⟩
  · rintro b' hb' ⟨j, l, d', hl, hlo, hj⟩
    obtain ⟨l', hl', e1, _⟩ := keep hl
    exact ⟨j, l', d', hl', e1.trans hlo, hj⟩
  · simp

theorem MR.unfrozen (h : MR base r m w) {i b d t z o : Nat} {k : Blk} (hi : r i = some (b, d, t, z)) (hk : m[i]? = some k) (ho : k.kind = .own)
    (hlt : o < k.cells.length) (hf : k.frz ≤ o) : w.frozen? ⟨b, d + o, none⟩ = false := by
  have hb := h.blk i k b d t z hk hi
  unfold Bears at hb
  rw [ho] at hb
  obtain ⟨h0, hz, c, fz, h1, ht, h2, h3, h4, _⟩ := hb
  have := h4 (d + o) (by omega) (by omega)
  obtain ⟨lo, hi⟩ := fz
  simpa [World.frozen?, h1, inFz] using this

theorem CR.oneCell {v v' : Value} (h : CR r v v') : v'.oneCell' = true := by
  cases h with
  | atom h => cases h <;> rfl
  | func => rfl

def setAt (l : List Value) (o : Nat) : List Value → List Value
  | [] => l
  | v :: vs => setAt (l.set o v) (o + 1) vs
theorem setAt_length (l : List Value) (o : Nat) (vs : List Value) : (setAt l o vs).length = l.length := by
  induction vs generalizing l o with
  | nil => rfl
  | cons v vs ih => simp [setAt, ih]

/-- Several cells are written, one behind the other. -/
theorem Stp.sets {P : Program} {i b d t z : Nat} (hi : r i = some (b, d, t, z)) (x : Addr) (hx : x = ⟨b, x.off, none⟩) :
    ∀ (vs vs' : List Value) (o q : Nat) (k : Blk) (m : Mem) (w : World), MR base r m w → m[i]? = some k → k.kind = .own → x.off + q = d + o → k.frz ≤ o → o + vs.length ≤ k.cells.length → F2 (CR r) vs vs' →
    ∃ w', (storeCells x vs' q).run P w = .ok () w' ∧ Stp base r m w r (m.set i { k with cells := setAt k.cells o vs }) w' := by
  intro vs
  induction vs with
  | nil =>
    intro vs' o q k m w h hk ho hq hf hlen hv
    obtain rfl := hv.nil_inv
    refine ⟨w, rfl, ?_⟩
    have hil : i < m.length := h.dom _ _ hi
    have : m.set i { k with cells := setAt k.cells o [] } = m := by
      show m.set i { k with cells := k.cells } = m
      have := (List.getElem?_eq_some_iff.1 hk).2
      rw [← this]
      simp
    rw [this]
    exact Stp.refl h
  | cons v vs ih =>
    intro vs' o q k m w h hk ho hq hf hlen hv
    obtain ⟨v', vs', rfl, hv1, hv2⟩ := hv.cons_inv
    simp at hlen
    have hil : i < m.length := h.dom _ _ hi
    have hs := Stp.set h hi hk ho (o := o) (by omega) hv1
    obtain ⟨u, hu, _⟩ := h.read hi hk (by simp [ho]) (o := o) (v := k.cells[o]'(by omega)) (by simp)
    have hz := h.unfrozen hi hk ho (o := o) (by omega) hf
    obtain ⟨w', hrun, hst⟩ := ih vs' (o + 1) (q + 1) { k with cells := k.cells.set o v } _ _ hs.mr (by simp [hil]) ho (by omega) (by simp; omega) (by simp; omega) hv2
    refine ⟨w', ?_, ?_⟩
    · unfold storeCells
      have ha : x.add q = ⟨b, d + o, none⟩ := by rw [hx, add_none]; rw [← hq]
      rw [Sem.run_bind, ha]
      have : (store ⟨b, d + o, none⟩ v').run P w = .ok () (w.setCell ⟨b, d + o, none⟩ v') := by
        have := run_store P w ⟨b, d + o, none⟩ v' .plain hv1.oneCell
        rw [this]
        simp [hu, hz]
      rw [this]
      simpa using hrun
    · have := hs.trans hst
      simpa [setAt] using this

theorem read_list (h : MR base r m w) {P : Program} {i b d t z o : Nat} {k : Blk} (hi : r i = some (b, d, t, z)) (hk : m[i]? = some k) (hl : k.kind ≠ .dead) (x : Addr) (hx : x = ⟨b, x.off, none⟩) :
    ∀ (n q : Nat) (acc : Array Value), x.off = d + o → o + q + n ≤ k.cells.length →
    ∃ vs', (loadCellsFrom x q n acc).run P w = .ok (acc ++ vs'.toArray) w ∧ F2 (CR r) ((k.cells.drop (o + q)).take n) vs' := by
  intro n
  induction n with
  | zero => intro q acc _ _; exact ⟨[], by simp [loadCellsFrom], by simp; exact .nil⟩
  | succ n ih =>
    intro q acc hq hlen
    obtain ⟨u, hu, hr⟩ := h.read hi hk hl (o := o + q) (v := k.cells[o + q]'(by omega)) (by simp)
    obtain ⟨vs', hrun, hf⟩ := ih (q + 1) (acc.push u) hq (by omega)
    refine ⟨u :: vs', ?_, ?_⟩
    · unfold loadCellsFrom
      have ha : x.add q = ⟨b, d + (o + q), none⟩ := by rw [hx, add_none]; rw [hq]; congr 1; omega
      rw [Sem.run_bind, ha, run_load, hu]
      simp only [Result.andThen_ok]
      rw [hrun]
      simp
    · rw [List.drop_eq_getElem_cons (by omega : o + q < k.cells.length), List.take_succ_cons]
      exact .cons hr (by simpa [Nat.add_assoc] using hf)

end Go.Lg
