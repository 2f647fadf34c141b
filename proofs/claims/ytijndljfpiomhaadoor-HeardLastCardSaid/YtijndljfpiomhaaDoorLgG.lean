/- Appends. -/
import Derived.Test.YtijndljfpiomhaaDoorLgF
namespace Go.Lg

variable {P : Program} {base : Nat} {r : Rho} {m : Mem} {w : World}

/-- Cells are written into one block, one behind the other. -/
theorem run_storeRow {b p : Nat} {T : TypeId} {fz : Nat × Nat} : ∀ (vs : List Value) (q : Nat) (c : Array Value) (w : World), w.heap[b]? = some (.cells c T fz) → p + q + vs.length ≤ c.size → (∀ x, p + q ≤ x → x < c.size → inFz fz x = false) → (∀ v ∈ vs, v.oneCell' = true) →
    ∃ w' c', (storeCells ⟨b, p, none⟩ vs q).run P w = .ok () w' ∧ w'.heap = w.heap.setIfInBounds b (.cells c' T fz) ∧ c'.size = c.size ∧ (∀ x, c'[x]? = if p + q ≤ x ∧ x < p + q + vs.length then vs[x - (p + q)]? else c[x]?) ∧ w'.os = w.os ∧ w'.tape = w.tape ∧ w'.output = w.output := by
  intro vs
  induction vs with
  | nil =>
    intro q c w hb _ _ _
    refine ⟨w, c, rfl, ?_, rfl, ?_, rfl, rfl, rfl⟩
    · apply Array.ext_getElem?
      intro i
      rw [Array.getElem?_setIfInBounds]
      split
      · rename_i e; subst e
        split
        · exact hb
        · rename_i h; rw [Array.getElem?_eq_none (by omega)]
      · rfl
    · intro x; rw [if_neg (by simp)]
  | cons v vs ih =>
    intro q c w hb hlen hfz hone
    simp at hlen
    have hp : (⟨b, p, none⟩ : Addr).add q = ⟨b, p + q, none⟩ := add_none b p q
    have hcell : w.cell? ⟨b, p + q, none⟩ = some (c[p + q]'(by omega)) := by simp [World.cell?, hb]
    have hfr : w.frozen? ⟨b, p + q, none⟩ = false := by
      have := hfz (p + q) (Nat.le_refl _) (by omega)
      obtain ⟨lo, hi⟩ := fz
      simpa [World.frozen?, hb, inFz] using this
    have hst : (store ⟨b, p + q, none⟩ v).run P w = .ok () (w.setCell ⟨b, p + q, none⟩ v) := by
      rw [run_store P w _ v .plain (hone v (by simp))]
      simp [hcell, hfr]
    obtain ⟨w', c', hrun, hheap, hsz, hget, h1, h2, h3⟩ := ih (q + 1) (c.setIfInBounds (p + q) v) (w.setCell ⟨b, p + q, none⟩ v) (heap_setCell_eq hb) (by simp; omega) (fun x hx hx2 => hfz x (by omega) (by simpa using hx2)) (fun u hu => hone u (by simp [hu]))
    refine ⟨w', c', ?_, ?_, by simpa using hsz, ?_, h1, h2, h3⟩
    · unfold storeCells
      rw [Sem.run_bind, hp, hst]
      exact hrun
    · rw [hheap]
      apply Array.ext_getElem?
      intro i
      have hs : (w.setCell ⟨b, p + q, none⟩ v).heap.size = w.heap.size := by simp
      rw [Array.getElem?_setIfInBounds, Array.getElem?_setIfInBounds, hs]
      split
      · rfl
      · rename_i hne; exact heap_setCell_ne (by simp; omega)
    · intro x
      rw [hget x]
      simp only [List.length_cons]
      by_cases e0 : x = p + q
      · subst e0
        rw [if_neg (by omega), if_pos (by omega)]
        have : p + q < c.size := by omega
        simp [this]
      · by_cases e1 : p + q ≤ x ∧ x < p + q + (vs.length + 1)
        · rw [if_pos (by omega), if_pos e1, show x - (p + q) = (x - (p + (q + 1))) + 1 by omega, List.getElem?_cons_succ]
        · rw [if_neg (by omega), if_neg e1, Array.getElem?_setIfInBounds_ne (by omega)]

/-- An append in place: the block goes on under a new name. -/
theorem Stp.inplace (h : MR base r m w) {i b d t z o q : Nat} {k : Blk} (hi : r i = some (b, d, t, z)) (hk : m[i]? = some k) (ho : k.kind = .own) (hq : o + q ≤ k.cells.length) (hf : k.frz ≤ o + q)
    {new new' : List Value} (hn : F2 (CR r) new new') (hroom : d + o + q + new.length ≤ t) (hz0 : z = 0 → q = 0 ∧ new.length = 0) (x : Addr) (hx : x = ⟨b, d + o + q, none⟩) :
    ∃ w', (storeCells x new').run P w = .ok () w' ∧
      Stp base r m w (fun j => if j = m.length then some (b, d + o, t, z) else r j) (m.set i (dead k) ++ [⟨(k.cells.drop o).take q ++ new, k.elem, z, k.frz - o, .own⟩]) w' := by
  subst hx
  have hil := h.dom _ _ hi
  have hlt := h.own_lt hi hk ho
  have hbl := h.blk i k b d t z hk hi
  unfold Bears at hbl
  rw [ho] at hbl
  obtain ⟨h0, hz, c, fz, h1, ht, h2, h3, h4, _, h5⟩ := hbl
  have hlen : new'.length = new.length := hn.length.symm
  obtain ⟨w', c', hrun, hheap, hsz, hget, g1, g2, g3⟩ := run_storeRow (P := P) (p := d + o + q) new' 0 c w h1 (by omega) (fun x hx hx2 => h4 x (by omega) hx2) (by
    intro v hv
    obtain ⟨j, hj, rfl⟩ := List.getElem_of_mem hv
    obtain ⟨a, _, ha⟩ := hn.get' (i := j) (b := new'[j]) (by simp)
    exact ha.oneCell)
  refine ⟨w', hrun, ?_⟩
  have hle : r.le (fun j => if j = m.length then some (b, d + o, t, z) else r j) := by
    intro j x hx
    have := h.dom j x hx
    show (if j = m.length then some (b, d + o, t, z) else r j) = some x
    rw [if_neg (by omega)]; exact hx
  have hhs : w'.heap.size = w.heap.size := by rw [hheap]; simp
  have hne : ∀ {u : Nat}, u ≠ b → w'.heap[u]? = w.heap[u]? := by
    intro u hu
    rw [hheap, Array.getElem?_setIfInBounds_ne (by omega)]
  have heq : w'.heap[b]? = some (.cells c' k.elem fz) := by rw [hheap]; simp [hlt.2]
  have old : ∀ {j : Nat} {l : Blk}, j ≠ m.length → (m.set i (dead k) ++ [(⟨(k.cells.drop o).take q ++ new, k.elem, z, k.frz - o, .own⟩ : Blk)])[j]? = some l → j < m.length ∧ ((j = i ∧ l = dead k) ∨ (j ≠ i ∧ m[j]? = some l)) := by
    intro j l hj hl
    have hjl : j < m.length := by
      have := (List.getElem?_eq_some_iff.1 hl).1
      simp at this; omega
    refine ⟨hjl, ?_⟩
    rw [List.getElem?_append_left (by simpa using hjl)] at hl
    by_cases e : j = i
    · subst e
      rw [List.getElem?_set_self hjl] at hl
      simp at hl; exact .inl ⟨rfl, hl.symm⟩
    · rw [List.getElem?_set_ne (by omega)] at hl
      exact .inr ⟨e, hl⟩
  refine ⟨⟨?_, ?_, ?_, by rw [hhs]; exact h.base⟩, ?_, by simp, ?_, ?_, by omega, g1, g2, g3⟩
  · intro j x hx
    split at hx
    · simp; omega
    · have := h.dom j x hx; simp; omega
  · intro j l b' d' t' z' hl hj
    split at hj
    · rename_i e
      subst e
      simp at hj
      obtain ⟨rfl, rfl, rfl, rfl⟩ := hj
      simp at hl
      subst hl
      refine ⟨h0, rfl, c', fz, heq, by rw [hsz]; exact ht, by simp; omega, ?_, ?_, fun e0 hp => by
        obtain ⟨q0, n0⟩ := hz0 e0
        exfalso
        simp only [List.length_append, List.length_take, q0, n0] at hp
        omega, h5⟩
      · intro j v hv
        simp only [] at hv
        by_cases hjq : j < q
        · rw [List.getElem?_append_left (by simp; omega)] at hv
          have hv' : k.cells[o + j]? = some v := by
            rw [List.getElem?_take] at hv
            rw [if_pos hjq, List.getElem?_drop] at hv; exact hv
          obtain ⟨v', e, p⟩ := h3 (o + j) v hv'
          refine ⟨v', ?_, p.mono hle⟩
          rw [hget, if_neg (by omega), ← e]; congr 1; omega
        · rw [List.getElem?_append_right (by simp; omega)] at hv
          have hl : (List.take q (List.drop o k.cells)).length = q := by simp; omega
          rw [hl] at hv
          obtain ⟨v', e, p⟩ := hn.get hv
          have hjl := (List.getElem?_eq_some_iff.1 hv).1
          refine ⟨v', ?_, p.mono hle⟩
          rw [hget, if_pos (by omega), ← e]; congr 1; omega
      · intro x hx hx2
        simp only [] at hx
        exact h4 x (by omega) (by omega)
    · rename_i e
      obtain ⟨hjl, hold⟩ := old e hl
      rcases hold with ⟨rfl, rfl⟩ | ⟨hji, hm⟩
      · simp [Bears, dead]
      · have hb := h.blk j l b' d' t' z' hm hj
        refine (hb.mono hle).congr fun hl => hne ?_
        intro hbb
        subst hbb
        unfold Bears at hb
        split at hb
        · rename_i e; exact absurd e hl
        · rename_i e; exact hji (h.inj j i l k b' _ _ hm hk e ho hj hi)
        · obtain ⟨h0', _⟩ := hb; omega
  · intro j1 j2 k1 k2 u x y hk1 hk2 ho1 ho2 hr1 hr2
    split at hr1 <;> split at hr2
    · omega
    · rename_i e1 e2
      simp at hr1
      obtain ⟨rfl, rfl⟩ := hr1
      obtain ⟨_, hold⟩ := old e2 hk2
      rcases hold with ⟨rfl, rfl⟩ | ⟨hji, hm⟩
      · simp [dead] at ho2
      · exact absurd (h.inj j2 i k2 k b _ _ hm hk ho2 ho hr2 hi) hji
    · rename_i e1 e2
      simp at hr2
      obtain ⟨rfl, rfl⟩ := hr2
      obtain ⟨_, hold⟩ := old e1 hk1
      rcases hold with ⟨rfl, rfl⟩ | ⟨hji, hm⟩
      · simp [dead] at ho1
      · exact absurd (h.inj j1 i k1 k b _ _ hm hk ho1 ho hr1 hi) hji
    · rename_i e1 e2
      obtain ⟨_, hold1⟩ := old e1 hk1
      obtain ⟨_, hold2⟩ := old e2 hk2
      rcases hold1 with ⟨rfl, rfl⟩ | ⟨hji1, hm1⟩
      · simp [dead] at ho1
      · rcases hold2 with ⟨rfl, rfl⟩ | ⟨hji2, hm2⟩
        · simp [dead] at ho2
        · exact h.inj j1 j2 k1 k2 u x y hm1 hm2 ho1 ho2 hr1 hr2
  · intro j hj; rw [if_neg (by omega)]
  · intro u hu hn
    refine hne ?_
    intro e; subst e
    exact hn ⟨i, k, _, hk, ho, hi⟩
  · rintro u hu ⟨j, l, x, hl, hlo, hj⟩
    replace hj : (if j = m.length then some (b, d + o, t, z) else r j) = some (u, x) := hj
    split at hj
    · simp at hj
      obtain ⟨rfl, rfl⟩ := hj
      exact ⟨i, k, _, hk, ho, hi⟩
    · rename_i e
      obtain ⟨_, hold⟩ := old e hl
      rcases hold with ⟨rfl, rfl⟩ | ⟨hji, hm⟩
      · simp [dead] at hlo
      · exact ⟨j, l, x, hm, hlo, hj⟩

def isIntD : TypeDesc → Bool
  | .int _ => true
  | _ => false

theorem zeroCells_length (zc : Array Value) (n : Nat) : (Builtin.zeroCells zc n).size = n * zc.size := by simp [Builtin.zeroCells]

/-- What is appended, read off the world. -/
theorem newCells_run (h : MR base r m w) {sz k : Nat} {y y' : Value} {new : List Value} (hy : VR r y y') (hl : lenV y = some k) (hn : newCells m sz y = some new) :
    ∃ new', (Builtin.firstCells sz k y').run P w = .ok new'.toArray w ∧ F2 (CR r) new new' ∧ new.length = k * sz ∧ (Builtin.lenOf y').run P w = .ok k w := by
  unfold newCells at hn
  split at hn
  · rename_i s
    split at hn
    case isFalse => simp at hn
    rename_i hs1
    subst hs1
    simp at hn; subst hn
    simp [lenV] at hl; subst hl
    obtain rfl := hy.string_inv
    refine ⟨byteCells s.data.toList, ?_, byteCells_rel _, by simp [byteCells_length], by simp [Builtin.lenOf]⟩
    have e : (s.extract 0 s.size).data = s.data := by rw [ByteArray.extract_zero_size]
    simp only [Builtin.firstCells, Sem.run_pure, e]
    congr 1
    apply Array.ext'; simp [byteCells]
  · rename_i n n'
    simp at hn; subst hn
    have : y' = .slice none 0 0 ∧ n = 0 := by rcases hy with ⟨⟨⟨hy⟩⟩⟩; cases hy; exact ⟨rfl, rfl⟩
    obtain ⟨rfl, rfl⟩ := this
    simp [lenV] at hl; subst hl
    exact ⟨[], by simp [Builtin.firstCells], .nil, by simp, by simp [Builtin.lenOf]⟩
  · rename_i i o n n'
    obtain ⟨rfl, b, d, t, z, c, A, hri, hnc, hA, rfl⟩ := hy.slice_inv
    simp [lenV] at hl; subst hl
    unfold orNil at hn
    split at hn
    · rename_i hc
      simp only [Option.some.injEq] at hn; subst hn
      obtain ⟨cs', hrun, hf, hlen⟩ := slice_cells (P := P) h hri hA hnc (fun h0 => by intro e; subst e; simp at h0) hc
      exact ⟨cs', by simp only [Builtin.firstCells]; exact hrun, hf, hlen, by simp [Builtin.lenOf]⟩
    · split at hn
      · rename_i h0
        simp only [Option.some.injEq] at hn; subst hn
        exact ⟨[], by simp only [Builtin.firstCells, h0]; simp [loadCells, loadCellsFrom], .nil, by rw [h0]; rfl, by simp [Builtin.lenOf]⟩
      · cases hn
  · simp at hn

theorem run_append_in {tS tX ty e sz n c k : Nat} {te : TypeInfo} {dX : TypeDesc} {base' : Option Addr} {y' : Value} {new' : List Value} {w' : World} (hS : P.underlying tS = some (.slice e)) (hX : P.underlying tX = some dX) (hdX : isIntD dX = false) (hte : P.info? e = some te) (hsz : te.size = sz)
    (hl : (Builtin.lenOf y').run P w = .ok k w) (hf : (Builtin.firstCells sz k y').run P w = .ok new'.toArray w) (hfit : n + k ≤ c)
    (hst : (match base' with | some a => storeCells (a.add (n * sz)) new' | none => pure ()).run P w = .ok () w') :
    (Builtin.append_ #[tS, tX] ty #[.slice base' n c, y']).run P w = .ok (.slice base' (n + k) c) w' := by
  cases dX with
  | int k => cases hdX
  | _ =>
    simp only [Builtin.append_, List.getElem?_toArray, List.getElem?_cons_zero, List.getElem?_cons_succ, Sem.run_bind, run_und hS, run_und hX, Result.andThen_ok, run_size hte, hsz, Sem.run_pure, Bool.false_eq_true, if_false, hl, if_pos hfit, Bool.not_false, if_true, hf]
    cases base' with
    | none =>
      simp only [Sem.run_pure, Result.ok.injEq] at hst ⊢
      exact ⟨trivial, hst.2⟩
    | some a =>
      simp only at hst
      simp only [Sem.run_bind, hst, Result.andThen_ok, Sem.run_pure]

theorem room_array (a b : List Value) (c : Array Value) : a.toArray ++ b.toArray ++ c = (a ++ b ++ c.toList).toArray := by
  apply Array.ext'; simp

theorem run_append_out {tS tX ty e sz n c k : Nat} {te : TypeInfo} {zv : Value} {dX : TypeDesc} {base' : Option Addr} {y' : Value} {old' new' : List Value} (hS : P.underlying tS = some (.slice e)) (hX : P.underlying tX = some dX) (hdX : isIntD dX = false) (hte : P.info? e = some te) (hsz : te.size = sz) (hz : te.zero = some zv)
    (hl : (Builtin.lenOf y').run P w = .ok k w) (hf : (Builtin.firstCells sz k y').run P { w with drawn := w.drawn + 1 } = .ok new'.toArray { w with drawn := w.drawn + 1 }) (ho : (Builtin.firstCells sz n (.slice base' n c)).run P { w with drawn := w.drawn + 1 } = .ok old'.toArray { w with drawn := w.drawn + 1 })
    (hgt : c < n + k) (hlim : (n + k) * (te.bytes + 1) ≤ 140737488355328) :
    ∃ cap, n + k ≤ cap ∧ (Builtin.append_ #[tS, tX] ty #[.slice base' n c, y']).run P w = .ok (.slice (some ⟨w.heap.size, 0, none⟩) (n + k) cap) (World.alloc { w with drawn := w.drawn + 1 } (.cells (old' ++ new' ++ (Builtin.zeroCells zv.cells (cap - (n + k))).toList).toArray e)) := by
  refine ⟨(Question.appendCap (n + k) c e).cut (w.tape w.drawn (.appendCap (n + k) c e)), by simp [Question.cut], ?_⟩
  have h1 : n + k ≤ (n + k) * (te.bytes + 1) := by rw [Nat.mul_add]; omega
  have h2 : (n + k) * te.bytes ≤ 140737488355328 := Nat.le_trans (Nat.mul_le_mul_left _ (by omega)) hlim
  have h3 := growslice_fits hgt h2
  have hfc : (Question.appendCap (n + k) c e).forced = false := rfl
  cases dX with
  | int k => cases hdX
  | _ =>
    simp only [Builtin.append_, List.getElem?_toArray, List.getElem?_cons_zero, List.getElem?_cons_succ, Sem.run_bind, run_und hS, run_und hX, Result.andThen_ok, run_size hte, hsz, Sem.run_pure, Bool.false_eq_true, if_false, hl, if_neg (show ¬ n + k ≤ c by omega), Bool.not_false, if_true, run_info hte]
    rw [if_neg (by rw [show IntKind.i64.max = 9223372036854775807 from by decide]; omega)]
    simp only [Sem.run_bind, Result.andThen_ok, run_info hte]
    rw [if_neg (by omega)]
    simp only [Sem.run_bind, Result.andThen_ok, run_choose, hfc, Bool.false_eq_true, if_false, run_info hte, run_askRoom, ho, hf, run_zero hte hz, newRow, run_newObj]
    rw [← room_array]
    rfl

theorem runs_append (h : MR base r m w) {K : Value → Mem → Prop} {tS tX ty e : Nat} {te : TypeInfo} {zv : Value} {dX : TypeDesc} {x x' y y' : Value} (hS : P.underlying tS = some (.slice e)) (hX : P.underlying tX = some dX) (hdX : isIntD dX = false) (hte : P.info? e = some te) (hz : te.zero = some zv) (hzs : zv.cells.size = te.size)
    (hx : VR r x x') (hy : VR r y y') {k : Nat} {new : List Value} (hl : lenV y = some k) (hn : newCells m te.size y = some new)
    (hk : apK m K e te.size te.bytes k new x) : Runs P (Builtin.append_ #[tS, tX] ty #[x', y']) w base r m K := by
  have hd := Stp.drew h
  obtain ⟨new', hf, hnr, hnl, hlen⟩ := newCells_run (P := P) h hy hl hn
  unfold apK at hk
  split at hk
  · -- a nil slice
    rename_i n n'
    have : x' = .slice none 0 0 ∧ n = 0 := by rcases hx with ⟨⟨⟨hx⟩⟩⟩; cases hx; exact ⟨rfl, rfl⟩
    obtain ⟨rfl, rfl⟩ := this
    obtain ⟨hlim, hk⟩ := hk
    split at hk
    · rename_i hk0
      subst hk0
      exact .of_pure h (.atom .nilSlice) hk (run_append_in (n := 0) (c := 0) (k := 0) hS hX hdX hte rfl hlen hf (Nat.le_refl _) rfl)
    · rename_i hk0
      obtain ⟨new2, hf2, hnr2, _, _⟩ := newCells_run (P := P) hd.mr hy hl hn
      have ho : (Builtin.firstCells te.size 0 (.slice none 0 0)).run P { w with drawn := w.drawn + 1 } = .ok ([] : List Value).toArray { w with drawn := w.drawn + 1 } := by simp [Builtin.firstCells]
      obtain ⟨cap, hcap, hrun⟩ := run_append_out (P := P) (w := w) (ty := ty) (n := 0) (c := 0) (old' := []) hS hX hdX hte rfl hz hlen hf2 ho (by omega) (by simpa using hlim)
      have hs := Stp.allocRoom hd.mr e te.size 0 hnr2 (Builtin.zeroCells zv.cells (cap - (0 + k))).toList (fun e0 => by rw [hnl, e0, Nat.mul_zero])
      simp only [Nat.zero_add, List.nil_append] at hrun hs
      refine ⟨_, _, hrun, _, _, _, hk, ?_, hd.trans hs⟩
      refine .atom (.slice (b := w.heap.size) (d := 0) (t := (new2 ++ (Builtin.zeroCells zv.cells (cap - k)).toList).length) (z := te.size) (by simp) (by omega) (.inr ⟨rfl, ?_⟩))
      simp only [List.length_append, ← hnr2.length, hnl, Array.length_toList, zeroCells_length, hzs, ← Nat.add_mul]
      rw [show k + (cap - k) = cap by omega]; omega
  · -- a slice of a block
    rename_i b o n n'
    obtain ⟨rfl, p, d, t, z, c, A, hri, hnc, hA, rfl⟩ := hx.slice_inv
    · obtain ⟨blk, hm, ⟨c1, c2, c3, c4, c5⟩, hk⟩ := hk
      split at hk
      · rename_i hk0
        subst hk0
        refine .of_pure h (v' := .slice (some A) n' c) (.atom (.slice hri hnc hA)) hk ?_
        have hnil : new' = [] := by
          have := hnr.length
          rw [hnl] at this
          simp at this
          exact List.eq_nil_of_length_eq_zero this.symm
        subst hnil
        exact run_append_in (n := n') (c := c) (k := 0) hS hX hdX hte rfl hlen hf (by omega) rfl
      · rename_i hk0
        obtain ⟨g1, g2, g3⟩ := c4 hk0
        have hbl := h.blk _ blk _ _ _ _ hm hri
        unfold Bears at hbl
        rw [Kind.own_of g1] at hbl
        obtain ⟨_, hez, cc, fz, hhb, ht, hlen2, _, _⟩ := hbl
        obtain rfl : z = te.size := by rw [← hez]; exact c2
        by_cases hfit : n' + k ≤ c
        · -- in place
          have hA' : A = ⟨p, d + o, none⟩ ∧ d + o + c * te.size ≤ t := by rcases hA with h0 | h0; (exfalso; omega); exact h0
          obtain ⟨rfl, hbd⟩ := hA'
          have hmul : n' * te.size + k * te.size ≤ c * te.size := by rw [← Nat.add_mul]; exact Nat.mul_le_mul_right _ hfit
          obtain ⟨w', hst, hs⟩ := Stp.inplace (P := P) h hri hm (Kind.own_of g1) c3 g3 hnr (by rw [hnl]; omega) (fun e0 => ⟨by rw [e0, Nat.mul_zero], by rw [hnl, e0, Nat.mul_zero]⟩) ⟨p, d + o + n' * te.size, none⟩ rfl
          rw [g2] at hs
          refine ⟨_, w', run_append_in (n := n') (c := c) (k := k) hS hX hdX hte rfl hlen hf hfit (by simp only [add_none]; exact hst), _, _, _, hk, ?_, hs⟩
          exact .atom (.slice (b := p) (d := d + o) (t := t) (z := te.size) (by simp) hfit (.inr ⟨by simp, by simpa using hbd⟩))
        · -- a new block
          obtain ⟨new2, hf2, hnr2, _, _⟩ := newCells_run (P := P) hd.mr hy hl hn
          have hcs : cells? m b o (n' * te.size) = some ((blk.cells.drop o).take (n' * te.size)) := by
            simp only [cells?, hm]; rw [if_pos ⟨c1, c3⟩]
          obtain ⟨old2, ho2, hor2, hol⟩ := slice_cells (P := P) hd.mr hri hA hnc (fun h0 => by intro e; subst e; simp at h0) hcs
          have ho : (Builtin.firstCells te.size n' (.slice (some A) n' c)).run P { w with drawn := w.drawn + 1 } = .ok old2.toArray { w with drawn := w.drawn + 1 } := by simp only [Builtin.firstCells]; exact ho2
          obtain ⟨cap, hcap, hrun⟩ := run_append_out (P := P) (w := w) (ty := ty) (n := n') (c := c) (old' := old2) hS hX hdX hte rfl hz hlen hf2 ho (by omega) c5
          have hs := Stp.allocRoom hd.mr e te.size (blk.frz - o) (hor2.append hnr2) (Builtin.zeroCells zv.cells (cap - (n' + k))).toList (fun e0 => by simp [hnl, e0])
          have hs2 := Stp.kill hs.mr b (dead blk) rfl
          have hbl' : b < m.length := h.dom _ _ hri
          rw [List.set_append_left _ _ hbl'] at hs2
          refine ⟨_, _, hrun, _, _, _, hk, ?_, (hd.trans hs).trans hs2⟩
          refine .atom (.slice (b := w.heap.size) (d := 0) (t := (old2 ++ new2 ++ (Builtin.zeroCells zv.cells (cap - (n' + k))).toList).length) (z := te.size) (by simp) hcap (.inr ⟨rfl, ?_⟩))
          simp only [List.length_append, ← hnr2.length, ← hor2.length, hnl, hol, Array.length_toList, zeroCells_length, hzs, ← Nat.add_mul]
          rw [show n' + k + (cap - (n' + k)) = cap by omega]; omega
  · exact hk.elim

end Go.Lg
