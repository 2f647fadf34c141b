/- slices.Delete at the entries of the list, as a call said of the logical memory. -/
import Derived.Test.YtijndljfpiomhaaDoorPA
import Derived.Test.YtijndljfpiomhaaDoorDD
set_option linter.unusedSimpArgs false
set_option linter.unnecessarySimpa false
set_option linter.unusedVariables false
namespace Go.Proofs.YtijndljfpiomhaaDoor
open Go.Lg Go.RowKit
theorem setCells_heap {b : Nat} {T : TypeId} {fz : Nat × Nat} : ∀ (vs : List Value) (o : Nat) (c : Array Value) (w : World), w.heap[b]? = some (.cells c T fz) → o + vs.length ≤ c.size →
    ∃ c', (w.setCells b o vs).heap = w.heap.setIfInBounds b (.cells c' T fz) ∧ c'.size = c.size ∧ (∀ x, c'[x]? = if o ≤ x ∧ x < o + vs.length then vs[x - o]? else c[x]?) ∧ (w.setCells b o vs).os = w.os ∧ (w.setCells b o vs).tape = w.tape ∧ (w.setCells b o vs).output = w.output := by
  intro vs
  induction vs with
  | nil =>
    intro o c w hb _
    refine ⟨c, ?_, rfl, fun x => by rw [if_neg (by simp)], rfl, rfl, rfl⟩
    show w.heap = _
    apply Array.ext_getElem?
    intro i
    rw [Array.getElem?_setIfInBounds]
    split
    · rename_i e; subst e
      split
      · exact hb
      · rename_i h; rw [Array.getElem?_eq_none (by omega)]
    · rfl
  | cons v vs ih =>
    intro o c w hb hlen
    simp at hlen
    obtain ⟨c', hheap, hsz, hget, h1, h2, h3⟩ := ih (o + 1) (c.setIfInBounds o v) (w.setCell ⟨b, o, none⟩ v) (heap_setCell_eq hb) (by simp; omega)
    refine ⟨c', ?_, by simpa using hsz, ?_, h1, h2, h3⟩
    · show ((w.setCell ⟨b, o, none⟩ v).setCells b (o + 1) vs).heap = _
      rw [hheap]
      apply Array.ext_getElem?
      intro i
      have hs : (w.setCell ⟨b, o, none⟩ v).heap.size = w.heap.size := by simp
      rw [Array.getElem?_setIfInBounds, Array.getElem?_setIfInBounds, hs]
      split
      · rfl
      · rename_i hne; exact heap_setCell_ne (by simp; omega)
    · intro x
      rw [hget x]
      simp only [List.length_cons]
      by_cases e0 : x = o
      · subst e0
        rw [if_neg (by omega), if_pos (by omega)]
        have : x < c.size := by omega
        simp [this]
      · by_cases e1 : o ≤ x ∧ x < o + (vs.length + 1)
        · rw [if_pos (by omega), if_pos e1, show x - o = (x - (o + 1)) + 1 by omega, List.getElem?_cons_succ]
        · rw [if_neg (by omega), if_neg e1, Array.getElem?_setIfInBounds_ne (by omega)]
theorem Stp.renew {base : Nat} {r : Rho} {m : Mem} {w w' : World} (h : MR base r m w) {i b d t z : Nat} {k k' : Blk} (hi : r i = some (b, d, t, z)) (hk : m[i]? = some k) (ho : k.kind = .own) (ho' : k'.kind = .own) {o' : Obj}
    (hheap : w'.heap = w.heap.setIfInBounds b o') (hb : Bears r base k' b d t z (some o')) (g1 : w'.os = w.os) (g2 : w'.tape = w.tape) (g3 : w'.output = w.output) : Stp base r m w r (m.set i k') w' := by
  obtain ⟨hb0, hb1⟩ := h.own_lt hi hk ho
  have hil : i < m.length := h.dom _ _ hi
  have hne : ∀ {u : Nat}, u ≠ b → w'.heap[u]? = w.heap[u]? := by
    intro u hu
    rw [hheap, Array.getElem?_setIfInBounds_ne (by omega)]
  have heq : w'.heap[b]? = some o' := by rw [hheap]; simp [hb1]
  have keep : ∀ {j : Nat} {l : Blk}, (m.set i k')[j]? = some l → ∃ l', m[j]? = some l' ∧ l'.kind = l.kind ∧ (j ≠ i → l' = l) := by
    intro j l hl
    by_cases e : i = j
    · subst e
      rw [List.getElem?_set_self hil] at hl
      simp at hl; subst hl; exact ⟨k, hk, ho.trans ho'.symm, fun e => absurd rfl e⟩
    · rw [List.getElem?_set_ne e] at hl
      exact ⟨l, hl, rfl, fun _ => rfl⟩
  refine ⟨⟨?_, ?_, ?_, ?_⟩, fun _ _ => rfl, by simp, ?_, ?_, ?_, g1, g2, g3⟩
  · intro j x hx; simpa using h.dom j x hx
  · intro j l b' d' t' z' hl hj
    by_cases hji : j = i
    · subst hji
      rw [hi] at hj
      simp at hj
      obtain ⟨rfl, rfl, rfl, rfl⟩ := hj
      simp [hil] at hl
      subst hl
      rw [heq]
      exact hb
    · obtain ⟨l', hl', hkk, hee⟩ := keep hl
      obtain rfl := hee hji
      refine (h.blk j l' b' d' t' z' hl' hj).congr fun hdead => hne ?_
      intro e
      subst e
      have hb := h.blk j l' b' d' t' z' hl' hj
      unfold Bears at hb
      split at hb
      · rename_i e; exact absurd e hdead
      · rename_i e; exact hji (h.inj j i l' k b' _ _ hl' hk e ho hj hi)
      · obtain ⟨h0, _⟩ := hb; omega
  · intro a c ka kc b' x y ha hc hka hkc hra hrc
    obtain ⟨ka', ha', e1, _⟩ := keep ha
    obtain ⟨kc', hc', e2, _⟩ := keep hc
    exact h.inj a c ka' kc' b' x y ha' hc' (e1.trans hka) (e2.trans hkc) hra hrc
  · rw [hheap]; simpa using h.base
  · intro b' hb' hn
    refine hne ?_
    intro e; subst e
    exact hn ⟨i, k, _, hk, ho, hi⟩
  · rintro b' hb' ⟨j, l, d', hl, hlo, hj⟩
    obtain ⟨l', hl', e1, _⟩ := keep hl
    exact ⟨j, l', d', hl', e1.trans hlo, hj⟩
  · rw [hheap]; simp
theorem flat_erase {sz i : Nat} {l : List (List Value)} (hr : ∀ r ∈ l, r.length = sz) (hi : i < l.length) (y : Nat) : (l.eraseIdx i).flatten[y]? = if y < i * sz then l.flatten[y]? else l.flatten[y + sz]? := by
  have hfl := flat_len hr
  have hc : (l.flatten.drop 0).take (l.length * sz) = l.flatten := by rw [List.drop_zero, List.take_of_length_le (by omega)]
  have e1 := take_rows (i := i) hr hc (by omega)
  have e2 := drop_rows (i := i + 1) hr hc (by omega)
  rw [List.length_take, Nat.min_eq_left (by omega), List.drop_zero] at e1
  rw [List.length_drop, Nat.zero_add, List.take_of_length_le (by rw [List.length_drop, hfl, Nat.sub_mul]; omega)] at e2
  rw [List.eraseIdx_eq_take_drop_succ, List.flatten_append, ← e1, ← e2]
  have hle : i * sz ≤ l.flatten.length := by rw [hfl]; exact Nat.mul_le_mul_right _ (by omega)
  by_cases hy : y < i * sz
  · rw [if_pos hy, List.getElem?_append_left (by rw [List.length_take]; omega), List.getElem?_take_of_lt hy]
  · rw [if_neg hy, List.getElem?_append_right (by rw [List.length_take]; omega), List.length_take, Nat.min_eq_left hle, List.getElem?_drop]
    congr 1
    rw [Nat.add_mul]; omega
theorem del_cells {r : Rho} {cs : List Value} {l : List (List Value)} {c c1 c2 : Array Value} {news : List Value} {o d i : Nat} (hrl : ∀ r ∈ l, r.length = 6) (hi : i < l.length) (ho : o ≤ cs.length)
    (h3 : ∀ j v, cs[j]? = some v → ∃ v', c[d + j]? = some v' ∧ CR r v v') (hbw : ∀ y, y < l.length * 6 → ∃ v v', l.flatten[y]? = some v ∧ c[d + o + y]? = some v' ∧ CR r v v')
    (hng : ∀ x, x < (l.length - (i + 1)) * 6 → news[x]? = c[d + o + (i + 1) * 6 + x]?) (hnl : news.length = (l.length - (i + 1)) * 6)
    (hg1 : ∀ x, c1[x]? = if d + o + i * 6 ≤ x ∧ x < d + o + i * 6 + news.length then news[x - (d + o + i * 6)]? else c[x]?)
    (hg2 : ∀ x, c2[x]? = if d + o + (l.length - 1) * 6 ≤ x ∧ x < d + o + (l.length - 1) * 6 + heZ.length then heZ[x - (d + o + (l.length - 1) * 6)]? else c1[x]?) :
    ∀ j v, (cs.take o ++ (l.eraseIdx i).flatten)[j]? = some v → ∃ v', c2[d + j]? = some v' ∧ CR r v v' := by
  have hez : heZ.length = 6 := rfl
  have hfe : (l.eraseIdx i).flatten.length = (l.length - 1) * 6 := by
    rw [flat_len (sz := 6) (fun x hx => hrl x (List.mem_of_mem_eraseIdx hx)), List.length_eraseIdx, if_pos hi]
  rw [hez] at hg2
  rw [hnl] at hg1
  intro j v hv
  have hot : (cs.take o).length = o := by rw [List.length_take]; omega
  by_cases hjo : j < o
  · rw [List.getElem?_append_left (by omega), List.getElem?_take_of_lt hjo] at hv
    obtain ⟨v', e, q⟩ := h3 j v hv
    exact ⟨v', by rw [hg2, if_neg (by omega), hg1, if_neg (by omega)]; exact e, q⟩
  · rw [List.getElem?_append_right (by omega), hot] at hv
    have hjl := (List.getElem?_eq_some_iff.1 hv).1
    rw [hfe] at hjl
    rw [flat_erase hrl hi] at hv
    obtain ⟨y, rfl⟩ : ∃ y, j = o + y := ⟨j - o, by omega⟩
    rw [show o + y - o = y by omega] at hv hjl
    by_cases hji : y < i * 6
    · rw [if_pos hji] at hv
      obtain ⟨v0, v', e0, e, q⟩ := hbw y (by omega)
      rw [hv] at e0
      obtain rfl : v = v0 := by simpa using e0
      refine ⟨v', ?_, q⟩
      rw [hg2, if_neg (by omega), hg1, if_neg (by omega), ← Nat.add_assoc]; exact e
    · rw [if_neg hji] at hv
      obtain ⟨v0, v', e0, e, q⟩ := hbw (y + 6) (by omega)
      rw [hv] at e0
      obtain rfl : v = v0 := by simpa using e0
      refine ⟨v', ?_, q⟩
      rw [hg2, if_neg (by omega), hg1, if_pos (by omega), hng _ (by omega), ← e]; congr 1; omega
set_option maxHeartbeats 2000000 in
theorem del_spec {m : Mem} {sv : Value} {F : List Nat} {l : List (List Value)} {i : Nat} (h : Sl m 42 6 sv F l) (hi : i < l.length) (hn : l.length ≤ 1000000) :
    LCall Tryd.prog 23 [sv, .int .i64 i, .int .i64 ((i + 1 : Nat) : Int)] m fun u M => Frm F m M ∧ Sl M 42 6 u F (l.eraseIdx i) := by
  have hrl := h.rows_len
  obtain ⟨a, rfl, hform⟩ := h.form
  obtain ⟨b, o, cs, rfl, rfl, hb, hlb, hflat, _⟩ := hform (by omega)
  have hel : (l.eraseIdx i).length = l.length - 1 := by rw [List.length_eraseIdx, if_pos hi]
  have her : ∀ x ∈ l.eraseIdx i, x.length = 6 := fun x hx => hrl x (List.mem_of_mem_eraseIdx hx)
  have hfl := flat_len hrl
  have hfe := flat_len her
  rw [hel] at hfe
  have hcs : ∀ y, y < l.length * 6 → cs[o + y]? = l.flatten[y]? := fun y hy => by rw [← hflat, List.getElem?_take_of_lt hy, List.getElem?_drop]
  intro base r w args' hm ha
  obtain ⟨v1, vs, rfl, hv1, ha⟩ := ha.cons_inv
  obtain ⟨v2, vs, rfl, hv2, ha⟩ := ha.cons_inv
  obtain ⟨v3, vs, rfl, hv3, ha⟩ := ha.cons_inv
  obtain rfl := ha.nil_inv
  obtain rfl := hv2.int_inv
  obtain rfl := hv3.int_inv
  obtain ⟨_, p, d, t, z, cap, A, hri, hle, hA, rfl⟩ := hv1.slice_inv
  have hA' : A = ⟨p, d + o, none⟩ ∧ d + o + cap * z ≤ t := by rcases hA with h0 | h0; (exfalso; omega); exact h0
  obtain ⟨rfl, hcap⟩ := hA'
  have hbl := hm.blk b _ p d t z hb hri
  unfold Bears at hbl
  obtain ⟨h0, hz, c, fz, h1, ht, h2, h3, h4, _, h5⟩ := hbl
  simp only at hz h1 h2 h3 h4
  subst hz
  obtain ⟨news, hnews⟩ : ∃ news, news = (c.toList.drop (d + o + (i + 1) * 6)).take ((l.length - (i + 1)) * 6) := ⟨_, rfl⟩
  have hnl : news.length = (l.length - (i + 1)) * 6 := by
    have hcl : c.toList.length = c.size := Array.length_toList
    rw [hnews, List.length_take, List.length_drop, hcl]; omega
  have hng : ∀ x, x < (l.length - (i + 1)) * 6 → news[x]? = c[d + o + (i + 1) * 6 + x]? := fun x hx => by
    rw [hnews, List.getElem?_take_of_lt hx, List.getElem?_drop, Array.getElem?_toList]
  have hcell : ∀ x, w.cell? ⟨p, x, none⟩ = c[x]? := fun x => by simp [World.cell?, h1]
  have hbw : ∀ y, y < l.length * 6 → ∃ v v', l.flatten[y]? = some v ∧ c[d + o + y]? = some v' ∧ CR r v v' := fun y hy => by
    obtain ⟨v, hv⟩ : ∃ v, l.flatten[y]? = some v := ⟨l.flatten[y]'(by omega), List.getElem?_eq_getElem _⟩
    obtain ⟨v', e, q⟩ := h3 (o + y) v (by rw [hcs y hy]; exact hv)
    exact ⟨v, v', hv, by rw [← e]; congr 1; omega, q⟩
  have key := del_any p (d + o) cap l.length i (i + 1) w news rfl (by omega) (by omega) hle hnl
    (fun t u hu => by
      have ht := (List.getElem?_eq_some_iff.1 hu).1
      rw [hcell, ← hng t (by omega)]; exact hu)
    (fun u hu => by
      obtain ⟨x, hx, rfl⟩ := List.getElem_of_mem hu
      have hx' := hng x (by omega)
      obtain ⟨v, v', _, e, q⟩ := hbw ((i + 1) * 6 + x) (by omega)
      rw [List.getElem?_eq_getElem hx, show d + o + (i + 1) * 6 + x = d + o + ((i + 1) * 6 + x) by omega, e] at hx'
      simp at hx'
      rw [hx']; exact q.oneCell)
    (fun x hx => by
      obtain ⟨_, v', _, e, _⟩ := hbw x hx
      rw [hcell, e]; rfl)
    (fun x hx => by
      have := h4 (d + o + x) (by omega) (by omega)
      obtain ⟨lo, hi⟩ := fz
      simpa [World.frozen?, h1, inFz] using this)
  refine key.mono ?_
  rintro e w' ⟨rfl, rfl⟩
  obtain ⟨c1, hh1, hs1, hg1, k1, k2, k3⟩ := setCells_heap news (d + o + i * 6) c w.drew h1 (by omega)
  obtain ⟨c2, hh2, hs2, hg2, q1, q2, q3⟩ := setCells_heap heZ (d + o + (l.length - 1) * 6) c1 (w.drew.setCells p (d + o + i * 6) news) (by rw [hh1, Array.getElem?_setIfInBounds, if_pos rfl]; exact if_pos (hm.own_lt hri hb rfl).2) (by show _ + 6 ≤ _; omega)
  have hheap : ((w.drew.setCells p (d + o + i * 6) news).setCells p (d + o + (l.length - 1) * 6) heZ).heap = w.heap.setIfInBounds p (.cells c2 42 fz) := by
    rw [hh2, hh1]
    apply Array.ext_getElem?
    intro x
    simp only [Array.getElem?_setIfInBounds, Array.size_setIfInBounds]
    split <;> rfl
  have hez : heZ.length = 6 := rfl
  have hst := Stp.renew (k' := ⟨cs.take o ++ (l.eraseIdx i).flatten, 42, 6, 0, .own⟩) hm hri hb rfl rfl hheap (by
    unfold Bears
    refine ⟨h0, rfl, c2, fz, rfl, by rw [hs2, hs1]; exact ht, ?_, ?_, ?_, fun e0 => by omega, h5⟩
    · rw [List.length_append, List.length_take, hfe, hs2, hs1]; omega
    · exact del_cells hrl hi (by omega) h3 hbw hng hnl hg1 hg2
    · intro x hx hx2
      exact h4 x (by simpa using hx) (by omega)) (by rw [q1, k1]; rfl) (by rw [q2, k2]; rfl) (by rw [q3, k3]; rfl)
  refine ⟨_, rfl, .slice (some ⟨b, o, none⟩) (l.length - 1) (l.length - 1), _, r, ⟨Frm.refl.set (.inl (by simp)), ?_⟩, .atom (.slice hri (by omega) (.inr ⟨rfl, hcap⟩)), hst⟩
  have hlt := lt_of_some hb
  have hot : (cs.take o).length = o := by rw [List.length_take]; omega
  have := Sl.own (m := m.set b ⟨cs.take o ++ (l.eraseIdx i).flatten, 42, 6, 0, .own⟩) (T := 42) (sz := 6) (b := b) (o := o) (cs := cs.take o ++ (l.eraseIdx i).flatten) (rows := l.eraseIdx i) (by rw [List.getElem?_set_self hlt]) her
    (by rw [List.drop_append_of_le_length (by omega), List.drop_of_length_le (by omega), List.nil_append, List.take_of_length_le (by rw [hfe, hel]; exact Nat.le_refl _)])
    (by rw [List.length_append, hot, hfe, hel]; exact Nat.le_refl _)
  rw [hel] at this
  exact this
end Go.Proofs.YtijndljfpiomhaaDoor
/- The last digipeater of a path; the list read whole; an entry put into an empty list: walked. -/
namespace Go.Proofs.YtijndljfpiomhaaDoor
open Go.Lg
set_option maxRecDepth 8000
set_option maxHeartbeats 8000000
theorem _root_.Go.Lg.Frm.ext0 {m M : Mem} (h : Frm [] m M) : ext m M := h.ext (by simp)
def En.cl (e : En) : Cl := ⟨e.b, e.s⟩
def viaL (l : List En) : Cl := l.foldl (fun c d => if d.k then d.cl else c) ⟨[], 0⟩
theorem viaL_snoc {l : List En} {j : Nat} {e : En} (h : l[j]? = some e) : viaL (l.take (j + 1)) = if e.k then e.cl else viaL (l.take j) := by
  unfold viaL; rw [take_snoc h, List.foldl_append]; rfl
theorem pvia_spec {tb : List UInt8} {ts : Int} {fb : List UInt8} {fs : Int} {tm fm : Bool} {dv : Value} {l : List En} {m : Mem} (h : Rd m 3 dv (l.map En.row)) (hn : l.length ≤ 1000000) :
    Ret Tryd.prog 24 [pathV tb ts fb fs tm fm dv] m (.agg #[str (viaL l).b, .int .i64 (viaL l).s]) m := by
  obtain ⟨a, rfl, hform⟩ := h
  simp only [List.length_map] at hform ⊢
  refine LCall_drop (LCall_enter Tryd.func24 c24 ?_)
  simp (contextual := true) (implicitDefEqProofs := false) (maxSteps := 2000000) (disch := first | rfl | exact NB rfl | omega | (simp only [XL]; omega)) only [L24, XW, undef_eq, Nat.reduceAdd, Nat.reduceSub, ↓reduceIte, basic, cellsL, resOf, setAt, below, belowB, belowA, atomB, Nat.reduceLeDiff, Nat.reduceMul, Int.reduceToNat, Int.reduceLT, Int.reduceLE, Int.reduceAdd, Int.reduceNeg, Int.reduceEq, splice, Nat.reduceEqDiff, Nat.reduceLT, isAtom, Int.reduceSub, Int.reduceMul, implies_true]
  obtain ⟨M0, hM, hml, hf0, hb1, hb2⟩ : ∃ N, m ++ [⟨[str tb, .int .i64 ts, str fb, .int .i64 fs, .bool tm, .bool fm, .slice a l.length l.length], 30, 1, 0, .own⟩, ⟨[.string ⟨#[]⟩, .int .i64 0], 27, 1, 0, .own⟩, ⟨[.string ⟨#[]⟩, .int .i64 0], 27, 1, 0, .own⟩] = N ∧ N.length = m.length + 3 ∧ Frm [] m N ∧
      N[m.length + 1]? = some ⟨[.string ⟨#[]⟩, .int .i64 0], 27, 1, 0, .own⟩ ∧ N[m.length + 2]? = some ⟨[.string ⟨#[]⟩, .int .i64 0], 27, 1, 0, .own⟩ := ⟨_, rfl, by simp, Frm.refl.app, by rw [List.getElem?_append_right (by omega)]; simp, by rw [List.getElem?_append_right (by omega)]; simp⟩
  rw [hM]
  clear hM
  refine loop_inv (fun n t M => ∃ (j : Nat), n = l.length - j ∧ j ≤ l.length ∧ Frm [m.length + 2] M0 M ∧ M[m.length + 2]? = some ⟨[str (viaL (l.take j)).b, .int .i64 (viaL (l.take j)).s], 27, 1, 0, .own⟩ ∧
    Tab 19 [(2, .pointer (some ⟨m.length + 1, 0, none⟩)), (3, .pointer (some ⟨m.length + 2, 0, none⟩)), (7, .slice a l.length l.length), (8, .int .i64 (l.length : Int)), (9, .int .i64 (j : Int))] t) (n := l.length) ?_ ?_
  · exact ⟨0, rfl, Nat.zero_le _, Frm.refl, hb2, ⟨rfl, by simp⟩⟩
  rintro N t M ⟨j, rfl, hj, hfr, hbv, ht⟩
  obtain ⟨f, rfl⟩ : ∃ f' : Nat → Value, t = [f' 0, f' 1, .pointer (some ⟨m.length + 1, 0, none⟩), .pointer (some ⟨m.length + 2, 0, none⟩), f' 4, f' 5, f' 6, .slice a l.length l.length, .int .i64 (l.length : Int), .int .i64 (j : Int), f' 10, f' 11, f' 12, f' 13, f' 14, f' 15, f' 16, f' 17, f' 18] := ht.open fun f' => rfl
  have l0 := lt_of_some hbv
  have hbr := hfr.get hb1 (by simp)
  have l1 := lt_of_some hbr
  have hfm : Frm [] m M := hf0.trans hfr fun x hx => .inr (by simp at hx; omega)
  by_cases hlt : j < l.length
  · have hlt' : ((j : Int) < (l.length : Int)) = True := by simp [hlt]
    have h0' : ((0 : Int) ≤ (j : Int)) = True := by simp
    have hwj : IntKind.i64.wrap ((j : Int) + 1) = ((j + 1 : Nat) : Int) := by rw [wrap_i64 (by omega) (by omega)]; omega
    obtain ⟨b, o, cs, T, fz, kd, rfl, hb, hk, hl, hrow⟩ := hform (by omega)
    obtain ⟨e, he⟩ : ∃ r, l[j]? = some r := ⟨l[j], List.getElem?_eq_getElem hlt⟩
    have hr : (cs.drop (o + j * 3)).take 3 = [str e.b, .int .i64 e.s, .bool e.k] := hrow j e.row (by simp [he])
    have hlen : o + j * 3 + 3 ≤ cs.length := by omega
    have hbM := hfm.get0 hb
    have l2 := lt_of_some hbM
    have hv := viaL_snoc he
    cases hek : e.k with
    | true =>
      rw [hek, if_pos rfl] at hv
      rw [hek] at hr
      simp (contextual := true) (implicitDefEqProofs := false) (maxSteps := 2000000) (disch := first | rfl | exact NB rfl | omega | (simp only [XL]; omega)) only [hbM, hbv, hlt', h0', hr, cellsB_l hk hlen, Int.toNat_natCast, XW, undef_eq, Nat.reduceAdd, Nat.reduceSub, ↓reduceIte, basic, cellsL, resOf, setAt, below, belowB, belowA, atomB, Nat.reduceLeDiff, Nat.reduceMul, Int.reduceToNat, Int.reduceLT, Int.reduceLE, Int.reduceAdd, Int.reduceNeg, Int.reduceEq, splice, Nat.reduceEqDiff, Nat.reduceLT, isAtom, Int.reduceSub, Int.reduceMul, implies_true]
      exact kInv_go ⟨j + 1, rfl, by omega, (hfr.set (i := m.length + 2) (.inl (by simp))).app, by rw [List.getElem?_append_left (by simpa using l0), List.getElem?_set_self l0, hv]; rfl, ⟨rfl, by simp [hwj]⟩⟩ (by omega)
    | false =>
      rw [hek, if_neg (by decide)] at hv
      rw [hek] at hr
      simp (contextual := true) (implicitDefEqProofs := false) (maxSteps := 2000000) (disch := first | rfl | exact NB rfl | omega | (simp only [XL]; omega)) only [hbM, hbv, hlt', h0', hr, cellsB_l hk hlen, Int.toNat_natCast, XW, undef_eq, Nat.reduceAdd, Nat.reduceSub, ↓reduceIte, basic, cellsL, resOf, setAt, below, belowB, belowA, atomB, Nat.reduceLeDiff, Nat.reduceMul, Int.reduceToNat, Int.reduceLT, Int.reduceLE, Int.reduceAdd, Int.reduceNeg, Int.reduceEq, splice, Nat.reduceEqDiff, Nat.reduceLT, isAtom, Int.reduceSub, Int.reduceMul, implies_true]
      exact kInv_go ⟨j + 1, rfl, by omega, hfr.app, by rw [List.getElem?_append_left l0, hv]; exact hbv, ⟨rfl, by simp [hwj]⟩⟩ (by omega)
  · have hlt' : ((j : Int) < (l.length : Int)) = False := by simp; omega
    rw [List.take_of_length_le (by omega)] at hbv
    simp (contextual := true) (implicitDefEqProofs := false) (maxSteps := 2000000) (disch := first | rfl | exact NB rfl | omega | (simp only [XL]; omega)) only [hlt', hbv, hbr, XW, undef_eq, Nat.reduceAdd, Nat.reduceSub, ↓reduceIte, basic, cellsL, resOf, setAt, below, belowB, belowA, atomB, Nat.reduceLeDiff, Nat.reduceMul, Int.reduceToNat, Int.reduceLT, Int.reduceLE, Int.reduceAdd, Int.reduceNeg, Int.reduceEq, splice, Nat.reduceEqDiff, Nat.reduceLT, isAtom, Int.reduceSub, Int.reduceMul, implies_true]
    exact (hfm.set (i := m.length + 1) (.inr (by omega))).ext0
theorem hclone_spec {sv : Value} {F : List Nat} {l : List He} {m : Mem} (h : Sl m 42 6 sv F (l.map He.row)) (hn : l.length ≤ 1000000) :
    LCall Tryd.prog 26 [sv] m fun v M => Frm [] m M ∧ ∃ G, Sl M 42 6 v G (l.map He.row) ∧ ∀ z ∈ G, m.length ≤ z := by
  have h0 := h
  refine LCall_enter Tryd.func26 c26 ?_
  generalize hR : l.map He.row = rows at h h0 ⊢
  have hrn : rows.length ≤ 1000000 := by rw [← hR]; simpa using hn
  cases h with
  | nil =>
    simp (contextual := true) (implicitDefEqProofs := false) (maxSteps := 2000000) (disch := first | rfl | exact NB rfl | omega | (simp only [XL]; omega)) only [L26, XW, undef_eq, Nat.reduceAdd, Nat.reduceSub, ↓reduceIte, basic, cellsL, resOf, setAt, below, belowB, belowA, atomB, Nat.reduceLeDiff, Nat.reduceMul, Int.reduceToNat, Int.reduceLT, Int.reduceLE, Int.reduceAdd, Int.reduceNeg, Int.reduceEq, splice, Nat.reduceEqDiff, Nat.reduceLT, isAtom, Int.reduceSub, Int.reduceMul, implies_true]
    exact ⟨Frm.refl, [], .nil, by simp⟩
  | @own b o cs _ hb hr hc hl =>
    simp (contextual := true) (implicitDefEqProofs := false) (maxSteps := 2000000) (disch := first | rfl | exact NB rfl | omega | (simp only [XL]; omega)) only [L26, XX, XB, lc_block, lc_cond, XZ, undef_eq, Nat.reduceAdd, Nat.reduceSub, ↓reduceIte, basic, cellsL, resOf, setAt, below, belowB, belowA, atomB, Nat.reduceLeDiff, Nat.reduceMul, Int.reduceToNat, Int.reduceLT, Int.reduceLE, Int.reduceAdd, Int.reduceNeg, Int.reduceEq, splice, Nat.reduceEqDiff, Nat.reduceLT, isAtom, Int.reduceSub, Int.reduceMul, implies_true]
    obtain ⟨N, hN, hNl, hfN, hb0⟩ : ∃ N, m ++ [⟨[], 42, 6, 0, .own⟩] = N ∧ N.length = m.length + 1 ∧ Frm [] m N ∧ N[m.length]? = some ⟨[], 42, 6, 0, .own⟩ := ⟨_, rfl, by simp, Frm.refl.app, by simp⟩
    rw [hN]
    have hn0 := new_rows (h0.frm0 hfN)
    rw [new_sl] at hn0
    rw [hn0]
    have hs0 : Sl N 42 6 (.slice (some ⟨m.length, 0, none⟩) 0 0) [m.length] [] := Sl.own (T := 42) (sz := 6) (rows := []) hb0 (by simp) (by simp) (by simp)
    refine app_any hs0 (new := rows) rfl hr rfl (by simp; omega) ?_
    intro v M G hM hf hs hG
    obtain ⟨va, rfl, _⟩ := hs.form
    simp (contextual := true) (implicitDefEqProofs := false) (maxSteps := 2000000) (disch := first | rfl | exact NB rfl | omega | (simp only [XL]; omega)) only [XW, undef_eq, Nat.reduceAdd, Nat.reduceSub, ↓reduceIte, basic, cellsL, resOf, setAt, below, belowB, belowA, atomB, Nat.reduceLeDiff, Nat.reduceMul, Int.reduceToNat, Int.reduceLT, Int.reduceLE, Int.reduceAdd, Int.reduceNeg, Int.reduceEq, splice, Nat.reduceEqDiff, Nat.reduceLT, isAtom, Int.reduceSub, Int.reduceMul, implies_true]
    refine ⟨hfN.trans hf fun x hx => .inr (by simp at hx; omega), G, by simpa using hs, fun x hx => ?_⟩
    rcases hG x hx with h1 | h1
    · simp at h1; omega
    · omega
theorem all_nil (m : Mem) : Ret Tryd.prog 10 [.pointer none] m (.slice none 0 0) m := by
  refine LCall_drop (LCall_enter Tryd.func10 c10 ?_)
  simp (contextual := true) (implicitDefEqProofs := false) (maxSteps := 2000000) (disch := first | rfl | exact NB rfl | omega | (simp only [XL]; omega)) only [L10, XW, undef_eq, Nat.reduceAdd, Nat.reduceSub, ↓reduceIte, basic, cellsL, resOf, setAt, below, belowB, belowA, atomB, Nat.reduceLeDiff, Nat.reduceMul, Int.reduceToNat, Int.reduceLT, Int.reduceLE, Int.reduceAdd, Int.reduceNeg, Int.reduceEq, splice, Nat.reduceEqDiff, Nat.reduceLT, isAtom, Int.reduceSub, Int.reduceMul, implies_true]
theorem all_spec {sv : Value} {F : List Nat} {l : List He} {di : Nat} {m : Mem} (hd : m[di]? = some ⟨[sv], 51, 1, 0, .own⟩) (h : Sl m 42 6 sv F (l.map He.row)) (hn : l.length ≤ 1000000) :
    LCall Tryd.prog 10 [.pointer (some ⟨di, 0, none⟩)] m fun v M => Frm [] m M ∧ ∃ G, Sl M 42 6 v G (l.map He.row) ∧ ∀ z ∈ G, m.length ≤ z := by
  have l0 := lt_of_some hd
  refine LCall_enter Tryd.func10 c10 ?_
  simp (contextual := true) (implicitDefEqProofs := false) (maxSteps := 2000000) (disch := first | rfl | exact NB rfl | omega | (simp only [XL]; omega)) only [L10, hd, XW, undef_eq, Nat.reduceAdd, Nat.reduceSub, ↓reduceIte, basic, cellsL, resOf, setAt, below, belowB, belowA, atomB, Nat.reduceLeDiff, Nat.reduceMul, Int.reduceToNat, Int.reduceLT, Int.reduceLE, Int.reduceAdd, Int.reduceNeg, Int.reduceEq, splice, Nat.reduceEqDiff, Nat.reduceLT, isAtom, Int.reduceSub, Int.reduceMul, implies_true]
  refine (hclone_spec h hn).mono ?_
  rintro v M ⟨hf, G, hs, hG⟩
  obtain ⟨va, rfl, _⟩ := hs.form
  simp (contextual := true) (implicitDefEqProofs := false) (maxSteps := 2000000) (disch := first | rfl | exact NB rfl | omega | (simp only [XL]; omega)) only [XW, undef_eq, Nat.reduceAdd, Nat.reduceSub, ↓reduceIte, basic, cellsL, resOf, setAt, below, belowB, belowA, atomB, Nat.reduceLeDiff, Nat.reduceMul, Int.reduceToNat, Int.reduceLT, Int.reduceLE, Int.reduceAdd, Int.reduceNeg, Int.reduceEq, splice, Nat.reduceEqDiff, Nat.reduceLT, isAtom, Int.reduceSub, Int.reduceMul, implies_true]
  exact ⟨hf, G, hs, hG⟩
def InsOK (rows : List (List Value)) : Prop := ∀ (m : Mem) (sv : Value) (F : List Nat) (vb : Nat) (row : List Value), Sl m 42 6 sv F rows → m[vb]? = some ⟨row, 42, 6, 0, .own⟩ → row.length = 6 → vb ∉ F →
  LCall Tryd.prog 25 [sv, .int .i64 0, .slice (some ⟨vb, 0, none⟩) 1 1] m fun u M => Frm F m M ∧ ∃ G, Sl M 42 6 u G (row :: rows) ∧ ∀ x ∈ G, x ∈ F ∨ m.length ≤ x
theorem ins_none : InsOK [] := by
  intro m sv F vb row h hv hr hn
  have hs : Sl m 42 6 (.slice (some ⟨vb, 0, none⟩) 1 1) [vb] [row] := Sl.own (T := 42) (sz := 6) (rows := [row]) hv (by simpa using hr) (by simp [hr, List.take_of_length_le]) (by simp [hr])
  have hn0 := new_rows hs
  rw [new_sl] at hn0
  have h0 := h
  refine LCall_enter Tryd.func25 c25 ?_
  cases h with
  | nil =>
    simp (contextual := true) (implicitDefEqProofs := false) (maxSteps := 2000000) (disch := first | rfl | exact NB rfl | omega | (simp only [XL]; omega)) only [L25, XX, XB, lc_block, lc_cond, XZ, undef_eq, Nat.reduceAdd, Nat.reduceSub, ↓reduceIte, basic, cellsL, resOf, setAt, below, belowB, belowA, atomB, Nat.reduceLeDiff, Nat.reduceMul, Int.reduceToNat, Int.reduceLT, Int.reduceLE, Int.reduceAdd, Int.reduceNeg, Int.reduceEq, splice, Nat.reduceEqDiff, Nat.reduceLT, isAtom, Int.reduceSub, Int.reduceMul, implies_true]
    rw [hn0]
    refine app_any h0 (new := [row]) rfl (by simpa using hr) rfl (by simp) ?_
    intro v M G hM hf hs hG
    obtain ⟨va, rfl, _⟩ := hs.form
    simp (contextual := true) (implicitDefEqProofs := false) (maxSteps := 2000000) (disch := first | rfl | exact NB rfl | omega | (simp only [XL]; omega)) only [XW, undef_eq, Nat.reduceAdd, Nat.reduceSub, ↓reduceIte, basic, cellsL, resOf, setAt, below, belowB, belowA, atomB, Nat.reduceLeDiff, Nat.reduceMul, Int.reduceToNat, Int.reduceLT, Int.reduceLE, Int.reduceAdd, Int.reduceNeg, Int.reduceEq, splice, Nat.reduceEqDiff, Nat.reduceLT, isAtom, Int.reduceSub, Int.reduceMul, implies_true]
    exact ⟨hf, G, by simpa using hs, fun x hx => by simpa using hG x hx⟩
  | @own b o cs _ hb hr' hc hl =>
    have l0 := lt_of_some hb
    simp (contextual := true) (implicitDefEqProofs := false) (maxSteps := 2000000) (disch := first | rfl | exact NB rfl | omega | (simp only [XL]; omega)) only [L25, hb, XX, XB, lc_block, lc_cond, XZ, undef_eq, Nat.reduceAdd, Nat.reduceSub, ↓reduceIte, basic, cellsL, resOf, setAt, below, belowB, belowA, atomB, Nat.reduceLeDiff, Nat.reduceMul, Int.reduceToNat, Int.reduceLT, Int.reduceLE, Int.reduceAdd, Int.reduceNeg, Int.reduceEq, splice, Nat.reduceEqDiff, Nat.reduceLT, isAtom, Int.reduceSub, Int.reduceMul, implies_true]
    rw [hn0]
    refine app_any h0 (new := [row]) rfl (by simpa using hr) rfl (by simp) ?_
    intro v M G hM hf hs hG
    obtain ⟨va, rfl, _⟩ := hs.form
    simp (contextual := true) (implicitDefEqProofs := false) (maxSteps := 2000000) (disch := first | rfl | exact NB rfl | omega | (simp only [XL]; omega)) only [XW, undef_eq, Nat.reduceAdd, Nat.reduceSub, ↓reduceIte, basic, cellsL, resOf, setAt, below, belowB, belowA, atomB, Nat.reduceLeDiff, Nat.reduceMul, Int.reduceToNat, Int.reduceLT, Int.reduceLE, Int.reduceAdd, Int.reduceNeg, Int.reduceEq, splice, Nat.reduceEqDiff, Nat.reduceLT, isAtom, Int.reduceSub, Int.reduceMul, implies_true]
    exact ⟨hf, G, by simpa using hs, fun x hx => by simpa using hG x hx⟩
end Go.Proofs.YtijndljfpiomhaaDoor
/- A frame is heard: walked. -/
namespace Go.Proofs.YtijndljfpiomhaaDoor
open Go.Lg
set_option maxRecDepth 8000
set_option maxHeartbeats 8000000
theorem hear_nil {s : List UInt8} {now : Int} {m : Mem} (hl : s.length ≤ 100000) : LCall Tryd.prog 9 [.pointer none, str s, .int .i64 now] m fun u M => u = .bool false ∧ Frm [] m M := by
  refine LCall_enter Tryd.func9 c9 ?_
  simp (contextual := true) (implicitDefEqProofs := false) (maxSteps := 2000000) (disch := first | rfl | exact NB rfl | omega | (simp only [XL]; omega)) only [L9, XW, undef_eq, Nat.reduceAdd, Nat.reduceSub, ↓reduceIte, basic, cellsL, resOf, setAt, below, belowB, belowA, atomB, Nat.reduceLeDiff, Nat.reduceMul, Int.reduceToNat, Int.reduceLT, Int.reduceLE, Int.reduceAdd, Int.reduceNeg, Int.reduceEq, splice, Nat.reduceEqDiff, Nat.reduceLT, isAtom, Int.reduceSub, Int.reduceMul, implies_true]
  refine (getP_spec s hl _).mono ?_
  rintro v M1 ⟨hf1, hv⟩
  by_cases hg : (getP s 11 []).1 = 0
  · rw [if_pos hg] at hv
    obtain ⟨px, py, l', pv, F', hL', rfl, hs', hF'⟩ := hv
    obtain ⟨sa, rfl, _⟩ := hs'.form
    simp (contextual := true) (implicitDefEqProofs := false) (maxSteps := 2000000) (disch := first | rfl | exact NB rfl | omega | (simp only [XL]; omega)) only [XW, undef_eq, Nat.reduceAdd, Nat.reduceSub, ↓reduceIte, basic, cellsL, resOf, setAt, below, belowB, belowA, atomB, Nat.reduceLeDiff, Nat.reduceMul, Int.reduceToNat, Int.reduceLT, Int.reduceLE, Int.reduceAdd, Int.reduceNeg, Int.reduceEq, splice, Nat.reduceEqDiff, Nat.reduceLT, isAtom, Int.reduceSub, Int.reduceMul, implies_true]
    exact hf1.app
  · rw [if_neg hg] at hv
    subst hv
    simp (contextual := true) (implicitDefEqProofs := false) (maxSteps := 2000000) (disch := first | rfl | exact NB rfl | omega | (simp only [XL]; omega)) only [XW, undef_eq, Nat.reduceAdd, Nat.reduceSub, ↓reduceIte, basic, cellsL, resOf, setAt, below, belowB, belowA, atomB, Nat.reduceLeDiff, Nat.reduceMul, Int.reduceToNat, Int.reduceLT, Int.reduceLE, Int.reduceAdd, Int.reduceNeg, Int.reduceEq, splice, Nat.reduceEqDiff, Nat.reduceLT, isAtom, Int.reduceSub, Int.reduceMul, implies_true]
    exact hf1.app
def cntH (c : Cl) (l : List He) : Int := match l[(idxH c l 0).toNat]? with
  | some e => if idxH c l 0 = -1 then 0 else e.n
  | none => 0
def restH (c : Cl) (l : List He) : List He := if idxH c l 0 = -1 then l else l.eraseIdx (idxH c l 0).toNat
def hearL (c v : Cl) (w : Int) (l : List He) : List He := (⟨c, v, IntKind.i64.wrap (cntH c l + 1), w⟩ :: restH c l).take 8
theorem rest_len {c : Cl} {l : List He} : (restH c l).length ≤ l.length := by
  unfold restH
  split
  · exact Nat.le_refl _
  · rw [List.length_eraseIdx]; split <;> omega
theorem Sl_take {m : Mem} {T sz : Nat} {a : Option Addr} {F : List Nat} {rows : List (List Value)} {n k : Nat} (h : Sl m T sz (.slice a n n) F rows) (hk : k ≤ n) : Sl m T sz (.slice a k k) F (rows.take k) := by
  obtain ⟨v, hv⟩ : ∃ v, v = Value.slice a n n := ⟨_, rfl⟩
  rw [← hv] at h
  cases h with
  | nil =>
    simp at hv
    obtain ⟨rfl, rfl⟩ := hv
    obtain rfl : k = 0 := by omega
    exact .nil
  | @own b o cs _ hb hr hc hl =>
    simp at hv
    obtain ⟨rfl, rfl⟩ := hv
    have ht := take_rows (i := k) hr hc hk
    have hlen : (rows.take k).length = k := by rw [List.length_take]; omega
    have := Sl.own (T := T) (sz := sz) (rows := rows.take k) hb (fun r hx => hr r (List.mem_of_mem_take hx)) ht (by rw [hlen]; have := Nat.mul_le_mul_right sz hk; omega)
    rw [hlen] at this
    exact this
theorem hear_spec {s : List UInt8} {now : Int} {l : List He} {sv : Value} {F : List Nat} {di : Nat} {m : Mem} (hd : m[di]? = some ⟨[sv], 51, 1, 0, .own⟩) (hs : Sl m 42 6 sv F (l.map He.row)) (hdF : di ∉ F) (hn : l.length ≤ 8) (hl : s.length ≤ 100000)
    (hI : ∀ x y r, (getP s 11 []).2 = x :: y :: r → InsOK ((restH y.cl l).map He.row)) :
    LCall Tryd.prog 9 [.pointer (some ⟨di, 0, none⟩), str s, .int .i64 now] m fun u M =>
      if (getP s 11 []).1 = 0 then ∃ x y r, (getP s 11 []).2 = x :: y :: r ∧ u = .bool true ∧ Frm (di :: F) m M ∧ ∃ sv' G, M[di]? = some ⟨[sv'], 51, 1, 0, .own⟩ ∧ Sl M 42 6 sv' G ((hearL y.cl (viaL r) now l).map He.row) ∧ di ∉ G ∧ ∀ z ∈ G, z ∈ F ∨ m.length ≤ z
      else u = .bool false ∧ Frm [] m M := by
  have l0 := lt_of_some hd
  refine LCall_enter Tryd.func9 c9 ?_
  simp (contextual := true) (implicitDefEqProofs := false) (maxSteps := 2000000) (disch := first | rfl | exact NB rfl | omega | (simp only [XL]; omega)) only [L9, XW, undef_eq, Nat.reduceAdd, Nat.reduceSub, ↓reduceIte, basic, cellsL, resOf, setAt, below, belowB, belowA, atomB, Nat.reduceLeDiff, Nat.reduceMul, Int.reduceToNat, Int.reduceLT, Int.reduceLE, Int.reduceAdd, Int.reduceNeg, Int.reduceEq, splice, Nat.reduceEqDiff, Nat.reduceLT, isAtom, Int.reduceSub, Int.reduceMul, implies_true]
  refine (getP_spec s hl _).mono ?_
  rintro v M1 ⟨hf1, hv⟩
  by_cases hg' : ¬ (getP s 11 []).1 = 0
  · rw [if_neg hg'] at hv
    subst hv
    have hg' : ((getP s 11 []).1 = 0) = False := eq_false hg'
    simp (contextual := true) (implicitDefEqProofs := false) (maxSteps := 2000000) (disch := first | rfl | exact NB rfl | omega | (simp only [XL]; omega)) only [hg', XW, undef_eq, Nat.reduceAdd, Nat.reduceSub, ↓reduceIte, basic, cellsL, resOf, setAt, below, belowB, belowA, atomB, Nat.reduceLeDiff, Nat.reduceMul, Int.reduceToNat, Int.reduceLT, Int.reduceLE, Int.reduceAdd, Int.reduceNeg, Int.reduceEq, splice, Nat.reduceEqDiff, Nat.reduceLT, isAtom, Int.reduceSub, Int.reduceMul, implies_true]
    exact hf1.app
  have hg : (getP s 11 []).1 = 0 := Decidable.not_not.1 hg'
  rw [if_pos hg] at hv
  obtain ⟨px, py, pl, pv, P, hL, rfl, hps, hP⟩ := hv
  rw [hL]
  obtain ⟨pa, rfl, _⟩ := hps.form
  simp (contextual := true) (implicitDefEqProofs := false) (maxSteps := 2000000) (disch := first | rfl | exact NB rfl | omega | (simp only [XL]; omega)) only [XW, undef_eq, Nat.reduceAdd, Nat.reduceSub, ↓reduceIte, basic, cellsL, resOf, setAt, below, belowB, belowA, atomB, Nat.reduceLeDiff, Nat.reduceMul, Int.reduceToNat, Int.reduceLT, Int.reduceLE, Int.reduceAdd, Int.reduceNeg, Int.reduceEq, splice, Nat.reduceEqDiff, Nat.reduceLT, isAtom, Int.reduceSub, Int.reduceMul, implies_true]
  obtain ⟨M2, hM2, hM2l, hf2, hbp, hbe⟩ : ∃ N, M1 ++ [⟨[str px.b, .int .i64 px.s, str py.b, .int .i64 py.s, .bool px.k, .bool py.k, .slice pa (pl.map En.row).length (pl.map En.row).length], 30, 1, 0, .own⟩, ⟨[str py.b, .int .i64 py.s, .string ⟨#[]⟩, .int .i64 0, .int .i64 0, .int .i64 0], 42, 1, 0, .own⟩] = N ∧ N.length = M1.length + 2 ∧ Frm [] M1 N ∧
      N[M1.length]? = some ⟨[str px.b, .int .i64 px.s, str py.b, .int .i64 py.s, .bool px.k, .bool py.k, .slice pa (pl.map En.row).length (pl.map En.row).length], 30, 1, 0, .own⟩ ∧ N[M1.length + 1]? = some ⟨[str py.b, .int .i64 py.s, .string ⟨#[]⟩, .int .i64 0, .int .i64 0, .int .i64 0], 42, 1, 0, .own⟩ :=
    ⟨_, rfl, by simp, Frm.refl.app, by rw [List.getElem?_append_right (by omega)]; simp, by rw [List.getElem?_append_right (by omega)]; simp⟩
  rw [hM2]
  have hf12 : Frm [] m M2 := hf1.nil_trans hf2
  have hd2 := hf12.get0 hd
  have hs2 := hs.frm0 hf12
  have hps2 := hps.frm0 hf2
  have hll2 := hf12.len
  have lp := lt_of_some hbp
  have le := lt_of_some hbe
  have ld := lt_of_some hd2
  have hplm : pl.length ≤ 1000000 := by
    have hsh := getP_shape (s := s) (n := 11) (L := []) rfl (by simp) hg
    rw [hL] at hsh
    have := hsh.2.1; simp at this; omega
  refine (at_spec (c := py.cl) (l := l) hd2 (Sl.rd hs2) (by omega)).use ?_
  have hIc := hI _ _ _ hL
  rcases idxH_cases (c := py.cl) (l := l) (i := 0) with ⟨hx, hall⟩ | ⟨j, e, he, hec, hx, hall⟩
  · rw [hx]
    have hrest : restH py.cl l = l := by unfold restH; rw [if_pos hx]
    have hcnt : cntH py.cl l = 0 := by
      unfold cntH
      rw [hx]
      split <;> simp
    rw [hrest] at hIc
    simp (contextual := true) (implicitDefEqProofs := false) (maxSteps := 2000000) (disch := first | rfl | exact NB rfl | omega | (simp only [XL]; omega)) only [hbp, hbe, hd2, XW, undef_eq, Nat.reduceAdd, Nat.reduceSub, ↓reduceIte, basic, cellsL, resOf, setAt, below, belowB, belowA, atomB, Nat.reduceLeDiff, Nat.reduceMul, Int.reduceToNat, Int.reduceLT, Int.reduceLE, Int.reduceAdd, Int.reduceNeg, Int.reduceEq, splice, Nat.reduceEqDiff, Nat.reduceLT, isAtom, Int.reduceSub, Int.reduceMul, implies_true]
    have hbpx : (M2.set (M1.length + 1) ⟨[str py.b, .int .i64 py.s, .string ⟨#[]⟩, .int .i64 0, .int .i64 1, .int .i64 0], 42, 1, 0, .own⟩)[M1.length]? = some ⟨[str px.b, .int .i64 px.s, str py.b, .int .i64 py.s, .bool px.k, .bool py.k, .slice pa (pl.map En.row).length (pl.map En.row).length], 30, 1, 0, .own⟩ := by
      rw [List.getElem?_set_ne (by omega)]; exact hbp
    have hbex : (M2.set (M1.length + 1) ⟨[str py.b, .int .i64 py.s, .string ⟨#[]⟩, .int .i64 0, .int .i64 1, .int .i64 0], 42, 1, 0, .own⟩)[M1.length + 1]? = some ⟨[str py.b, .int .i64 py.s, .string ⟨#[]⟩, .int .i64 0, .int .i64 1, .int .i64 0], 42, 1, 0, .own⟩ := by
      rw [List.getElem?_set_self le]
    have hml := hf1.len
    have hdx : (M2.set (M1.length + 1) ⟨[str py.b, .int .i64 py.s, .string ⟨#[]⟩, .int .i64 0, .int .i64 1, .int .i64 0], 42, 1, 0, .own⟩)[di]? = some ⟨[sv], 51, 1, 0, .own⟩ := by
      rw [List.getElem?_set_ne (by omega)]; exact hd2
    have hFl := hs.lt
    have hsx := hs2.setb (c := M1.length + 1) (B := ⟨[str py.b, .int .i64 py.s, .string ⟨#[]⟩, .int .i64 0, .int .i64 1, .int .i64 0], 42, 1, 0, .own⟩) (fun hx => by have := hFl _ hx; omega)
    have hPl := hps.lt
    have hpsx := hps2.setb (c := M1.length + 1) (B := ⟨[str py.b, .int .i64 py.s, .string ⟨#[]⟩, .int .i64 0, .int .i64 1, .int .i64 0], 42, 1, 0, .own⟩) (fun hx => by have := hPl _ hx; omega)
    have hfx : Frm (di :: F) m (M2.set (M1.length + 1) ⟨[str py.b, .int .i64 py.s, .string ⟨#[]⟩, .int .i64 0, .int .i64 1, .int .i64 0], 42, 1, 0, .own⟩) := (Frm.of_nil hf12).set (.inr (by omega))
    generalize M2.set (M1.length + 1) ⟨[str py.b, .int .i64 py.s, .string ⟨#[]⟩, .int .i64 0, .int .i64 1, .int .i64 0], 42, 1, 0, .own⟩ = Mx at hbpx hbex hdx hsx hpsx hfx ⊢
    have hFx : ∀ z ∈ F, z < m.length := hFl
    have hdFx := hdF
    have hFxF : ∀ z ∈ F, z ∈ F ∨ m.length ≤ z := fun z hz => .inl hz
    refine (pvia_spec (l := pl) (Sl.rd hpsx) hplm).use ?_
    have lpx := lt_of_some hbpx
    have lex := lt_of_some hbex
    have ldx := lt_of_some hdx
    simp (contextual := true) (implicitDefEqProofs := false) (maxSteps := 2000000) (disch := first | rfl | exact NB rfl | omega | (simp only [XL]; omega)) only [hbex, hbpx, hdx, XW, undef_eq, Nat.reduceAdd, Nat.reduceSub, ↓reduceIte, basic, cellsL, resOf, setAt, below, belowB, belowA, atomB, Nat.reduceLeDiff, Nat.reduceMul, Int.reduceToNat, Int.reduceLT, Int.reduceLE, Int.reduceAdd, Int.reduceNeg, Int.reduceEq, splice, Nat.reduceEqDiff, Nat.reduceLT, isAtom, Int.reduceSub, Int.reduceMul, implies_true]
    have hml1 : m.length ≤ M1.length := hf1.len
    obtain ⟨My, hMy, hMyl, hfy, hdy, hsy, hby⟩ : ∃ My, Mx.set (M1.length + 1) ⟨[str py.b, .int .i64 py.s, str (viaL pl).b, .int .i64 (viaL pl).s, .int .i64 (1), .int .i64 now], 42, 1, 0, .own⟩ ++ [⟨[str py.b, .int .i64 py.s, str (viaL pl).b, .int .i64 (viaL pl).s, .int .i64 (1), .int .i64 now], 42, 6, 0, .own⟩] = My ∧ My.length = Mx.length + 1 ∧ Frm (di :: F) m My ∧ My[di]? = some ⟨[sv], 51, 1, 0, .own⟩ ∧ Sl My 42 6 (sv) F ((l).map He.row) ∧
        My[Mx.length]? = some ⟨[str py.b, .int .i64 py.s, str (viaL pl).b, .int .i64 (viaL pl).s, .int .i64 (1), .int .i64 now], 42, 6, 0, .own⟩ := by
      refine ⟨_, rfl, by simp, (hfx.set (.inr (by omega))).app, ?_, (hsx.setb fun hx => by have := hFx _ hx; have := hFl; omega).frm0 Frm.refl.app, ?_⟩
      · rw [List.getElem?_append_left (by simpa using ldx), List.getElem?_set_ne (by omega)]; exact hdx
      · rw [List.getElem?_append_right (by simp)]; simp
    rw [hMy]
    have hxl := hsx.lt
    refine (hIc My _ F Mx.length _ hsy hby rfl (fun hx => by have := hxl _ hx; omega)).mono ?_
    rintro u Mz ⟨hfz, G, hGs, hG⟩
    obtain ⟨ua, rfl, hgf⟩ := hGs.form
    simp only [List.length_map, List.length_cons] at hGs hgf ⊢
    obtain ⟨gb, go, gc, rfl, rfl, hgb, _⟩ := hgf (by omega)
    have lgb := lt_of_some hgb
    have hdz := hfz.get hdy hdFx
    have ldz := lt_of_some hdz
    have hGd : di ∉ [gb] := fun hx => by
      rcases hG _ hx with h1 | h1
      · exact hdFx h1
      · have := lt_of_some hdy; omega
    have hne : di ≠ gb := fun h => hGd (by simp [h])
    have hGf : ∀ z ∈ [gb], z ∈ F ∨ m.length ≤ z := fun z hz => by
      rcases hG _ hz with h1 | h1
      · exact hFxF z h1
      · have := hfy.len; exact .inr (by omega)
    have hres : ((hearL py.cl (viaL pl) now l).map He.row) = (([str py.b, .int .i64 py.s, str (viaL pl).b, .int .i64 (viaL pl).s, .int .i64 (1), .int .i64 now] :: (l).map He.row).take 8) := by
      unfold hearL
      rw [hrest, hcnt, List.map_take]
      rfl
    have hrl : (l).length ≤ 8 := by
      have := rest_len (c := py.cl) (l := l)
      rw [hrest] at this; omega
    have hfF : Frm (di :: F) m Mz := hfy.trans hfz fun z hz => by
      rcases hFxF z hz with h1 | h1
      · exact .inl (by simp [h1])
      · exact .inr h1
    have hfin : ∀ k, k ≤ (l).length + 1 → (k = 8 ∨ (l).length + 1 ≤ 8 ∧ k = (l).length + 1) → Sl (Mz.set di ⟨[.slice (some ⟨gb, go, none⟩) k k], 51, 1, 0, .own⟩) 42 6 (.slice (some ⟨gb, go, none⟩) k k) [gb] ((hearL py.cl (viaL pl) now l).map He.row) := fun k hk hk8 => by
      rw [hres]
      have := (Sl_take hGs hk).setb (c := di) (B := ⟨[.slice (some ⟨gb, go, none⟩) k k], 51, 1, 0, .own⟩) hGd
      rcases hk8 with rfl | ⟨h8, rfl⟩
      · exact this
      · rw [List.take_of_length_le (by simp)] at this
        rw [List.take_of_length_le (by simp; omega)]
        exact this
    by_cases h8 : (l).length + 1 ≤ 8
    · have hmin : ((8 : Int) < (((l).length + 1 : Nat) : Int)) = False := eq_false (by omega)
      simp (contextual := true) (implicitDefEqProofs := false) (maxSteps := 2000000) (disch := first | rfl | exact NB rfl | omega | (simp only [XL]; omega)) only [hdz, hgb, hne, hmin, hg, Int.toNat_natCast, XW, undef_eq, Nat.reduceAdd, Nat.reduceSub, ↓reduceIte, basic, cellsL, resOf, setAt, below, belowB, belowA, atomB, Nat.reduceLeDiff, Nat.reduceMul, Int.reduceToNat, Int.reduceLT, Int.reduceLE, Int.reduceAdd, Int.reduceNeg, Int.reduceEq, splice, Nat.reduceEqDiff, Nat.reduceLT, isAtom, Int.reduceSub, Int.reduceMul, implies_true]
      exact ⟨_, _, _, rfl, hfF.set (.inl (by simp)), _, [gb], rfl, hfin _ (Nat.le_refl _) (.inr ⟨h8, rfl⟩), hGd, hGf⟩
    · have hmin : ((8 : Int) < (((l).length + 1 : Nat) : Int)) = True := eq_true (by omega)
      simp (contextual := true) (implicitDefEqProofs := false) (maxSteps := 2000000) (disch := first | rfl | exact NB rfl | omega | (simp only [XL]; omega)) only [hdz, hgb, hne, hmin, hg, Int.toNat_natCast, XW, undef_eq, Nat.reduceAdd, Nat.reduceSub, ↓reduceIte, basic, cellsL, resOf, setAt, below, belowB, belowA, atomB, Nat.reduceLeDiff, Nat.reduceMul, Int.reduceToNat, Int.reduceLT, Int.reduceLE, Int.reduceAdd, Int.reduceNeg, Int.reduceEq, splice, Nat.reduceEqDiff, Nat.reduceLT, isAtom, Int.reduceSub, Int.reduceMul, implies_true]
      exact ⟨_, _, _, rfl, hfF.set (.inl (by simp)), _, [gb], rfl, hfin 8 (by omega) (.inl rfl), hGd, hGf⟩
  · rw [Nat.zero_add] at hx
    rw [hx]
    have hj : j < l.length := (List.getElem?_eq_some_iff.mp he).1
    have hrest : restH py.cl l = l.eraseIdx j := by unfold restH; rw [hx, if_neg (by omega), Int.toNat_natCast]
    have hcnt : cntH py.cl l = e.n := by
      unfold cntH
      rw [hx, Int.toNat_natCast, he]
      simp only
      rw [if_neg (by omega)]
    rw [hrest] at hIc
    have hml := hf1.len
    have hFl := hs.lt
    have hPl := hps.lt
    obtain ⟨sa, rfl, hform⟩ := hs.form
    simp only [List.length_map] at hs hs2 hd hd2 hform
    obtain ⟨b, o, cs, rfl, rfl, hb, hlb, _, hrow⟩ := hform (by omega)
    have hb1 : e.c.b = py.b := by rw [hec]; rfl
    have hb2 : e.c.s = py.s := by rw [hec]; rfl
    have hr : (cs.drop (o + j * 6)).take 6 = [str py.b, .int .i64 py.s, str e.v.b, .int .i64 e.v.s, .int .i64 e.n, .int .i64 e.w] := by
      have := hrow j e.row (by simp [he])
      unfold He.row at this
      rwa [hb1, hb2] at this
    have hlen : o + j * 6 + 6 ≤ cs.length := by omega
    have hbM := hf12.get0 hb
    have lb := lt_of_some hbM
    have hnd : di ≠ b := by simpa using hdF
    have h0' : ((0 : Int) ≤ (j : Int)) = True := by simp
    have hlt' : ((j : Int) < (l.length : Int)) = True := by simp [hj]
    have hwj : IntKind.i64.wrap ((j : Int) + 1) = ((j + 1 : Nat) : Int) := by rw [wrap_i64 (by omega) (by omega)]; omega
    simp (contextual := true) (implicitDefEqProofs := false) (maxSteps := 2000000) (disch := first | rfl | exact NB rfl | omega | (simp only [XL]; omega)) only [hbp, hbe, hd2, hbM, h0', hlt', hr, hwj, cellsB_l (k := .own) rfl hlen, Int.toNat_natCast, XW, undef_eq, Nat.reduceAdd, Nat.reduceSub, ↓reduceIte, basic, cellsL, resOf, setAt, below, belowB, belowA, atomB, Nat.reduceLeDiff, Nat.reduceMul, Int.reduceToNat, Int.reduceLT, Int.reduceLE, Int.reduceAdd, Int.reduceNeg, Int.reduceEq, splice, Nat.reduceEqDiff, Nat.reduceLT, isAtom, Int.reduceSub, Int.reduceMul, implies_true]
    have hne1 : M1.length + 1 ≠ di := by omega
    have hne2 : M1.length + 1 ≠ b := by have := hFl b (by simp); omega
    have hsd : Sl (M2.set (M1.length + 1) ⟨[str py.b, .int .i64 py.s, str e.v.b, .int .i64 e.v.s, .int .i64 e.n, .int .i64 e.w], 42, 1, 0, .own⟩) 42 6 (.slice (some ⟨b, o, none⟩) l.length l.length) [b] (l.map He.row) := hs2.setb (by simpa using hne2)
    refine (del_spec (i := j) hsd (by simpa using hj) (by simp; omega)).mono ?_
    rintro u Md ⟨hfd, hsu⟩
    obtain ⟨ua, rfl, _⟩ := hsu.form
    have hul : ((l.map He.row).eraseIdx j).length = (l.eraseIdx j).length := by rw [List.length_eraseIdx, List.length_eraseIdx, List.length_map]
    have hmap : (l.map He.row).eraseIdx j = (l.eraseIdx j).map He.row := by rw [List.eraseIdx_eq_take_drop_succ, List.eraseIdx_eq_take_drop_succ, List.map_append, List.map_take, List.map_drop]
    rw [hul] at hsu ⊢
    rw [hmap] at hsu
    have hdd := hfd.get (i := di) (b := ⟨[.slice (some ⟨b, o, none⟩) l.length l.length], 51, 1, 0, .own⟩) (by rw [List.getElem?_set_ne hne1]; exact hd2) (by simpa using hnd)
    have hed := hfd.get (i := M1.length + 1) (b := ⟨[str py.b, .int .i64 py.s, str e.v.b, .int .i64 e.v.s, .int .i64 e.n, .int .i64 e.w], 42, 1, 0, .own⟩) (by rw [List.getElem?_set_self le]) (by simpa using hne2)
    have hpd := hfd.get (i := M1.length) (b := ⟨[str px.b, .int .i64 px.s, str py.b, .int .i64 py.s, .bool px.k, .bool py.k, .slice pa (pl.map En.row).length (pl.map En.row).length], 30, 1, 0, .own⟩) (by rw [List.getElem?_set_ne (by omega)]; exact hbp) (by have := hFl b (by simp); simp; omega)
    have hpsd : Sl Md 53 3 (.slice pa (pl.map En.row).length (pl.map En.row).length) P (pl.map En.row) := (hps2.setb (fun hx => by have := hPl _ hx; omega)).frm hfd fun z hz => by
      have h1 := hP z hz; have h2 := hFl b (by simp); simp; omega
    have ldd := lt_of_some hdd
    have led := lt_of_some hed
    have lpd := lt_of_some hpd
    have hfdm : Frm (di :: [b]) m Md := ((Frm.of_nil hf12).set (F := di :: [b]) (i := M1.length + 1) (.inr (by omega))).trans hfd fun z hz => .inl (by simp at hz; simp [hz])
    have hne1' : di ≠ M1.length + 1 := hne1.symm
    simp (contextual := true) (implicitDefEqProofs := false) (maxSteps := 2000000) (disch := first | rfl | exact NB rfl | omega | (simp only [XL]; omega)) only [hdd, hed, hpd, hne1, hne1', XW, undef_eq, Nat.reduceAdd, Nat.reduceSub, ↓reduceIte, basic, cellsL, resOf, setAt, below, belowB, belowA, atomB, Nat.reduceLeDiff, Nat.reduceMul, Int.reduceToNat, Int.reduceLT, Int.reduceLE, Int.reduceAdd, Int.reduceNeg, Int.reduceEq, splice, Nat.reduceEqDiff, Nat.reduceLT, isAtom, Int.reduceSub, Int.reduceMul, implies_true]
    have hbpx : ((Md.set di ⟨[.slice ua (l.eraseIdx j).length (l.eraseIdx j).length], 51, 1, 0, .own⟩).set (M1.length + 1) ⟨[str py.b, .int .i64 py.s, str e.v.b, .int .i64 e.v.s, .int .i64 (IntKind.i64.wrap (e.n + 1)), .int .i64 e.w], 42, 1, 0, .own⟩)[M1.length]? = some ⟨[str px.b, .int .i64 px.s, str py.b, .int .i64 py.s, .bool px.k, .bool py.k, .slice pa (pl.map En.row).length (pl.map En.row).length], 30, 1, 0, .own⟩ := by
      rw [List.getElem?_set_ne (by omega), List.getElem?_set_ne (by omega)]; exact hpd
    have hbex : ((Md.set di ⟨[.slice ua (l.eraseIdx j).length (l.eraseIdx j).length], 51, 1, 0, .own⟩).set (M1.length + 1) ⟨[str py.b, .int .i64 py.s, str e.v.b, .int .i64 e.v.s, .int .i64 (IntKind.i64.wrap (e.n + 1)), .int .i64 e.w], 42, 1, 0, .own⟩)[M1.length + 1]? = some ⟨[str py.b, .int .i64 py.s, str e.v.b, .int .i64 e.v.s, .int .i64 (IntKind.i64.wrap (e.n + 1)), .int .i64 e.w], 42, 1, 0, .own⟩ := by
      rw [List.getElem?_set_self (by simpa using led)]
    have hdx : ((Md.set di ⟨[.slice ua (l.eraseIdx j).length (l.eraseIdx j).length], 51, 1, 0, .own⟩).set (M1.length + 1) ⟨[str py.b, .int .i64 py.s, str e.v.b, .int .i64 e.v.s, .int .i64 (IntKind.i64.wrap (e.n + 1)), .int .i64 e.w], 42, 1, 0, .own⟩)[di]? = some ⟨[.slice ua (l.eraseIdx j).length (l.eraseIdx j).length], 51, 1, 0, .own⟩ := by
      rw [List.getElem?_set_ne hne1, List.getElem?_set_self ldd]
    have hsx := (hsu.setb (c := di) (B := ⟨[.slice ua (l.eraseIdx j).length (l.eraseIdx j).length], 51, 1, 0, .own⟩) (by simpa using hnd)).setb (c := M1.length + 1) (B := ⟨[str py.b, .int .i64 py.s, str e.v.b, .int .i64 e.v.s, .int .i64 (IntKind.i64.wrap (e.n + 1)), .int .i64 e.w], 42, 1, 0, .own⟩) (by simpa using hne2)
    have hpsx := (hpsd.setb (c := di) (B := ⟨[.slice ua (l.eraseIdx j).length (l.eraseIdx j).length], 51, 1, 0, .own⟩) (fun hx => by have := hP _ hx; omega)).setb (c := M1.length + 1) (B := ⟨[str py.b, .int .i64 py.s, str e.v.b, .int .i64 e.v.s, .int .i64 (IntKind.i64.wrap (e.n + 1)), .int .i64 e.w], 42, 1, 0, .own⟩) (fun hx => by have := hPl _ hx; omega)
    have hfx : Frm (di :: [b]) m ((Md.set di ⟨[.slice ua (l.eraseIdx j).length (l.eraseIdx j).length], 51, 1, 0, .own⟩).set (M1.length + 1) ⟨[str py.b, .int .i64 py.s, str e.v.b, .int .i64 e.v.s, .int .i64 (IntKind.i64.wrap (e.n + 1)), .int .i64 e.w], 42, 1, 0, .own⟩) := (hfdm.set (.inl (by simp))).set (.inr (by omega))
    generalize (Md.set di ⟨[.slice ua (l.eraseIdx j).length (l.eraseIdx j).length], 51, 1, 0, .own⟩).set (M1.length + 1) ⟨[str py.b, .int .i64 py.s, str e.v.b, .int .i64 e.v.s, .int .i64 (IntKind.i64.wrap (e.n + 1)), .int .i64 e.w], 42, 1, 0, .own⟩ = Mx at hbpx hbex hdx hsx hpsx hfx ⊢
    have hFx : ∀ z ∈ [b], z < m.length := hFl
    have hdFx := hdF
    have hFxF : ∀ z ∈ [b], z ∈ [b] ∨ m.length ≤ z := fun z hz => .inl hz
    refine (pvia_spec (l := pl) (Sl.rd hpsx) hplm).use ?_
    have lpx := lt_of_some hbpx
    have lex := lt_of_some hbex
    have ldx := lt_of_some hdx
    simp (contextual := true) (implicitDefEqProofs := false) (maxSteps := 2000000) (disch := first | rfl | exact NB rfl | omega | (simp only [XL]; omega)) only [hbex, hbpx, hdx, XW, undef_eq, Nat.reduceAdd, Nat.reduceSub, ↓reduceIte, basic, cellsL, resOf, setAt, below, belowB, belowA, atomB, Nat.reduceLeDiff, Nat.reduceMul, Int.reduceToNat, Int.reduceLT, Int.reduceLE, Int.reduceAdd, Int.reduceNeg, Int.reduceEq, splice, Nat.reduceEqDiff, Nat.reduceLT, isAtom, Int.reduceSub, Int.reduceMul, implies_true]
    have hml1 : m.length ≤ M1.length := hf1.len
    obtain ⟨My, hMy, hMyl, hfy, hdy, hsy, hby⟩ : ∃ My, Mx.set (M1.length + 1) ⟨[str py.b, .int .i64 py.s, str (viaL pl).b, .int .i64 (viaL pl).s, .int .i64 (IntKind.i64.wrap (e.n + 1)), .int .i64 now], 42, 1, 0, .own⟩ ++ [⟨[str py.b, .int .i64 py.s, str (viaL pl).b, .int .i64 (viaL pl).s, .int .i64 (IntKind.i64.wrap (e.n + 1)), .int .i64 now], 42, 6, 0, .own⟩] = My ∧ My.length = Mx.length + 1 ∧ Frm (di :: [b]) m My ∧ My[di]? = some ⟨[.slice ua (l.eraseIdx j).length (l.eraseIdx j).length], 51, 1, 0, .own⟩ ∧ Sl My 42 6 (.slice ua (l.eraseIdx j).length (l.eraseIdx j).length) [b] ((l.eraseIdx j).map He.row) ∧
        My[Mx.length]? = some ⟨[str py.b, .int .i64 py.s, str (viaL pl).b, .int .i64 (viaL pl).s, .int .i64 (IntKind.i64.wrap (e.n + 1)), .int .i64 now], 42, 6, 0, .own⟩ := by
      refine ⟨_, rfl, by simp, (hfx.set (.inr (by omega))).app, ?_, (hsx.setb fun hx => by have := hFx _ hx; have := hFl; omega).frm0 Frm.refl.app, ?_⟩
      · rw [List.getElem?_append_left (by simpa using ldx), List.getElem?_set_ne (by omega)]; exact hdx
      · rw [List.getElem?_append_right (by simp)]; simp
    rw [hMy]
    have hxl := hsx.lt
    refine (hIc My _ [b] Mx.length _ hsy hby rfl (fun hx => by have := hxl _ hx; omega)).mono ?_
    rintro u Mz ⟨hfz, G, hGs, hG⟩
    obtain ⟨ua, rfl, hgf⟩ := hGs.form
    simp only [List.length_map, List.length_cons] at hGs hgf ⊢
    obtain ⟨gb, go, gc, rfl, rfl, hgb, _⟩ := hgf (by omega)
    have lgb := lt_of_some hgb
    have hdz := hfz.get hdy hdFx
    have ldz := lt_of_some hdz
    have hGd : di ∉ [gb] := fun hx => by
      rcases hG _ hx with h1 | h1
      · exact hdFx h1
      · have := lt_of_some hdy; omega
    have hne : di ≠ gb := fun h => hGd (by simp [h])
    have hGf : ∀ z ∈ [gb], z ∈ [b] ∨ m.length ≤ z := fun z hz => by
      rcases hG _ hz with h1 | h1
      · exact hFxF z h1
      · have := hfy.len; exact .inr (by omega)
    have hres : ((hearL py.cl (viaL pl) now l).map He.row) = (([str py.b, .int .i64 py.s, str (viaL pl).b, .int .i64 (viaL pl).s, .int .i64 (IntKind.i64.wrap (e.n + 1)), .int .i64 now] :: (l.eraseIdx j).map He.row).take 8) := by
      unfold hearL
      rw [hrest, hcnt, List.map_take]
      rfl
    have hrl : (l.eraseIdx j).length ≤ 8 := by
      have := rest_len (c := py.cl) (l := l)
      rw [hrest] at this; omega
    have hfF : Frm (di :: [b]) m Mz := hfy.trans hfz fun z hz => by
      rcases hFxF z hz with h1 | h1
      · exact .inl (by simp [h1])
      · exact .inr h1
    have hfin : ∀ k, k ≤ (l.eraseIdx j).length + 1 → (k = 8 ∨ (l.eraseIdx j).length + 1 ≤ 8 ∧ k = (l.eraseIdx j).length + 1) → Sl (Mz.set di ⟨[.slice (some ⟨gb, go, none⟩) k k], 51, 1, 0, .own⟩) 42 6 (.slice (some ⟨gb, go, none⟩) k k) [gb] ((hearL py.cl (viaL pl) now l).map He.row) := fun k hk hk8 => by
      rw [hres]
      have := (Sl_take hGs hk).setb (c := di) (B := ⟨[.slice (some ⟨gb, go, none⟩) k k], 51, 1, 0, .own⟩) hGd
      rcases hk8 with rfl | ⟨h8, rfl⟩
      · exact this
      · rw [List.take_of_length_le (by simp)] at this
        rw [List.take_of_length_le (by simp; omega)]
        exact this
    by_cases h8 : (l.eraseIdx j).length + 1 ≤ 8
    · have hmin : ((8 : Int) < (((l.eraseIdx j).length + 1 : Nat) : Int)) = False := eq_false (by omega)
      simp (contextual := true) (implicitDefEqProofs := false) (maxSteps := 2000000) (disch := first | rfl | exact NB rfl | omega | (simp only [XL]; omega)) only [hdz, hgb, hne, hmin, hg, Int.toNat_natCast, XW, undef_eq, Nat.reduceAdd, Nat.reduceSub, ↓reduceIte, basic, cellsL, resOf, setAt, below, belowB, belowA, atomB, Nat.reduceLeDiff, Nat.reduceMul, Int.reduceToNat, Int.reduceLT, Int.reduceLE, Int.reduceAdd, Int.reduceNeg, Int.reduceEq, splice, Nat.reduceEqDiff, Nat.reduceLT, isAtom, Int.reduceSub, Int.reduceMul, implies_true]
      exact ⟨_, _, _, rfl, hfF.set (.inl (by simp)), _, [gb], rfl, hfin _ (Nat.le_refl _) (.inr ⟨h8, rfl⟩), hGd, fun z hz => by simpa using hGf z hz⟩
    · have hmin : ((8 : Int) < (((l.eraseIdx j).length + 1 : Nat) : Int)) = True := eq_true (by omega)
      simp (contextual := true) (implicitDefEqProofs := false) (maxSteps := 2000000) (disch := first | rfl | exact NB rfl | omega | (simp only [XL]; omega)) only [hdz, hgb, hne, hmin, hg, Int.toNat_natCast, XW, undef_eq, Nat.reduceAdd, Nat.reduceSub, ↓reduceIte, basic, cellsL, resOf, setAt, below, belowB, belowA, atomB, Nat.reduceLeDiff, Nat.reduceMul, Int.reduceToNat, Int.reduceLT, Int.reduceLE, Int.reduceAdd, Int.reduceNeg, Int.reduceEq, splice, Nat.reduceEqDiff, Nat.reduceLT, isAtom, Int.reduceSub, Int.reduceMul, implies_true]
      exact ⟨_, _, _, rfl, hfF.set (.inl (by simp)), _, [gb], rfl, hfin 8 (by omega) (.inl rfl), hGd, fun z hz => by simpa using hGf z hz⟩
end Go.Proofs.YtijndljfpiomhaaDoor
/- Who was heard last: plain. -/
namespace Go.Proofs.YtijndljfpiomhaaDoor
open Go.Lg
set_option maxRecDepth 8000
def recL (o : List Cl) : List Cl := o.foldl (fun R c => c :: R.filter fun d => !decide (d = c)) []
theorem recL_snoc {o : List Cl} {c : Cl} : recL (o ++ [c]) = c :: (recL o).filter fun d => !decide (d = c) := by
  unfold recL; rw [List.foldl_append]; rfl
theorem rev_ind {α : Type} {P : List α → Prop} (h0 : P []) (h1 : ∀ l a, P l → P (l ++ [a])) : ∀ l, P l := fun l => by
  have key : ∀ l : List α, P l.reverse := fun l => by
    induction l with
    | nil => exact h0
    | cons a l ih => rw [List.reverse_cons]; exact h1 _ _ ih
  have := key l.reverse
  rwa [List.reverse_reverse] at this
theorem recL_nodup (o : List Cl) : (recL o).Nodup := by
  refine rev_ind (P := fun o => (recL o).Nodup) (by simp [recL]) (fun o c h => ?_) o
  rw [recL_snoc, List.nodup_cons]
  exact ⟨by simp, h.filter _⟩
def seenOK (o : List Cl) (i : Nat) (seen : List Cl) : Prop := recL o = seen ++ (recL (o.take i)).filter fun d => !decide (d ∈ seen)
theorem seen_start (o : List Cl) : seenOK o o.length [] := by
  unfold seenOK
  rw [List.take_length, List.nil_append]
  exact (List.filter_eq_self.2 fun a _ => by simp).symm
theorem seen_in {o : List Cl} {i : Nat} {seen : List Cl} {c : Cl} (h : seenOK o (i + 1) seen) (hc : o[i]? = some c) (hm : c ∈ seen) : seenOK o i seen := by
  unfold seenOK at h ⊢
  rw [h, take_snoc hc, recL_snoc, List.filter_cons, if_neg (by simp [hm]), List.filter_filter]
  congr 1
  apply List.filter_congr
  intro d _
  by_cases hd : d = c
  · subst hd; simp [hm]
  · simp [hd]
theorem seen_out {o : List Cl} {i : Nat} {seen : List Cl} {c : Cl} (h : seenOK o (i + 1) seen) (hc : o[i]? = some c) (hm : c ∉ seen) :
    seenOK o i (seen ++ [c]) ∧ recL o = seen ++ c :: (recL (o.take i)).filter fun d => !decide (d ∈ seen ++ [c]) := by
  have key : recL o = seen ++ c :: (recL (o.take i)).filter fun d => !decide (d ∈ seen ++ [c]) := by
    unfold seenOK at h
    rw [h, take_snoc hc, recL_snoc, List.filter_cons, if_pos (by simp [hm]), List.filter_filter]
    congr 2
    apply List.filter_congr
    intro d _
    by_cases hd : d = c
    · subst hd; simp
    · simp [hd]
  refine ⟨?_, key⟩
  unfold seenOK
  conv => lhs; rw [key]
  rw [List.append_assoc]; rfl
theorem seen_end {o : List Cl} {seen : List Cl} (h : seenOK o 0 seen) : recL o = seen := by
  unfold seenOK at h
  rw [h]; simp [recL]
theorem seen_nodup {o : List Cl} {i : Nat} {seen : List Cl} (h : seenOK o i seen) : seen.Nodup := by
  have := recL_nodup o
  unfold seenOK at h
  rw [h, List.nodup_append] at this
  exact this.1
theorem seen_len {o : List Cl} {i : Nat} {seen : List Cl} (h : seenOK o i seen) : seen.length ≤ (recL o).length := by
  unfold seenOK at h
  rw [h, List.length_append]; omega
theorem recL_len (o : List Cl) : (recL o).length ≤ o.length := by
  refine rev_ind (P := fun o => (recL o).length ≤ o.length) (by simp [recL]) (fun o c h => ?_) o
  rw [recL_snoc, List.length_cons, List.length_append]
  have := List.length_filter_le (fun d => !decide (d = c)) (recL o)
  simp; omega
theorem first_mem {A B : List Cl} {c : Cl} {n : Nat} (h : (A ++ c :: B).Nodup) : decide (c ∈ (A ++ c :: B).take n) = decide (A.length < n) := by
  rw [decide_eq_decide]
  constructor
  · intro hm
    rcases Nat.lt_or_ge A.length n with h1 | h1
    · exact h1
    · rw [List.take_append_of_le_length h1] at hm
      have hA := List.mem_of_mem_take hm
      rw [List.nodup_append] at h
      exact absurd rfl (h.2.2 c hA c (by simp))
  · intro hl
    rw [List.take_append, List.mem_append]
    right
    rw [show n - A.length = (n - A.length - 1) + 1 by omega, List.take_succ_cons]
    simp
def keysH (l : List He) : List Cl := l.map He.c
theorem keys_rest {c : Cl} : ∀ {l : List He}, (keysH l).Nodup → keysH (restH c l) = (keysH l).filter fun d => !decide (d = c) := by
  intro l hn
  rcases idxH_cases (c := c) (l := l) (i := 0) with ⟨hx, hall⟩ | ⟨j, e, he, hec, hx, hall⟩
  · unfold restH
    rw [if_pos hx]
    symm
    rw [List.filter_eq_self]
    intro d hd
    unfold keysH at hd
    obtain ⟨e, he, rfl⟩ := List.mem_map.1 hd
    simp [hall e he]
  · rw [Nat.zero_add] at hx
    unfold restH
    rw [if_neg (by rw [hx]; omega), hx, Int.toNat_natCast, List.eraseIdx_eq_take_drop_succ]
    have hj : j < l.length := (List.getElem?_eq_some_iff.mp he).1
    have hl : l = l.take j ++ e :: l.drop (j + 1) := by
      have := List.drop_eq_getElem_cons hj
      rw [(List.getElem?_eq_some_iff.mp he).2] at this
      rw [← this, List.take_append_drop]
    unfold keysH at hn ⊢
    rw [hl, List.map_append, List.map_cons, List.nodup_append, List.nodup_cons] at hn
    conv => rhs; rw [hl]
    rw [List.map_append, List.map_append, List.map_cons, List.filter_append, List.filter_cons, if_neg (by simp [hec])]
    congr 1
    · symm
      rw [List.filter_eq_self]
      intro d hd
      have := hn.2.2 d hd e.c (by simp)
      simp [← hec, this]
    · symm
      rw [List.filter_eq_self]
      intro d hd
      have : d ≠ e.c := fun h => hn.2.1.1 (h ▸ hd)
      simp [← hec, this]
theorem take_filter {R : List Cl} {c : Cl} {n : Nat} (h : R.Nodup) : (c :: (R.take (n + 1)).filter fun d => !decide (d = c)).take (n + 1) = (c :: R.filter fun d => !decide (d = c)).take (n + 1) := by
  rw [List.take_succ_cons, List.take_succ_cons]
  congr 1
  by_cases hm : c ∈ R
  · obtain ⟨A, B, rfl⟩ := List.append_of_mem hm
    rw [List.nodup_append, List.nodup_cons] at h
    have hA : A.filter (fun d => !decide (d = c)) = A := by
      rw [List.filter_eq_self]; intro d hd
      have := h.2.2 d hd c (by simp); simp [this]
    have hB : B.filter (fun d => !decide (d = c)) = B := by
      rw [List.filter_eq_self]; intro d hd
      have : d ≠ c := fun k => h.2.1.1 (k ▸ hd)
      simp [this]
    rw [List.filter_append, List.filter_cons, if_neg (by simp), hA, hB]
    rcases Nat.lt_or_ge A.length (n + 1) with h1 | h1
    · have t1 : A.take (n + 1) = A := List.take_of_length_le (by omega)
      have t2 : A.take n = A := List.take_of_length_le (by omega)
      rw [List.take_append, t1, show n + 1 - A.length = (n - A.length) + 1 by omega, List.take_succ_cons, List.filter_append, List.filter_cons, if_neg (by simp), hA]
      have hBt : (B.take (n - A.length)).filter (fun d => !decide (d = c)) = B.take (n - A.length) := by
        rw [List.filter_eq_self]; intro d hd
        have : d ≠ c := fun k => h.2.1.1 (k ▸ List.mem_of_mem_take hd)
        simp [this]
      rw [hBt, List.take_of_length_le (l := A ++ B.take (n - A.length)) (by rw [List.length_append, List.length_take]; omega), List.take_append, t2]
    · rw [List.take_append_of_le_length h1]
      have hAt : (A.take (n + 1)).filter (fun d => !decide (d = c)) = A.take (n + 1) := by
        rw [List.filter_eq_self]; intro d hd
        have := h.2.2 d (List.mem_of_mem_take hd) c (by simp); simp [this]
      rw [hAt, List.take_take, Nat.min_eq_left (by omega), List.take_append_of_le_length (by omega)]
  · have hR : R.filter (fun d => !decide (d = c)) = R := by
      rw [List.filter_eq_self]; intro d hd
      have : d ≠ c := fun k => hm (k ▸ hd)
      simp [this]
    have hRt : (R.take (n + 1)).filter (fun d => !decide (d = c)) = R.take (n + 1) := by
      rw [List.filter_eq_self]; intro d hd
      have : d ≠ c := fun k => hm (k ▸ List.mem_of_mem_take hd)
      simp [this]
    rw [hR, hRt, List.take_take, Nat.min_eq_left (by omega)]
theorem keys_hear {o : List Cl} {c v : Cl} {w : Int} {l : List He} (h : keysH l = (recL o).take 8) : keysH (hearL c v w l) = (recL (o ++ [c])).take 8 := by
  have hn : (keysH l).Nodup := by rw [h]; exact (recL_nodup o).sublist (List.take_sublist _ _)
  have e : keysH (hearL c v w l) = (c :: keysH (restH c l)).take 8 := by unfold hearL keysH; rw [List.map_take]; rfl
  rw [e, keys_rest hn, h, recL_snoc]
  exact take_filter (recL_nodup o)
theorem find_keys {c : Cl} {l : List He} : (findH c l).2 = decide (c ∈ keysH l) := by
  unfold findH keysH
  rcases idxH_cases (c := c) (l := l) (i := 0) with ⟨hx, hall⟩ | ⟨j, e, he, hec, hx, hall⟩
  · have : ¬ c ∈ l.map He.c := fun h => by
      obtain ⟨e, he, h⟩ := List.mem_map.1 h
      exact hall e he h
    rw [hx]
    simp only [this, decide_false]
    split <;> simp
  · rw [Nat.zero_add] at hx
    have : c ∈ l.map He.c := List.mem_map.2 ⟨e, List.mem_of_getElem? he, hec⟩
    rw [hx, Int.toNat_natCast, he]
    simp only [this, decide_true]
    rw [if_neg (by omega)]
end Go.Proofs.YtijndljfpiomhaaDoor
/- The document's example; the law of a list that is not there: walked. -/
namespace Go.Proofs.YtijndljfpiomhaaDoor
open Go.Lg
set_option maxRecDepth 8000
set_option maxHeartbeats 8000000
def Ct.bytes (c : Ct) (w : Bool) : List UInt8 := K.strL (K.putL8 c.k c.ns c.nr c.pf w)
def Ct.right (c : Ct) (w : Bool) : Bool := K.rightC c.k c.ns c.nr w
def cA : Cl := ⟨[65], 0⟩
def cB : Cl := ⟨[66], 0⟩
def ctU : Ct := ⟨10, 0, 0, false⟩
def hfB (f t : Cl) : List UInt8 := encF [⟨t.b, t.s, true⟩, ⟨f.b, f.s, false⟩] (ctU.bytes false) (K.pidB 10) 0 []
theorem bytes_len (c : Ct) (w : Bool) : (c.bytes w).length ≤ 2 := by
  unfold Ct.bytes; rw [K.strL_len]; unfold K.putL8; split
  · simp
  · split <;> simp
theorem ctl_put {c : Ct} {w : Bool} (hc : c.right w = true) (m : Mem) : Ret Tryd.prog 16 [c.val, .bool w] m (.tuple #[str (c.bytes w), .int .i64 0]) m := by
  have := K.ctlput_spec c.k c.ns c.nr c.pf w m
  have hc' : K.rightC c.k c.ns c.nr w = true := hc
  rw [hc'] at this
  exact this
theorem ctU_right : ctU.right false = true := by decide +kernel
theorem wrong_ctU {rp : Bool} (h : rp = true) : wrongE rp (K.rightC 10 0 0 false) (K.pidB 10) (K.infoB 10) 0 [] = 0 := by subst h; decide +kernel
theorem hfB_len {f t : Cl} : (hfB f t).length ≤ 100 := by
  unfold hfB encF
  have := bytes_len ctU false
  rw [List.length_append, List.length_append, List.length_append, putE_len]
  split <;> simp <;> omega
theorem rd_nil {sz : Nat} {m : Mem} : Rd m sz (.slice none 0 0) [] := ⟨none, rfl, fun h => by simp at h⟩
theorem new_spec (m : Mem) : LCall Tryd.prog 6 [] m fun v M => v = .pointer (some ⟨m.length, 0, none⟩) ∧ M = m ++ [⟨[.slice none 0 0], 51, 1, 0, .own⟩] := by
  refine LCall_enter Tryd.func6 c6 ?_
  simp (contextual := true) (implicitDefEqProofs := false) (maxSteps := 2000000) (disch := first | rfl | exact NB rfl | omega | (simp only [XL]; omega)) only [L6, XW, undef_eq, Nat.reduceAdd, Nat.reduceSub, ↓reduceIte, basic, cellsL, resOf, setAt, below, belowB, belowA, atomB, Nat.reduceLeDiff, Nat.reduceMul, Int.reduceToNat, Int.reduceLT, Int.reduceLE, Int.reduceAdd, Int.reduceNeg, Int.reduceEq, splice, Nat.reduceEqDiff, Nat.reduceLT, isAtom, Int.reduceSub, Int.reduceMul, implies_true]
theorem enc_spec {f t : Cl} {sv : Value} {m : Mem} (h : RdN m 3 sv (([] : List En).map En.row)) (hr : rightP t.b t.s f.b f.s [] = true) :
    Ret Tryd.prog 8 [frameV t.b t.s f.b f.s true false sv ctU 0 [], .bool false] m (.tuple #[str (hfB f t), .int .i64 0]) m :=
  encode_spec (tb := t.b) (ts := t.s) (fb := f.b) (fs := f.s) (tm := true) (fm := false) (l := []) (c := ctU) (pid := 0) (info := []) (wide := false) h
    (fun m => K.ctlright_spec 10 0 0 false false m) (fun m => K.pid_spec 10 m) (fun m => K.info_spec 10 m) (fun m => ctl_put (c := ctU) (w := false) ctU_right m) (Nat.le_trans (bytes_len _ _) (by decide)) (wrong_ctU hr)
theorem ex_get : getP (hfB cA cB) 11 [] = (0, [⟨[66], 0, true⟩, ⟨[65], 0, false⟩]) := by
  have h : (getP (hfB cA cB) 11 []).1 = 0 ∧ (getP (hfB cA cB) 11 []).2.map (fun e => (e.b, e.s, e.k)) = [([66], 0, true), ([65], 0, false)] := by decide +kernel
  refine Prod.ext h.1 ?_
  have h2 := congrArg (List.map fun x : List UInt8 × Int × Bool => (⟨x.1, x.2.1, x.2.2⟩ : En)) h.2
  rw [List.map_map] at h2
  exact (List.map_id _).symm.trans h2
theorem ex_right : rightP [66] 0 [65] 0 [] = true := by decide +kernel
def exL1 : List He := hearL cA (viaL []) 1 []
def exL2 : List He := hearL cA (viaL []) 2 exL1
theorem exL1_eq : exL1 = [⟨cA, ⟨[], 0⟩, 1, 1⟩] := by rfl
theorem exL2_eq : exL2 = [⟨cA, ⟨[], 0⟩, 2, 2⟩] := by rfl
theorem awake_spec (m : Mem) : Ret Tryd.prog 5 [] m (.bool true) m := by
  refine LCall_drop (LCall_enter Tryd.func5 c5 ?_)
  simp (contextual := true) (implicitDefEqProofs := false) (maxSteps := 2000000) (disch := first | rfl | exact NB rfl | omega | (simp only [XL]; omega)) only [L5, XW, undef_eq, Nat.reduceAdd, Nat.reduceSub, ↓reduceIte, basic, cellsL, resOf, setAt, below, belowB, belowA, atomB, Nat.reduceLeDiff, Nat.reduceMul, Int.reduceToNat, Int.reduceLT, Int.reduceLE, Int.reduceAdd, Int.reduceNeg, Int.reduceEq, splice, Nat.reduceEqDiff, Nat.reduceLT, isAtom, Int.reduceSub, Int.reduceMul, implies_true]
  refine (via_spec (fb := [65]) (fs := 0) (tb := [66]) (ts := 0) (cm := true) (cs := []) (by decide) (by decide) (by simp) rd_nil (by decide)).mono ?_
  rintro v M1 ⟨hf1, hv⟩
  have hri : rightP [66] 0 [65] 0 (([] : List Cl).map Cl.en) = true := ex_right
  rw [if_pos hri] at hv
  obtain ⟨sv, F, rfl, hs1, hF⟩ := hv
  obtain ⟨sa, rfl, _⟩ := hs1.form
  simp (contextual := true) (implicitDefEqProofs := false) (maxSteps := 2000000) (disch := first | rfl | exact NB rfl | omega | (simp only [XL]; omega)) only [XW, undef_eq, Nat.reduceAdd, Nat.reduceSub, ↓reduceIte, basic, cellsL, resOf, setAt, below, belowB, belowA, atomB, Nat.reduceLeDiff, Nat.reduceMul, Int.reduceToNat, Int.reduceLT, Int.reduceLE, Int.reduceAdd, Int.reduceNeg, Int.reduceEq, splice, Nat.reduceEqDiff, Nat.reduceLT, isAtom, Int.reduceSub, Int.reduceMul, implies_true]
  obtain ⟨M2, hM2, hM2l, hf2⟩ : ∃ N, M1 ++ [⟨[str [66], .int .i64 0, str [65], .int .i64 0, .bool true, .bool false, .slice sa 0 0], 30, 1, 0, .own⟩] = N ∧ N.length = M1.length + 1 ∧ Frm [] M1 N := ⟨_, rfl, by simp, Frm.refl.app⟩
  rw [hM2]
  have hs2 := hs1.frm0 hf2
  have henc := enc_spec (f := cA) (t := cB) (m := M2) (Sl.rdn hs2) ex_right
  have henc' : Ret Tryd.prog 8 [frameV [66] 0 [65] 0 true false (.slice sa 0 0) ctU 0 [], .bool false] M2 (.tuple #[str (hfB cA cB), .int .i64 0]) M2 := henc
  refine henc'.use ?_
  simp (contextual := true) (implicitDefEqProofs := false) (maxSteps := 2000000) (disch := first | rfl | exact NB rfl | omega | (simp only [XL]; omega)) only [XW, undef_eq, Nat.reduceAdd, Nat.reduceSub, ↓reduceIte, basic, cellsL, resOf, setAt, below, belowB, belowA, atomB, Nat.reduceLeDiff, Nat.reduceMul, Int.reduceToNat, Int.reduceLT, Int.reduceLE, Int.reduceAdd, Int.reduceNeg, Int.reduceEq, splice, Nat.reduceEqDiff, Nat.reduceLT, isAtom, Int.reduceSub, Int.reduceMul, implies_true]
  refine (new_spec M2).mono ?_
  rintro v M3 ⟨rfl, rfl⟩
  simp (contextual := true) (implicitDefEqProofs := false) (maxSteps := 2000000) (disch := first | rfl | exact NB rfl | omega | (simp only [XL]; omega)) only [XW, undef_eq, Nat.reduceAdd, Nat.reduceSub, ↓reduceIte, basic, cellsL, resOf, setAt, below, belowB, belowA, atomB, Nat.reduceLeDiff, Nat.reduceMul, Int.reduceToNat, Int.reduceLT, Int.reduceLE, Int.reduceAdd, Int.reduceNeg, Int.reduceEq, splice, Nat.reduceEqDiff, Nat.reduceLT, isAtom, Int.reduceSub, Int.reduceMul, implies_true]
  have hd3 : (M2 ++ [⟨[.slice none 0 0], 51, 1, 0, .own⟩] : Mem)[M2.length]? = some ⟨[.slice none 0 0], 51, 1, 0, .own⟩ := by simp
  have hf03 : Frm [] m (M2 ++ [⟨[.slice none 0 0], 51, 1, 0, .own⟩]) := (hf1.nil_trans hf2).app
  have hlen := (hf1.nil_trans hf2).len
  refine (hear_spec (l := []) (F := []) (now := 1) hd3 .nil (by simp) (by simp) (Nat.le_trans hfB_len (by decide)) (fun _ _ _ _ => ins_none)).mono ?_
  rintro v M4 hv
  rw [ex_get, if_pos rfl] at hv
  obtain ⟨x, y, r, hxy, rfl, hf4, sv4, G4, hd4, hs4, hdG4, hG4⟩ := hv
  simp at hxy
  obtain ⟨rfl, rfl, rfl⟩ := hxy
  have hs4' : Sl M4 42 6 sv4 G4 (exL1.map He.row) := hs4
  simp (contextual := true) (implicitDefEqProofs := false) (maxSteps := 2000000) (disch := first | rfl | exact NB rfl | omega | (simp only [XL]; omega)) only [XW, undef_eq, Nat.reduceAdd, Nat.reduceSub, ↓reduceIte, basic, cellsL, resOf, setAt, below, belowB, belowA, atomB, Nat.reduceLeDiff, Nat.reduceMul, Int.reduceToNat, Int.reduceLT, Int.reduceLE, Int.reduceAdd, Int.reduceNeg, Int.reduceEq, splice, Nat.reduceEqDiff, Nat.reduceLT, isAtom, Int.reduceSub, Int.reduceMul, implies_true]
  refine (hear_spec (l := exL1) (F := G4) (now := 2) hd4 hs4' hdG4 (by rw [exL1_eq]; decide) (Nat.le_trans hfB_len (by decide)) (fun x y r h => by
    rw [ex_get] at h
    simp at h
    obtain ⟨rfl, rfl, rfl⟩ := h
    have : restH cA exL1 = [] := rfl
    show InsOK ((restH cA exL1).map He.row)
    rw [this]
    exact ins_none)).mono ?_
  rintro v M5 hv
  rw [ex_get, if_pos rfl] at hv
  obtain ⟨x, y, r, hxy, rfl, hf5, sv5, G5, hd5, hs5, hdG5, hG5⟩ := hv
  simp at hxy
  obtain ⟨rfl, rfl, rfl⟩ := hxy
  have hs5' : Sl M5 42 6 sv5 G5 (exL2.map He.row) := hs5
  simp (contextual := true) (implicitDefEqProofs := false) (maxSteps := 2000000) (disch := first | rfl | exact NB rfl | omega | (simp only [XL]; omega)) only [XW, undef_eq, Nat.reduceAdd, Nat.reduceSub, ↓reduceIte, basic, cellsL, resOf, setAt, below, belowB, belowA, atomB, Nat.reduceLeDiff, Nat.reduceMul, Int.reduceToNat, Int.reduceLT, Int.reduceLE, Int.reduceAdd, Int.reduceNeg, Int.reduceEq, splice, Nat.reduceEqDiff, Nat.reduceLT, isAtom, Int.reduceSub, Int.reduceMul, implies_true]
  refine (all_spec hd5 hs5' (by rw [exL2_eq]; decide)).mono ?_
  rintro v M6 ⟨hf6, G6, hs6, hG6⟩
  rw [exL2_eq] at hs6
  obtain ⟨ua, rfl, hform⟩ := hs6.form
  obtain ⟨b, o, cs, rfl, rfl, hb, hlb, _, hrow⟩ := hform (by simp)
  have hr : (cs.drop (o + 0 * 6)).take 6 = [str [65], .int .i64 0, str [], .int .i64 0, .int .i64 2, .int .i64 2] := hrow 0 _ rfl
  have hc4 := row_cell hr (j := 4) (by decide)
  have hc5 := row_cell hr (j := 5) (by decide)
  simp only [Nat.zero_mul, Nat.add_zero] at hc4 hc5
  have lb := lt_of_some hb
  have h04 : Frm [] m M4 := hf03.trans hf4 fun z hz => .inr (by simp at hz; omega)
  have h05 : Frm [] m M5 := h04.trans hf5 fun z hz => .inr (by
    rcases List.mem_cons.mp hz with h | h
    · omega
    · rcases hG4 z h with h | h
      · simp at h
      · have := hf03.len; omega)
  simp (contextual := true) (implicitDefEqProofs := false) (maxSteps := 2000000) (disch := first | rfl | exact NB rfl | omega | (simp only [XL]; omega)) only [hb, hc4, hc5, cellB_l (k := .own) rfl, XW, undef_eq, Nat.reduceAdd, Nat.reduceSub, ↓reduceIte, basic, cellsL, resOf, setAt, below, belowB, belowA, atomB, Nat.reduceLeDiff, Nat.reduceMul, Int.reduceToNat, Int.reduceLT, Int.reduceLE, Int.reduceAdd, Int.reduceNeg, Int.reduceEq, splice, Nat.reduceEqDiff, Nat.reduceLT, isAtom, Int.reduceSub, Int.reduceMul, implies_true]
  exact (h05.nil_trans hf6).ext0
theorem eqN_none : eqN [(0, .string), (1, .int), (2, .string), (3, .int), (4, .int), (5, .int)] (.agg #[str [], .int .i64 0, str [], .int .i64 0, .int .i64 0, .int .i64 0]) (.agg #[.string ⟨#[]⟩, .int .i64 0, .string ⟨#[]⟩, .int .i64 0, .int .i64 0, .int .i64 0]) = some true := by
  simp [eqN, eqLeaves, eqLeaf, str]
theorem none_law (s : List UInt8) (c : Cl) (m : Mem) : LCall Tryd.prog 4 [str s, cl c.b c.s] m fun v _ => v = .bool true := by
  refine LCall_enter Tryd.func4 c4 ?_
  simp (contextual := true) (implicitDefEqProofs := false) (maxSteps := 2000000) (disch := first | rfl | exact NB rfl | omega | (simp only [XL]; omega)) only [L4, XW, undef_eq, Nat.reduceAdd, Nat.reduceSub, ↓reduceIte, basic, cellsL, resOf, setAt, below, belowB, belowA, atomB, Nat.reduceLeDiff, Nat.reduceMul, Int.reduceToNat, Int.reduceLT, Int.reduceLE, Int.reduceAdd, Int.reduceNeg, Int.reduceEq, splice, Nat.reduceEqDiff, Nat.reduceLT, isAtom, Int.reduceSub, Int.reduceMul, implies_true]
  refine (awake_spec _).use ?_
  simp (contextual := true) (implicitDefEqProofs := false) (maxSteps := 2000000) (disch := first | rfl | exact NB rfl | omega | (simp only [XL]; omega)) only [bin_ladd, str_cut, str_app, str_eq, string_mk_size, string_mk, XW, undef_eq, Nat.reduceAdd, Nat.reduceSub, ↓reduceIte, basic, cellsL, resOf, setAt, below, belowB, belowA, atomB, Nat.reduceLeDiff, Nat.reduceMul, Int.reduceToNat, Int.reduceLT, Int.reduceLE, Int.reduceAdd, Int.reduceNeg, Int.reduceEq, splice, Nat.reduceEqDiff, Nat.reduceLT, isAtom, Int.reduceSub, Int.reduceMul, implies_true]
  by_cases h1 : 1000 < s.length
  · have h1' : ((1000 : Int) < (s.length : Int)) = True := eq_true (by omega)
    simp (contextual := true) (implicitDefEqProofs := false) (maxSteps := 2000000) (disch := first | rfl | exact NB rfl | omega | (simp only [XL]; omega)) only [h1', XW, undef_eq, Nat.reduceAdd, Nat.reduceSub, ↓reduceIte, basic, cellsL, resOf, setAt, below, belowB, belowA, atomB, Nat.reduceLeDiff, Nat.reduceMul, Int.reduceToNat, Int.reduceLT, Int.reduceLE, Int.reduceAdd, Int.reduceNeg, Int.reduceEq, splice, Nat.reduceEqDiff, Nat.reduceLT, isAtom, Int.reduceSub, Int.reduceMul, implies_true]
  · have h1' : ((1000 : Int) < (s.length : Int)) = False := eq_false (by omega)
    simp (contextual := true) (implicitDefEqProofs := false) (maxSteps := 2000000) (disch := first | rfl | exact NB rfl | omega | (simp only [XL]; omega)) only [h1', XW, undef_eq, Nat.reduceAdd, Nat.reduceSub, ↓reduceIte, basic, cellsL, resOf, setAt, below, belowB, belowA, atomB, Nat.reduceLeDiff, Nat.reduceMul, Int.reduceToNat, Int.reduceLT, Int.reduceLE, Int.reduceAdd, Int.reduceNeg, Int.reduceEq, splice, Nat.reduceEqDiff, Nat.reduceLT, isAtom, Int.reduceSub, Int.reduceMul, implies_true]
    refine (clear_nil _).mono ?_
    rintro _ _ rfl
    simp (contextual := true) (implicitDefEqProofs := false) (maxSteps := 2000000) (disch := first | rfl | exact NB rfl | omega | (simp only [XL]; omega)) only [XW, undef_eq, Nat.reduceAdd, Nat.reduceSub, ↓reduceIte, basic, cellsL, resOf, setAt, below, belowB, belowA, atomB, Nat.reduceLeDiff, Nat.reduceMul, Int.reduceToNat, Int.reduceLT, Int.reduceLE, Int.reduceAdd, Int.reduceNeg, Int.reduceEq, splice, Nat.reduceEqDiff, Nat.reduceLT, isAtom, Int.reduceSub, Int.reduceMul, implies_true]
    refine (find_nil c _).use ?_
    simp (contextual := true) (implicitDefEqProofs := false) (maxSteps := 2000000) (disch := first | rfl | exact NB rfl | omega | (simp only [XL]; omega)) only [XW, undef_eq, Nat.reduceAdd, Nat.reduceSub, ↓reduceIte, basic, cellsL, resOf, setAt, below, belowB, belowA, atomB, Nat.reduceLeDiff, Nat.reduceMul, Int.reduceToNat, Int.reduceLT, Int.reduceLE, Int.reduceAdd, Int.reduceNeg, Int.reduceEq, splice, Nat.reduceEqDiff, Nat.reduceLT, isAtom, Int.reduceSub, Int.reduceMul, implies_true]
    refine (hear_nil (s := s) (now := 1) (by omega)).mono ?_
    rintro _ M ⟨rfl, hf⟩
    have hb := hf.get0 (i := m.length + 1) (b := ⟨[str [], .int .i64 0, str [], .int .i64 0, .int .i64 0, .int .i64 0], 42, 1, 0, .own⟩) (by rw [List.getElem?_append_right (by omega)]; simp)
    have lb := lt_of_some hb
    simp (contextual := true) (implicitDefEqProofs := false) (maxSteps := 2000000) (disch := first | rfl | exact NB rfl | omega | (simp only [XL]; omega)) only [hb, XW, undef_eq, Nat.reduceAdd, Nat.reduceSub, ↓reduceIte, basic, cellsL, resOf, setAt, below, belowB, belowA, atomB, Nat.reduceLeDiff, Nat.reduceMul, Int.reduceToNat, Int.reduceLT, Int.reduceLE, Int.reduceAdd, Int.reduceNeg, Int.reduceEq, splice, Nat.reduceEqDiff, Nat.reduceLT, isAtom, Int.reduceSub, Int.reduceMul, implies_true]
    refine (all_nil _).use ?_
    simp (contextual := true) (implicitDefEqProofs := false) (maxSteps := 2000000) (disch := first | rfl | exact NB rfl | omega | (simp only [XL]; omega)) only [hb, eqN_none, XW, undef_eq, Nat.reduceAdd, Nat.reduceSub, ↓reduceIte, basic, cellsL, resOf, setAt, below, belowB, belowA, atomB, Nat.reduceLeDiff, Nat.reduceMul, Int.reduceToNat, Int.reduceLT, Int.reduceLE, Int.reduceAdd, Int.reduceNeg, Int.reduceEq, splice, Nat.reduceEqDiff, Nat.reduceLT, isAtom, Int.reduceSub, Int.reduceMul, implies_true]
theorem cl_of {m : Mem} {n : Nat} {v : Value} (h : TyV Tryd.prog m (n + 2) 27 v) : ∃ c : Cl, v = cl c.b c.s ∧ c.b.length ≤ 140737488355328 := by
  obtain ⟨_, rfl, x1, _, rfl, h1, x2, _, rfl, h2, rfl⟩ := h.struct Tryd.underlying27 rfl
  obtain ⟨s, rfl, hs⟩ := h1.text Tryd.underlying9
  obtain ⟨a, rfl, ha⟩ := h2.int Tryd.underlying3
  obtain ⟨l, rfl⟩ := str_is s
  rw [string_mk_size] at hs
  exact ⟨⟨l, a⟩, rfl, Nat.le_trans hs (by decide)⟩
theorem heardnone_all (m : Mem) (vs : List Value) (h : F2 (TyV Tryd.prog m 6) [9, 27] vs) : LCall Tryd.prog 4 vs m fun v _ => v = .bool true := by
  obtain ⟨u, v, rfl, h1, h2⟩ := h.two_inv
  obtain ⟨t, rfl, _⟩ := h1.string Tryd.underlying9
  obtain ⟨s, rfl⟩ := str_is t
  obtain ⟨c, rfl, _⟩ := cl_of h2
  exact none_law s c m
end Go.Proofs.YtijndljfpiomhaaDoor
