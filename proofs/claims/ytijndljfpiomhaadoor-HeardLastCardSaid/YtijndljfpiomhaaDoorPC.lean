/- slices.Insert at the entries of the list, as a call said of the logical memory. -/
import Derived.Test.YtijndljfpiomhaaDoorPB
import Derived.Test.YtijndljfpiomhaaDoorDI
import Derived.Maps.OwnSet
import Derived.DeepKeys5
import Derived.KernelRfl
import Derived.WalkKit
import Derived.Deep.DeepMust
set_option linter.unusedSimpArgs false
set_option linter.unnecessarySimpa false
set_option linter.unusedVariables false
namespace Go.Proofs.YtijndljfpiomhaaDoor
open Go.Lg Go.RowKit
theorem he_size (w : World) : (Go.sizeOf 42).run Tryd.prog w = .ok 6 w := by
  obtain ⟨i, hi, hs, _⟩ := he_info
  simp [Go.sizeOf, typeInfo, hi, hs, Sem.run]
theorem ov_false (w : World) {pv p : Nat} {cV c : Array Value} {fz : Nat × Nat} (hv : w.heap[pv]? = some (.cells cV 42 (0, 0))) (hp : w.heap[p]? = some (.cells c 42 fz)) (hc : c.size ≠ 0) (hne : pv ≠ p) (voff m vc a lb cb : Nat) :
    (callFunc 42 #[.slice (some ⟨pv, voff, none⟩) m vc, .slice (some ⟨p, a, none⟩) lb cb]).run Tryd.prog w = .ok (.value (.bool false)) w := by
  rw [run_callFunc_extern Tryd.func42 (by kernel_rfl) (by kernel_rfl) (by kernel_rfl) (e := Extern.SlicesOverlaps.overlaps #[43, 43] #[4]) (by kernel_rfl),
    Lib.run_overlaps_apart w 43 4 42 Tryd.underlying43 6 he_size ⟨pv, voff, none⟩ ⟨p, a, none⟩ m vc lb cb hne 42 42 cV.size c.size (by simp [World.shape?, hv]) (by simp [World.shape?, hp]) hc (by simp [World.frozen?, hv]) (by simp [World.frozen?, hv])]
  rfl
theorem Stp.heap_eq {base : Nat} {r r' : Rho} {m m' : Mem} {w w1 w2 : World} (h : Stp base r m w r' m' w1) (hh : w2.heap = w1.heap) (g1 : w2.os = w1.os) (g2 : w2.tape = w1.tape) (g3 : w2.output = w1.output) : Stp base r m w r' m' w2 := by
  refine ⟨⟨h.mr.dom, fun i k b d t z hk hi => by rw [hh]; exact h.mr.blk i k b d t z hk hi, h.mr.inj, by rw [hh]; exact h.mr.base⟩, h.ext, h.len, fun b hb hn => by rw [hh]; exact h.fr b hb hn, h.own, by rw [hh]; exact h.size, g1.trans h.os, g2.trans h.tape, g3.trans h.output⟩
theorem ins_cells {r : Rho} {cs row : List Value} {l : List (List Value)} {c c1 c2 : Array Value} {vs news : List Value} {o d : Nat} (hrow : row.length = 6) (hrl : ∀ r ∈ l, r.length = 6) (ho : o ≤ cs.length)
    (h3 : ∀ j v, cs[j]? = some v → ∃ v', c[d + j]? = some v' ∧ CR r v v') (hbw : ∀ y, y < l.length * 6 → ∃ v v', l.flatten[y]? = some v ∧ c[d + o + y]? = some v' ∧ CR r v v')
    (hbv : ∀ y, y < 6 → ∃ v v', row[y]? = some v ∧ vs[y]? = some v' ∧ CR r v v') (hvl : vs.length = 6)
    (hng : ∀ x, x < l.length * 6 → news[x]? = c[d + o + x]?) (hnl : news.length = l.length * 6)
    (hg1 : ∀ x, c1[x]? = if d + o + 6 ≤ x ∧ x < d + o + 6 + news.length then news[x - (d + o + 6)]? else c[x]?)
    (hg2 : ∀ x, c2[x]? = if d + o ≤ x ∧ x < d + o + vs.length then vs[x - (d + o)]? else c1[x]?) :
    ∀ j v, (cs.take o ++ (row :: l).flatten)[j]? = some v → ∃ v', c2[d + j]? = some v' ∧ CR r v v' := by
  have hfl := flat_len hrl
  rw [hvl] at hg2
  rw [hnl] at hg1
  intro j v hv
  have hot : (cs.take o).length = o := by rw [List.length_take]; omega
  by_cases hjo : j < o
  · rw [List.getElem?_append_left (by omega), List.getElem?_take_of_lt hjo] at hv
    obtain ⟨v', e, q⟩ := h3 j v hv
    exact ⟨v', by rw [hg2, if_neg (by omega), hg1, if_neg (by omega)]; exact e, q⟩
  · rw [List.getElem?_append_right (by omega), hot] at hv
    have hjl := (List.getElem?_eq_some_iff.1 hv).1
    rw [List.flatten_cons, List.length_append, hrow, hfl] at hjl
    rw [List.flatten_cons] at hv
    obtain ⟨y, rfl⟩ : ∃ y, j = o + y := ⟨j - o, by omega⟩
    rw [show o + y - o = y by omega] at hv hjl
    by_cases hji : y < 6
    · rw [List.getElem?_append_left (by omega)] at hv
      obtain ⟨v0, v', e0, e, q⟩ := hbv y hji
      rw [hv] at e0
      obtain rfl : v = v0 := by simpa using e0
      refine ⟨v', ?_, q⟩
      rw [hg2, if_pos (by omega), ← e]; congr 1; omega
    · rw [List.getElem?_append_right (by omega), hrow] at hv
      obtain ⟨v0, v', e0, e, q⟩ := hbw (y - 6) (by omega)
      rw [hv] at e0
      obtain rfl : v = v0 := by simpa using e0
      refine ⟨v', ?_, q⟩
      rw [hg2, if_neg (by omega), hg1, if_pos (by omega), hng _ (by omega), ← e]; congr 1; omega
set_option maxHeartbeats 2000000 in
theorem ins_ok {rows : List (List Value)} (hn : rows.length ≤ 1000) : InsOK rows := by
  rcases Nat.eq_zero_or_pos rows.length with h0 | hpos
  · rw [List.eq_nil_of_length_eq_zero h0]; exact ins_none
  intro m sv F vb row h hv hr hne
  have hrl := h.rows_len
  have hfl := flat_len hrl
  obtain ⟨a, rfl, hform⟩ := h.form
  obtain ⟨b, o, cs, rfl, rfl, hb, hlb, hflat, _⟩ := hform hpos
  have hvb : vb ≠ b := by simpa using hne
  have hcs : ∀ y, y < rows.length * 6 → cs[o + y]? = rows.flatten[y]? := fun y hy => by rw [← hflat, List.getElem?_take_of_lt hy, List.getElem?_drop]
  intro base r w args' hm ha
  obtain ⟨v1, vs, rfl, hv1, ha⟩ := ha.cons_inv
  obtain ⟨v2, vs, rfl, hv2, ha⟩ := ha.cons_inv
  obtain ⟨v3, vs, rfl, hv3, ha⟩ := ha.cons_inv
  obtain rfl := ha.nil_inv
  obtain rfl := hv2.int_inv
  obtain ⟨_, p, d, t, z, cap, A, hri, hle, hA, rfl⟩ := hv1.slice_inv
  obtain ⟨_, pv, dv, tv, zv, cv, Av, hriv, hlev, hAv, rfl⟩ := hv3.slice_inv
  have hA' : A = ⟨p, d + o, none⟩ ∧ d + o + cap * z ≤ t := by rcases hA with h0 | h0; (exfalso; omega); exact h0
  obtain ⟨rfl, hcap⟩ := hA'
  have hAv' : Av = ⟨pv, dv + 0, none⟩ ∧ dv + 0 + cv * zv ≤ tv := by rcases hAv with h0 | h0; (exfalso; omega); exact h0
  obtain ⟨rfl, hcapv⟩ := hAv'
  rw [Nat.add_zero] at hcapv
  have hpp : pv ≠ p := fun e => by
    subst e
    exact hvb (hm.inj vb b _ _ pv _ _ hv hb rfl rfl hriv hri)
  have hbl := hm.blk b _ p d t z hb hri
  unfold Bears at hbl
  obtain ⟨h0, hz, c, fz, h1, ht, h2, h3, h4, _, h5⟩ := hbl
  simp only at hz h1 h2 h3 h4
  subst hz
  have hblv := hm.blk vb _ pv dv tv zv hv hriv
  unfold Bears at hblv
  obtain ⟨_, hzv, cV, fzv, h1v, htv, h2v, h3v, h4v, _, h5v⟩ := hblv
  simp only at hzv h1v h2v h3v h4v
  subst hzv
  obtain rfl := h5v (by omega)
  obtain rfl := h5 (by omega)
  have hpl := (hm.own_lt hri hb rfl).2
  have hvlt := (hm.own_lt hriv hv rfl).2
  obtain ⟨news, hnews⟩ : ∃ news, news = (c.toList.drop (d + o)).take (rows.length * 6) := ⟨_, rfl⟩
  have hcl : c.toList.length = c.size := Array.length_toList
  have hclV : cV.toList.length = cV.size := Array.length_toList
  have hnl : news.length = rows.length * 6 := by rw [hnews, List.length_take, List.length_drop, hcl]; omega
  have hng : ∀ x, x < rows.length * 6 → news[x]? = c[d + o + x]? := fun x hx => by rw [hnews, List.getElem?_take_of_lt hx, List.getElem?_drop, Array.getElem?_toList]
  obtain ⟨vs, hvs⟩ : ∃ vs, vs = (cV.toList.drop dv).take 6 := ⟨_, rfl⟩
  have hvl : vs.length = 6 := by rw [hvs, List.length_take, List.length_drop, hclV]; omega
  have hvg : ∀ x, x < 6 → vs[x]? = cV[dv + x]? := fun x hx => by rw [hvs, List.getElem?_take_of_lt hx, List.getElem?_drop, Array.getElem?_toList]
  have hcell : ∀ x, w.cell? ⟨p, x, none⟩ = c[x]? := fun x => by simp [World.cell?, h1]
  have hcellv : ∀ x, w.cell? ⟨pv, x, none⟩ = cV[x]? := fun x => by simp [World.cell?, h1v]
  have hfrz : ∀ x, w.frozen? ⟨p, x, none⟩ = false := fun x => by simp [World.frozen?, h1]
  have hbw : ∀ y, y < rows.length * 6 → ∃ v v', rows.flatten[y]? = some v ∧ c[d + o + y]? = some v' ∧ CR r v v' := fun y hy => by
    obtain ⟨v, hv⟩ : ∃ v, rows.flatten[y]? = some v := ⟨rows.flatten[y]'(by omega), List.getElem?_eq_getElem _⟩
    obtain ⟨v', e, q⟩ := h3 (o + y) v (by rw [hcs y hy]; exact hv)
    exact ⟨v, v', hv, by rw [← e]; congr 1; omega, q⟩
  have hbv : ∀ y, y < 6 → ∃ v v', row[y]? = some v ∧ vs[y]? = some v' ∧ CR r v v' := fun y hy => by
    obtain ⟨v, hv⟩ : ∃ v, row[y]? = some v := ⟨row[y]'(by omega), List.getElem?_eq_getElem _⟩
    obtain ⟨v', e, q⟩ := h3v y v hv
    exact ⟨v, v', hv, by rw [hvg y hy]; exact e, q⟩
  have h1n : ∀ u ∈ news, u.oneCell' = true := fun u hu => by
    obtain ⟨x, hx, rfl⟩ := List.getElem_of_mem hu
    have hx' := hng x (by omega)
    obtain ⟨v, v', _, e, q⟩ := hbw x (by omega)
    rw [List.getElem?_eq_getElem hx, e] at hx'
    simp at hx'
    rw [hx']; exact q.oneCell
  have h1s : ∀ u ∈ vs, u.oneCell' = true := fun u hu => by
    obtain ⟨x, hx, rfl⟩ := List.getElem_of_mem hu
    obtain ⟨v, v', _, e, q⟩ := hbv x (by omega)
    rw [List.getElem?_eq_getElem hx] at e
    simp at e
    rw [e]; exact q.oneCell
  have hsrc : ∀ j v, news[j]? = some v → w.cell? ⟨p, d + o + 0 * 6 + j, none⟩ = some v := fun j v hj => by
    have ht := (List.getElem?_eq_some_iff.1 hj).1
    rw [hcell, Nat.zero_mul, Nat.add_zero, ← hng j (by omega)]; exact hj
  have hsrv : ∀ j v, vs[j]? = some v → w.cell? ⟨pv, dv + j, none⟩ = some v := fun j v hj => by
    have ht := (List.getElem?_eq_some_iff.1 hj).1
    rw [hcellv, ← hvg j (by omega)]; exact hj
  have hrr : ∀ x ∈ row :: rows, x.length = 6 := fun x hx => by
    rcases List.mem_cons.mp hx with rfl | hx
    · exact hr
    · exact hrl x hx
  have hfl2 : (row :: rows).flatten.length = (rows.length + 1) * 6 := by rw [flat_len hrr]; rfl
  by_cases hroom : rows.length + 1 ≤ cap
  · have hcl6 : (rows.length + 1) * 6 ≤ cap * 6 := Nat.mul_le_mul_right _ hroom
    have key := ins_shift p (d + o) rows.length cap 0 pv dv 1 cv news vs w hpos (by omega) hroom (by omega) hpp (by rw [hnl, Nat.sub_zero]) (by rw [hvl]) hsrc
      (fun j hj => by rw [hcell, Array.getElem?_eq_getElem (by omega)]; rfl) (fun j _ => hfrz _) hsrv h1n h1s
      (fun a lb cb => ov_false w h1v h1 (by omega) hpp dv 1 cv a lb cb)
    refine key.mono ?_
    rintro e w' ⟨rfl, rfl⟩
    rw [Nat.zero_mul, Nat.add_zero, show (0 + 1) * 6 = 6 from rfl]
    obtain ⟨c1, hh1, hs1, hg1, k1, k2, k3⟩ := setCells_heap news (d + o + 6) c w.drew h1 (by omega)
    obtain ⟨c2, hh2, hs2, hg2, q1, q2, q3⟩ := setCells_heap vs (d + o) c1 (w.drew.setCells p (d + o + 6) news) (by rw [hh1, Array.getElem?_setIfInBounds, if_pos rfl]; exact if_pos hpl) (by omega)
    have hheap : ((w.drew.setCells p (d + o + 6) news).setCells p (d + o) vs).heap = w.heap.setIfInBounds p (.cells c2 42 (0, 0)) := by
      have hpl' : p < w.drew.heap.size := hpl
      rw [hh2, hh1]
      apply Array.ext_getElem?
      intro x
      simp only [Array.getElem?_setIfInBounds, Array.size_setIfInBounds]
      by_cases hx : p = x
      · subst hx
        rw [if_pos rfl, if_pos hpl', if_pos rfl, if_pos hpl]
      · rw [if_neg hx, if_neg hx, if_neg hx]; rfl
    have hot : (cs.take o).length = o := by rw [List.length_take]; omega
    have hst := Stp.renew (k' := ⟨cs.take o ++ (row :: rows).flatten, 42, 6, 0, .own⟩) hm hri hb rfl rfl hheap (by
      unfold Bears
      refine ⟨h0, rfl, c2, (0, 0), rfl, by rw [hs2, hs1]; exact ht, ?_, ?_, fun x _ _ => by simp [inFz], fun e0 => by omega, fun _ => rfl⟩
      · rw [List.length_append, hot, hfl2, hs2, hs1]; omega
      · exact ins_cells hr hrl (by omega) h3 hbw hbv hvl hng hnl hg1 hg2) (by rw [q1, k1]; rfl) (by rw [q2, k2]; rfl) (by rw [q3, k3]; rfl)
    refine ⟨_, rfl, .slice (some ⟨b, o, none⟩) (rows.length + 1) (rows.length + 1), _, r, ⟨Frm.refl.set (.inl (by simp)), [b], ?_, fun x hx => .inl hx⟩, .atom (.slice hri hroom (.inr ⟨rfl, hcap⟩)), hst⟩
    have hlt := lt_of_some hb
    exact Sl.own (m := m.set b ⟨cs.take o ++ (row :: rows).flatten, 42, 6, 0, .own⟩) (T := 42) (sz := 6) (b := b) (o := o) (cs := cs.take o ++ (row :: rows).flatten) (rows := row :: rows) (by rw [List.getElem?_set_self hlt]) hrr
      (by rw [List.drop_append_of_le_length (by omega), List.drop_of_length_le (by omega), List.nil_append, List.take_of_length_le (by rw [hfl2]; exact Nat.le_refl _)])
      (by rw [List.length_append, hot, hfl2]; exact Nat.le_refl _)
  · obtain ⟨G, ROW, hG, hROW, key⟩ := ins_grow p (d + o) rows.length cap 0 pv dv 1 cv [] news vs w hpos (by omega) hle (by omega) (by omega) rfl (by rw [hnl, Nat.sub_zero]) (by rw [hvl]) (fun j v hj => by simp at hj) hsrc hsrv h1n h1s hpl hvlt
    refine key.mono ?_
    rintro e w' ⟨rfl, rfl⟩
    rw [Nat.zero_mul, show (0 + 1) * 6 = 6 from rfl]
    have hRs : ROW.size = G * 6 := by
      have hzc : ∀ k, (Builtin.zeroCells heZ.toArray k).size = k * 6 := fun k => by simp [Builtin.zeroCells, heZ]
      rw [hROW]
      simp only [Array.size_append, List.size_toArray, hzc, List.length_nil]
      omega
    have ha0 : (w.alloc (.cells ROW 42)).drew.heap[w.heap.size]? = some (.cells ROW 42 (0, 0)) := Go.Lg.heap_alloc_new
    obtain ⟨c1, hh1, hs1, hg1, k1, k2, k3⟩ := setCells_heap vs 0 ROW (w.alloc (.cells ROW 42)).drew ha0 (by omega)
    have hsz1 : (w.alloc (.cells ROW 42)).drew.heap.size = w.heap.size + 1 := by show (w.alloc (.cells ROW 42)).heap.size = _; simp
    obtain ⟨c2, hh2, hs2, hg2, q1, q2, q3⟩ := setCells_heap news 6 c1 ((w.alloc (.cells ROW 42)).drew.setCells w.heap.size 0 vs).drew (by
      show ((w.alloc (.cells ROW 42)).drew.setCells w.heap.size 0 vs).heap[w.heap.size]? = _
      rw [hh1, Array.getElem?_setIfInBounds, if_pos rfl]; exact if_pos (by rw [hsz1]; omega)) (by omega)
    have hF2 : F2 (CR r) (row :: rows).flatten (vs ++ news) := by
      refine F2.of_get (by rw [hfl2, List.length_append, hvl, hnl]; omega) fun i a b ha hb => ?_
      rw [List.flatten_cons] at ha
      by_cases hi : i < 6
      · rw [List.getElem?_append_left (by omega)] at ha hb
        obtain ⟨v0, v', e0, e, q⟩ := hbv i hi
        rw [ha] at e0; rw [hb] at e
        obtain rfl : a = v0 := by simpa using e0
        obtain rfl : b = v' := by simpa using e
        exact q
      · rw [List.getElem?_append_right (by omega), hr] at ha
        rw [List.getElem?_append_right (by omega), hvl] at hb
        have hil := (List.getElem?_eq_some_iff.1 hb).1
        obtain ⟨v0, v', e0, e, q⟩ := hbw (i - 6) (by omega)
        rw [ha] at e0
        rw [hng (i - 6) (by omega), e] at hb
        obtain rfl : a = v0 := by simpa using e0
        obtain rfl : v' = b := by simpa using hb
        exact q
    have hc2 : c2 = (vs ++ news ++ ROW.toList.drop ((rows.length + 1) * 6)).toArray := by
      apply Array.ext_getElem?
      intro x
      rw [hg2, hnl, show (vs ++ news ++ ROW.toList.drop ((rows.length + 1) * 6)).toArray[x]? = (vs ++ news ++ ROW.toList.drop ((rows.length + 1) * 6))[x]? from List.getElem?_toArray]
      by_cases hx : 6 ≤ x ∧ x < 6 + rows.length * 6
      · rw [if_pos hx, List.getElem?_append_left (by rw [List.length_append, hvl, hnl]; omega), List.getElem?_append_right (by omega), hvl]
      · rw [if_neg hx, hg1, hvl]
        by_cases hx2 : 0 ≤ x ∧ x < 0 + 6
        · rw [if_pos hx2, List.getElem?_append_left (by rw [List.length_append, hvl, hnl]; omega), List.getElem?_append_left (by omega)]; rfl
        · rw [if_neg hx2, List.getElem?_append_right (by rw [List.length_append, hvl, hnl]; omega), List.length_append, hvl, hnl, List.getElem?_drop, Array.getElem?_toList]
          congr 1; omega
    have hheap : (((w.alloc (.cells ROW 42)).drew.setCells w.heap.size 0 vs).drew.setCells w.heap.size 6 news).heap = (w.alloc (.cells (vs ++ news ++ ROW.toList.drop ((rows.length + 1) * 6)).toArray 42)).heap := by
      rw [← hc2, hh2]
      show ((w.alloc (.cells ROW 42)).drew.setCells w.heap.size 0 vs).heap.setIfInBounds w.heap.size (.cells c2 42 (0, 0)) = _
      rw [hh1]
      apply Array.ext_getElem?
      intro x
      simp only [Array.getElem?_setIfInBounds, Array.size_setIfInBounds, hsz1]
      by_cases hx : w.heap.size = x
      · subst hx
        rw [if_pos rfl, if_pos (by omega)]
        exact Go.Lg.heap_alloc_new.symm
      · rw [if_neg hx, if_neg hx]
        show (w.alloc (.cells ROW 42)).heap[x]? = _
        rcases Nat.lt_or_ge x w.heap.size with h' | h'
        · rw [Go.Lg.heap_alloc_old h', Go.Lg.heap_alloc_old h']
        · rw [Array.getElem?_eq_none (by simp; omega), Array.getElem?_eq_none (by simp; omega)]
    have hst := Stp.heap_eq (Stp.allocRoom hm 42 6 0 hF2 (ROW.toList.drop ((rows.length + 1) * 6)) (fun e0 => by omega)) hheap (by rw [q1]; show ((w.alloc (.cells ROW 42)).drew.setCells w.heap.size 0 vs).os = _; rw [k1]; rfl) (by rw [q2]; show ((w.alloc (.cells ROW 42)).drew.setCells w.heap.size 0 vs).tape = _; rw [k2]; rfl) (by rw [q3]; show ((w.alloc (.cells ROW 42)).drew.setCells w.heap.size 0 vs).output = _; rw [k3]; rfl)
    refine ⟨_, rfl, .slice (some ⟨m.length, 0, none⟩) (rows.length + 1) (rows.length + 1), _, _, ⟨Frm.refl.app, [m.length], ?_, fun x hx => .inr (by simp at hx; omega)⟩, ?_, hst⟩
    · exact Sl.own (T := 42) (sz := 6) (b := m.length) (o := 0) (cs := (row :: rows).flatten) (rows := row :: rows) (by simp) hrr
        (by rw [List.drop_zero, List.take_of_length_le (by rw [hfl2]; exact Nat.le_refl _)]) (by rw [hfl2, Nat.zero_add]; exact Nat.le_refl _)
    · refine .atom (.slice (b := w.heap.size) (d := 0) (t := (vs ++ news ++ ROW.toList.drop ((rows.length + 1) * 6)).length) (z := 6) (by simp) hG (.inr ⟨rfl, ?_⟩))
      have := congrArg Array.size hc2
      rw [hs2, hs1, hRs, List.size_toArray] at this
      omega
end Go.Proofs.YtijndljfpiomhaaDoor
/- A function whose code the short form covers up to a place: what is left is walked in the world. -/
namespace Go.Proofs.YtijndljfpiomhaaDoor
open Go.Lg Go.RowKit
def LSuf (P : Program) (fn : Func) (base : Nat) (r0 : Rho) (m0 : Mem) (w0 : World) (K : Value → Mem → Prop) (c : Code) (t : List Value) (m : Mem) : Prop :=
  ∀ (r : Rho) (w : World) (a : Act), Stp base r0 m0 w0 r m w → F2 (VR r) t a.tmps.toList → a.defers = [] →
    c.wp P (bodyPost P fn fun e w' => ∃ v', e = .returned v' ∧ Sim base r0 m0 w0 K v' w') a w
def seqL : Code → Code
  | .seq x _ => x
  | c => c
def seqR : Code → Code
  | .seq _ y => y
  | c => c
def isSeq : Code → Bool
  | .seq _ _ => true
  | _ => false
theorem seq_of {c : Code} (h : isSeq c = true) : c = .seq (seqL c) (seqR c) := by cases c <;> first | rfl | cases h
theorem LSuf.step {P : Program} {fn : Func} {base : Nat} {r0 : Rho} {m0 : Mem} {w0 : World} {K : Value → Mem → Prop} {c : Code} {t : List Value} {m : Mem} {lx : LCode} {rs : List LRes}
    (hs : isSeq c = true) (hc : cCode P (seqL c) = some lx) (hr : cRes P fn.results.toList = some rs)
    (h : LC P lx (thenL (fun t m => LSuf P fn base r0 m0 w0 K (seqR c) t m) (endL rs K)) t m) : LSuf P fn base r0 m0 w0 K c t m := by
  intro r w a hw ht hd
  rw [seq_of hs]
  refine wp_seq (wp_mono (LC_sound hc h base r w a hw.mr ht hd) ?_)
  rintro e a' w' ⟨t', m', r', h1, h2, h3, h4⟩
  have key : optP (resVs t' m' rs) (fun vs => K (resOf vs) m') → a'.defers = [] ∧ ∃ v, (results fn a'.tmps).run P w' = .ok v w' ∧ ∃ v', Ending.returned v = .returned v' ∧ Sim base r0 m0 w0 K v' w' := by
    rintro ⟨vs, hv, hk⟩
    obtain ⟨v', hrun, hvr⟩ := results_run h4.mr h2 hr hv
    exact ⟨h3, v', hrun, v', rfl, _, _, _, hk, hvr, hw.trans h4⟩
  cases e with
  | normal => exact h1 r' w' a' (hw.trans h4) h2 h3
  | ret => exact key h1
  | _ => exact h1.elim
theorem LCall_cut {P : Program} {f : FuncId} {fn : Func} {c : Code} {args : List Value} {m : Mem} {K : Value → Mem → Prop} (hf : P.funcs[f]? = some fn) (hb : fn.body = some c)
    (h : ∀ base r w, MR base r m w → LSuf P fn base r m w K c (args ++ List.replicate (fn.ntmps - args.length) undef) m) : LCall P f args m K := by
  intro base r w args' hm ha
  refine calls_of_wp hf hb (h base r w hm r w _ (.refl hm) ?_ rfl)
  have hlen := ha.length
  have : F2 (VR r) (List.replicate (fn.ntmps - args.length) undef) (List.replicate (fn.ntmps - args.length) undef) := .refl fun x hx => by
    rw [List.eq_of_mem_replicate hx]; exact .undef
  simpa [hlen] using ha.append this
def lL : LCode → LCode
  | .seq x _ => x
  | c => c
def lR : LCode → LCode
  | .seq _ y => y
  | c => c
noncomputable def B3 : Code := Tryd.f3.body.getD .skip
theorem b3 : Tryd.f3.body = some B3 := by kernel_rfl
theorem b3n : Tryd.f3.ntmps = 102 := by kernel_rfl
theorem b3r : cRes Tryd.prog Tryd.f3.results.toList = some L3.res := by kernel_rfl
theorem b3c : cCode Tryd.prog B3 = some L3.code := by kernel_rfl
theorem b3_0 : isSeq B3 = true := by kernel_rfl
theorem b3_1 : isSeq (seqR B3) = true := by kernel_rfl
theorem b3_2 : isSeq (seqR (seqR B3)) = true := by kernel_rfl
theorem b3_3 : isSeq (seqR (seqR (seqR B3))) = true := by kernel_rfl
theorem b3_4 : isSeq (seqR (seqR (seqR (seqR B3)))) = true := by kernel_rfl
theorem b3_5 : isSeq (seqR (seqR (seqR (seqR (seqR B3))))) = true := by kernel_rfl
theorem b3_6 : isSeq (seqR (seqR (seqR (seqR (seqR (seqR B3)))))) = true := by kernel_rfl
theorem k3_0 : cCode Tryd.prog (seqL B3) = some (lL L3.code) := by kernel_rfl
theorem k3_1 : cCode Tryd.prog (seqL (seqR B3)) = some (lL (lR L3.code)) := by kernel_rfl
theorem k3_2 : cCode Tryd.prog (seqL (seqR (seqR B3))) = some (lL (lR (lR L3.code))) := by kernel_rfl
theorem k3_3 : cCode Tryd.prog (seqL (seqR (seqR (seqR B3)))) = some (lL (lR (lR (lR L3.code)))) := by kernel_rfl
theorem k3_4 : cCode Tryd.prog (seqL (seqR (seqR (seqR (seqR B3))))) = some (lL (lR (lR (lR (lR L3.code))))) := by kernel_rfl
theorem k3_5 : cCode Tryd.prog (seqL (seqR (seqR (seqR (seqR (seqR B3)))))) = some (lL (lR (lR (lR (lR (lR L3.code)))))) := by kernel_rfl
end Go.Proofs.YtijndljfpiomhaaDoor
/- The law of who was heard last, from the map on: walked in the world. -/
namespace Go.Proofs.YtijndljfpiomhaaDoor
open Go.RowKit Go.Maps Go.WideMaps Go.Lg
theorem dmLaid : laidOutB Tryd.prog = true := by kernel_rfl
theorem dmRow : (27 : TypeId) < Tryd.prog.types.size := of_decide_eq_true (by kernel_rfl)
theorem dmSmall : Tryd.prog.types.size + 2 ≤ 10000 := of_decide_eq_true (by kernel_rfl)
theorem dmCells : Tryd.prog.cellsOf 27 = 2 := by kernel_rfl
theorem dmC9 : Tryd.prog.cellsOf 9 = 1 := by kernel_rfl
theorem dmC3 : Tryd.prog.cellsOf 3 = 1 := by kernel_rfl
theorem dmTs : ∃ n, Tryd.prog.types.size = n + 2 := ⟨Tryd.prog.types.size - 2, by have : 2 ≤ Tryd.prog.types.size := of_decide_eq_true (by kernel_rfl); omega⟩
theorem dmKeyT : Tryd.prog.keyType 27 = true := by kernel_rfl
theorem dmWide : (match Tryd.prog.underlying 27 with | some (.array _ _) | some (.struct _) => true | _ => false) = true := by kernel_rfl
set_option maxRecDepth 20000 in
theorem dmK : Keyed Tryd.prog 27 := Keyed.of_law (deep_law_gate dmLaid dmSmall dmRow dmKeyT dmWide)
def dmL (c : List UInt8 × Int) : Lit := .string (keyBytes [.string c.1, .int .i64 c.2])
abbrev dmV (c : List UInt8 × Int) : Value := .agg #[.string ⟨c.1.toArray⟩, .int .i64 c.2]
theorem dmKey (c : List UInt8 × Int) (hb : c.1.length ≤ maxLen) (hs : (Lit.int .i64 c.2).wf = true) : keyOf Tryd.prog 27 (dmV c) = some (dmL c) := by
  obtain ⟨n, hn⟩ := dmTs
  unfold keyOf
  rw [Tryd.underlying27, dmKeyT, hn]
  have hb' : (⟨c.1.toArray⟩ : ByteArray).size ≤ maxLen := by simpa [ByteArray.size] using hb
  simp [Value.formed, Tryd.underlying27, dmCells, Program.keyLits, Value.cells, dmL, dmC9, dmC3, Tryd.underlying9, Tryd.underlying3, hs, hb']
theorem atKey_fold {H : Type} (u : DataW H) (k : Lit) (z : DataW H) : ∀ (acc : List Lit) (m : DataW H), IsMap m → (∀ x ∈ acc, WideAt.IsKeyLit x) → (acc.foldl (fun m x => m.put x u) m).atKey k z = if acc.any (fun x => x.sameKey k) then u else m.atKey k z
  | [], m, _, _ => by simp
  | x :: acc, m, hm, hk => by
    rw [List.foldl_cons, atKey_fold u k z acc _ (hm.put x u) fun y hy => hk y (by simp [hy]), List.any_cons]
    by_cases ha : acc.any (fun x => x.sameKey k) = true
    · simp [ha]
    · have ha' : acc.any (fun x => x.sameKey k) = false := by simpa using ha
      rw [ha', if_neg (by decide), Bool.or_false]
      by_cases hx : x = k
      · subst hx
        rw [atKey_put_same hm (hk x (by simp))]
        have : x.sameKey x = true := by
          exact WideAt.sameKey_self (hk x (by simp))
        rw [if_pos this]
      · rw [atKey_put_other (Ne.symm hx), sameKey_ne hx, if_neg (by decide)]
theorem plainElem_bool_inv {H : Type} {P : Program} {e : TypeId} (he : P.underlying e = some .bool) {v : Value} {z : DataW H × List MemPlace} (h : plainElem P e v = some z) : ∃ x, v = .bool x ∧ z = (.lit (.bool x), []) := by
  unfold plainElem at h
  rw [he] at h
  cases v <;> simp at h
  exact ⟨_, rfl, h.symm⟩
theorem lt_alloc {w : World} {o : Obj} {b : Nat} (h : b < w.heap.size) : b < (w.alloc o).heap.size := by unfold World.alloc; simp; omega
theorem dmInj {c d : List UInt8 × Int} (hc : c.1.length ≤ maxLen ∧ (Lit.int .i64 c.2).wf = true) (hd : d.1.length ≤ maxLen ∧ (Lit.int .i64 d.2).wf = true) (h : dmL c = dmL d) : c = d := by
  have e := dmK.inj (dmKey c hc.1 hc.2) (h ▸ dmKey d hd.1 hd.2)
  simp at e
  exact Prod.ext e.1 e.2
theorem dmZero4 (w : World) : (zeroValue 4).run Tryd.prog w = .ok (.bool false) w := by kernel_rfl
def Cl.okW (c : Cl) : Prop := c.b.length ≤ 140737488355328 ∧ (Lit.int .i64 c.s).wf = true
theorem Cl.okW.max {c : Cl} (h : c.okW) : c.b.length ≤ maxLen ∧ (Lit.int .i64 c.s).wf = true := ⟨by have := h.1; unfold maxLen; omega, h.2⟩
def kC (c : Cl) : Lit := dmL (c.b, c.s)
def seenD (seen : List Cl) : DataW Unit := setOf (.lit (.bool true)) (seen.map kC)
theorem kC_key (seen : List Cl) : ∀ x ∈ seen.map kC, WideAt.IsKeyLit x := fun x hx => by obtain ⟨y, _, rfl⟩ := List.mem_map.1 hx; trivial
theorem kC_inj {c d : Cl} (hc : c.okW) (hd : d.okW) (h : kC c = kC d) : c = d := by
  have := dmInj (c := (c.b, c.s)) (d := (d.b, d.s)) hc.max hd.max h
  cases c; cases d; simpa using this
theorem kC_any {seen : List Cl} {c : Cl} (hc : c.okW) (hs : ∀ d ∈ seen, d.okW) : (seen.map kC).any (fun x => x.sameKey (kC c)) = decide (c ∈ seen) := by
  rw [Bool.eq_iff_iff, List.any_eq_true, decide_eq_true_iff]
  constructor
  · rintro ⟨y, hy, hk⟩
    obtain ⟨d, hd, rfl⟩ := List.mem_map.1 hy
    have := (WideAt.sameKey_iff (b := kC c) trivial).1 hk
    rw [← kC_inj (hs d hd) hc this]
    exact hd
  · intro hm
    exact ⟨kC c, List.mem_map.2 ⟨c, hm, rfl⟩, WideAt.sameKey_self trivial⟩
theorem seenLook {seen : List Cl} {w : World} {b n : Nat} {c : Cl} (h : w.ownsMap Tryd.prog 27 (plainElem Tryd.prog 4) b n (seenD seen)) (hc : c.okW) (hs : ∀ d ∈ seen, d.okW) :
    (Instr.lookup 45 (.map (some b)) (.agg #[.string ⟨c.b.toArray⟩, .int .i64 c.s]) false).run Tryd.prog w = .ok (.bool (decide (c ∈ seen))) w := by
  obtain ⟨v, ps, hrun, hv⟩ := h.lookup dmK Tryd.underlying45 (dmZero4 w) (plainElem_bool Tryd.underlying4 false) (dmKey (c.b, c.s) hc.max.1 hc.max.2)
  obtain ⟨x, rfl, hz⟩ := plainElem_bool_inv Tryd.underlying4 hv
  rw [hrun]
  have hz1 := (Prod.mk.injEq .. ▸ hz).1
  unfold seenD setOf at hz1
  rw [atKey_fold _ _ _ _ _ isMap_empty (kC_key seen)] at hz1
  have e := kC_any hc hs
  unfold kC at e hz1
  rw [e] at hz1
  cases hx : decide (c ∈ seen) <;> rw [hx] at hz1 <;> simp [DataW.atKey] at hz1 <;> rw [hz1]
theorem seenD_snoc {seen : List Cl} {c : Cl} : seenD (seen ++ [c]) = (seenD seen).put (kC c) (.lit (.bool true)) := by
  unfold seenD; rw [List.map_append]; exact setOf_snoc _ _ _
theorem seen_size {seen : List Cl} {c : Cl} (hc : c.okW) (hs : ∀ d ∈ seen, d.okW) (hn : c ∉ seen) (h : Maps.size (seenD seen) = seen.length) : Maps.size (seenD (seen ++ [c])) = (seen ++ [c]).length := by
  have hsz := size_put (D := seenD seen) (k := kC c) (tidy_setOf _ _ (kC_key seen)) (.lit (.bool true))
  have : has (seenD seen) (kC c) = false := by
    unfold seenD
    rw [has_setOf _ _ _ (kC_key seen), kC_any hc hs]
    simp [hn]
  rw [this, if_neg (by decide), h] at hsz
  rw [seenD_snoc, hsz]; simp
theorem ownsMap_at {w w' : World} {b n : Nat} {D : DataW Unit} (h : w.ownsMap Tryd.prog 27 (plainElem Tryd.prog 4) b n D) (hb : w'.heap[b]? = w.heap[b]?) : w'.ownsMap Tryd.prog 27 (plainElem Tryd.prog 4) b n D := by
  obtain ⟨es, clock, h1, r⟩ := h
  exact ⟨es, clock, hb.trans h1, r⟩
theorem Stp_far {base B : Nat} {r : Rho} {m : Mem} {w w' : World} (h : MR base r m w) (hB : ∀ i k b d t z, m[i]? = some k → k.kind ≠ .dead → r i = some (b, d, t, z) → b < B) (hs : w.heap.size ≤ w'.heap.size)
    (hw : ∀ b, b < B → w'.heap[b]? = w.heap[b]?) (h1 : w'.os = w.os) (h2 : w'.tape = w.tape) (h3 : w'.output = w.output) : MR base r m w' :=
  ⟨h.dom, fun i k b d t z hk hi => (h.blk i k b d t z hk hi).congr fun hl => hw b (hB i k b d t z hk hl hi), h.inj, Nat.le_trans h.base hs⟩
theorem he_plain {r : Rho} {e : He} {x : Value} (h : BR r (heV e) x) : x = heV e := by
  have : VR r (.agg [str e.c.b, .int .i64 e.c.s, str e.v.b, .int .i64 e.v.s, .int .i64 e.n, .int .i64 e.w].toArray) x := .base h
  obtain ⟨ys, rfl, hy⟩ := this.agg_inv
  obtain ⟨y1, _, rfl, q1, hy⟩ := hy.cons_inv
  obtain ⟨y2, _, rfl, q2, hy⟩ := hy.cons_inv
  obtain ⟨y3, _, rfl, q3, hy⟩ := hy.cons_inv
  obtain ⟨y4, _, rfl, q4, hy⟩ := hy.cons_inv
  obtain ⟨y5, _, rfl, q5, hy⟩ := hy.cons_inv
  obtain ⟨y6, _, rfl, q6, hy⟩ := hy.cons_inv
  obtain rfl := hy.nil_inv
  have f : ∀ {l : List UInt8} {u : Value}, CR r (str l) u → u = str l := fun h => by cases h with | atom h => cases h; rfl
  have g : ∀ {k : IntKind} {n : Int} {u : Value}, CR r (.int k n) u → u = .int k n := fun h => by cases h with | atom h => cases h; rfl
  rw [f q1, g q2, f q3, g q4, g q5, g q6]; rfl
theorem rho_same {base : Nat} {r r' : Rho} {m : Mem} {w w' : World} (h : MR base r m w) (k : Stp base r m w r' m w') : r' = r := by
  funext i
  by_cases hi : i < m.length
  · exact k.ext i hi
  · have h1 : r i = none := by
      cases hr : r i with
      | none => rfl
      | some x => exact absurd (h.dom i x hr) hi
    have h2 : r' i = none := by
      cases hr : r' i with
      | none => rfl
      | some x => exact absurd (k.mr.dom i x hr) hi
    rw [h1, h2]
theorem find_world {base : Nat} {r : Rho} {m : Mem} {w : World} {di bh dh th zh : Nat} {sv : Value} {F : List Nat} {hl : List He} (hm : MR base r m w) (hr : r di = some (bh, dh, th, zh)) (hd : m[di]? = some ⟨[sv], 51, 1, 0, .own⟩) (hs : Sl m 42 6 sv F (hl.map He.row)) (hn : hl.length ≤ 8) (c : Cl) :
    Calls Tryd.prog 11 #[.pointer (some ⟨bh, dh, none⟩), .agg #[.string ⟨c.b.toArray⟩, .int .i64 c.s]] w fun e w' => (∃ x1 x2 x3 x4 x5 x6, e = .returned (.tuple #[.agg #[.string x1, .int .i64 x2, .string x3, .int .i64 x4, .int .i64 x5, .int .i64 x6], .bool (decide (c ∈ keysH hl))])) ∧ Stp base r m w r m w' := by
  have key := find_spec (c := c) hd (Sl.rd hs) (by omega) base r w [.pointer (some ⟨bh, dh + 0, none⟩), .agg #[.string ⟨c.b.toArray⟩, .int .i64 c.s]] hm
    (.cons (.atom (.ptr hr)) (.cons (.base (.agg (xs := [str c.b, .int .i64 c.s]) (ys := [str c.b, .int .i64 c.s]) (.cons (.atom (.string _)) (.cons (.atom (.int _ _)) .nil)))) .nil))
  refine key.mono ?_
  rintro e w' ⟨v', rfl, v, m', r', ⟨rfl, rfl⟩, hv, hst⟩
  obtain ⟨ys, rfl, hy⟩ := hv.tuple_inv (xs := [heV (findH c hl).1, .bool (findH c hl).2])
  obtain ⟨y1, _, rfl, q1, hy⟩ := hy.cons_inv
  obtain ⟨y2, _, rfl, q2, hy⟩ := hy.cons_inv
  obtain rfl := hy.nil_inv
  have e1 := he_plain q1
  have e2 : y2 = .bool (findH c hl).2 := (VR.base q2).bool_inv
  rw [e1, e2, find_keys]
  have er := rho_same hm hst
  subst er
  exact ⟨⟨_, _, _, _, _, _, rfl⟩, hst⟩
theorem all_world {base : Nat} {r : Rho} {m : Mem} {w : World} {di bh dh th zh : Nat} {sv : Value} {F : List Nat} {hl : List He} (hm : MR base r m w) (hr : r di = some (bh, dh, th, zh)) (hd : m[di]? = some ⟨[sv], 51, 1, 0, .own⟩) (hs : Sl m 42 6 sv F (hl.map He.row)) (hn : hl.length ≤ 8) :
    Calls Tryd.prog 10 #[.pointer (some ⟨bh, dh, none⟩)] w fun e w' => ∃ A cap r' M, e = .returned (.slice A hl.length cap) ∧ Stp base r m w r' M w' := by
  have key := all_spec hd hs (by omega) base r w [.pointer (some ⟨bh, dh + 0, none⟩)] hm (.cons (.atom (.ptr hr)) .nil)
  refine key.mono ?_
  rintro e w' ⟨v', rfl, v, M, r', ⟨hf, G, hG, _⟩, hv, hst⟩
  obtain ⟨a, rfl, _⟩ := hG.form
  rw [List.length_map] at hv
  generalize hl.length = n at hv ⊢
  rcases hv with ⟨⟨⟨hv⟩⟩⟩
  cases hv with
  | nilSlice => exact ⟨_, _, r', M, rfl, hst⟩
  | slice hi hn ha => exact ⟨_, _, r', M, rfl, hst⟩
theorem Stp_far' {base B : Nat} {r0 r : Rho} {m0 m : Mem} {w0 w w' : World} (h : Stp base r0 m0 w0 r m w) (hB0 : w0.heap.size ≤ B) (hB : ∀ i k b d t z, m[i]? = some k → k.kind ≠ .dead → r i = some (b, d, t, z) → b < B) (hs : w.heap.size ≤ w'.heap.size)
    (hw : ∀ b, b < B → w'.heap[b]? = w.heap[b]?) (h1 : w'.os = w.os) (h2 : w'.tape = w.tape) (h3 : w'.output = w.output) : Stp base r0 m0 w0 r m w' :=
  ⟨Stp_far h.mr hB hs hw h1 h2 h3, h.ext, h.len, fun b hb hn => (hw b (by omega)).trans (h.fr b hb hn), h.own, Nat.le_trans h.size hs, h1.trans h.os, h2.trans h.tape, h3.trans h.output⟩
theorem live_lt {base : Nat} {r : Rho} {m : Mem} {w : World} (h : MR base r m w) : ∀ i k b d t z, m[i]? = some k → k.kind ≠ .dead → r i = some (b, d, t, z) → b < w.heap.size := by
  intro i k b d t z hk hl hi
  have hb := h.blk i k b d t z hk hi
  unfold Bears at hb
  split at hb
  · rename_i e; exact absurd e hl
  · rename_i e; exact (h.own_lt hi hk e).2
  · have := h.base; obtain ⟨h0, _⟩ := hb; omega
set_option maxRecDepth 100000 in
set_option maxHeartbeats 4000000 in
theorem suf_walk {base : Nat} {r0 : Rho} {m0 : Mem} {w0 : World} {order : List Cl} {hl : List He} {sv : Value} {F : List Nat} {di bh dh th zh cap : Nat} {A : Option Addr} {r : Rho} {m : Mem} {w : World}
    (hst : Stp base r0 m0 w0 r m w) (hr : r di = some (bh, dh, th, zh)) (hd : m[di]? = some ⟨[sv], 51, 1, 0, .own⟩) (hs : Sl m 42 6 sv F (hl.map He.row))
    (hk : keysH hl = (recL order).take 8) (hn : order.length ≤ 60) (hw : ∀ c ∈ order, c.okW)
    (hA : 0 < order.length → ∃ p off, A = some ⟨p, off, none⟩ ∧ ∀ w', MR base r m w' → ∀ k c, order[k]? = some c → w'.cell? ⟨p, off + k * 2, none⟩ = some (.string ⟨c.b.toArray⟩) ∧ w'.cell? ⟨p, off + k * 2 + 1, none⟩ = some (.int .i64 c.s))
    (x0 x1 x5 x6 x7 x8 x9 x10 x11 x12 x13 x14 x15 x16 x17 x18 x19 x20 x21 x22 x23 x24 x25 x26 x27 x28 x29 x30 x31 x32 x33 x34 x35 x36 x37 x38 x39 x40 x41 x42 x43 x44 x45 x46 x47 x48 x49 x50 x51 x52 x53 x54 x55 x56 x57 x58 x59 x60 x61 x62 x63 x64 x65 x66 x67 x68 x69 x70 x71 x72 x73 x74 x75 x76 x77 x78 x79 x80 x81 x82 x83 x84 x85 x86 x87 x88 x89 x90 x91 x92 x93 x94 x95 x96 x97 x98 x99 x100 x101 : Value) :
    (seqR (seqR (seqR (seqR (seqR (seqR B3)))))).wp Tryd.prog (bodyPost Tryd.prog Tryd.f3 fun e w' => ∃ v', e = .returned v' ∧ Sim base r0 m0 w0 (fun v _ => v = .bool true) v' w') { tmps := #[x0, x1, .bool false, .pointer (some ⟨bh, dh, none⟩), .slice A order.length cap, x5, x6, x7, x8, x9, x10, x11, x12, x13, x14, x15, x16, x17, x18, x19, x20, x21, x22, x23, x24, x25, x26, x27, x28, x29, x30, x31, x32, x33, x34, x35, x36, x37, x38, x39, x40, x41, x42, x43, x44, x45, x46, x47, x48, x49, x50, x51, x52, x53, x54, x55, x56, x57, x58, x59, x60, x61, x62, x63, x64, x65, x66, x67, x68, x69, x70, x71, x72, x73, x74, x75, x76, x77, x78, x79, x80, x81, x82, x83, x84, x85, x86, x87, x88, x89, x90, x91, x92, x93, x94, x95, x96, x97, x98, x99, x100, x101], defers := [] } w := by
  have hmm := @run_makeMap Tryd.prog
  have hB := live_lt hst.mr
  have hl8 : hl.length ≤ 8 := by
    have := congrArg List.length hk
    unfold keysH at this
    rw [List.length_map, List.length_take] at this
    omega
  have hBo : ∀ W, ¬ Own r m (w.heap.size + W) := fun W => by
    rintro ⟨i, k, x, h1, h2, h3⟩
    obtain ⟨d, t, z⟩ := x
    have := hB i k _ d t z h1 (by rw [h2]; exact nofun) h3
    omega
  show Code.wp Tryd.prog (Code.seq _ _) _ _ _
  go_wp2
  go_loopw [12] (fun i wr => ∃ (k : Nat) (seen : List Cl), k ≤ order.length ∧ i = .int .i64 ((k : Int) - 1) ∧ wr.ownsMap Tryd.prog 27 (plainElem Tryd.prog 4) w.heap.size seen.length (seenD seen) ∧ Maps.size (seenD seen) = seen.length ∧ Stp base r0 m0 w0 r m wr ∧ seenOK order k seen ∧ (∀ d ∈ seen, d.okW) ∧ w.heap.size < wr.heap.size)
    (fun i _ => (intOf i + 1).toNat)
  case atStart =>
    refine ⟨order.length, [], Nat.le_refl _, rfl, World.ownsMap_made _ _ _ _, rfl, ?_, seen_start order, by simp, by simp⟩
    exact Stp_far' hst hst.size hB (by simp) (fun b hb => Go.Lg.heap_alloc_old hb) rfl rfl rfl
  case round =>
    obtain ⟨k, seen, hkn, rfl, hown, hsz, hst', hseen, hsw, hgt⟩ := hrel
    match k, hkn, hseen with
    | 0, hkn, hseen =>
      have hrec := seen_end hseen
      have hlen : hl.length = min 8 seen.length := by
        have := congrArg List.length hk
        unfold keysH at this
        rw [List.length_map, List.length_take, hrec] at this
        exact this
      have hsl : seen.length ≤ 60 := Nat.le_trans (seen_len hseen) (Nat.le_trans (recL_len order) hn)
      go_wp2_with (first
        | (go_at_call 10; go_must (refine (all_world hst'.mr hr hd hs hl8).mono ?_; rintro e w1 ⟨A1, cap1, r1, M1, rfl, hst1⟩; have hown1 := ownsMap_at hown (hst1.fr w.heap.size hgt (hBo 0))))
        | (at_len; refine wpList_len_own _ rfl _ 45 rfl 27 4 Tryd.underlying45 _ w.heap.size _ _ rfl hown1 ?_)
        | go_in)
      have hmin : (((min 8 seen.length : Nat) : Int) == min (8 : Int) (seen.length : Int)) = true := by
        rw [beq_iff_eq]; omega
      rw [hmin]
      go_ret
      exact ⟨_, rfl, .bool true, M1, r1, rfl, .atom (.bool _), hst'.trans hst1⟩
    | k + 1, hkn, hseen =>
      obtain ⟨p, off, rfl, hcell⟩ := hA (by omega)
      obtain ⟨c, hc⟩ : ∃ c, order[k]? = some c := ⟨order[k], List.getElem?_eq_getElem (by omega)⟩
      have hcw := hw c (List.mem_of_getElem? hc)
      obtain ⟨hcx, hcy⟩ := hcell wr hst'.mr k c hc
      have ei : (((k + 1 : Nat) : Int) - 1) = (k : Int) := by omega
      rw [ei]
      have hkl : k < order.length := by omega
      have hlk0 := seenLook hown hcw hsw
      by_cases hm : c ∈ seen
      · rw [decide_eq_true hm] at hlk0
        go_wp2
        exact ⟨⟨k, seen, by omega, rfl, hown, hsz, hst', seen_in hseen hc hm, hsw, hgt⟩, by simp [intOf]⟩
      · rw [decide_eq_false hm] at hlk0
        obtain ⟨hso, hrc⟩ := seen_out hseen hc hm
        have hth : decide (c ∈ keysH hl) = decide (seen.length < 8) := by
          rw [hk, hrc]; exact first_mem (hrc ▸ recL_nodup order)
        have hfw := find_world hst'.mr hr hd hs hl8 c
        rw [hth] at hfw
        have hsl : seen.length ≤ 60 := Nat.le_trans (seen_len hseen) (Nat.le_trans (recL_len order) hn)
        have hws : w.heap.size ≤ wr.heap.size := Nat.le_of_lt hgt
        have hkey := dmKey (c.b, c.s) hcw.max.1 hcw.max.2
        by_cases h8 : seen.length < 8
        · rw [decide_eq_true h8] at hfw
          have h8' : ((seen.length : Int) < 8) := by omega
          go_wp2_with (first
            | (go_at_call 11; go_must (refine hfw.mono ?_; rintro e w1 ⟨⟨x1, x2, x3, x4, x5, x6, rfl⟩, hst1⟩; have hsz1 := hst1.size; have hown1 := (ownsMap_at hown (hst1.fr w.heap.size hgt (hBo 0))).alloc (.cells #[.string x1, .int .i64 x2, .string x3, .int .i64 x4, .int .i64 x5, .int .i64 x6] 42); have hst2 := Stp_far' (w' := w1.alloc (.cells #[.string x1, .int .i64 x2, .string x3, .int .i64 x4, .int .i64 x5, .int .i64 x6] 42)) (hst'.trans hst1) hst.size hB (by simp) (fun b hb => Go.Lg.heap_alloc_old (by omega)) rfl rfl rfl; obtain ⟨hcx1, hcy1⟩ := hcell _ hst2.mr k c hc))
            | (at_len; refine wpList_len_own _ rfl _ 45 rfl 27 4 Tryd.underlying45 _ w.heap.size _ _ rfl hown1 ?_)
            | (at_mapUpdate; go_must (refine wpList_mapUpdate_own _ rfl _ _ _ 45 rfl 27 4 dmK Tryd.underlying45 (plainElem (H := Unit) Tryd.prog 4) w.heap.size seen.length _ rfl hown1 (by unfold maxLen; omega) _ _ _ rfl rfl hkey _ [] (plainElem_bool Tryd.underlying4 true) ?_; intro w2 hown2 hgrow2))
            | go_in)
          refine ⟨⟨k, seen ++ [c], by omega, rfl, ?_, seen_size hcw hsw hm hsz, Stp_far' hst2 hst.size hB hgrow2.size (fun b hb => hgrow2.block b (by simp; omega) (fun e => by simp at e; omega)) hgrow2.os hgrow2.tape hgrow2.output, hso, ?_, ?_⟩, by simp [intOf]⟩
          · rw [seenD_snoc, List.length_append]; exact hown2
          · intro d hd
            rcases List.mem_append.mp hd with h | h
            · exact hsw d h
            · simp at h; rw [h]; exact hcw
          · have := hgrow2.size; simp at this; omega
        · rw [decide_eq_false h8] at hfw
          have h8' : ¬ ((seen.length : Int) < 8) := by omega
          go_wp2_with (first
            | (go_at_call 11; go_must (refine hfw.mono ?_; rintro e w1 ⟨⟨x1, x2, x3, x4, x5, x6, rfl⟩, hst1⟩; have hsz1 := hst1.size; have hown1 := (ownsMap_at hown (hst1.fr w.heap.size hgt (hBo 0))).alloc (.cells #[.string x1, .int .i64 x2, .string x3, .int .i64 x4, .int .i64 x5, .int .i64 x6] 42); have hst2 := Stp_far' (w' := w1.alloc (.cells #[.string x1, .int .i64 x2, .string x3, .int .i64 x4, .int .i64 x5, .int .i64 x6] 42)) (hst'.trans hst1) hst.size hB (by simp) (fun b hb => Go.Lg.heap_alloc_old (by omega)) rfl rfl rfl; obtain ⟨hcx1, hcy1⟩ := hcell _ hst2.mr k c hc))
            | (at_len; refine wpList_len_own _ rfl _ 45 rfl 27 4 Tryd.underlying45 _ w.heap.size _ _ rfl hown1 ?_)
            | (at_mapUpdate; go_must (refine wpList_mapUpdate_own _ rfl _ _ _ 45 rfl 27 4 dmK Tryd.underlying45 (plainElem (H := Unit) Tryd.prog 4) w.heap.size seen.length _ rfl hown1 (by unfold maxLen; omega) _ _ _ rfl rfl hkey _ [] (plainElem_bool Tryd.underlying4 true) ?_; intro w2 hown2 hgrow2))
            | go_in)
          refine ⟨⟨k, seen ++ [c], by omega, rfl, ?_, seen_size hcw hsw hm hsz, Stp_far' hst2 hst.size hB hgrow2.size (fun b hb => hgrow2.block b (by simp; omega) (fun e => by simp at e; omega)) hgrow2.os hgrow2.tape hgrow2.output, hso, ?_, ?_⟩, by simp [intOf]⟩
          · rw [seenD_snoc, List.length_append]; exact hown2
          · intro d hd
            rcases List.mem_append.mp hd with h | h
            · exact hsw d h
            · simp at h; rw [h]; exact hcw
          · have := hgrow2.size; simp at this; omega
end Go.Proofs.YtijndljfpiomhaaDoor
/- What is left of the law of who was heard last, out of temps and a memory. -/
namespace Go.Proofs.YtijndljfpiomhaaDoor
open Go.Lg
set_option maxRecDepth 8000
set_option maxHeartbeats 8000000
theorem slice_any {r : Rho} {a : Option Addr} {n : Nat} {x : Value} (h : VR r (.slice a n n) x) : ∃ A cap, x = .slice A n cap := by
  rcases h with ⟨⟨⟨h⟩⟩⟩
  cases h with
  | nilSlice => exact ⟨_, _, rfl⟩
  | slice _ _ _ => exact ⟨_, _, rfl⟩
theorem order_world {base : Nat} {r : Rho} {m : Mem} {order : List Cl} {G : List Nat} {a : Option Addr} {x : Value} (ho : Sl m 27 2 (.slice a order.length order.length) G (order.map Cl.row)) (hq : VR r (.slice a order.length order.length) x) :
    ∃ A cap, x = .slice A order.length cap ∧ (0 < order.length → ∃ p off, A = some ⟨p, off, none⟩ ∧ ∀ w', MR base r m w' → ∀ k c, order[k]? = some c → w'.cell? ⟨p, off + k * 2, none⟩ = some (.string ⟨c.b.toArray⟩) ∧ w'.cell? ⟨p, off + k * 2 + 1, none⟩ = some (.int .i64 c.s)) := by
  by_cases hp : 0 < order.length
  · obtain ⟨a', e, hform⟩ := ho.form
    simp only [List.length_map] at e hform
    obtain rfl : a = a' := by simpa using e
    obtain ⟨b, o, cs, rfl, rfl, hb, hlb, _, hrow⟩ := hform hp
    obtain ⟨_, p, d, t, z, cap, A, hri, hle, hA, rfl⟩ := hq.slice_inv
    have hA' : A = ⟨p, d + o, none⟩ := by rcases hA with h0 | h0; (exfalso; omega); exact h0.1
    subst hA'
    refine ⟨_, cap, rfl, fun _ => ⟨p, d + o, rfl, fun w' hm k c hc => ?_⟩⟩
    have hr := hrow k c.row (by simp [hc])
    have g0 : cs[o + k * 2 + 0]? = some (str c.b) := (row_cell hr (by decide)).trans rfl
    have g1 : cs[o + k * 2 + 1]? = some (.int .i64 c.s) := (row_cell hr (by decide)).trans rfl
    obtain ⟨u0, e0, q0⟩ := hm.read hri hb (by simp) g0
    obtain ⟨u1, e1, q1⟩ := hm.read hri hb (by simp) g1
    have f0 : u0 = str c.b := by cases q0 with | atom q => cases q; rfl
    have f1 : u1 = .int .i64 c.s := by cases q1 with | atom q => cases q; rfl
    subst f0; subst f1
    exact ⟨by rw [← show str c.b = Value.string ⟨c.b.toArray⟩ from rfl, ← e0]; congr 2; omega, by rw [← e1]; congr 2; omega⟩
  · obtain ⟨A, cap, e⟩ := slice_any hq
    exact ⟨A, cap, e, fun h => absurd h hp⟩
theorem suf_law {base : Nat} {r0 : Rho} {m0 : Mem} {w0 : World} {order : List Cl} {hl : List He} {sv : Value} {F G : List Nat} {di : Nat} {a : Option Addr} {t : List Value} {m : Mem}
    (ht : Tab 102 [(2, .bool false), (3, .pointer (some ⟨di, 0, none⟩)), (4, .slice a order.length order.length)] t) (hd : m[di]? = some ⟨[sv], 51, 1, 0, .own⟩) (hs : Sl m 42 6 sv F (hl.map He.row))
    (hk : keysH hl = (recL order).take 8) (ho : Sl m 27 2 (.slice a order.length order.length) G (order.map Cl.row)) (hn : order.length ≤ 60) (hw : ∀ c ∈ order, c.okW) :
    LSuf Tryd.prog Tryd.f3 base r0 m0 w0 (fun v _ => v = .bool true) (seqR (seqR (seqR (seqR (seqR (seqR B3)))))) t m := by
  obtain ⟨f, rfl⟩ : ∃ f' : Nat → Value, t = [f' 0, f' 1, .bool false, .pointer (some ⟨di, 0, none⟩), .slice a order.length order.length, f' 5, f' 6, f' 7, f' 8, f' 9, f' 10, f' 11, f' 12, f' 13, f' 14, f' 15, f' 16, f' 17, f' 18, f' 19, f' 20, f' 21, f' 22, f' 23, f' 24, f' 25, f' 26, f' 27, f' 28, f' 29, f' 30, f' 31, f' 32, f' 33, f' 34, f' 35, f' 36, f' 37, f' 38, f' 39, f' 40, f' 41, f' 42, f' 43, f' 44, f' 45, f' 46, f' 47, f' 48, f' 49, f' 50, f' 51, f' 52, f' 53, f' 54, f' 55, f' 56, f' 57, f' 58, f' 59, f' 60, f' 61, f' 62, f' 63, f' 64, f' 65, f' 66, f' 67, f' 68, f' 69, f' 70, f' 71, f' 72, f' 73, f' 74, f' 75, f' 76, f' 77, f' 78, f' 79, f' 80, f' 81, f' 82, f' 83, f' 84, f' 85, f' 86, f' 87, f' 88, f' 89, f' 90, f' 91, f' 92, f' 93, f' 94, f' 95, f' 96, f' 97, f' 98, f' 99, f' 100, f' 101] := ht.open fun f' => rfl
  intro r w act hst hta hda
  obtain ⟨tmps, defers⟩ := act
  simp only at hta hda
  subst hda
  obtain ⟨tl⟩ := tmps
  change F2 (VR r) _ tl at hta
  obtain ⟨x0, _, rfl, q0, hta⟩ := hta.cons_inv
  obtain ⟨x1, _, rfl, q1, hta⟩ := hta.cons_inv
  obtain ⟨x2, _, rfl, q2, hta⟩ := hta.cons_inv
  obtain ⟨x3, _, rfl, q3, hta⟩ := hta.cons_inv
  obtain ⟨x4, _, rfl, q4, hta⟩ := hta.cons_inv
  obtain ⟨x5, _, rfl, q5, hta⟩ := hta.cons_inv
  obtain ⟨x6, _, rfl, q6, hta⟩ := hta.cons_inv
  obtain ⟨x7, _, rfl, q7, hta⟩ := hta.cons_inv
  obtain ⟨x8, _, rfl, q8, hta⟩ := hta.cons_inv
  obtain ⟨x9, _, rfl, q9, hta⟩ := hta.cons_inv
  obtain ⟨x10, _, rfl, q10, hta⟩ := hta.cons_inv
  obtain ⟨x11, _, rfl, q11, hta⟩ := hta.cons_inv
  obtain ⟨x12, _, rfl, q12, hta⟩ := hta.cons_inv
  obtain ⟨x13, _, rfl, q13, hta⟩ := hta.cons_inv
  obtain ⟨x14, _, rfl, q14, hta⟩ := hta.cons_inv
  obtain ⟨x15, _, rfl, q15, hta⟩ := hta.cons_inv
  obtain ⟨x16, _, rfl, q16, hta⟩ := hta.cons_inv
  obtain ⟨x17, _, rfl, q17, hta⟩ := hta.cons_inv
  obtain ⟨x18, _, rfl, q18, hta⟩ := hta.cons_inv
  obtain ⟨x19, _, rfl, q19, hta⟩ := hta.cons_inv
  obtain ⟨x20, _, rfl, q20, hta⟩ := hta.cons_inv
  obtain ⟨x21, _, rfl, q21, hta⟩ := hta.cons_inv
  obtain ⟨x22, _, rfl, q22, hta⟩ := hta.cons_inv
  obtain ⟨x23, _, rfl, q23, hta⟩ := hta.cons_inv
  obtain ⟨x24, _, rfl, q24, hta⟩ := hta.cons_inv
  obtain ⟨x25, _, rfl, q25, hta⟩ := hta.cons_inv
  obtain ⟨x26, _, rfl, q26, hta⟩ := hta.cons_inv
  obtain ⟨x27, _, rfl, q27, hta⟩ := hta.cons_inv
  obtain ⟨x28, _, rfl, q28, hta⟩ := hta.cons_inv
  obtain ⟨x29, _, rfl, q29, hta⟩ := hta.cons_inv
  obtain ⟨x30, _, rfl, q30, hta⟩ := hta.cons_inv
  obtain ⟨x31, _, rfl, q31, hta⟩ := hta.cons_inv
  obtain ⟨x32, _, rfl, q32, hta⟩ := hta.cons_inv
  obtain ⟨x33, _, rfl, q33, hta⟩ := hta.cons_inv
  obtain ⟨x34, _, rfl, q34, hta⟩ := hta.cons_inv
  obtain ⟨x35, _, rfl, q35, hta⟩ := hta.cons_inv
  obtain ⟨x36, _, rfl, q36, hta⟩ := hta.cons_inv
  obtain ⟨x37, _, rfl, q37, hta⟩ := hta.cons_inv
  obtain ⟨x38, _, rfl, q38, hta⟩ := hta.cons_inv
  obtain ⟨x39, _, rfl, q39, hta⟩ := hta.cons_inv
  obtain ⟨x40, _, rfl, q40, hta⟩ := hta.cons_inv
  obtain ⟨x41, _, rfl, q41, hta⟩ := hta.cons_inv
  obtain ⟨x42, _, rfl, q42, hta⟩ := hta.cons_inv
  obtain ⟨x43, _, rfl, q43, hta⟩ := hta.cons_inv
  obtain ⟨x44, _, rfl, q44, hta⟩ := hta.cons_inv
  obtain ⟨x45, _, rfl, q45, hta⟩ := hta.cons_inv
  obtain ⟨x46, _, rfl, q46, hta⟩ := hta.cons_inv
  obtain ⟨x47, _, rfl, q47, hta⟩ := hta.cons_inv
  obtain ⟨x48, _, rfl, q48, hta⟩ := hta.cons_inv
  obtain ⟨x49, _, rfl, q49, hta⟩ := hta.cons_inv
  obtain ⟨x50, _, rfl, q50, hta⟩ := hta.cons_inv
  obtain ⟨x51, _, rfl, q51, hta⟩ := hta.cons_inv
  obtain ⟨x52, _, rfl, q52, hta⟩ := hta.cons_inv
  obtain ⟨x53, _, rfl, q53, hta⟩ := hta.cons_inv
  obtain ⟨x54, _, rfl, q54, hta⟩ := hta.cons_inv
  obtain ⟨x55, _, rfl, q55, hta⟩ := hta.cons_inv
  obtain ⟨x56, _, rfl, q56, hta⟩ := hta.cons_inv
  obtain ⟨x57, _, rfl, q57, hta⟩ := hta.cons_inv
  obtain ⟨x58, _, rfl, q58, hta⟩ := hta.cons_inv
  obtain ⟨x59, _, rfl, q59, hta⟩ := hta.cons_inv
  obtain ⟨x60, _, rfl, q60, hta⟩ := hta.cons_inv
  obtain ⟨x61, _, rfl, q61, hta⟩ := hta.cons_inv
  obtain ⟨x62, _, rfl, q62, hta⟩ := hta.cons_inv
  obtain ⟨x63, _, rfl, q63, hta⟩ := hta.cons_inv
  obtain ⟨x64, _, rfl, q64, hta⟩ := hta.cons_inv
  obtain ⟨x65, _, rfl, q65, hta⟩ := hta.cons_inv
  obtain ⟨x66, _, rfl, q66, hta⟩ := hta.cons_inv
  obtain ⟨x67, _, rfl, q67, hta⟩ := hta.cons_inv
  obtain ⟨x68, _, rfl, q68, hta⟩ := hta.cons_inv
  obtain ⟨x69, _, rfl, q69, hta⟩ := hta.cons_inv
  obtain ⟨x70, _, rfl, q70, hta⟩ := hta.cons_inv
  obtain ⟨x71, _, rfl, q71, hta⟩ := hta.cons_inv
  obtain ⟨x72, _, rfl, q72, hta⟩ := hta.cons_inv
  obtain ⟨x73, _, rfl, q73, hta⟩ := hta.cons_inv
  obtain ⟨x74, _, rfl, q74, hta⟩ := hta.cons_inv
  obtain ⟨x75, _, rfl, q75, hta⟩ := hta.cons_inv
  obtain ⟨x76, _, rfl, q76, hta⟩ := hta.cons_inv
  obtain ⟨x77, _, rfl, q77, hta⟩ := hta.cons_inv
  obtain ⟨x78, _, rfl, q78, hta⟩ := hta.cons_inv
  obtain ⟨x79, _, rfl, q79, hta⟩ := hta.cons_inv
  obtain ⟨x80, _, rfl, q80, hta⟩ := hta.cons_inv
  obtain ⟨x81, _, rfl, q81, hta⟩ := hta.cons_inv
  obtain ⟨x82, _, rfl, q82, hta⟩ := hta.cons_inv
  obtain ⟨x83, _, rfl, q83, hta⟩ := hta.cons_inv
  obtain ⟨x84, _, rfl, q84, hta⟩ := hta.cons_inv
  obtain ⟨x85, _, rfl, q85, hta⟩ := hta.cons_inv
  obtain ⟨x86, _, rfl, q86, hta⟩ := hta.cons_inv
  obtain ⟨x87, _, rfl, q87, hta⟩ := hta.cons_inv
  obtain ⟨x88, _, rfl, q88, hta⟩ := hta.cons_inv
  obtain ⟨x89, _, rfl, q89, hta⟩ := hta.cons_inv
  obtain ⟨x90, _, rfl, q90, hta⟩ := hta.cons_inv
  obtain ⟨x91, _, rfl, q91, hta⟩ := hta.cons_inv
  obtain ⟨x92, _, rfl, q92, hta⟩ := hta.cons_inv
  obtain ⟨x93, _, rfl, q93, hta⟩ := hta.cons_inv
  obtain ⟨x94, _, rfl, q94, hta⟩ := hta.cons_inv
  obtain ⟨x95, _, rfl, q95, hta⟩ := hta.cons_inv
  obtain ⟨x96, _, rfl, q96, hta⟩ := hta.cons_inv
  obtain ⟨x97, _, rfl, q97, hta⟩ := hta.cons_inv
  obtain ⟨x98, _, rfl, q98, hta⟩ := hta.cons_inv
  obtain ⟨x99, _, rfl, q99, hta⟩ := hta.cons_inv
  obtain ⟨x100, _, rfl, q100, hta⟩ := hta.cons_inv
  obtain ⟨x101, _, rfl, q101, hta⟩ := hta.cons_inv
  obtain rfl := hta.nil_inv
  obtain rfl := q2.bool_inv
  obtain ⟨bh, dh, th, zh, hr, rfl⟩ := q3.ptr_inv
  obtain ⟨A, cap, rfl, hA⟩ := order_world (base := base) ho q4
  exact suf_walk hst hr hd hs hk hn hw hA x0 x1 x5 x6 x7 x8 x9 x10 x11 x12 x13 x14 x15 x16 x17 x18 x19 x20 x21 x22 x23 x24 x25 x26 x27 x28 x29 x30 x31 x32 x33 x34 x35 x36 x37 x38 x39 x40 x41 x42 x43 x44 x45 x46 x47 x48 x49 x50 x51 x52 x53 x54 x55 x56 x57 x58 x59 x60 x61 x62 x63 x64 x65 x66 x67 x68 x69 x70 x71 x72 x73 x74 x75 x76 x77 x78 x79 x80 x81 x82 x83 x84 x85 x86 x87 x88 x89 x90 x91 x92 x93 x94 x95 x96 x97 x98 x99 x100 x101
end Go.Proofs.YtijndljfpiomhaaDoor
/- The law of who was heard last: walked up to the map. -/
namespace Go.Proofs.YtijndljfpiomhaaDoor
open Go.Lg
set_option maxRecDepth 8000
set_option maxHeartbeats 8000000
def cX : Cl := ⟨[88], 0⟩
theorem keys_len {l : List He} {o : List Cl} (h : keysH l = (recL o).take 8) : l.length ≤ 8 := by
  have := congrArg List.length h
  unfold keysH at this
  rw [List.length_map, List.length_take] at this
  omega
theorem hf_get {c : Cl} (hr : rightP cX.b cX.s c.b c.s [] = true) : getP (hfB c cX) 11 [] = (0, [⟨cX.b, cX.s, true⟩, ⟨c.b, c.s, false⟩]) := by
  have hp := rightP_le (tm := true) (fm := false) hr
  have e : hfB c cX = putE [⟨cX.b, cX.s, true⟩, ⟨c.b, c.s, false⟩] ++ (ctU.bytes false ++ ((if K.pidB 10 then [UInt8.ofNat (0 : Int).toNat] else []) ++ [])) := by
    unfold hfB encF; simp only [List.append_assoc]
  rw [e]
  exact getP_put hp.2.2 (by simp) (by simp) hp.2.1
theorem last_law {l : List Cl} {v : Value} {m : Mem} (h : Rd m 2 v (l.map Cl.row)) (hw : ∀ c ∈ l, c.okW) : LCall Tryd.prog 3 [v] m fun v _ => v = .bool true := by
  have h0 := h
  obtain ⟨va, rfl, hform⟩ := h
  simp only [List.length_map] at hform h0 ⊢
  refine LCall_cut Tryd.func3 b3 ?_
  intro base r w hm
  rw [b3n]
  refine LSuf.step b3_0 k3_0 b3r ?_
  simp (contextual := true) (implicitDefEqProofs := false) (maxSteps := 2000000) (disch := first | rfl | exact NB rfl | omega | (simp only [XL]; omega)) only [L3, lL, lR, XW, undef_eq, Nat.reduceAdd, Nat.reduceSub, ↓reduceIte, basic, cellsL, resOf, setAt, below, belowB, belowA, atomB, Nat.reduceLeDiff, Nat.reduceMul, Int.reduceToNat, Int.reduceLT, Int.reduceLE, Int.reduceAdd, Int.reduceNeg, Int.reduceEq, splice, Nat.reduceEqDiff, Nat.reduceLT, isAtom, Int.reduceSub, Int.reduceMul, implies_true]
  refine LSuf.step b3_1 k3_1 b3r ?_
  simp (contextual := true) (implicitDefEqProofs := false) (maxSteps := 2000000) (disch := first | rfl | exact NB rfl | omega | (simp only [XL]; omega)) only [L3, lL, lR, XW, undef_eq, Nat.reduceAdd, Nat.reduceSub, ↓reduceIte, basic, cellsL, resOf, setAt, below, belowB, belowA, atomB, Nat.reduceLeDiff, Nat.reduceMul, Int.reduceToNat, Int.reduceLT, Int.reduceLE, Int.reduceAdd, Int.reduceNeg, Int.reduceEq, splice, Nat.reduceEqDiff, Nat.reduceLT, isAtom, Int.reduceSub, Int.reduceMul, implies_true]
  refine (awake_spec _).use ?_
  simp (contextual := true) (implicitDefEqProofs := false) (maxSteps := 2000000) (disch := first | rfl | exact NB rfl | omega | (simp only [XL]; omega)) only [XW, undef_eq, Nat.reduceAdd, Nat.reduceSub, ↓reduceIte, basic, cellsL, resOf, setAt, below, belowB, belowA, atomB, Nat.reduceLeDiff, Nat.reduceMul, Int.reduceToNat, Int.reduceLT, Int.reduceLE, Int.reduceAdd, Int.reduceNeg, Int.reduceEq, splice, Nat.reduceEqDiff, Nat.reduceLT, isAtom, Int.reduceSub, Int.reduceMul, implies_true]
  refine LSuf.step b3_2 k3_2 b3r ?_
  by_cases h60 : 60 < l.length
  · have h60' : ((60 : Int) < (l.length : Int)) = True := eq_true (by omega)
    simp (contextual := true) (implicitDefEqProofs := false) (maxSteps := 2000000) (disch := first | rfl | exact NB rfl | omega | (simp only [XL]; omega)) only [L3, lL, lR, h60', XW, undef_eq, Nat.reduceAdd, Nat.reduceSub, ↓reduceIte, basic, cellsL, resOf, setAt, below, belowB, belowA, atomB, Nat.reduceLeDiff, Nat.reduceMul, Int.reduceToNat, Int.reduceLT, Int.reduceLE, Int.reduceAdd, Int.reduceNeg, Int.reduceEq, splice, Nat.reduceEqDiff, Nat.reduceLT, isAtom, Int.reduceSub, Int.reduceMul, implies_true]
  have h60' : ((60 : Int) < (l.length : Int)) = False := eq_false (by omega)
  simp (contextual := true) (implicitDefEqProofs := false) (maxSteps := 2000000) (disch := first | rfl | exact NB rfl | omega | (simp only [XL]; omega)) only [L3, lL, lR, h60', XW, undef_eq, Nat.reduceAdd, Nat.reduceSub, ↓reduceIte, basic, cellsL, resOf, setAt, below, belowB, belowA, atomB, Nat.reduceLeDiff, Nat.reduceMul, Int.reduceToNat, Int.reduceLT, Int.reduceLE, Int.reduceAdd, Int.reduceNeg, Int.reduceEq, splice, Nat.reduceEqDiff, Nat.reduceLT, isAtom, Int.reduceSub, Int.reduceMul, implies_true]
  refine LSuf.step b3_3 k3_3 b3r ?_
  simp (contextual := true) (implicitDefEqProofs := false) (maxSteps := 2000000) (disch := first | rfl | exact NB rfl | omega | (simp only [XL]; omega)) only [L3, lL, lR, XW, undef_eq, Nat.reduceAdd, Nat.reduceSub, ↓reduceIte, basic, cellsL, resOf, setAt, below, belowB, belowA, atomB, Nat.reduceLeDiff, Nat.reduceMul, Int.reduceToNat, Int.reduceLT, Int.reduceLE, Int.reduceAdd, Int.reduceNeg, Int.reduceEq, splice, Nat.reduceEqDiff, Nat.reduceLT, isAtom, Int.reduceSub, Int.reduceMul, implies_true]
  refine (new_spec m).mono ?_
  rintro u M0 ⟨rfl, rfl⟩
  simp (contextual := true) (implicitDefEqProofs := false) (maxSteps := 2000000) (disch := first | rfl | exact NB rfl | omega | (simp only [XL]; omega)) only [XW, undef_eq, Nat.reduceAdd, Nat.reduceSub, ↓reduceIte, basic, cellsL, resOf, setAt, below, belowB, belowA, atomB, Nat.reduceLeDiff, Nat.reduceMul, Int.reduceToNat, Int.reduceLT, Int.reduceLE, Int.reduceAdd, Int.reduceNeg, Int.reduceEq, splice, Nat.reduceEqDiff, Nat.reduceLT, isAtom, Int.reduceSub, Int.reduceMul, implies_true]
  refine LSuf.step b3_4 k3_4 b3r ?_
  simp (contextual := true) (implicitDefEqProofs := false) (maxSteps := 2000000) (disch := first | rfl | exact NB rfl | omega | (simp only [XL]; omega)) only [L3, lL, lR, XW, undef_eq, Nat.reduceAdd, Nat.reduceSub, ↓reduceIte, basic, cellsL, resOf, setAt, below, belowB, belowA, atomB, Nat.reduceLeDiff, Nat.reduceMul, Int.reduceToNat, Int.reduceLT, Int.reduceLE, Int.reduceAdd, Int.reduceNeg, Int.reduceEq, splice, Nat.reduceEqDiff, Nat.reduceLT, isAtom, Int.reduceSub, Int.reduceMul, implies_true]
  refine LSuf.step b3_5 k3_5 b3r ?_
  simp (contextual := true) (implicitDefEqProofs := false) (maxSteps := 2000000) (disch := first | rfl | exact NB rfl | omega | (simp only [XL]; omega)) only [L3, lL, lR, XW, undef_eq, Nat.reduceAdd, Nat.reduceSub, ↓reduceIte, basic, cellsL, resOf, setAt, below, belowB, belowA, atomB, Nat.reduceLeDiff, Nat.reduceMul, Int.reduceToNat, Int.reduceLT, Int.reduceLE, Int.reduceAdd, Int.reduceNeg, Int.reduceEq, splice, Nat.reduceEqDiff, Nat.reduceLT, isAtom, Int.reduceSub, Int.reduceMul, implies_true]
  have hd0 : (m ++ [⟨[.slice none 0 0], 51, 1, 0, .own⟩] : Mem)[m.length]? = some ⟨[.slice none 0 0], 51, 1, 0, .own⟩ := by simp
  refine loop_inv (fun n t M => ∃ (j : Nat) (order : List Cl) (hl : List He) (sv : Value) (F G : List Nat) (oa : Option Addr), n = l.length - j ∧ j ≤ l.length ∧ order.length ≤ j ∧ (∀ c ∈ order, c.okW) ∧ keysH hl = (recL order).take 8 ∧ Frm [] m M ∧
    M[m.length]? = some ⟨[sv], 51, 1, 0, .own⟩ ∧ Sl M 42 6 sv F (hl.map He.row) ∧ m.length ∉ F ∧ (∀ x ∈ F, m.length ≤ x) ∧ Sl M 27 2 (.slice oa order.length order.length) G (order.map Cl.row) ∧ (∀ x ∈ G, m.length < x ∧ x ∉ F) ∧
    Tab 102 [(2, .bool false), (3, .pointer (some ⟨m.length, 0, none⟩)), (4, .slice oa order.length order.length), (21, .slice va l.length l.length), (22, .int .i64 (l.length : Int)), (23, .int .i64 (j : Int))] t) (n := l.length) ?_ ?_
  · exact ⟨0, [], [], .slice none 0 0, [], [], none, rfl, Nat.zero_le _, Nat.le_refl _, by simp, rfl, Frm.refl.app, hd0, .nil, by simp, by simp, .nil, by simp, ⟨rfl, by simp⟩⟩
  clear hd0
  rintro N t M ⟨j, order, hl, sv, F, G, oa, rfl, hj, hoj, hwo, hk, hfm, hd, hs, hdF, hFm, ho, hG, ht⟩
  obtain ⟨f, rfl⟩ : ∃ f' : Nat → Value, t = [f' 0, f' 1, .bool false, .pointer (some ⟨m.length, 0, none⟩), .slice oa order.length order.length, f' 5, f' 6, f' 7, f' 8, f' 9, f' 10, f' 11, f' 12, f' 13, f' 14, f' 15, f' 16, f' 17, f' 18, f' 19, f' 20, .slice va l.length l.length, .int .i64 (l.length : Int), .int .i64 (j : Int), f' 24, f' 25, f' 26, f' 27, f' 28, f' 29, f' 30, f' 31, f' 32, f' 33, f' 34, f' 35, f' 36, f' 37, f' 38, f' 39, f' 40, f' 41, f' 42, f' 43, f' 44, f' 45, f' 46, f' 47, f' 48, f' 49, f' 50, f' 51, f' 52, f' 53, f' 54, f' 55, f' 56, f' 57, f' 58, f' 59, f' 60, f' 61, f' 62, f' 63, f' 64, f' 65, f' 66, f' 67, f' 68, f' 69, f' 70, f' 71, f' 72, f' 73, f' 74, f' 75, f' 76, f' 77, f' 78, f' 79, f' 80, f' 81, f' 82, f' 83, f' 84, f' 85, f' 86, f' 87, f' 88, f' 89, f' 90, f' 91, f' 92, f' 93, f' 94, f' 95, f' 96, f' 97, f' 98, f' 99, f' 100, f' 101] := ht.open fun f' => rfl
  have hl8 := keys_len hk
  have lM := hfm.len
  have ld := lt_of_some hd
  by_cases hlt : j < l.length
  · have hlt' : ((j : Int) < (l.length : Int)) = True := by simp [hlt]
    have h0' : ((0 : Int) ≤ (j : Int)) = True := by simp
    have hwj : IntKind.i64.wrap ((j : Int) + 1) = ((j + 1 : Nat) : Int) := by rw [wrap_i64 (by omega) (by omega)]; omega
    obtain ⟨b, o, cs, T, fz, kd, rfl, hb, hkd, hlc, hrow⟩ := hform (by omega)
    obtain ⟨c, hc⟩ : ∃ r, l[j]? = some r := ⟨l[j], List.getElem?_eq_getElem hlt⟩
    have hcw := hw c (List.mem_of_getElem? hc)
    have hr : (cs.drop (o + j * 2)).take 2 = [str c.b, .int .i64 c.s] := hrow j c.row (by simp [hc])
    have hlen : o + j * 2 + 2 ≤ cs.length := by omega
    have hbM := hfm.get0 hb
    have hbl := lt_of_some hbM
    simp (contextual := true) (implicitDefEqProofs := false) (maxSteps := 2000000) (disch := first | rfl | exact NB rfl | omega | (simp only [XL]; omega)) only [hbM, hlt', h0', hr, cellsB_l hkd hlen, Int.toNat_natCast, XW, undef_eq, Nat.reduceAdd, Nat.reduceSub, ↓reduceIte, basic, cellsL, resOf, setAt, below, belowB, belowA, atomB, Nat.reduceLeDiff, Nat.reduceMul, Int.reduceToNat, Int.reduceLT, Int.reduceLE, Int.reduceAdd, Int.reduceNeg, Int.reduceEq, splice, Nat.reduceEqDiff, Nat.reduceLT, isAtom, Int.reduceSub, Int.reduceMul, implies_true]
    obtain ⟨M1, hM1, hM1l, hf1, hbc⟩ : ∃ N, M ++ [⟨[str c.b, .int .i64 c.s], 27, 1, 0, .own⟩] = N ∧ N.length = M.length + 1 ∧ Frm [] M N ∧ N[M.length]? = some ⟨[str c.b, .int .i64 c.s], 27, 1, 0, .own⟩ := ⟨_, rfl, by simp, Frm.refl.app, by simp⟩
    rw [hM1]
    refine (via_spec (fb := c.b) (fs := c.s) (tb := [88]) (ts := 0) (cm := true) (cs := []) (by decide) hcw.1 (by simp) rd_nil (by decide)).mono ?_
    rintro u M2 ⟨hf2, hu⟩
    have hd2 := (hf1.nil_trans hf2).get0 hd
    have hs2 := hs.frm0 (hf1.nil_trans hf2)
    have ho2 := ho.frm0 (hf1.nil_trans hf2)
    have hbc2 := hf2.get0 hbc
    have lbc2 := lt_of_some hbc2
    have hfm2 := hfm.nil_trans (hf1.nil_trans hf2)
    by_cases hri : rightP [88] 0 c.b c.s (([] : List Cl).map Cl.en) = true
    · rw [if_pos hri] at hu
      obtain ⟨pv, P, rfl, hp, hP⟩ := hu
      obtain ⟨pa, rfl, _⟩ := hp.form
      simp (contextual := true) (implicitDefEqProofs := false) (maxSteps := 2000000) (disch := first | rfl | exact NB rfl | omega | (simp only [XL]; omega)) only [XW, undef_eq, Nat.reduceAdd, Nat.reduceSub, ↓reduceIte, basic, cellsL, resOf, setAt, below, belowB, belowA, atomB, Nat.reduceLeDiff, Nat.reduceMul, Int.reduceToNat, Int.reduceLT, Int.reduceLE, Int.reduceAdd, Int.reduceNeg, Int.reduceEq, splice, Nat.reduceEqDiff, Nat.reduceLT, isAtom, Int.reduceSub, Int.reduceMul, implies_true]
      obtain ⟨M3, hM3, hM3l, hf3⟩ : ∃ N, M2 ++ [⟨[str [88], .int .i64 0, str c.b, .int .i64 c.s, .bool true, .bool false, .slice pa 0 0], 30, 1, 0, .own⟩] = N ∧ N.length = M2.length + 1 ∧ Frm [] M2 N := ⟨_, rfl, by simp, Frm.refl.app⟩
      rw [hM3]
      have henc : Ret Tryd.prog 8 [frameV [88] 0 c.b c.s true false (.slice pa 0 0) ctU 0 [], .bool false] M3 (.tuple #[str (hfB c cX), .int .i64 0]) M3 := enc_spec (f := c) (t := cX) (m := M3) (Sl.rdn (hp.frm0 hf3)) hri
      refine henc.use ?_
      have hd3 := hf3.get0 hd2
      have hs3 := hs2.frm0 hf3
      have ho3 := ho2.frm0 hf3
      have hbc3 := hf3.get0 hbc2
      have lbc3 := lt_of_some hbc3
      have hfm3 := hfm2.nil_trans hf3
      have hgt := hf_get (c := c) hri
      simp (contextual := true) (implicitDefEqProofs := false) (maxSteps := 2000000) (disch := first | rfl | exact NB rfl | omega | (simp only [XL]; omega)) only [XW, undef_eq, Nat.reduceAdd, Nat.reduceSub, ↓reduceIte, basic, cellsL, resOf, setAt, below, belowB, belowA, atomB, Nat.reduceLeDiff, Nat.reduceMul, Int.reduceToNat, Int.reduceLT, Int.reduceLE, Int.reduceAdd, Int.reduceNeg, Int.reduceEq, splice, Nat.reduceEqDiff, Nat.reduceLT, isAtom, Int.reduceSub, Int.reduceMul, implies_true]
      refine (hear_spec (l := hl) (now := (j : Int)) hd3 hs3 hdF hl8 (Nat.le_trans hfB_len (by decide)) (fun x y r hxy => ins_ok (by
        rw [List.length_map]
        have := rest_len (c := y.cl) (l := hl); omega))).mono ?_
      rintro u M4 hu
      rw [hgt, if_pos rfl] at hu
      obtain ⟨x, y, r, hxy, rfl, hf4, sv4, F4, hd4, hs4, hdF4, hF4⟩ := hu
      simp at hxy
      obtain ⟨rfl, rfl, rfl⟩ := hxy
      have hcl : (⟨c.b, c.s, false⟩ : En).cl = c := rfl
      rw [hcl] at hs4
      have hkh : keysH (hearL c (viaL []) j hl) = (recL (order ++ [c])).take 8 := keys_hear hk
      have hh8 := keys_len hkh
      have l4 := hf4.len
      have l3M : M.length ≤ M3.length := (hf1.nil_trans (hf2.nil_trans hf3)).len
      have hbc4 := hf4.get hbc3 (by
        intro h
        rcases List.mem_cons.mp h with h | h
        · omega
        · have := hs.lt _ h; omega)
      have lbc4 := lt_of_some hbc4
      have ho4 := ho3.frm hf4 fun z hz h => by
        have h1 := hG z hz
        rcases List.mem_cons.mp h with h | h
        · omega
        · exact h1.2 h
      have hfm4 : Frm [] m M4 := hfm3.trans hf4 fun z hz => .inr (by
        rcases List.mem_cons.mp hz with h | h
        · omega
        · exact hFm z h)
      simp (contextual := true) (implicitDefEqProofs := false) (maxSteps := 2000000) (disch := first | rfl | exact NB rfl | omega | (simp only [XL]; omega)) only [hbc4, XW, undef_eq, Nat.reduceAdd, Nat.reduceSub, ↓reduceIte, basic, cellsL, resOf, setAt, below, belowB, belowA, atomB, Nat.reduceLeDiff, Nat.reduceMul, Int.reduceToNat, Int.reduceLT, Int.reduceLE, Int.reduceAdd, Int.reduceNeg, Int.reduceEq, splice, Nat.reduceEqDiff, Nat.reduceLT, isAtom, Int.reduceSub, Int.reduceMul, implies_true]
      refine (all_spec hd4 hs4 (by omega)).mono ?_
      rintro u M5 ⟨hf5, P5, hs5, hP5⟩
      obtain ⟨ua, rfl, hform5⟩ := hs5.form
      have hhl : hearL c (viaL []) j hl = (⟨c, viaL [], IntKind.i64.wrap (cntH c hl + 1), (j : Int)⟩ : He) :: (restH c hl).take 7 := rfl
      rw [hhl] at hform5
      obtain ⟨b5, o5, cs5, rfl, rfl, hb5, hlb5, _, hrow5⟩ := hform5 (by simp)
      rw [← hhl] at hlb5
      have hpos5 : 0 < ((hearL c (viaL []) j hl).map He.row).length := by rw [hhl]; simp
      have hr5 : (cs5.drop o5).take 2 = [str c.b, .int .i64 c.s] := by
        have h1 := hrow5 0 _ (by simp; rfl)
        rw [Nat.zero_mul, Nat.add_zero] at h1
        have := congrArg (List.take 2) h1
        rwa [List.take_take] at this
      have hlen5 : o5 + 2 ≤ cs5.length := by omega
      have hlt5 : ((0 : Int) < ((((hearL c (viaL []) j hl).map He.row).length : Nat) : Int)) = True := eq_true (by omega)
      have lb5 := lt_of_some hb5
      have hbc5 := hf5.get0 hbc4
      have lbc5 := lt_of_some hbc5
      have hsame : c.same c = true := Cl.same_iff.2 rfl
      have hd5 := hf5.get0 hd4
      have hs45 := hs4.frm0 hf5
      have ho5 := ho4.frm0 hf5
      have hfm5 := hfm4.nil_trans hf5
      simp (contextual := true) (implicitDefEqProofs := false) (maxSteps := 2000000) (disch := first | rfl | exact NB rfl | omega | (simp only [XL]; omega)) only [hb5, hbc5, hr5, hlt5, eqN_cl, hsame, cellsB_l (k := .own) rfl hlen5, XX, XB, lc_block, lc_cond, XZ, undef_eq, Nat.reduceAdd, Nat.reduceSub, ↓reduceIte, basic, cellsL, resOf, setAt, below, belowB, belowA, atomB, Nat.reduceLeDiff, Nat.reduceMul, Int.reduceToNat, Int.reduceLT, Int.reduceLE, Int.reduceAdd, Int.reduceNeg, Int.reduceEq, splice, Nat.reduceEqDiff, Nat.reduceLT, isAtom, Int.reduceSub, Int.reduceMul, implies_true]
      have hGl := ho.lt
      have hF4l := hs4.lt
      have l5 := hf5.len
      have hGF4 : ∀ z ∈ G, z ∉ F4 := fun z hz h => by
        have h1 := hG z hz
        have h2 := hGl z hz
        rcases hF4 z h with h | h
        · exact h1.2 h
        · omega
      have hlen1 : (order.map Cl.row).length = order.length := by simp
      refine app_row (m := M5 ++ [⟨[str c.b, .int .i64 c.s], 27, 2, 0, .own⟩]) (cells := [str c.b, .int .i64 c.s]) (bytes := 24) (ho5.frm0 Frm.refl.app) rfl (by rw [hlen1]; omega) ?_
      intro v2 M6 G2 hM6 hf6 hs6 hG2
      simp only [List.length_append, List.length_cons, List.length_nil] at hM6 hG2
      have hs6' : Sl M6 27 2 v2 G2 ((order ++ [c]).map Cl.row) := by rw [List.map_append]; exact hs6
      obtain ⟨oa2, rfl, _⟩ := hs6'.form
      have hol : ((order ++ [c]).map Cl.row).length = (order ++ [c]).length := by rw [List.length_map]
      rw [hol] at hs6' ⊢
      have hd6 := hf6.get (i := m.length) (b := ⟨[sv4], 51, 1, 0, .own⟩) (by rw [List.getElem?_append_left (lt_of_some hd5)]; exact hd5) (fun h => by have := (hG _ h).1; omega)
      have hs46 := (hs45.frm0 (Frm.refl.app (g := [⟨[str c.b, .int .i64 c.s], 27, 2, 0, .own⟩]))).frm hf6 fun z hz h => hGF4 z h hz
      simp (contextual := true) (implicitDefEqProofs := false) (maxSteps := 2000000) (disch := first | rfl | exact NB rfl | omega | (simp only [XL]; omega)) only [XW, undef_eq, Nat.reduceAdd, Nat.reduceSub, ↓reduceIte, basic, cellsL, resOf, setAt, below, belowB, belowA, atomB, Nat.reduceLeDiff, Nat.reduceMul, Int.reduceToNat, Int.reduceLT, Int.reduceLE, Int.reduceAdd, Int.reduceNeg, Int.reduceEq, splice, Nat.reduceEqDiff, Nat.reduceLT, isAtom, Int.reduceSub, Int.reduceMul, implies_true]
      refine kInv_go ⟨j + 1, order ++ [c], hearL c (viaL []) j hl, sv4, F4, G2, oa2, rfl, by omega, by rw [List.length_append]; simp; omega, ?_, hkh, ?_, hd6, hs46, hdF4, ?_, hs6', ?_, ⟨rfl, by simp [hwj]⟩⟩ (by omega)
      · intro d hd
        rcases List.mem_append.mp hd with h | h
        · exact hwo d h
        · simp at h; rw [h]; exact hcw
      · exact (hfm5.app).trans hf6 fun z hz => .inr (by have := (hG z hz).1; omega)
      · intro z hz
        rcases hF4 z hz with h | h
        · exact hFm z h
        · omega
      · intro z hz
        have h := hG2 z hz
        exact ⟨by omega, fun hz4 => by have := hF4l z hz4; omega⟩
    · rw [if_neg hri] at hu
      subst hu
      simp (contextual := true) (implicitDefEqProofs := false) (maxSteps := 2000000) (disch := first | rfl | exact NB rfl | omega | (simp only [XL]; omega)) only [XW, undef_eq, Nat.reduceAdd, Nat.reduceSub, ↓reduceIte, basic, cellsL, resOf, setAt, below, belowB, belowA, atomB, Nat.reduceLeDiff, Nat.reduceMul, Int.reduceToNat, Int.reduceLT, Int.reduceLE, Int.reduceAdd, Int.reduceNeg, Int.reduceEq, splice, Nat.reduceEqDiff, Nat.reduceLT, isAtom, Int.reduceSub, Int.reduceMul, implies_true]
      exact kInv_go ⟨j + 1, order, hl, sv, F, G, oa, rfl, by omega, by omega, hwo, hk, hfm2.app, by rw [List.getElem?_append_left (lt_of_some hd2)]; exact hd2, hs2.frm0 Frm.refl.app, hdF, hFm, ho2.frm0 Frm.refl.app, hG, ⟨rfl, by simp [hwj]⟩⟩ (by omega)
  have hlt' : ((j : Int) < (l.length : Int)) = False := by simp; omega
  simp (contextual := true) (implicitDefEqProofs := false) (maxSteps := 2000000) (disch := first | rfl | exact NB rfl | omega | (simp only [XL]; omega)) only [hlt', XW, undef_eq, Nat.reduceAdd, Nat.reduceSub, ↓reduceIte, basic, cellsL, resOf, setAt, below, belowB, belowA, atomB, Nat.reduceLeDiff, Nat.reduceMul, Int.reduceToNat, Int.reduceLT, Int.reduceLE, Int.reduceAdd, Int.reduceNeg, Int.reduceEq, splice, Nat.reduceEqDiff, Nat.reduceLT, isAtom, Int.reduceSub, Int.reduceMul, implies_true]
  exact suf_law (F := F) (G := G) ⟨rfl, by simp⟩ hd hs hk ho (by omega) hwo
theorem cl_ofL {m : Mem} {n : Nat} {xs : List Value} (h : TyL Tryd.prog m (n + 2) 27 xs) : ∃ c : Cl, xs = c.row ∧ c.okW := by
  obtain ⟨x1, _, rfl, h1, x2, _, rfl, h2, rfl⟩ := h.struct Tryd.underlying27 rfl
  obtain ⟨s, rfl, hs⟩ := h1.text Tryd.underlying9
  obtain ⟨a, rfl, ha⟩ := h2.int Tryd.underlying3
  obtain ⟨l, rfl⟩ := str_is s
  rw [string_mk_size] at hs
  exact ⟨⟨l, a⟩, rfl, Nat.le_trans hs (by decide), by simpa [Lit.wf] using ha⟩
theorem in_rd {α : Type} {f : α → List Value} {sz : Nat} (hfl : ∀ x, (f x).length = sz) {m : Mem} {v : Value} {cells : List Value} {k : Nat} (h : SlIn m sz cells k v) {l : List α} (hk : l.length = k) (hc : cells = (l.map f).flatten) : Rd m sz v (l.map f) := by
  subst hk hc
  have hl := flatten_length (f := f) (s := sz) hfl l
  obtain ⟨a, rfl, _, hf⟩ := h.form
  refine ⟨a, by simp, fun hp => ?_⟩
  simp only [List.length_map] at hp
  obtain ⟨i, T, rfl, hm, hi⟩ := hf hp
  refine ⟨i, 0, _, T, 0, .ro, rfl, hm, rfl, by simp only [List.length_map]; omega, fun j r hr => ?_⟩
  rw [List.getElem?_map] at hr
  obtain ⟨c, hc, rfl⟩ := Option.map_eq_some_iff.mp hr
  rw [Nat.zero_add]
  exact flatten_part (f := f) (s := sz) hfl l j c hc
theorem heardlast_all (m : Mem) (vs : List Value) (h : F2 (TyV Tryd.prog m 6) [22] vs) : LCall Tryd.prog 3 vs m fun v _ => v = .bool true := by
  obtain ⟨x1, rfl, h1⟩ := h.one_inv
  obtain ⟨cells, q, hs, hty⟩ := h1.slice Tryd.underlying22 (sz := 2) (by kernel_rfl)
  obtain ⟨al, hq, hcells, hcb⟩ := hty.map (f := Cl.row) fun xs hx => cl_ofL hx
  exact last_law (in_rd (f := Cl.row) (sz := 2) (fun _ => rfl) hs hq hcells) hcb
end Go.Proofs.YtijndljfpiomhaaDoor
