/- A box of messages: Next, walked. -/
import Derived.Test.YtfpnnaalbjmnlaaA
namespace Go.Proofs.Ytfpnnaalbjmnlaa
open Go.Lg
set_option maxRecDepth 8000
set_option maxHeartbeats 8000000
set_option linter.unusedSimpArgs false
set_option linter.unnecessarySimpa false
set_option linter.unusedVariables false

theorem Sl.form2 {m : Mem} {T sz : Nat} {v : Value} {F : List Nat} {rows : List (List Value)} (h : Sl m T sz v F rows) : (v = .slice none 0 0 ∧ rows = []) ∨ ∃ b o cs, v = .slice (some ⟨b, o, none⟩) rows.length rows.length ∧ F = [b] ∧ m[b]? = some ⟨cs, T, sz, 0, .own⟩ ∧ o + rows.length * sz ≤ cs.length ∧
    ∀ i, i ≤ rows.length → Sl m T sz (.slice (some ⟨b, o + i * sz, none⟩) (rows.length - i) (rows.length - i)) F (rows.drop i) := by
  cases h with
  | nil => exact .inl ⟨rfl, rfl⟩
  | @own b o cs _ hb hr hc hl =>
    refine .inr ⟨b, o, cs, rfl, rfl, hb, hl, fun i hi => ?_⟩
    have h1 := drop_rows hr hc hi
    have h2 : o + i * sz + (rows.drop i).length * sz ≤ cs.length := by
      rw [List.length_drop, Nat.sub_mul]
      have := Nat.mul_le_mul_right sz hi
      omega
    have := Sl.own (m := m) (T := T) (sz := sz) (b := b) (o := o + i * sz) (cs := cs) (rows := rows.drop i) hb (fun r hr' => hr r (List.mem_of_mem_drop hr')) h1 h2
    rwa [List.length_drop] at this

def nextL : List (List PP) → List (List PP)
  | (_ :: q :: r) :: rest => (q :: r) :: rest
  | _ :: rest => rest
  | [] => []
def nextV : List (List PP) → Value
  | (p :: _) :: _ => .tuple #[.agg #[.int .i64 p.1, str p.2], .bool true]
  | _ => .tuple #[.agg #[.int .i64 0, .string ⟨#[]⟩], .bool false]
theorem next_spec {m : Mem} {bi : Nat} {F : List Nat} {n1 put : Int} {Ls : List (List PP)} (h : Bx m bi F n1 put Ls) (hne : ∀ l ∈ Ls, l ≠ []) :
    LCall Try.prog 12 [.pointer (some ⟨bi, 0, none⟩)] m fun v M => v = nextV Ls ∧ Frm F m M ∧ Bx M bi F n1 put (nextL Ls) := by
  have h0 := h
  obtain ⟨sv, G, P, vs, rfl, h⟩ := h
  have hc := h.cell
  have hi := lt_of_some hc
  refine LCall_enter Try.func12 c12 ?_
  cases Ls with
  | nil =>
    have hv0 : vs = [] := List.length_eq_zero_iff.mp h.len
    subst hv0
    obtain ⟨sa, rfl, _⟩ := h.sl.form
    simp only [List.map_nil, List.length_nil] at hc
    simp (contextual := true) (implicitDefEqProofs := false) (maxSteps := 2000000) (disch := first | rfl | exact Nat.le_of_ble_eq_true rfl | omega | (simp only [List.length_append, List.length_cons, List.length_nil, List.length_set]; omega)) only [L12, hc, W1, W2, W3, W4, W5, W6, W7, W8, W9, W10, W11, W12, W13, W14, W15, eq_self, ite_true, ite_false, undef_eq, List.set_cons_zero, List.set_cons_succ, List.getD_cons_zero, List.getD_cons_succ, List.map_cons, List.map_nil, List.length_cons, List.length_nil, List.append_nil, List.cons_append, List.nil_append, List.replicate_succ, List.replicate_zero, Nat.reduceAdd, Nat.reduceSub, ↓reduceIte, List.getElem?_cons_zero, List.getElem?_cons_succ, basic, cellsL, resOf, setAt, List.append_assoc, List.length_append, List.getElem?_append_left, List.getElem?_append_right, List.set_append_left, List.set_append_right, below, belowB, belowA, atomB, List.mem_cons, List.not_mem_nil, forall_eq_or_imp, forall_eq, List.toList_toArray, implies_true, List.take_succ_cons, List.take_zero, List.drop_succ_cons, List.drop_zero, List.take_nil, List.drop_nil, Nat.reduceLeDiff, Nat.reduceMul, Int.reduceToNat, Int.reduceLT, Int.reduceLE, Int.reduceAdd, Int.reduceNeg, Int.reduceEq, splice, List.singleton_append, Nat.reduceEqDiff, Nat.reduceLT, isAtom, List.all_cons, List.all_nil, Option.map_some, Option.bind_some, List.length_set, Int.reduceSub, Int.reduceMul, List.getElem?_set_self, List.getElem?_set_ne, ofB_2, tmpR_if, ro_sliceData, ro_capNil, ro_noZero, ext_2, ext_3, ext_4, ext_5, List.set_set]
    exact ⟨rfl, Frm.refl.app, h0.frm (H := []) Frm.refl.app (by simp)⟩
  | cons l0 rest =>
    obtain ⟨p, r, rfl⟩ : ∃ p r, l0 = p :: r := by
      cases l0 with
      | nil => exact absurd rfl (hne [] (by simp))
      | cons p r => exact ⟨p, r, rfl⟩
    obtain ⟨u, vr, rfl⟩ : ∃ u vr, vs = u :: vr := by
      cases vs with
      | nil => have := h.len; simp at this
      | cons u vr => exact ⟨u, vr, rfl⟩
    obtain ⟨g, hg, hsu⟩ := h.el 0 u (p :: r) rfl rfl
    obtain ⟨a, rfl, hform⟩ := h.sl.form
    obtain ⟨b, o, cs, rfl, hGe, hb, hbl, hbc, hbrow⟩ := hform (by simp)
    obtain ⟨ua, rfl, huform⟩ := hsu.form
    obtain ⟨pb, po, pcs, rfl, hge, hpb, hpl, hpc, hprow⟩ := huform (by simp)
    have hvl : vr.length = rest.length := by have := h.len; simpa using this
    have hx : cs[o]? = some (.slice (some ⟨pb, po, none⟩) (r.length + 1) (r.length + 1)) := by
      have := row_cell (hbrow 0 _ rfl) (j := 0) (by omega)
      simpa using this
    have hpart : List.take 2 (List.drop po pcs) = [.int .i64 p.1, str p.2] := by
      have := hprow 0 (prow p) rfl
      simpa [prow] using this
    simp only [List.length_map, List.length_cons, hvl] at hc hbl hpl
    have hbli := lt_of_some hb
    have hpbl := lt_of_some hpb
    have hpos : ((0 : Int) < ((rest.length + 1 : Nat) : Int)) = True := eq_true (by omega)
    have hpos2 : ((0 : Int) < ((r.length + 1 : Nat) : Int)) = True := eq_true (by omega)
    have hn0 : (((rest.length + 1 : Nat) : Int) = 0) = False := eq_false (by omega)
    have h1r : ((1 : Int) ≤ ((r.length + 1 : Nat) : Int)) = True := eq_true (by omega)
    simp (contextual := true) (implicitDefEqProofs := false) (maxSteps := 2000000) (disch := first | rfl | exact Nat.le_of_ble_eq_true rfl | omega | (simp only [List.length_append, List.length_cons, List.length_nil, List.length_set]; omega)) only [L12, hc, hb, hx, hpb, hpart, hpos, hpos2, hn0, h1r, W1, W2, W3, W4, W5, W6, W7, W8, W9, W10, W11, W12, W13, W14, W15, eq_self, ite_true, ite_false, undef_eq, List.set_cons_zero, List.set_cons_succ, List.getD_cons_zero, List.getD_cons_succ, List.map_cons, List.map_nil, List.length_cons, List.length_nil, List.append_nil, List.cons_append, List.nil_append, List.replicate_succ, List.replicate_zero, Nat.reduceAdd, Nat.reduceSub, ↓reduceIte, List.getElem?_cons_zero, List.getElem?_cons_succ, basic, cellsL, resOf, setAt, List.append_assoc, List.length_append, List.getElem?_append_left, List.getElem?_append_right, List.set_append_left, List.set_append_right, below, belowB, belowA, atomB, List.mem_cons, List.not_mem_nil, forall_eq_or_imp, forall_eq, List.toList_toArray, implies_true, List.take_succ_cons, List.take_zero, List.drop_succ_cons, List.drop_zero, List.take_nil, List.drop_nil, Nat.reduceLeDiff, Nat.reduceMul, Int.reduceToNat, Int.reduceLT, Int.reduceLE, Int.reduceAdd, Int.reduceNeg, Int.reduceEq, splice, List.singleton_append, Nat.reduceEqDiff, Nat.reduceLT, isAtom, List.all_cons, List.all_nil, Option.map_some, Option.bind_some, List.length_set, Int.reduceSub, Int.reduceMul, List.getElem?_set_self, List.getElem?_set_ne, ofB_2, tmpR_if, ro_sliceData, ro_capNil, ro_noZero, ext_2, ext_3, ext_4, ext_5, List.set_set]
    have hbne : b ≠ bi := fun hx => h.nb.1 (by rw [hGe, hx]; simp)
    obtain ⟨u', hu'⟩ : ∃ u', u' = Value.slice (some ⟨pb, po + 2, none⟩) (r.length + 1 - 1) (r.length + 1 - 1) := ⟨_, rfl⟩
    rw [← hu']
    have hset : Frm [b] m (m.set b ⟨cs.set o u', 50, 1, 0, .own⟩) := Frm.refl.set (by simp)
    have hc1 := hset.get hc (by simpa using Ne.symm hbne)
    have hb1 : (m.set b ⟨cs.set o u', 50, 1, 0, .own⟩)[b]? = some ⟨cs.set o u', 50, 1, 0, .own⟩ := by rw [List.getElem?_set_self hbli]
    have hx1 : (cs.set o u')[o]? = some u' := by rw [List.getElem?_set_self (by omega)]
    -- the slices, the first one shorter
    have hrl := h.sl.rows_len
    have hsl1 : Sl (m.set b ⟨cs.set o u', 50, 1, 0, .own⟩) 50 1 (.slice (some ⟨b, o, none⟩) (rest.length + 1) (rest.length + 1)) G ((u' :: vr).map fun v => [v]) := by
      have hst := store_row (i := 0) (r := [u']) hrl hbc (by simp only [List.length_map, List.length_cons, hvl]; omega) (by simp) rfl
      have e1 : setAt cs (o + 0 * 1) [u'] = cs.set o u' := by simp [setAt]
      rw [e1] at hst
      rw [hGe]
      have := Sl.own (m := m.set b ⟨cs.set o u', 50, 1, 0, .own⟩) (T := 50) (sz := 1) (b := b) (o := o) (cs := cs.set o u') (rows := (u' :: vr).map fun v => [v]) hb1 (by simp) hst (by simp only [List.length_map, List.length_cons, List.length_set, hvl]; omega)
      simpa only [List.length_map, List.length_cons, hvl] using this
    have hu1 : Sl (m.set b ⟨cs.set o u', 50, 1, 0, .own⟩) 36 2 u' g (r.map prow) := by
      rcases Sl.form2 hsu with ⟨_, hn⟩ | ⟨b2, o2, cs2, hv2, hg2, hb2, hl2, hdrop⟩
      · simp at hn
      · simp only [Value.slice.injEq, Option.some.injEq, Addr.mk.injEq] at hv2
        obtain ⟨⟨rfl, rfl, _⟩, _, _⟩ := hv2
        have := hdrop 1 (by simp)
        simp only [List.length_map, List.length_cons, List.map_cons, List.drop_succ_cons, List.drop_zero, Nat.one_mul] at this
        have h4 : Sl m 36 2 u' g (r.map prow) := by rw [hu']; exact this
        exact h4.frm hset fun x hx hx' => by
          have e : x = b := by simpa using hx'
          exact h.dj b (by rw [hGe]; simp) (e ▸ hg x hx)
    have hel : ∀ (i : Nat) (v : Value) (l : List PP), vr[i]? = some v → rest[i]? = some l → ∃ g, (∀ x ∈ g, x ∈ P) ∧ Sl (m.set b ⟨cs.set o u', 50, 1, 0, .own⟩) 36 2 v g (l.map prow) := fun i v l h1 h2 => by
      obtain ⟨g, hg, hs⟩ := h.el (i + 1) v l (by simpa using h1) (by simpa using h2)
      exact ⟨g, hg, hs.frm hset fun x hx hx' => by
        have e : x = b := by simpa using hx'
        exact h.dj b (by rw [hGe]; simp) (e ▸ hg x hx)⟩
    have hbG : b ∈ G := by rw [hGe]; simp
    refine ⟨by omega, ?_⟩
    have hM1len : m.length = (m.set b ⟨cs.set o u', 50, 1, 0, .own⟩).length := by simp
    generalize m.set b ⟨cs.set o u', 50, 1, 0, .own⟩ = M1 at hset hc1 hb1 hsl1 hu1 hel hM1len ⊢
    have hM1l := hset.len
    have hc1l := lt_of_some hc1
    have hb1l := lt_of_some hb1
    have hfr : Frm (bi :: (G ++ P)) m M1 := hset.mono fun x hx => by simp at hx; subst hx; simp [hbG]
    cases r with
    | nil =>
      have hz : u' = .slice (some ⟨pb, po + 2, none⟩) 0 0 := hu'
      have h1n : ((1 : Int) ≤ ((rest.length + 1 : Nat) : Int)) = True := eq_true (by omega)
      subst hz
      simp (contextual := true) (implicitDefEqProofs := false) (maxSteps := 2000000) (disch := first | rfl | exact Nat.le_of_ble_eq_true rfl | omega | (simp only [List.length_append, List.length_cons, List.length_nil, List.length_set]; omega)) only [hM1len, hc1, hb1, hx1, hpos, h1n, W1, W2, W3, W4, W5, W6, W7, W8, W9, W10, W11, W12, W13, W14, W15, eq_self, ite_true, ite_false, undef_eq, List.set_cons_zero, List.set_cons_succ, List.getD_cons_zero, List.getD_cons_succ, List.map_cons, List.map_nil, List.length_cons, List.length_nil, List.append_nil, List.cons_append, List.nil_append, List.replicate_succ, List.replicate_zero, Nat.reduceAdd, Nat.reduceSub, ↓reduceIte, List.getElem?_cons_zero, List.getElem?_cons_succ, basic, cellsL, resOf, setAt, List.append_assoc, List.length_append, List.getElem?_append_left, List.getElem?_append_right, List.set_append_left, List.set_append_right, below, belowB, belowA, atomB, List.mem_cons, List.not_mem_nil, forall_eq_or_imp, forall_eq, List.toList_toArray, implies_true, List.take_succ_cons, List.take_zero, List.drop_succ_cons, List.drop_zero, List.take_nil, List.drop_nil, Nat.reduceLeDiff, Nat.reduceMul, Int.reduceToNat, Int.reduceLT, Int.reduceLE, Int.reduceAdd, Int.reduceNeg, Int.reduceEq, splice, List.singleton_append, Nat.reduceEqDiff, Nat.reduceLT, isAtom, List.all_cons, List.all_nil, Option.map_some, Option.bind_some, List.length_set, Int.reduceSub, Int.reduceMul, List.getElem?_set_self, List.getElem?_set_ne, ofB_2, tmpR_if, ro_sliceData, ro_capNil, ro_noZero, ext_2, ext_3, ext_4, ext_5, List.set_set]
      have hcut : Sl M1 50 1 (.slice (some ⟨b, o + 1, none⟩) (rest.length + 1 - 1) (rest.length + 1 - 1)) G (vr.map fun v => [v]) := by
        rcases Sl.form2 hsl1 with ⟨_, hn⟩ | ⟨b2, o2, cs2, hv2, hg2, hb2, hl2, hdrop⟩
        · simp at hn
        · simp only [Value.slice.injEq, Option.some.injEq, Addr.mk.injEq] at hv2
          obtain ⟨⟨rfl, rfl, _⟩, _, _⟩ := hv2
          have := hdrop 1 (by simp)
          simpa only [List.length_map, List.length_cons, List.map_cons, List.drop_succ_cons, List.drop_zero, Nat.one_mul, hvl, Nat.mul_one] using this
      have hc2 : Bs (M1.set bi ⟨[.int .i64 n1, .int .i64 put, .slice (some ⟨b, o + 1, none⟩) (rest.length + 1 - 1) (rest.length + 1 - 1)], 58, 1, 0, .own⟩) bi (.slice (some ⟨b, o + 1, none⟩) (rest.length + 1 - 1) (rest.length + 1 - 1)) G P vr n1 put rest := by
        refine ⟨by rw [List.getElem?_set_self hc1l], hcut.setb h.nb.1, hvl, fun i v l h1 h2 => ?_, h.nb, h.dj, fun x hx => by have := h.pl x hx; simp; omega⟩
        obtain ⟨g, hg, hs⟩ := hel i v l h1 h2
        exact ⟨g, hg, hs.setb fun hx => h.nb.2 (hg _ hx)⟩
      refine ⟨rfl, (hfr.set (by simp)).app, ?_⟩
      have hbx : Bx _ bi (bi :: (G ++ P)) n1 put rest := ⟨_, G, P, vr, rfl, hc2⟩
      exact hbx.frm (H := []) Frm.refl.app (by simp)
    | cons q r' =>
      have hz : u' = .slice (some ⟨pb, po + 2, none⟩) (r'.length + 1) (r'.length + 1) := hu'
      have hnz : (((r'.length + 1 : Nat) : Int) = 0) = False := eq_false (by omega)
      subst hz
      simp (contextual := true) (implicitDefEqProofs := false) (maxSteps := 2000000) (disch := first | rfl | exact Nat.le_of_ble_eq_true rfl | omega | (simp only [List.length_append, List.length_cons, List.length_nil, List.length_set]; omega)) only [hM1len, hc1, hb1, hx1, hpos, hnz, W1, W2, W3, W4, W5, W6, W7, W8, W9, W10, W11, W12, W13, W14, W15, eq_self, ite_true, ite_false, undef_eq, List.set_cons_zero, List.set_cons_succ, List.getD_cons_zero, List.getD_cons_succ, List.map_cons, List.map_nil, List.length_cons, List.length_nil, List.append_nil, List.cons_append, List.nil_append, List.replicate_succ, List.replicate_zero, Nat.reduceAdd, Nat.reduceSub, ↓reduceIte, List.getElem?_cons_zero, List.getElem?_cons_succ, basic, cellsL, resOf, setAt, List.append_assoc, List.length_append, List.getElem?_append_left, List.getElem?_append_right, List.set_append_left, List.set_append_right, below, belowB, belowA, atomB, List.mem_cons, List.not_mem_nil, forall_eq_or_imp, forall_eq, List.toList_toArray, implies_true, List.take_succ_cons, List.take_zero, List.drop_succ_cons, List.drop_zero, List.take_nil, List.drop_nil, Nat.reduceLeDiff, Nat.reduceMul, Int.reduceToNat, Int.reduceLT, Int.reduceLE, Int.reduceAdd, Int.reduceNeg, Int.reduceEq, splice, List.singleton_append, Nat.reduceEqDiff, Nat.reduceLT, isAtom, List.all_cons, List.all_nil, Option.map_some, Option.bind_some, List.length_set, Int.reduceSub, Int.reduceMul, List.getElem?_set_self, List.getElem?_set_ne, ofB_2, tmpR_if, ro_sliceData, ro_capNil, ro_noZero, ext_2, ext_3, ext_4, ext_5, List.set_set]
      have hc2 : Bs M1 bi (.slice (some ⟨b, o, none⟩) (rest.length + 1) (rest.length + 1)) G P (.slice (some ⟨pb, po + 2, none⟩) (r'.length + 1) (r'.length + 1) :: vr) n1 put ((q :: r') :: rest) := by
        refine ⟨hc1, hsl1, by simp [hvl], fun i v l h1 h2 => ?_, h.nb, h.dj, fun x hx => by have := h.pl x hx; omega⟩
        cases i with
        | zero =>
          simp at h1 h2
          subst h1 h2
          exact ⟨g, hg, hu1⟩
        | succ i => exact hel i v l (by simpa using h1) (by simpa using h2)
      refine ⟨rfl, hfr.app, ?_⟩
      have hbx : Bx _ bi (bi :: (G ++ P)) n1 put ((q :: r') :: rest) := ⟨_, G, P, _, rfl, hc2⟩
      exact hbx.frm (H := []) Frm.refl.app (by simp)

theorem awake19 (m : Mem) : LCall Try.prog 6 [] m fun v M => v = .bool true ∧ Frm [] m M := by
  refine LCall_enter Try.func6 c6 ?_
  simp (contextual := true) (implicitDefEqProofs := false) (maxSteps := 2000000) (disch := first | rfl | exact Nat.le_of_ble_eq_true rfl | omega | (simp only [List.length_append, List.length_cons, List.length_nil, List.length_set]; omega)) only [L6, W1, W2, W3, W4, W5, W6, W7, W8, W9, W10, W11, W12, W13, W14, W15, eq_self, ite_true, ite_false, undef_eq, List.set_cons_zero, List.set_cons_succ, List.getD_cons_zero, List.getD_cons_succ, List.map_cons, List.map_nil, List.length_cons, List.length_nil, List.append_nil, List.cons_append, List.nil_append, List.replicate_succ, List.replicate_zero, Nat.reduceAdd, Nat.reduceSub, ↓reduceIte, List.getElem?_cons_zero, List.getElem?_cons_succ, basic, cellsL, resOf, setAt, List.append_assoc, List.length_append, List.getElem?_append_left, List.getElem?_append_right, List.set_append_left, List.set_append_right, below, belowB, belowA, atomB, List.mem_cons, List.not_mem_nil, forall_eq_or_imp, forall_eq, List.toList_toArray, implies_true, List.take_succ_cons, List.take_zero, List.drop_succ_cons, List.drop_zero, List.take_nil, List.drop_nil, Nat.reduceLeDiff, Nat.reduceMul, Int.reduceToNat, Int.reduceLT, Int.reduceLE, Int.reduceAdd, Int.reduceNeg, Int.reduceEq, splice, List.singleton_append, Nat.reduceEqDiff, Nat.reduceLT, isAtom, List.all_cons, List.all_nil, Option.map_some, Option.bind_some, List.length_set, Int.reduceSub, Int.reduceMul, List.getElem?_set_self, List.getElem?_set_ne, ofB_2, tmpR_if, ro_sliceData, ro_capNil, ro_noZero, ext_2, ext_3, ext_4, ext_5, List.set_set]
  refine (newb_spec 16 m).mono ?_
  rintro v M ⟨hf, hv⟩
  rw [if_pos (by decide)] at hv
  obtain ⟨bi, rfl, hbi, hbx⟩ := hv
  simp (contextual := true) (implicitDefEqProofs := false) (maxSteps := 2000000) (disch := first | rfl | exact Nat.le_of_ble_eq_true rfl | omega | (simp only [List.length_append, List.length_cons, List.length_nil, List.length_set]; omega)) only [W1, W2, W3, W4, W5, W6, W7, W8, W9, W10, W11, W12, W13, W14, W15, eq_self, ite_true, ite_false, undef_eq, List.set_cons_zero, List.set_cons_succ, List.getD_cons_zero, List.getD_cons_succ, List.map_cons, List.map_nil, List.length_cons, List.length_nil, List.append_nil, List.cons_append, List.nil_append, List.replicate_succ, List.replicate_zero, Nat.reduceAdd, Nat.reduceSub, ↓reduceIte, List.getElem?_cons_zero, List.getElem?_cons_succ, basic, cellsL, resOf, setAt, List.append_assoc, List.length_append, List.getElem?_append_left, List.getElem?_append_right, List.set_append_left, List.set_append_right, below, belowB, belowA, atomB, List.mem_cons, List.not_mem_nil, forall_eq_or_imp, forall_eq, List.toList_toArray, implies_true, List.take_succ_cons, List.take_zero, List.drop_succ_cons, List.drop_zero, List.take_nil, List.drop_nil, Nat.reduceLeDiff, Nat.reduceMul, Int.reduceToNat, Int.reduceLT, Int.reduceLE, Int.reduceAdd, Int.reduceNeg, Int.reduceEq, splice, List.singleton_append, Nat.reduceEqDiff, Nat.reduceLT, isAtom, List.all_cons, List.all_nil, Option.map_some, Option.bind_some, List.length_set, Int.reduceSub, Int.reduceMul, List.getElem?_set_self, List.getElem?_set_ne, ofB_2, tmpR_if, ro_sliceData, ro_capNil, ro_noZero, ext_2, ext_3, ext_4, ext_5, List.set_set]
  refine (repeat_x40 _).use ?_
  simp (contextual := true) (implicitDefEqProofs := false) (maxSteps := 2000000) (disch := first | rfl | exact Nat.le_of_ble_eq_true rfl | omega | (simp only [List.length_append, List.length_cons, List.length_nil, List.length_set]; omega)) only [W1, W2, W3, W4, W5, W6, W7, W8, W9, W10, W11, W12, W13, W14, W15, eq_self, ite_true, ite_false, undef_eq, List.set_cons_zero, List.set_cons_succ, List.getD_cons_zero, List.getD_cons_succ, List.map_cons, List.map_nil, List.length_cons, List.length_nil, List.append_nil, List.cons_append, List.nil_append, List.replicate_succ, List.replicate_zero, Nat.reduceAdd, Nat.reduceSub, ↓reduceIte, List.getElem?_cons_zero, List.getElem?_cons_succ, basic, cellsL, resOf, setAt, List.append_assoc, List.length_append, List.getElem?_append_left, List.getElem?_append_right, List.set_append_left, List.set_append_right, below, belowB, belowA, atomB, List.mem_cons, List.not_mem_nil, forall_eq_or_imp, forall_eq, List.toList_toArray, implies_true, List.take_succ_cons, List.take_zero, List.drop_succ_cons, List.drop_zero, List.take_nil, List.drop_nil, Nat.reduceLeDiff, Nat.reduceMul, Int.reduceToNat, Int.reduceLT, Int.reduceLE, Int.reduceAdd, Int.reduceNeg, Int.reduceEq, splice, List.singleton_append, Nat.reduceEqDiff, Nat.reduceLT, isAtom, List.all_cons, List.all_nil, Option.map_some, Option.bind_some, List.length_set, Int.reduceSub, Int.reduceMul, List.getElem?_set_self, List.getElem?_set_ne, ofB_2, tmpR_if, ro_sliceData, ro_capNil, ro_noZero, ext_2, ext_3, ext_4, ext_5, List.set_set]
  have e1 : bputE 16 [] 240 (List.replicate 40 120) = 0 := by decide
  have e2 : bputL 16 [] 240 (List.replicate 40 120) = [(splitL 240 16 (List.replicate 40 120)).1] := by rw [bputL, if_pos e1]; rfl
  have e3 : (splitL 240 16 (List.replicate 40 120)).1.length = 3 := by decide
  refine (bput_spec 240 (List.replicate 40 120) hbx (by simp) (by omega) (by simp)).mono ?_
  rw [e1, e2]
  rintro v M2 ⟨rfl, hf2, F2, hb2, hn2⟩
  have hs3' : ∀ l : List PP, l.length = 3 → sumL [l] = 3 := fun l h => by simp [sumL, h]
  have hs3 := hs3' _ e3
  simp (contextual := true) (implicitDefEqProofs := false) (maxSteps := 2000000) (disch := first | rfl | exact Nat.le_of_ble_eq_true rfl | omega | (simp only [List.length_append, List.length_cons, List.length_nil, List.length_set]; omega)) only [W1, W2, W3, W4, W5, W6, W7, W8, W9, W10, W11, W12, W13, W14, W15, eq_self, ite_true, ite_false, undef_eq, List.set_cons_zero, List.set_cons_succ, List.getD_cons_zero, List.getD_cons_succ, List.map_cons, List.map_nil, List.length_cons, List.length_nil, List.append_nil, List.cons_append, List.nil_append, List.replicate_succ, List.replicate_zero, Nat.reduceAdd, Nat.reduceSub, ↓reduceIte, List.getElem?_cons_zero, List.getElem?_cons_succ, basic, cellsL, resOf, setAt, List.append_assoc, List.length_append, List.getElem?_append_left, List.getElem?_append_right, List.set_append_left, List.set_append_right, below, belowB, belowA, atomB, List.mem_cons, List.not_mem_nil, forall_eq_or_imp, forall_eq, List.toList_toArray, implies_true, List.take_succ_cons, List.take_zero, List.drop_succ_cons, List.drop_zero, List.take_nil, List.drop_nil, Nat.reduceLeDiff, Nat.reduceMul, Int.reduceToNat, Int.reduceLT, Int.reduceLE, Int.reduceAdd, Int.reduceNeg, Int.reduceEq, splice, List.singleton_append, Nat.reduceEqDiff, Nat.reduceLT, isAtom, List.all_cons, List.all_nil, Option.map_some, Option.bind_some, List.length_set, Int.reduceSub, Int.reduceMul, List.getElem?_set_self, List.getElem?_set_ne, ofB_2, tmpR_if, ro_sliceData, ro_capNil, ro_noZero, ext_2, ext_3, ext_4, ext_5, List.set_set]
  refine (left_spec hb2 (by simp) (by intro l hl; rw [List.mem_singleton.mp hl, e3]; decide)).use ?_
  rw [hs3]
  simp (contextual := true) (implicitDefEqProofs := false) (maxSteps := 2000000) (disch := first | rfl | exact Nat.le_of_ble_eq_true rfl | omega | (simp only [List.length_append, List.length_cons, List.length_nil, List.length_set]; omega)) only [W1, W2, W3, W4, W5, W6, W7, W8, W9, W10, W11, W12, W13, W14, W15, eq_self, ite_true, ite_false, undef_eq, List.set_cons_zero, List.set_cons_succ, List.getD_cons_zero, List.getD_cons_succ, List.map_cons, List.map_nil, List.length_cons, List.length_nil, List.append_nil, List.cons_append, List.nil_append, List.replicate_succ, List.replicate_zero, Nat.reduceAdd, Nat.reduceSub, ↓reduceIte, List.getElem?_cons_zero, List.getElem?_cons_succ, basic, cellsL, resOf, setAt, List.append_assoc, List.length_append, List.getElem?_append_left, List.getElem?_append_right, List.set_append_left, List.set_append_right, below, belowB, belowA, atomB, List.mem_cons, List.not_mem_nil, forall_eq_or_imp, forall_eq, List.toList_toArray, implies_true, List.take_succ_cons, List.take_zero, List.drop_succ_cons, List.drop_zero, List.take_nil, List.drop_nil, Nat.reduceLeDiff, Nat.reduceMul, Int.reduceToNat, Int.reduceLT, Int.reduceLE, Int.reduceAdd, Int.reduceNeg, Int.reduceEq, splice, List.singleton_append, Nat.reduceEqDiff, Nat.reduceLT, isAtom, List.all_cons, List.all_nil, Option.map_some, Option.bind_some, List.length_set, Int.reduceSub, Int.reduceMul, List.getElem?_set_self, List.getElem?_set_ne, ofB_2, tmpR_if, ro_sliceData, ro_capNil, ro_noZero, ext_2, ext_3, ext_4, ext_5, List.set_set]
  refine (len_spec hb2).use ?_
  simp (contextual := true) (implicitDefEqProofs := false) (maxSteps := 2000000) (disch := first | rfl | exact Nat.le_of_ble_eq_true rfl | omega | (simp only [List.length_append, List.length_cons, List.length_nil, List.length_set]; omega)) only [List.length_cons, List.length_nil, W1, W2, W3, W4, W5, W6, W7, W8, W9, W10, W11, W12, W13, W14, W15, eq_self, ite_true, ite_false, undef_eq, List.set_cons_zero, List.set_cons_succ, List.getD_cons_zero, List.getD_cons_succ, List.map_cons, List.map_nil, List.length_cons, List.length_nil, List.append_nil, List.cons_append, List.nil_append, List.replicate_succ, List.replicate_zero, Nat.reduceAdd, Nat.reduceSub, ↓reduceIte, List.getElem?_cons_zero, List.getElem?_cons_succ, basic, cellsL, resOf, setAt, List.append_assoc, List.length_append, List.getElem?_append_left, List.getElem?_append_right, List.set_append_left, List.set_append_right, below, belowB, belowA, atomB, List.mem_cons, List.not_mem_nil, forall_eq_or_imp, forall_eq, List.toList_toArray, implies_true, List.take_succ_cons, List.take_zero, List.drop_succ_cons, List.drop_zero, List.take_nil, List.drop_nil, Nat.reduceLeDiff, Nat.reduceMul, Int.reduceToNat, Int.reduceLT, Int.reduceLE, Int.reduceAdd, Int.reduceNeg, Int.reduceEq, splice, List.singleton_append, Nat.reduceEqDiff, Nat.reduceLT, isAtom, List.all_cons, List.all_nil, Option.map_some, Option.bind_some, List.length_set, Int.reduceSub, Int.reduceMul, List.getElem?_set_self, List.getElem?_set_ne, ofB_2, tmpR_if, ro_sliceData, ro_capNil, ro_noZero, ext_2, ext_3, ext_4, ext_5, List.set_set]
  exact hf.trans hf2 fun x hx => .inr (by simp at hx; omega)
end Go.Proofs.Ytfpnnaalbjmnlaa
