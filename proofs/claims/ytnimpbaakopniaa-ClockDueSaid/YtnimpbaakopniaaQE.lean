/- A timer that is set is told in its time: walked. -/
import Derived.Test.YtnimpbaakopniaaQD
namespace Go.Proofs.Ytnimpbaakopniaa
open Go.Lg
set_option maxRecDepth 8000
set_option maxHeartbeats 4000000
set_option linter.unusedSimpArgs false
set_option linter.unnecessarySimpa false
set_option linter.unusedVariables false

abbrev mine (t : Tm) : Bool := t.is (-7) (-7)
/-- The timer that was set, while it is. -/
def MineOK (n now : Int) (L : List Tm) : Prop := L.filter mine = if now < n then [⟨-7, -7, n - now⟩] else []

theorem leftL_filter {k n : Int} : ∀ {L : List Tm}, leftL k n L = leftL k n (L.filter fun t => t.is k n)
  | [] => rfl
  | a :: L => by
    cases h : a.is k n
    · simp only [leftL, List.filter_cons, h]; exact leftL_filter (L := L)
    · simp [leftL, List.filter_cons, h]
theorem mine_other {n now : Int} {L : List Tm} (p : Tm → Bool) (h : MineOK n now L) (hp : ∀ t, mine t = true → p t = true) : MineOK n now (L.filter p) := by
  unfold MineOK at *
  rw [← h, List.filter_filter]
  apply List.filter_congr
  intro t _
  cases hx : mine t
  · simp
  · simp [hp t hx]
theorem mine_set {n now : Int} {L : List Tm} {a b tk : Int} (h : MineOK n now L) (hne : ¬ (a = -7 ∧ b = -7)) : MineOK n now (setL a b tk L).2 := by
  unfold setL
  split
  · exact h
  split
  · exact h
  unfold MineOK at *
  rw [List.filter_append]
  have e1 : mine ⟨a, b, tk⟩ = false := by simp [mine, Tm.is]; intro h1 h2; exact hne ⟨h1, h2⟩
  have := mine_other (fun t => !t.is a b) h fun t ht => by
    have h1 : t.k = -7 ∧ t.n = -7 := by simpa [mine, Tm.is] using ht
    simp only [Tm.is, h1.1, h1.2, Bool.not_eq_true', decide_eq_false_iff_not]
    rintro ⟨h2, h3⟩; exact hne ⟨h2.symm, h3.symm⟩
  unfold MineOK at this
  rw [this]
  simp [List.filter_cons, e1]
theorem mine_tick {n now : Int} {L : List Tm} (h : MineOK n now L) : MineOK n (now + 1) ((L.filter fun t => !t.due).map Tm.dec) := by
  unfold MineOK at *
  rw [List.filter_map, List.filter_filter]
  have : (L.filter fun t => (mine ∘ Tm.dec) t && !t.due) = (L.filter mine).filter fun t => !t.due := by
    rw [List.filter_filter]
    apply List.filter_congr
    intro t _
    show (mine t && !t.due) = ((!t.due) && mine t)
    rw [Bool.and_comm]
  rw [this, h]
  by_cases h1 : now < n
  · rw [if_pos h1]
    by_cases h2 : now + 1 < n
    · rw [if_pos h2]
      have : (⟨-7, -7, n - now⟩ : Tm).due = false := by simp [Tm.due]; omega
      simp [List.filter_cons, this, Tm.dec]
      omega
    · rw [if_neg h2]
      have : (⟨-7, -7, n - now⟩ : Tm).due = true := by simp [Tm.due]; omega
      simp [List.filter_cons, this]
  · rw [if_neg h1, if_neg (by omega)]; rfl
theorem mine_due {n now : Int} {L : List Tm} (h : MineOK n now L) : (L.filter Tm.due).countP mine = if now + 1 = n then 1 else 0 := by
  rw [List.countP_eq_length_filter, List.filter_filter]
  have : (L.filter fun t => mine t && t.due) = (L.filter mine).filter Tm.due := by
    rw [List.filter_filter]
    apply List.filter_congr
    intro t _
    rw [Bool.and_comm]
  rw [this, h]
  by_cases h1 : now < n
  · rw [if_pos h1]
    by_cases h2 : now + 1 = n
    · rw [if_pos h2]
      have : (⟨-7, -7, n - now⟩ : Tm).due = true := by simp [Tm.due]; omega
      simp [List.filter_cons, this]
    · rw [if_neg h2]
      have : (⟨-7, -7, n - now⟩ : Tm).due = false := by simp [Tm.due]; omega
      simp [List.filter_cons, this]
  · rw [if_neg h1, if_neg (by omega)]; rfl

/-- A clock, a name beside it, and what was there before. -/
structure Dt (m M : Mem) (L : List Tm) (Fc : List Nat) : Prop where
  c : Clk M m.length Fc L
  nc : ∀ x ∈ Fc, m.length ≤ x ∧ x ≠ m.length + 1
  f : Frm [] m M
  b : M[m.length + 1]? = some ⟨[.int .i64 (-7), .int .i64 (-7)], 75, 1, 0, .own⟩
theorem Dt.pure {m M M' : Mem} {L : List Tm} {Fc : List Nat} (h : Dt m M L Fc) (k : Frm [] M M') : Dt m M' L Fc :=
  ⟨h.c.frm k (by simp), h.nc, h.f.trans k (by simp), k.get0 h.b⟩
theorem Dt.step {m M M' : Mem} {L L' : List Tm} {Fc F' : List Nat} (h : Dt m M L Fc) (k : Frm Fc M M') (hc : Clk M' m.length F' L') (hn : Nw M Fc F') : Dt m M' L' F' := by
  have hlen := h.f.len
  have hbl := lt_of_some h.b
  refine ⟨hc, fun x hx => ?_, h.f.trans k fun x hx => .inr (h.nc x hx).1, k.get h.b fun hx => (h.nc _ hx).2 rfl⟩
  rcases hn x hx with h1 | h1
  · exact h.nc x h1
  · exact ⟨by omega, by omega⟩

theorem due_law (ops : List COp) (ticks : Int) (v : Value) (m : Mem) (hv : SlIn m 4 (ops.map COp.row).flatten ops.length v) (htk : 0 ≤ ticks ∧ ticks ≤ 255) : LCall Try.prog 9 [v, .int .u8 ticks] m fun v _ => v = .bool true := by
  obtain ⟨sa, rfl, hmax, hcell⟩ := hv.form
  refine LCall_enter Try.func9 c9 ?_
  simp (contextual := true) (implicitDefEqProofs := false) (maxSteps := 2000000) (disch := first | rfl | exact Nat.le_of_ble_eq_true rfl | omega | (simp only [List.length_append, List.length_cons, List.length_nil, List.length_set]; omega)) only [L9, W1, W2, W3, W4, W5, W6, W7, W8, W9, W10, W11, W12, W13, W14, W15, eq_self, ite_true, ite_false, undef_eq, List.set_cons_zero, List.set_cons_succ, List.getD_cons_zero, List.getD_cons_succ, List.map_cons, List.map_nil, List.length_cons, List.length_nil, List.append_nil, List.cons_append, List.nil_append, List.replicate_succ, List.replicate_zero, Nat.reduceAdd, Nat.reduceSub, ↓reduceIte, List.getElem?_cons_zero, List.getElem?_cons_succ, basic, cellsL, resOf, setAt, List.append_assoc, List.length_append, List.getElem?_append_left, List.getElem?_append_right, List.set_append_left, List.set_append_right, below, belowB, belowA, atomB, List.mem_cons, List.not_mem_nil, forall_eq_or_imp, forall_eq, List.toList_toArray, implies_true, List.take_succ_cons, List.take_zero, List.drop_succ_cons, List.drop_zero, List.take_nil, List.drop_nil, Nat.reduceLeDiff, Nat.reduceMul, Int.reduceToNat, Int.reduceLT, Int.reduceLE, Int.reduceAdd, Int.reduceNeg, Int.reduceEq, splice, List.singleton_append, Nat.reduceEqDiff, Nat.reduceLT, isAtom, List.all_cons, List.all_nil, Option.map_some, Option.bind_some, List.length_set, Int.reduceSub, Int.reduceMul, List.getElem?_set_self, List.getElem?_set_ne]
  refine (awake13 _).use ?_
  simp (contextual := true) (implicitDefEqProofs := false) (maxSteps := 2000000) (disch := first | rfl | exact Nat.le_of_ble_eq_true rfl | omega | (simp only [List.length_append, List.length_cons, List.length_nil, List.length_set]; omega)) only [W1, W2, W3, W4, W5, W6, W7, W8, W9, W10, W11, W12, W13, W14, W15, eq_self, ite_true, ite_false, undef_eq, List.set_cons_zero, List.set_cons_succ, List.getD_cons_zero, List.getD_cons_succ, List.map_cons, List.map_nil, List.length_cons, List.length_nil, List.append_nil, List.cons_append, List.nil_append, List.replicate_succ, List.replicate_zero, Nat.reduceAdd, Nat.reduceSub, ↓reduceIte, List.getElem?_cons_zero, List.getElem?_cons_succ, basic, cellsL, resOf, setAt, List.append_assoc, List.length_append, List.getElem?_append_left, List.getElem?_append_right, List.set_append_left, List.set_append_right, below, belowB, belowA, atomB, List.mem_cons, List.not_mem_nil, forall_eq_or_imp, forall_eq, List.toList_toArray, implies_true, List.take_succ_cons, List.take_zero, List.drop_succ_cons, List.drop_zero, List.take_nil, List.drop_nil, Nat.reduceLeDiff, Nat.reduceMul, Int.reduceToNat, Int.reduceLT, Int.reduceLE, Int.reduceAdd, Int.reduceNeg, Int.reduceEq, splice, List.singleton_append, Nat.reduceEqDiff, Nat.reduceLT, isAtom, List.all_cons, List.all_nil, Option.map_some, Option.bind_some, List.length_set, Int.reduceSub, Int.reduceMul, List.getElem?_set_self, List.getElem?_set_ne]
  refine ifI (fun h1 => ?_) (fun h1 => ?_)
  · simp (contextual := true) (implicitDefEqProofs := false) (maxSteps := 2000000) (disch := first | rfl | exact Nat.le_of_ble_eq_true rfl | omega | (simp only [List.length_append, List.length_cons, List.length_nil, List.length_set]; omega)) only [W1, W2, W3, W4, W5, W6, W7, W8, W9, W10, W11, W12, W13, W14, W15, eq_self, ite_true, ite_false, undef_eq, List.set_cons_zero, List.set_cons_succ, List.getD_cons_zero, List.getD_cons_succ, List.map_cons, List.map_nil, List.length_cons, List.length_nil, List.append_nil, List.cons_append, List.nil_append, List.replicate_succ, List.replicate_zero, Nat.reduceAdd, Nat.reduceSub, ↓reduceIte, List.getElem?_cons_zero, List.getElem?_cons_succ, basic, cellsL, resOf, setAt, List.append_assoc, List.length_append, List.getElem?_append_left, List.getElem?_append_right, List.set_append_left, List.set_append_right, below, belowB, belowA, atomB, List.mem_cons, List.not_mem_nil, forall_eq_or_imp, forall_eq, List.toList_toArray, implies_true, List.take_succ_cons, List.take_zero, List.drop_succ_cons, List.drop_zero, List.take_nil, List.drop_nil, Nat.reduceLeDiff, Nat.reduceMul, Int.reduceToNat, Int.reduceLT, Int.reduceLE, Int.reduceAdd, Int.reduceNeg, Int.reduceEq, splice, List.singleton_append, Nat.reduceEqDiff, Nat.reduceLT, isAtom, List.all_cons, List.all_nil, Option.map_some, Option.bind_some, List.length_set, Int.reduceSub, Int.reduceMul, List.getElem?_set_self, List.getElem?_set_ne]
  refine (new_spec _).mono ?_
  rintro _ _ ⟨rfl, rfl⟩
  have hops : ops.length ≤ 200 := by omega
  have hw1 : IntKind.i64.wrap ticks = ticks := wrap_i64 (by omega) (by omega)
  have ht0 : 0 ≤ ticks.tmod 40 ∧ ticks.tmod 40 < 40 := ⟨Int.tmod_nonneg _ htk.1, Int.tmod_lt_of_pos _ (by omega)⟩
  have hw2 : IntKind.i64.wrap (1 + ticks.tmod 40) = 1 + ticks.tmod 40 := wrap_i64 (by omega) (by omega)
  have h40 : (40 : Int) ≠ 0 := by omega
  simp (contextual := true) (implicitDefEqProofs := false) (maxSteps := 2000000) (disch := first | rfl | exact Nat.le_of_ble_eq_true rfl | omega | (simp only [List.length_append, List.length_cons, List.length_nil, List.length_set]; omega)) only [hw1, hw2, h40, W1, W2, W3, W4, W5, W6, W7, W8, W9, W10, W11, W12, W13, W14, W15, eq_self, ite_true, ite_false, undef_eq, List.set_cons_zero, List.set_cons_succ, List.getD_cons_zero, List.getD_cons_succ, List.map_cons, List.map_nil, List.length_cons, List.length_nil, List.append_nil, List.cons_append, List.nil_append, List.replicate_succ, List.replicate_zero, Nat.reduceAdd, Nat.reduceSub, ↓reduceIte, List.getElem?_cons_zero, List.getElem?_cons_succ, basic, cellsL, resOf, setAt, List.append_assoc, List.length_append, List.getElem?_append_left, List.getElem?_append_right, List.set_append_left, List.set_append_right, below, belowB, belowA, atomB, List.mem_cons, List.not_mem_nil, forall_eq_or_imp, forall_eq, List.toList_toArray, implies_true, List.take_succ_cons, List.take_zero, List.drop_succ_cons, List.drop_zero, List.take_nil, List.drop_nil, Nat.reduceLeDiff, Nat.reduceMul, Int.reduceToNat, Int.reduceLT, Int.reduceLE, Int.reduceAdd, Int.reduceNeg, Int.reduceEq, splice, List.singleton_append, Nat.reduceEqDiff, Nat.reduceLT, isAtom, List.all_cons, List.all_nil, Option.map_some, Option.bind_some, List.length_set, Int.reduceSub, Int.reduceMul, List.getElem?_set_self, List.getElem?_set_ne]
  generalize hn : 1 + ticks.tmod 40 = n
  have hn0 : 1 ≤ n ∧ n ≤ 40 := by omega
  have hclk0 : Clk (m ++ [⟨[.slice none 0 0], 112, 1, 0, .own⟩, ⟨[.int .i64 (-7), .int .i64 (-7)], 75, 1, 0, .own⟩]) m.length [m.length] [] := ⟨_, [], rfl, by simp, by simp, .nil⟩
  refine (set_spec hclk0 (by simp)).mono ?_
  have hset : setL (-7) (-7) n [] = (0, [⟨-7, -7, n⟩]) := by
    unfold setL
    rw [if_neg (by omega), if_neg (by simp)]; rfl
  rw [hset]
  rintro _ M0 ⟨rfl, hf0, F0, hc0, hn0'⟩
  have hl0 := hf0.len
  simp only [List.length_append, List.length_cons, List.length_nil] at hl0
  have hm0 : M0[m.length + 1]? = some ⟨[.int .i64 (-7), .int .i64 (-7)], 75, 1, 0, .own⟩ := hf0.get (by rw [List.getElem?_append_right (by omega)]; simp) (by simp)
  simp (contextual := true) (implicitDefEqProofs := false) (maxSteps := 2000000) (disch := first | rfl | exact Nat.le_of_ble_eq_true rfl | omega | (simp only [List.length_append, List.length_cons, List.length_nil, List.length_set]; omega)) only [W1, W2, W3, W4, W5, W6, W7, W8, W9, W10, W11, W12, W13, W14, W15, eq_self, ite_true, ite_false, undef_eq, List.set_cons_zero, List.set_cons_succ, List.getD_cons_zero, List.getD_cons_succ, List.map_cons, List.map_nil, List.length_cons, List.length_nil, List.append_nil, List.cons_append, List.nil_append, List.replicate_succ, List.replicate_zero, Nat.reduceAdd, Nat.reduceSub, ↓reduceIte, List.getElem?_cons_zero, List.getElem?_cons_succ, basic, cellsL, resOf, setAt, List.append_assoc, List.length_append, List.getElem?_append_left, List.getElem?_append_right, List.set_append_left, List.set_append_right, below, belowB, belowA, atomB, List.mem_cons, List.not_mem_nil, forall_eq_or_imp, forall_eq, List.toList_toArray, implies_true, List.take_succ_cons, List.take_zero, List.drop_succ_cons, List.drop_zero, List.take_nil, List.drop_nil, Nat.reduceLeDiff, Nat.reduceMul, Int.reduceToNat, Int.reduceLT, Int.reduceLE, Int.reduceAdd, Int.reduceNeg, Int.reduceEq, splice, List.singleton_append, Nat.reduceEqDiff, Nat.reduceLT, isAtom, List.all_cons, List.all_nil, Option.map_some, Option.bind_some, List.length_set, Int.reduceSub, Int.reduceMul, List.getElem?_set_self, List.getElem?_set_ne]
  have hg0 : Good [⟨-7, -7, n⟩] := ⟨by simp, by simp; omega, by simp⟩
  have hd0 : Dt m M0 [⟨-7, -7, n⟩] F0 := ⟨hc0, fun x hx => by
    rcases hn0' x hx with h | h
    · simp at h; omega
    · simp at h; omega, hf0.app_of.trans (Frm.refl (F := [])) (by simp) |> fun h => ⟨h.len, fun j hj _ => h.same j hj (by simp; omega)⟩, hm0⟩
  refine loop_inv (fun k' t M => ∃ (k : Nat) (L : List Tm) (now : Int) (Fc : List Nat), k' = ops.length - k ∧ k ≤ ops.length ∧ Good L ∧ (0 ≤ now ∧ now ≤ k) ∧ MineOK n now L ∧ Dt m M L Fc ∧
    Tab 111 [(5, .pointer (some ⟨m.length, 0, none⟩)), (6, .pointer (some ⟨m.length + 1, 0, none⟩)), (7, .int .i64 n), (8, .int .i64 now), (30, .slice sa ops.length ops.length), (31, .int .i64 (ops.length : Int)), (32, .int .i64 (k : Int))] t) (n := ops.length) ?_ ?_
  · refine ⟨0, _, 0, F0, rfl, Nat.zero_le _, hg0, by omega, ?_, hd0, ⟨rfl, by simp⟩⟩
    unfold MineOK
    rw [if_pos (by omega), Int.sub_zero]; rfl
  rintro k' t M ⟨k, L, now, Fc, rfl, hk, hgood, hnow, hmine, hst, ht⟩
  obtain ⟨g, rfl⟩ : ∃ f' : Nat → Value, t = [f' 0, f' 1, f' 2, f' 3, f' 4, .pointer (some ⟨m.length, 0, none⟩), .pointer (some ⟨m.length + 1, 0, none⟩), .int .i64 n, .int .i64 now, f' 9, f' 10, f' 11, f' 12, f' 13, f' 14, f' 15, f' 16, f' 17, f' 18, f' 19, f' 20, f' 21, f' 22, f' 23, f' 24, f' 25, f' 26, f' 27, f' 28, f' 29, .slice sa ops.length ops.length, .int .i64 (ops.length : Int), .int .i64 (k : Int), f' 33, f' 34, f' 35, f' 36, f' 37, f' 38, f' 39, f' 40, f' 41, f' 42, f' 43, f' 44, f' 45, f' 46, f' 47, f' 48, f' 49, f' 50, f' 51, f' 52, f' 53, f' 54, f' 55, f' 56, f' 57, f' 58, f' 59, f' 60, f' 61, f' 62, f' 63, f' 64, f' 65, f' 66, f' 67, f' 68, f' 69, f' 70, f' 71, f' 72, f' 73, f' 74, f' 75, f' 76, f' 77, f' 78, f' 79, f' 80, f' 81, f' 82, f' 83, f' 84, f' 85, f' 86, f' 87, f' 88, f' 89, f' 90, f' 91, f' 92, f' 93, f' 94, f' 95, f' 96, f' 97, f' 98, f' 99, f' 100, f' 101, f' 102, f' 103, f' 104, f' 105, f' 106, f' 107, f' 108, f' 109, f' 110] := ht.open fun f' => rfl
  have hL32 := hgood.len
  have hb1 := hst.b
  have hb1l := lt_of_some hb1
  by_cases hlt : k < ops.length
  · have hlt' : ((k : Int) < (ops.length : Int)) = True := by simp [hlt]
    have h0' : ((0 : Int) ≤ (k : Int)) = True := by simp
    have hwk : IntKind.i64.wrap ((k : Int) + 1) = ((k + 1 : Nat) : Int) := by rw [wrap_i64 (by omega) (by omega)]; omega
    obtain ⟨i, T, rfl, hm, hi⟩ := hcell (by omega)
    obtain ⟨o, ho⟩ : ∃ r, ops[k]? = some r := ⟨ops[k], List.getElem?_eq_getElem hlt⟩
    have hpart : List.take 4 (List.drop (k * 4) (ops.map COp.row).flatten) = [.int .i64 o.k, .int .i64 o.t, .int .i64 o.a, .int .i64 o.b] := flatten_part (f := COp.row) (s := 4) (fun _ => rfl) ops k o ho
    have hfl : (ops.map COp.row).flatten.length = ops.length * 4 := flatten_length (f := COp.row) (s := 4) (fun _ => rfl) ops
    have hmM := hst.f.get0 hm
    have hmMl := lt_of_some hmM
    simp (contextual := true) (implicitDefEqProofs := false) (maxSteps := 2000000) (disch := first | rfl | exact Nat.le_of_ble_eq_true rfl | omega | (simp only [List.length_append, List.length_cons, List.length_nil, List.length_set]; omega)) only [hlt', W1, W2, W3, W4, W5, W6, W7, W8, W9, W10, W11, ops_nil, ops_n, ops_g, guardK_it, guardK_if, guardK_u, CondP_t, CondP_f, ex_call, pickK_it, loadK_p, loadNK_p, storeB_s, cellB_s, cellB_r, cellsB_s, cellsB_r, condK_it, lc_skip, lc_region, lc_draw, lc_seq, lc_cond, lc_exit, lc_ret, then_n, then_e, then_r, block_n, block_r, block_e, bin_add, bin_sub, bin_mul, bin_quo, bin_rem, bin_and, bin_or, bin_xor, bin_andNot, bin_eql, bin_neq, bin_lss, bin_leq, bin_gtr, bin_geq, bin_shl, bin_shr, bin_sadd, bin_seql, bin_sneq, un_not, un_neg, eqL_b, eqL_i, eqL_s, eqL_pnn, eqL_pns, eqL_psn, eqL_pp, eqL_slnn, eqL_slns, eqL_slsn, ex_callv, slB_e, slB_r, appN_n, appN_n0, appN_s, apB_e, lc_chain, lc_bad, putBK_s, lc_label, lc_goto, then_g, block_g, jump_g, jump_n, jump_r, jump_e, lf_seq, lf_label, eq_self, ite_true, ite_false, undef_eq, List.set_cons_zero, List.set_cons_succ, List.getD_cons_zero, List.getD_cons_succ, List.map_cons, List.map_nil, List.length_cons, List.length_nil, List.append_nil, List.cons_append, List.nil_append, List.replicate_succ, List.replicate_zero, Nat.reduceAdd, Nat.reduceSub, ↓reduceIte, List.getElem?_cons_zero, List.getElem?_cons_succ, basic, cellsL, resOf, setAt, List.append_assoc, List.length_append, List.getElem?_append_left, List.getElem?_append_right, List.set_append_left, List.set_append_right, below, belowB, belowA, atomB, List.mem_cons, List.not_mem_nil, forall_eq_or_imp, forall_eq, List.toList_toArray, implies_true, List.take_succ_cons, List.take_zero, List.drop_succ_cons, List.drop_zero, List.take_nil, List.drop_nil, Nat.reduceLeDiff, Nat.reduceMul, Int.reduceToNat, Int.reduceLT, Int.reduceLE, Int.reduceAdd, Int.reduceNeg, Int.reduceEq, splice, List.singleton_append, Nat.reduceEqDiff, Nat.reduceLT, isAtom, List.all_cons, List.all_nil, Option.map_some, Option.bind_some, List.length_set, Int.reduceSub, Int.reduceMul, List.getElem?_set_self, List.getElem?_set_ne]
    rw [lc_block]
    have hst1 := hst.pure (M' := M ++ [⟨[.int .i64 o.k, .int .i64 o.t, .int .i64 o.a, .int .i64 o.b], 77, 1, 0, .own⟩]) Frm.refl.app
    by_cases hsk : (o.a = -7 ∧ o.b = -7) ∨ (o.k = 3 ∧ o.b = -7)
    · by_cases ha : o.a = -7
      · have hb : o.b = -7 := by rcases hsk with h | h <;> exact h.2
        simp (contextual := true) (implicitDefEqProofs := false) (maxSteps := 2000000) (disch := first | rfl | exact Nat.le_of_ble_eq_true rfl | omega | (simp only [List.length_append, List.length_cons, List.length_nil, List.length_set]; omega)) only [hmM, hlt', h0', hpart, hb1, Int.toNat_natCast, eqN2, ha, hb, Bool.and_self, W1, W2, W3, W4, W5, W6, W7, W8, W9, W10, W11, W12, W13, W14, W15, eq_self, ite_true, ite_false, undef_eq, List.set_cons_zero, List.set_cons_succ, List.getD_cons_zero, List.getD_cons_succ, List.map_cons, List.map_nil, List.length_cons, List.length_nil, List.append_nil, List.cons_append, List.nil_append, List.replicate_succ, List.replicate_zero, Nat.reduceAdd, Nat.reduceSub, ↓reduceIte, List.getElem?_cons_zero, List.getElem?_cons_succ, basic, cellsL, resOf, setAt, List.append_assoc, List.length_append, List.getElem?_append_left, List.getElem?_append_right, List.set_append_left, List.set_append_right, below, belowB, belowA, atomB, List.mem_cons, List.not_mem_nil, forall_eq_or_imp, forall_eq, List.toList_toArray, implies_true, List.take_succ_cons, List.take_zero, List.drop_succ_cons, List.drop_zero, List.take_nil, List.drop_nil, Nat.reduceLeDiff, Nat.reduceMul, Int.reduceToNat, Int.reduceLT, Int.reduceLE, Int.reduceAdd, Int.reduceNeg, Int.reduceEq, splice, List.singleton_append, Nat.reduceEqDiff, Nat.reduceLT, isAtom, List.all_cons, List.all_nil, Option.map_some, Option.bind_some, List.length_set, Int.reduceSub, Int.reduceMul, List.getElem?_set_self, List.getElem?_set_ne]
        rw [ha, hb] at hst1
        exact kInv_go ⟨k + 1, L, now, _, rfl, by omega, hgood, by omega, hmine, hst1, ⟨rfl, by simp [hwk]⟩⟩ (by omega)
      · have h3 : o.k = 3 ∧ o.b = -7 := by rcases hsk with h | h; exact absurd h.1 ha; exact h
        simp (contextual := true) (implicitDefEqProofs := false) (maxSteps := 2000000) (disch := first | rfl | exact Nat.le_of_ble_eq_true rfl | omega | (simp only [List.length_append, List.length_cons, List.length_nil, List.length_set]; omega)) only [hmM, hlt', h0', hpart, hb1, Int.toNat_natCast, eqN2, ha, h3.1, h3.2, Bool.false_and, W1, W2, W3, W4, W5, W6, W7, W8, W9, W10, W11, W12, W13, W14, W15, eq_self, ite_true, ite_false, undef_eq, List.set_cons_zero, List.set_cons_succ, List.getD_cons_zero, List.getD_cons_succ, List.map_cons, List.map_nil, List.length_cons, List.length_nil, List.append_nil, List.cons_append, List.nil_append, List.replicate_succ, List.replicate_zero, Nat.reduceAdd, Nat.reduceSub, ↓reduceIte, List.getElem?_cons_zero, List.getElem?_cons_succ, basic, cellsL, resOf, setAt, List.append_assoc, List.length_append, List.getElem?_append_left, List.getElem?_append_right, List.set_append_left, List.set_append_right, below, belowB, belowA, atomB, List.mem_cons, List.not_mem_nil, forall_eq_or_imp, forall_eq, List.toList_toArray, implies_true, List.take_succ_cons, List.take_zero, List.drop_succ_cons, List.drop_zero, List.take_nil, List.drop_nil, Nat.reduceLeDiff, Nat.reduceMul, Int.reduceToNat, Int.reduceLT, Int.reduceLE, Int.reduceAdd, Int.reduceNeg, Int.reduceEq, splice, List.singleton_append, Nat.reduceEqDiff, Nat.reduceLT, isAtom, List.all_cons, List.all_nil, Option.map_some, Option.bind_some, List.length_set, Int.reduceSub, Int.reduceMul, List.getElem?_set_self, List.getElem?_set_ne]
        rw [h3.1, h3.2] at hst1
        exact kInv_go ⟨k + 1, L, now, _, rfl, by omega, hgood, by omega, hmine, hst1, ⟨rfl, by simp [hwk]⟩⟩ (by omega)
    have hno : ¬ (o.a = -7 ∧ o.b = -7) := fun h => hsk (.inl h)
    have hno3 : o.k = 3 → ¬ o.b = -7 := fun h h' => hsk (.inr ⟨h, h'⟩)
    have hand : (decide (o.a = -7) && decide (o.b = -7)) = false := by rw [← Bool.decide_and]; exact decide_eq_false hno
    by_cases hK0 : o.k = 0
    · simp (contextual := true) (implicitDefEqProofs := false) (maxSteps := 2000000) (disch := first | rfl | exact Nat.le_of_ble_eq_true rfl | omega | (simp only [List.length_append, List.length_cons, List.length_nil, List.length_set]; omega)) only [hmM, hlt', h0', hpart, hb1, Int.toNat_natCast, eqN2, hand, hK0, W1, W2, W3, W4, W5, W6, W7, W8, W9, W10, W11, W12, W13, W14, W15, eq_self, ite_true, ite_false, undef_eq, List.set_cons_zero, List.set_cons_succ, List.getD_cons_zero, List.getD_cons_succ, List.map_cons, List.map_nil, List.length_cons, List.length_nil, List.append_nil, List.cons_append, List.nil_append, List.replicate_succ, List.replicate_zero, Nat.reduceAdd, Nat.reduceSub, ↓reduceIte, List.getElem?_cons_zero, List.getElem?_cons_succ, basic, cellsL, resOf, setAt, List.append_assoc, List.length_append, List.getElem?_append_left, List.getElem?_append_right, List.set_append_left, List.set_append_right, below, belowB, belowA, atomB, List.mem_cons, List.not_mem_nil, forall_eq_or_imp, forall_eq, List.toList_toArray, implies_true, List.take_succ_cons, List.take_zero, List.drop_succ_cons, List.drop_zero, List.take_nil, List.drop_nil, Nat.reduceLeDiff, Nat.reduceMul, Int.reduceToNat, Int.reduceLT, Int.reduceLE, Int.reduceAdd, Int.reduceNeg, Int.reduceEq, splice, List.singleton_append, Nat.reduceEqDiff, Nat.reduceLT, isAtom, List.all_cons, List.all_nil, Option.map_some, Option.bind_some, List.length_set, Int.reduceSub, Int.reduceMul, List.getElem?_set_self, List.getElem?_set_ne]
      rw [hK0] at hst1
      refine (set_spec hst1.c (by omega)).mono ?_
      rintro v M2 ⟨rfl, hf2, F2, hc2, hn2⟩
      have hst2 := hst1.step hf2 hc2 hn2
      simp (contextual := true) (implicitDefEqProofs := false) (maxSteps := 2000000) (disch := first | rfl | exact Nat.le_of_ble_eq_true rfl | omega | (simp only [List.length_append, List.length_cons, List.length_nil, List.length_set]; omega)) only [W1, W2, W3, W4, W5, W6, W7, W8, W9, W10, W11, W12, W13, W14, W15, eq_self, ite_true, ite_false, undef_eq, List.set_cons_zero, List.set_cons_succ, List.getD_cons_zero, List.getD_cons_succ, List.map_cons, List.map_nil, List.length_cons, List.length_nil, List.append_nil, List.cons_append, List.nil_append, List.replicate_succ, List.replicate_zero, Nat.reduceAdd, Nat.reduceSub, ↓reduceIte, List.getElem?_cons_zero, List.getElem?_cons_succ, basic, cellsL, resOf, setAt, List.append_assoc, List.length_append, List.getElem?_append_left, List.getElem?_append_right, List.set_append_left, List.set_append_right, below, belowB, belowA, atomB, List.mem_cons, List.not_mem_nil, forall_eq_or_imp, forall_eq, List.toList_toArray, implies_true, List.take_succ_cons, List.take_zero, List.drop_succ_cons, List.drop_zero, List.take_nil, List.drop_nil, Nat.reduceLeDiff, Nat.reduceMul, Int.reduceToNat, Int.reduceLT, Int.reduceLE, Int.reduceAdd, Int.reduceNeg, Int.reduceEq, splice, List.singleton_append, Nat.reduceEqDiff, Nat.reduceLT, isAtom, List.all_cons, List.all_nil, Option.map_some, Option.bind_some, List.length_set, Int.reduceSub, Int.reduceMul, List.getElem?_set_self, List.getElem?_set_ne]
      exact kInv_go ⟨k + 1, _, now, _, rfl, by omega, (set_same' (now := now) hgood).2, by omega, mine_set hmine hno, hst2, ⟨rfl, by simp [hwk]⟩⟩ (by omega)
    by_cases hK1 : o.k = 1
    · simp (contextual := true) (implicitDefEqProofs := false) (maxSteps := 2000000) (disch := first | rfl | exact Nat.le_of_ble_eq_true rfl | omega | (simp only [List.length_append, List.length_cons, List.length_nil, List.length_set]; omega)) only [hmM, hlt', h0', hpart, hb1, Int.toNat_natCast, eqN2, hand, hK1, W1, W2, W3, W4, W5, W6, W7, W8, W9, W10, W11, W12, W13, W14, W15, eq_self, ite_true, ite_false, undef_eq, List.set_cons_zero, List.set_cons_succ, List.getD_cons_zero, List.getD_cons_succ, List.map_cons, List.map_nil, List.length_cons, List.length_nil, List.append_nil, List.cons_append, List.nil_append, List.replicate_succ, List.replicate_zero, Nat.reduceAdd, Nat.reduceSub, ↓reduceIte, List.getElem?_cons_zero, List.getElem?_cons_succ, basic, cellsL, resOf, setAt, List.append_assoc, List.length_append, List.getElem?_append_left, List.getElem?_append_right, List.set_append_left, List.set_append_right, below, belowB, belowA, atomB, List.mem_cons, List.not_mem_nil, forall_eq_or_imp, forall_eq, List.toList_toArray, implies_true, List.take_succ_cons, List.take_zero, List.drop_succ_cons, List.drop_zero, List.take_nil, List.drop_nil, Nat.reduceLeDiff, Nat.reduceMul, Int.reduceToNat, Int.reduceLT, Int.reduceLE, Int.reduceAdd, Int.reduceNeg, Int.reduceEq, splice, List.singleton_append, Nat.reduceEqDiff, Nat.reduceLT, isAtom, List.all_cons, List.all_nil, Option.map_some, Option.bind_some, List.length_set, Int.reduceSub, Int.reduceMul, List.getElem?_set_self, List.getElem?_set_ne]
      rw [hK1] at hst1
      have hst1' := hst1.pure (M' := M ++ [⟨[.int .i64 1, .int .i64 o.t, .int .i64 o.a, .int .i64 o.b], 77, 1, 0, .own⟩] ++ [⟨[.int .i64 o.a, .int .i64 o.b], 75, 2, 0, .own⟩]) Frm.refl.app
      rw [List.append_assoc] at hst1'
      refine (stop_spec (ai := M.length + 1) (k := o.a) (n := o.b) hst1'.c (by omega) (by rw [List.cons_append, List.nil_append, List.getElem?_append_right (by omega)]; simp) fun h => by have := hst.c.lt _ h; omega).mono ?_
      rintro v M2 ⟨rfl, hf2, F2, hc2, hn2⟩
      have hst2 := hst1'.step hf2 hc2 hn2
      simp (contextual := true) (implicitDefEqProofs := false) (maxSteps := 2000000) (disch := first | rfl | exact Nat.le_of_ble_eq_true rfl | omega | (simp only [List.length_append, List.length_cons, List.length_nil, List.length_set]; omega)) only [W1, W2, W3, W4, W5, W6, W7, W8, W9, W10, W11, W12, W13, W14, W15, eq_self, ite_true, ite_false, undef_eq, List.set_cons_zero, List.set_cons_succ, List.getD_cons_zero, List.getD_cons_succ, List.map_cons, List.map_nil, List.length_cons, List.length_nil, List.append_nil, List.cons_append, List.nil_append, List.replicate_succ, List.replicate_zero, Nat.reduceAdd, Nat.reduceSub, ↓reduceIte, List.getElem?_cons_zero, List.getElem?_cons_succ, basic, cellsL, resOf, setAt, List.append_assoc, List.length_append, List.getElem?_append_left, List.getElem?_append_right, List.set_append_left, List.set_append_right, below, belowB, belowA, atomB, List.mem_cons, List.not_mem_nil, forall_eq_or_imp, forall_eq, List.toList_toArray, implies_true, List.take_succ_cons, List.take_zero, List.drop_succ_cons, List.drop_zero, List.take_nil, List.drop_nil, Nat.reduceLeDiff, Nat.reduceMul, Int.reduceToNat, Int.reduceLT, Int.reduceLE, Int.reduceAdd, Int.reduceNeg, Int.reduceEq, splice, List.singleton_append, Nat.reduceEqDiff, Nat.reduceLT, isAtom, List.all_cons, List.all_nil, Option.map_some, Option.bind_some, List.length_set, Int.reduceSub, Int.reduceMul, List.getElem?_set_self, List.getElem?_set_ne]
      refine kInv_go ⟨k + 1, _, now, _, rfl, by omega, hgood.filter _, by omega, mine_other _ hmine fun t ht => ?_, hst2, ⟨rfl, by simp [hwk]⟩⟩ (by omega)
      have h1 : t.k = -7 ∧ t.n = -7 := by simpa [mine, Tm.is] using ht
      simp only [Tm.is, h1.1, h1.2, Bool.not_eq_true', decide_eq_false_iff_not]
      rintro ⟨h2, h3⟩; exact hno ⟨h2.symm, h3.symm⟩
    by_cases hK3 : o.k = 3
    · have hb3 := hno3 hK3
      simp (contextual := true) (implicitDefEqProofs := false) (maxSteps := 2000000) (disch := first | rfl | exact Nat.le_of_ble_eq_true rfl | omega | (simp only [List.length_append, List.length_cons, List.length_nil, List.length_set]; omega)) only [hmM, hlt', h0', hpart, hb1, Int.toNat_natCast, eqN2, hand, hK3, hb3, Bool.and_false, W1, W2, W3, W4, W5, W6, W7, W8, W9, W10, W11, W12, W13, W14, W15, eq_self, ite_true, ite_false, undef_eq, List.set_cons_zero, List.set_cons_succ, List.getD_cons_zero, List.getD_cons_succ, List.map_cons, List.map_nil, List.length_cons, List.length_nil, List.append_nil, List.cons_append, List.nil_append, List.replicate_succ, List.replicate_zero, Nat.reduceAdd, Nat.reduceSub, ↓reduceIte, List.getElem?_cons_zero, List.getElem?_cons_succ, basic, cellsL, resOf, setAt, List.append_assoc, List.length_append, List.getElem?_append_left, List.getElem?_append_right, List.set_append_left, List.set_append_right, below, belowB, belowA, atomB, List.mem_cons, List.not_mem_nil, forall_eq_or_imp, forall_eq, List.toList_toArray, implies_true, List.take_succ_cons, List.take_zero, List.drop_succ_cons, List.drop_zero, List.take_nil, List.drop_nil, Nat.reduceLeDiff, Nat.reduceMul, Int.reduceToNat, Int.reduceLT, Int.reduceLE, Int.reduceAdd, Int.reduceNeg, Int.reduceEq, splice, List.singleton_append, Nat.reduceEqDiff, Nat.reduceLT, isAtom, List.all_cons, List.all_nil, Option.map_some, Option.bind_some, List.length_set, Int.reduceSub, Int.reduceMul, List.getElem?_set_self, List.getElem?_set_ne]
      rw [hK3] at hst1
      refine (only_spec (n := o.b) hst1.c (by omega)).mono ?_
      rintro v M2 ⟨rfl, hf2, F2, hc2, hn2⟩
      have hst2 := hst1.step hf2 hc2 hn2
      simp (contextual := true) (implicitDefEqProofs := false) (maxSteps := 2000000) (disch := first | rfl | exact Nat.le_of_ble_eq_true rfl | omega | (simp only [List.length_append, List.length_cons, List.length_nil, List.length_set]; omega)) only [W1, W2, W3, W4, W5, W6, W7, W8, W9, W10, W11, W12, W13, W14, W15, eq_self, ite_true, ite_false, undef_eq, List.set_cons_zero, List.set_cons_succ, List.getD_cons_zero, List.getD_cons_succ, List.map_cons, List.map_nil, List.length_cons, List.length_nil, List.append_nil, List.cons_append, List.nil_append, List.replicate_succ, List.replicate_zero, Nat.reduceAdd, Nat.reduceSub, ↓reduceIte, List.getElem?_cons_zero, List.getElem?_cons_succ, basic, cellsL, resOf, setAt, List.append_assoc, List.length_append, List.getElem?_append_left, List.getElem?_append_right, List.set_append_left, List.set_append_right, below, belowB, belowA, atomB, List.mem_cons, List.not_mem_nil, forall_eq_or_imp, forall_eq, List.toList_toArray, implies_true, List.take_succ_cons, List.take_zero, List.drop_succ_cons, List.drop_zero, List.take_nil, List.drop_nil, Nat.reduceLeDiff, Nat.reduceMul, Int.reduceToNat, Int.reduceLT, Int.reduceLE, Int.reduceAdd, Int.reduceNeg, Int.reduceEq, splice, List.singleton_append, Nat.reduceEqDiff, Nat.reduceLT, isAtom, List.all_cons, List.all_nil, Option.map_some, Option.bind_some, List.length_set, Int.reduceSub, Int.reduceMul, List.getElem?_set_self, List.getElem?_set_ne]
      refine kInv_go ⟨k + 1, _, now, _, rfl, by omega, hgood.filter _, by omega, mine_other _ hmine fun t ht => ?_, hst2, ⟨rfl, by simp [hwk]⟩⟩ (by omega)
      have h1 : t.k = -7 ∧ t.n = -7 := by simpa [mine, Tm.is] using ht
      simp only [h1.2, Bool.not_eq_true', decide_eq_false_iff_not]
      exact fun h => hb3 h.symm
    by_cases hK2 : o.k = 2
    · have hwn : IntKind.i64.wrap (now + 1) = now + 1 := wrap_i64 (by omega) (by omega)
      simp (contextual := true) (implicitDefEqProofs := false) (maxSteps := 2000000) (disch := first | rfl | exact Nat.le_of_ble_eq_true rfl | omega | (simp only [List.length_append, List.length_cons, List.length_nil, List.length_set]; omega)) only [hmM, hlt', h0', hpart, hb1, Int.toNat_natCast, eqN2, hand, hK2, hwn, W1, W2, W3, W4, W5, W6, W7, W8, W9, W10, W11, W12, W13, W14, W15, eq_self, ite_true, ite_false, undef_eq, List.set_cons_zero, List.set_cons_succ, List.getD_cons_zero, List.getD_cons_succ, List.map_cons, List.map_nil, List.length_cons, List.length_nil, List.append_nil, List.cons_append, List.nil_append, List.replicate_succ, List.replicate_zero, Nat.reduceAdd, Nat.reduceSub, ↓reduceIte, List.getElem?_cons_zero, List.getElem?_cons_succ, basic, cellsL, resOf, setAt, List.append_assoc, List.length_append, List.getElem?_append_left, List.getElem?_append_right, List.set_append_left, List.set_append_right, below, belowB, belowA, atomB, List.mem_cons, List.not_mem_nil, forall_eq_or_imp, forall_eq, List.toList_toArray, implies_true, List.take_succ_cons, List.take_zero, List.drop_succ_cons, List.drop_zero, List.take_nil, List.drop_nil, Nat.reduceLeDiff, Nat.reduceMul, Int.reduceToNat, Int.reduceLT, Int.reduceLE, Int.reduceAdd, Int.reduceNeg, Int.reduceEq, splice, List.singleton_append, Nat.reduceEqDiff, Nat.reduceLT, isAtom, List.all_cons, List.all_nil, Option.map_some, Option.bind_some, List.length_set, Int.reduceSub, Int.reduceMul, List.getElem?_set_self, List.getElem?_set_ne]
      rw [hK2] at hst1
      refine (tick_spec hst1.c (by omega) fun t ht => by have := hgood.lo t ht; omega).mono ?_
      rintro v M2 ⟨hf2, F2, hc2, hn2, G2, hs2, hG2⟩
      have hst2 := hst1.step hf2 hc2 hn2
      obtain ⟨a2, rfl, hd2⟩ := hs2.form
      simp only [List.length_map] at hd2 hs2 ⊢
      have hcnt := mine_due hmine
      generalize hD : L.filter Tm.due = D at hs2 hd2 hcnt ⊢
      have hDl : D.length ≤ 32 := by rw [← hD]; exact Nat.le_trans (List.length_filter_le _ _) hL32
      simp (contextual := true) (implicitDefEqProofs := false) (maxSteps := 2000000) (disch := first | rfl | exact Nat.le_of_ble_eq_true rfl | omega | (simp only [List.length_append, List.length_cons, List.length_nil, List.length_set]; omega)) only [W1, W2, W3, W4, W5, W6, W7, W8, W9, W10, W11, W12, W13, W14, W15, eq_self, ite_true, ite_false, undef_eq, List.set_cons_zero, List.set_cons_succ, List.getD_cons_zero, List.getD_cons_succ, List.map_cons, List.map_nil, List.length_cons, List.length_nil, List.append_nil, List.cons_append, List.nil_append, List.replicate_succ, List.replicate_zero, Nat.reduceAdd, Nat.reduceSub, ↓reduceIte, List.getElem?_cons_zero, List.getElem?_cons_succ, basic, cellsL, resOf, setAt, List.append_assoc, List.length_append, List.getElem?_append_left, List.getElem?_append_right, List.set_append_left, List.set_append_right, below, belowB, belowA, atomB, List.mem_cons, List.not_mem_nil, forall_eq_or_imp, forall_eq, List.toList_toArray, implies_true, List.take_succ_cons, List.take_zero, List.drop_succ_cons, List.drop_zero, List.take_nil, List.drop_nil, Nat.reduceLeDiff, Nat.reduceMul, Int.reduceToNat, Int.reduceLT, Int.reduceLE, Int.reduceAdd, Int.reduceNeg, Int.reduceEq, splice, List.singleton_append, Nat.reduceEqDiff, Nat.reduceLT, isAtom, List.all_cons, List.all_nil, Option.map_some, Option.bind_some, List.length_set, Int.reduceSub, Int.reduceMul, List.getElem?_set_self, List.getElem?_set_ne]
      refine loop_inv (fun k2 t M => ∃ (j : Nat), k2 = D.length - j ∧ j ≤ D.length ∧ Frm [] M2 M ∧
        Tab 111 [(5, .pointer (some ⟨m.length, 0, none⟩)), (6, .pointer (some ⟨m.length + 1, 0, none⟩)), (7, .int .i64 n), (8, .int .i64 (now + 1)), (11, .int .i64 ((D.take j).countP mine : Int)), (30, .slice (some ⟨i, 0, none⟩) ops.length ops.length), (31, .int .i64 (ops.length : Int)), (32, .int .i64 (k : Int)), (80, .slice a2 D.length D.length), (81, .int .i64 (D.length : Int)), (82, .int .i64 (j : Int))] t) (n := D.length) ?_ ?_
      · exact ⟨0, rfl, Nat.zero_le _, Frm.refl, ⟨rfl, by simp⟩⟩
      rintro k2 t M3 ⟨j, rfl, hj, hf3, ht3⟩
      obtain ⟨g3, rfl⟩ : ∃ f' : Nat → Value, t = [f' 0, f' 1, f' 2, f' 3, f' 4, .pointer (some ⟨m.length, 0, none⟩), .pointer (some ⟨m.length + 1, 0, none⟩), .int .i64 n, .int .i64 (now + 1), f' 9, f' 10, .int .i64 ((D.take j).countP mine : Int), f' 12, f' 13, f' 14, f' 15, f' 16, f' 17, f' 18, f' 19, f' 20, f' 21, f' 22, f' 23, f' 24, f' 25, f' 26, f' 27, f' 28, f' 29, .slice (some ⟨i, 0, none⟩) ops.length ops.length, .int .i64 (ops.length : Int), .int .i64 (k : Int), f' 33, f' 34, f' 35, f' 36, f' 37, f' 38, f' 39, f' 40, f' 41, f' 42, f' 43, f' 44, f' 45, f' 46, f' 47, f' 48, f' 49, f' 50, f' 51, f' 52, f' 53, f' 54, f' 55, f' 56, f' 57, f' 58, f' 59, f' 60, f' 61, f' 62, f' 63, f' 64, f' 65, f' 66, f' 67, f' 68, f' 69, f' 70, f' 71, f' 72, f' 73, f' 74, f' 75, f' 76, f' 77, f' 78, f' 79, .slice a2 D.length D.length, .int .i64 (D.length : Int), .int .i64 (j : Int), f' 83, f' 84, f' 85, f' 86, f' 87, f' 88, f' 89, f' 90, f' 91, f' 92, f' 93, f' 94, f' 95, f' 96, f' 97, f' 98, f' 99, f' 100, f' 101, f' 102, f' 103, f' 104, f' 105, f' 106, f' 107, f' 108, f' 109, f' 110] := ht3.open fun f' => rfl
      have hst3 := hst2.pure hf3
      have hb3 := hst3.b
      have hb3l := lt_of_some hb3
      by_cases hlt3 : j < D.length
      · have hlt3' : ((j : Int) < (D.length : Int)) = True := by simp [hlt3]
        have h03' : ((0 : Int) ≤ (j : Int)) = True := by simp
        have hwj : IntKind.i64.wrap ((j : Int) + 1) = ((j + 1 : Nat) : Int) := by rw [wrap_i64 (by omega) (by omega)]; omega
        have hcle : (D.take j).countP mine ≤ D.length := Nat.le_trans List.countP_le_length (by simp; omega)
        have hwc : IntKind.i64.wrap (((D.take j).countP mine : Int) + 1) = ((D.take j).countP mine : Int) + 1 := wrap_i64 (by omega) (by omega)
        obtain ⟨b, o', cs, rfl, rfl, hbb, hl, hcc, hrow⟩ := hd2 (by omega)
        obtain ⟨y, hy⟩ : ∃ r, D[j]? = some r := ⟨D[j], List.getElem?_eq_getElem hlt3⟩
        have hp' := hrow j y.name (by simp [hy])
        simp only [Tm.name] at hp'
        have hbM := hf3.get0 hbb
        have hbMl := lt_of_some hbM
        have hts := take_snoc hy
        cases hmy : mine y
        · have hand2 : (decide (y.k = -7) && decide (y.n = -7)) = false := by rw [← Bool.decide_and]; exact hmy
          simp (contextual := true) (implicitDefEqProofs := false) (maxSteps := 2000000) (disch := first | rfl | exact Nat.le_of_ble_eq_true rfl | omega | (simp only [List.length_append, List.length_cons, List.length_nil, List.length_set]; omega)) only [hbM, hlt3', h03', hp', hb3, Int.toNat_natCast, eqN2, hand2, W1, W2, W3, W4, W5, W6, W7, W8, W9, W10, W11, W12, W13, W14, W15, eq_self, ite_true, ite_false, undef_eq, List.set_cons_zero, List.set_cons_succ, List.getD_cons_zero, List.getD_cons_succ, List.map_cons, List.map_nil, List.length_cons, List.length_nil, List.append_nil, List.cons_append, List.nil_append, List.replicate_succ, List.replicate_zero, Nat.reduceAdd, Nat.reduceSub, ↓reduceIte, List.getElem?_cons_zero, List.getElem?_cons_succ, basic, cellsL, resOf, setAt, List.append_assoc, List.length_append, List.getElem?_append_left, List.getElem?_append_right, List.set_append_left, List.set_append_right, below, belowB, belowA, atomB, List.mem_cons, List.not_mem_nil, forall_eq_or_imp, forall_eq, List.toList_toArray, implies_true, List.take_succ_cons, List.take_zero, List.drop_succ_cons, List.drop_zero, List.take_nil, List.drop_nil, Nat.reduceLeDiff, Nat.reduceMul, Int.reduceToNat, Int.reduceLT, Int.reduceLE, Int.reduceAdd, Int.reduceNeg, Int.reduceEq, splice, List.singleton_append, Nat.reduceEqDiff, Nat.reduceLT, isAtom, List.all_cons, List.all_nil, Option.map_some, Option.bind_some, List.length_set, Int.reduceSub, Int.reduceMul, List.getElem?_set_self, List.getElem?_set_ne]
          refine kInv_go ⟨j + 1, rfl, by omega, hf3.app, ⟨rfl, ?_⟩⟩ (by omega)
          rw [hts, List.countP_append]
          simp [hwj, hmy]
        · have hand2 : (decide (y.k = -7) && decide (y.n = -7)) = true := by rw [← Bool.decide_and]; exact hmy
          simp (contextual := true) (implicitDefEqProofs := false) (maxSteps := 2000000) (disch := first | rfl | exact Nat.le_of_ble_eq_true rfl | omega | (simp only [List.length_append, List.length_cons, List.length_nil, List.length_set]; omega)) only [hbM, hlt3', h03', hp', hb3, Int.toNat_natCast, eqN2, hand2, hwc, W1, W2, W3, W4, W5, W6, W7, W8, W9, W10, W11, W12, W13, W14, W15, eq_self, ite_true, ite_false, undef_eq, List.set_cons_zero, List.set_cons_succ, List.getD_cons_zero, List.getD_cons_succ, List.map_cons, List.map_nil, List.length_cons, List.length_nil, List.append_nil, List.cons_append, List.nil_append, List.replicate_succ, List.replicate_zero, Nat.reduceAdd, Nat.reduceSub, ↓reduceIte, List.getElem?_cons_zero, List.getElem?_cons_succ, basic, cellsL, resOf, setAt, List.append_assoc, List.length_append, List.getElem?_append_left, List.getElem?_append_right, List.set_append_left, List.set_append_right, below, belowB, belowA, atomB, List.mem_cons, List.not_mem_nil, forall_eq_or_imp, forall_eq, List.toList_toArray, implies_true, List.take_succ_cons, List.take_zero, List.drop_succ_cons, List.drop_zero, List.take_nil, List.drop_nil, Nat.reduceLeDiff, Nat.reduceMul, Int.reduceToNat, Int.reduceLT, Int.reduceLE, Int.reduceAdd, Int.reduceNeg, Int.reduceEq, splice, List.singleton_append, Nat.reduceEqDiff, Nat.reduceLT, isAtom, List.all_cons, List.all_nil, Option.map_some, Option.bind_some, List.length_set, Int.reduceSub, Int.reduceMul, List.getElem?_set_self, List.getElem?_set_ne]
          refine kInv_go ⟨j + 1, rfl, by omega, hf3.app, ⟨rfl, ?_⟩⟩ (by omega)
          rw [hts, List.countP_append]
          simp [hwj, hmy]
      · have hlt3' : ((j : Int) < (D.length : Int)) = False := by simp; omega
        rw [List.take_of_length_le (by omega), hcnt]
        have fin : MineOK n (now + 1) ((L.filter fun t => !t.due).map Tm.dec) := mine_tick hmine
        by_cases hnn : now + 1 = n
        · rw [if_pos hnn]
          simp (contextual := true) (implicitDefEqProofs := false) (maxSteps := 2000000) (disch := first | rfl | exact Nat.le_of_ble_eq_true rfl | omega | (simp only [List.length_append, List.length_cons, List.length_nil, List.length_set]; omega)) only [hlt3', hnn, W1, W2, W3, W4, W5, W6, W7, W8, W9, W10, W11, W12, W13, W14, W15, eq_self, ite_true, ite_false, undef_eq, List.set_cons_zero, List.set_cons_succ, List.getD_cons_zero, List.getD_cons_succ, List.map_cons, List.map_nil, List.length_cons, List.length_nil, List.append_nil, List.cons_append, List.nil_append, List.replicate_succ, List.replicate_zero, Nat.reduceAdd, Nat.reduceSub, ↓reduceIte, List.getElem?_cons_zero, List.getElem?_cons_succ, basic, cellsL, resOf, setAt, List.append_assoc, List.length_append, List.getElem?_append_left, List.getElem?_append_right, List.set_append_left, List.set_append_right, below, belowB, belowA, atomB, List.mem_cons, List.not_mem_nil, forall_eq_or_imp, forall_eq, List.toList_toArray, implies_true, List.take_succ_cons, List.take_zero, List.drop_succ_cons, List.drop_zero, List.take_nil, List.drop_nil, Nat.reduceLeDiff, Nat.reduceMul, Int.reduceToNat, Int.reduceLT, Int.reduceLE, Int.reduceAdd, Int.reduceNeg, Int.reduceEq, splice, List.singleton_append, Nat.reduceEqDiff, Nat.reduceLT, isAtom, List.all_cons, List.all_nil, Option.map_some, Option.bind_some, List.length_set, Int.reduceSub, Int.reduceMul, List.getElem?_set_self, List.getElem?_set_ne]
          refine kInv_go ⟨k + 1, _, n, _, rfl, by omega, (tick_same (now := now) hgood).2, by omega, by rw [hnn] at fin; exact fin, hst3, ⟨rfl, by simp [hwk]⟩⟩ (by omega)
        · rw [if_neg hnn]
          simp (contextual := true) (implicitDefEqProofs := false) (maxSteps := 2000000) (disch := first | rfl | exact Nat.le_of_ble_eq_true rfl | omega | (simp only [List.length_append, List.length_cons, List.length_nil, List.length_set]; omega)) only [hlt3', hnn, W1, W2, W3, W4, W5, W6, W7, W8, W9, W10, W11, W12, W13, W14, W15, eq_self, ite_true, ite_false, undef_eq, List.set_cons_zero, List.set_cons_succ, List.getD_cons_zero, List.getD_cons_succ, List.map_cons, List.map_nil, List.length_cons, List.length_nil, List.append_nil, List.cons_append, List.nil_append, List.replicate_succ, List.replicate_zero, Nat.reduceAdd, Nat.reduceSub, ↓reduceIte, List.getElem?_cons_zero, List.getElem?_cons_succ, basic, cellsL, resOf, setAt, List.append_assoc, List.length_append, List.getElem?_append_left, List.getElem?_append_right, List.set_append_left, List.set_append_right, below, belowB, belowA, atomB, List.mem_cons, List.not_mem_nil, forall_eq_or_imp, forall_eq, List.toList_toArray, implies_true, List.take_succ_cons, List.take_zero, List.drop_succ_cons, List.drop_zero, List.take_nil, List.drop_nil, Nat.reduceLeDiff, Nat.reduceMul, Int.reduceToNat, Int.reduceLT, Int.reduceLE, Int.reduceAdd, Int.reduceNeg, Int.reduceEq, splice, List.singleton_append, Nat.reduceEqDiff, Nat.reduceLT, isAtom, List.all_cons, List.all_nil, Option.map_some, Option.bind_some, List.length_set, Int.reduceSub, Int.reduceMul, List.getElem?_set_self, List.getElem?_set_ne]
          exact kInv_go ⟨k + 1, _, now + 1, _, rfl, by omega, (tick_same (now := now) hgood).2, by omega, fin, hst3, ⟨rfl, by simp [hwk]⟩⟩ (by omega)
    · simp (contextual := true) (implicitDefEqProofs := false) (maxSteps := 2000000) (disch := first | rfl | exact Nat.le_of_ble_eq_true rfl | omega | (simp only [List.length_append, List.length_cons, List.length_nil, List.length_set]; omega)) only [hmM, hlt', h0', hpart, hb1, Int.toNat_natCast, eqN2, hand, hK0, hK1, hK2, hK3, W1, W2, W3, W4, W5, W6, W7, W8, W9, W10, W11, W12, W13, W14, W15, eq_self, ite_true, ite_false, undef_eq, List.set_cons_zero, List.set_cons_succ, List.getD_cons_zero, List.getD_cons_succ, List.map_cons, List.map_nil, List.length_cons, List.length_nil, List.append_nil, List.cons_append, List.nil_append, List.replicate_succ, List.replicate_zero, Nat.reduceAdd, Nat.reduceSub, ↓reduceIte, List.getElem?_cons_zero, List.getElem?_cons_succ, basic, cellsL, resOf, setAt, List.append_assoc, List.length_append, List.getElem?_append_left, List.getElem?_append_right, List.set_append_left, List.set_append_right, below, belowB, belowA, atomB, List.mem_cons, List.not_mem_nil, forall_eq_or_imp, forall_eq, List.toList_toArray, implies_true, List.take_succ_cons, List.take_zero, List.drop_succ_cons, List.drop_zero, List.take_nil, List.drop_nil, Nat.reduceLeDiff, Nat.reduceMul, Int.reduceToNat, Int.reduceLT, Int.reduceLE, Int.reduceAdd, Int.reduceNeg, Int.reduceEq, splice, List.singleton_append, Nat.reduceEqDiff, Nat.reduceLT, isAtom, List.all_cons, List.all_nil, Option.map_some, Option.bind_some, List.length_set, Int.reduceSub, Int.reduceMul, List.getElem?_set_self, List.getElem?_set_ne]
      exact kInv_go ⟨k + 1, L, now, _, rfl, by omega, hgood, by omega, hmine, hst1, ⟨rfl, by simp [hwk]⟩⟩ (by omega)
  · have hlt' : ((k : Int) < (ops.length : Int)) = False := by simp; omega
    simp (contextual := true) (implicitDefEqProofs := false) (maxSteps := 2000000) (disch := first | rfl | exact Nat.le_of_ble_eq_true rfl | omega | (simp only [List.length_append, List.length_cons, List.length_nil, List.length_set]; omega)) only [hlt', hb1, W1, W2, W3, W4, W5, W6, W7, W8, W9, W10, W11, W12, W13, W14, W15, eq_self, ite_true, ite_false, undef_eq, List.set_cons_zero, List.set_cons_succ, List.getD_cons_zero, List.getD_cons_succ, List.map_cons, List.map_nil, List.length_cons, List.length_nil, List.append_nil, List.cons_append, List.nil_append, List.replicate_succ, List.replicate_zero, Nat.reduceAdd, Nat.reduceSub, ↓reduceIte, List.getElem?_cons_zero, List.getElem?_cons_succ, basic, cellsL, resOf, setAt, List.append_assoc, List.length_append, List.getElem?_append_left, List.getElem?_append_right, List.set_append_left, List.set_append_right, below, belowB, belowA, atomB, List.mem_cons, List.not_mem_nil, forall_eq_or_imp, forall_eq, List.toList_toArray, implies_true, List.take_succ_cons, List.take_zero, List.drop_succ_cons, List.drop_zero, List.take_nil, List.drop_nil, Nat.reduceLeDiff, Nat.reduceMul, Int.reduceToNat, Int.reduceLT, Int.reduceLE, Int.reduceAdd, Int.reduceNeg, Int.reduceEq, splice, List.singleton_append, Nat.reduceEqDiff, Nat.reduceLT, isAtom, List.all_cons, List.all_nil, Option.map_some, Option.bind_some, List.length_set, Int.reduceSub, Int.reduceMul, List.getElem?_set_self, List.getElem?_set_ne]
    refine (left_spec hst.c (by omega)).use ?_
    rw [leftL_filter, hmine]
    have hwn : ∀ b : Bool, (b == b) = true := by simp
    by_cases h2 : now < n
    · have h3 : leftL (-7) (-7) [⟨-7, -7, n - now⟩] = n - now := by simp [leftL, Tm.is]
      have h4 : (0 < n - now) = True := by simp; omega
      rw [if_pos h2, h3]
      simp (contextual := true) (implicitDefEqProofs := false) (maxSteps := 2000000) (disch := first | rfl | exact Nat.le_of_ble_eq_true rfl | omega | (simp only [List.length_append, List.length_cons, List.length_nil, List.length_set]; omega)) only [h2, h4, W1, W2, W3, W4, W5, W6, W7, W8, W9, W10, W11, W12, W13, W14, W15, eq_self, ite_true, ite_false, undef_eq, List.set_cons_zero, List.set_cons_succ, List.getD_cons_zero, List.getD_cons_succ, List.map_cons, List.map_nil, List.length_cons, List.length_nil, List.append_nil, List.cons_append, List.nil_append, List.replicate_succ, List.replicate_zero, Nat.reduceAdd, Nat.reduceSub, ↓reduceIte, List.getElem?_cons_zero, List.getElem?_cons_succ, basic, cellsL, resOf, setAt, List.append_assoc, List.length_append, List.getElem?_append_left, List.getElem?_append_right, List.set_append_left, List.set_append_right, below, belowB, belowA, atomB, List.mem_cons, List.not_mem_nil, forall_eq_or_imp, forall_eq, List.toList_toArray, implies_true, List.take_succ_cons, List.take_zero, List.drop_succ_cons, List.drop_zero, List.take_nil, List.drop_nil, Nat.reduceLeDiff, Nat.reduceMul, Int.reduceToNat, Int.reduceLT, Int.reduceLE, Int.reduceAdd, Int.reduceNeg, Int.reduceEq, splice, List.singleton_append, Nat.reduceEqDiff, Nat.reduceLT, isAtom, List.all_cons, List.all_nil, Option.map_some, Option.bind_some, List.length_set, Int.reduceSub, Int.reduceMul, List.getElem?_set_self, List.getElem?_set_ne]
    · rw [if_neg h2]
      have h3 : leftL (-7) (-7) [] = 0 := rfl
      rw [h3]
      simp (contextual := true) (implicitDefEqProofs := false) (maxSteps := 2000000) (disch := first | rfl | exact Nat.le_of_ble_eq_true rfl | omega | (simp only [List.length_append, List.length_cons, List.length_nil, List.length_set]; omega)) only [h2, W1, W2, W3, W4, W5, W6, W7, W8, W9, W10, W11, W12, W13, W14, W15, eq_self, ite_true, ite_false, undef_eq, List.set_cons_zero, List.set_cons_succ, List.getD_cons_zero, List.getD_cons_succ, List.map_cons, List.map_nil, List.length_cons, List.length_nil, List.append_nil, List.cons_append, List.nil_append, List.replicate_succ, List.replicate_zero, Nat.reduceAdd, Nat.reduceSub, ↓reduceIte, List.getElem?_cons_zero, List.getElem?_cons_succ, basic, cellsL, resOf, setAt, List.append_assoc, List.length_append, List.getElem?_append_left, List.getElem?_append_right, List.set_append_left, List.set_append_right, below, belowB, belowA, atomB, List.mem_cons, List.not_mem_nil, forall_eq_or_imp, forall_eq, List.toList_toArray, implies_true, List.take_succ_cons, List.take_zero, List.drop_succ_cons, List.drop_zero, List.take_nil, List.drop_nil, Nat.reduceLeDiff, Nat.reduceMul, Int.reduceToNat, Int.reduceLT, Int.reduceLE, Int.reduceAdd, Int.reduceNeg, Int.reduceEq, splice, List.singleton_append, Nat.reduceEqDiff, Nat.reduceLT, isAtom, List.all_cons, List.all_nil, Option.map_some, Option.bind_some, List.length_set, Int.reduceSub, Int.reduceMul, List.getElem?_set_self, List.getElem?_set_ne]

theorem due_all (m : Mem) (vs : List Value) (h : F2 (TyV Try.prog m 5) [67, 5] vs) : LCall Try.prog 9 vs m fun v _ => v = .bool true := by
  obtain ⟨v, w, rfl, h0, h3⟩ := h.two_inv
  obtain ⟨cells, k, h1, h2⟩ := h0.slice Try.underlying67 (sz := 4) (by kernel_rfl)
  obtain ⟨l, rfl, rfl, _⟩ := h2.map (f := COp.row) fun xs hx => cop_of hx
  obtain ⟨t, rfl, h4⟩ := h3.int Try.underlying5
  exact due_law l t v m h1 h4
end Go.Proofs.Ytnimpbaakopniaa
