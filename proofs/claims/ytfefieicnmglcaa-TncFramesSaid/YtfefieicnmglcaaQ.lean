/- Bytes taken by a deframer: what its steps do; walked. -/
import Derived.Test.YtfefieicnmglcaaP
namespace Go.Proofs.Ytfefieicnmglcaa
open Go.Lg
set_option maxRecDepth 8000
set_option maxHeartbeats 4000000
set_option linter.unusedSimpArgs false
set_option linter.unnecessarySimpa false
set_option linter.unusedVariables false

abbrev PF := Int × Int × List UInt8
abbrev txt (l : List UInt8) : Value := .string ⟨l.toArray⟩
def frow (x : PF) : List Value := [.int .i64 x.1, .int .i64 x.2.1, txt x.2.2]
def fr : List UInt8 → PF
  | [] => (0, 0, [])
  | h :: r => (((h.toNat / 16 : Nat) : Int), ((h.toNat % 16 : Nat) : Int), r)
/-- What a deframer holds; pl: between frames, in one, behind FESC in one. -/
structure DS where
  most : Nat
  pl : Nat
  held : List UInt8
  bad : Nat
namespace DS
def drop (d : DS) : DS := ⟨d.most, 0, [], d.bad + 1⟩
def take (d : DS) (c : UInt8) : DS := if d.held.length < d.most then ⟨d.most, 1, d.held ++ [c], d.bad⟩ else d.drop
def step (d : DS) (c : UInt8) : DS :=
  if d.pl = 0 then (if c = 192 then ⟨d.most, 1, [], d.bad⟩ else d)
  else if d.pl = 1 then (if c = 192 then ⟨d.most, 1, [], d.bad⟩ else if c = 219 then ⟨d.most, 2, d.held, d.bad⟩ else d.take c)
  else if c = 220 then d.take 192 else if c = 221 then d.take 219 else if c = 192 then ⟨d.most, 1, [], d.bad + 1⟩ else d.drop
def tell (d : DS) (c : UInt8) : List PF := if d.pl = 1 ∧ c = 192 ∧ d.held ≠ [] then [fr d.held] else []
def run : DS → List UInt8 → DS
  | d, [] => d
  | d, c :: l => run (d.step c) l
def out : DS → List UInt8 → List PF
  | _, [] => []
  | d, c :: l => d.tell c ++ out (d.step c) l
structure Ok (d : DS) : Prop where
  m : 1 ≤ d.most ∧ d.most ≤ 4096
  h : d.held.length ≤ d.most
  p : d.pl ≤ 2
  z : d.pl = 0 → d.held = []
variable {d : DS} {c : UInt8}
theorem drop_ok (h : d.Ok) : d.drop.Ok := ⟨h.m, by simp [drop], by simp [drop], fun _ => rfl⟩
theorem take_ok (h : d.Ok) : (d.take c).Ok := by
  unfold take
  split
  · rename_i h1; exact ⟨h.m, by simp; omega, by simp, by simp⟩
  · exact drop_ok h
theorem step_ok (h : d.Ok) : (d.step c).Ok := by
  have hz : Ok ⟨d.most, 1, [], d.bad⟩ := ⟨h.m, by simp, by simp, by simp⟩
  unfold step
  split
  · split
    · exact hz
    · exact h
  split
  · split
    · exact hz
    split
    · exact ⟨h.m, h.h, by simp, by simp⟩
    · exact take_ok h
  split
  · exact take_ok h
  split
  · exact take_ok h
  split
  · exact ⟨h.m, by simp, by simp, by simp⟩
  · exact drop_ok h
theorem take_bad : (d.take c).bad ≤ d.bad + 1 := by
  unfold take drop
  split <;> simp
theorem step_bad : (d.step c).bad ≤ d.bad + 1 := by
  unfold step
  split
  · split <;> simp
  split
  · split
    · simp
    split
    · simp
    · exact take_bad
  split
  · exact take_bad
  split
  · exact take_bad
  split <;> simp [drop]
theorem tell_len : (d.tell c).length ≤ 1 := by unfold tell; split <;> simp
theorem run_append : ∀ {l l' : List UInt8} {d : DS}, d.run (l ++ l') = (d.run l).run l'
  | [], _, _ => rfl
  | c :: l, l', d => run_append (l := l) (d := d.step c)
theorem out_append : ∀ {l l' : List UInt8} {d : DS}, d.out (l ++ l') = d.out l ++ (d.run l).out l'
  | [], _, _ => rfl
  | c :: l, l', d => by
    show d.tell c ++ (d.step c).out (l ++ l') = (d.tell c ++ (d.step c).out l) ++ _
    rw [out_append (l := l), List.append_assoc]; rfl
theorem run_ok : ∀ {l : List UInt8} {d : DS}, d.Ok → (d.run l).Ok
  | [], _, h => h
  | c :: l, d, h => run_ok (l := l) (step_ok h)
theorem run_bad : ∀ {l : List UInt8} {d : DS}, (d.run l).bad ≤ d.bad + l.length
  | [], _ => Nat.le_refl _
  | c :: l, d => by
    have h1 := run_bad (l := l) (d := d.step c)
    have h2 := step_bad (d := d) (c := c)
    show ((d.step c).run l).bad ≤ _
    simp only [List.length_cons]; omega
theorem out_len : ∀ {l : List UInt8} {d : DS}, (d.out l).length ≤ l.length
  | [], _ => Nat.le_refl _
  | c :: l, d => by
    have h1 := out_len (l := l) (d := d.step c)
    have h2 := tell_len (d := d) (c := c)
    show (d.tell c ++ (d.step c).out l).length ≤ _
    simp only [List.length_cons, List.length_append]; omega
end DS

def dcells (d : DS) (sv : Value) : List Value := [.int .i64 d.most, .bool (decide (d.pl ≠ 0)), .bool (decide (d.pl = 2)), sv, .int .i64 d.bad]
/-- A deframer in memory. -/
def Df (M : Mem) (di : Nat) (F : List Nat) (d : DS) : Prop :=
  ∃ sv G, F = di :: G ∧ di ∉ G ∧ M[di]? = some ⟨dcells d sv, 98, 1, 0, .own⟩ ∧ By 5 M sv G d.held
namespace Df
variable {M M' : Mem} {di : Nat} {F G : List Nat} {d d' : DS}
theorem frm (h : Df M di F d) (k : Frm G M M') (hd : ∀ x ∈ F, x ∉ G) : Df M' di F d := by
  obtain ⟨sv, H, rfl, h1, h2, h3⟩ := h
  exact ⟨sv, H, rfl, h1, k.get h2 (hd _ (by simp)), h3.frm k fun x hx => hd x (by simp [hx])⟩
theorem frm0 (h : Df M di F d) (k : Frm [] M M') : Df M' di F d := h.frm k (by simp)
theorem lt (h : Df M di F d) : ∀ x ∈ F, x < M.length := by
  obtain ⟨sv, H, rfl, h1, h2, h3⟩ := h
  intro x hx
  rcases List.mem_cons.mp hx with rfl | hx
  · exact lt_of_some h2
  · exact h3.lt x hx
theorem clr {sv : Value} (hi : di < M.length) (hh : d.held = []) (hs : sv = .slice none 0 0) : Df (M.set di ⟨dcells d sv, 98, 1, 0, .own⟩) di [di] d := by
  subst hs
  exact ⟨_, [], rfl, by simp, by rw [List.getElem?_set_self hi], by rw [hh]; exact .nil⟩
end Df

theorem begin_spec {m : Mem} {di : Nat} {a b c e sv : Value} (h : m[di]? = some ⟨[a, b, c, sv, e], 98, 1, 0, .own⟩) :
    LCall Try.prog 60 [.pointer (some ⟨di, 0, none⟩)] m fun v m' => m' = m.set di ⟨[a, .bool true, .bool false, .slice none 0 0, e], 98, 1, 0, .own⟩ := by
  have hi := lt_of_some h
  refine LCall_enter Try.func60 c60 ?_
  simp (contextual := true) (implicitDefEqProofs := false) (maxSteps := 2000000) (disch := first | rfl | exact Nat.le_of_ble_eq_true rfl | omega | (simp only [List.length_append, List.length_cons, List.length_nil, List.length_set]; omega)) only [L60, h, W1, W2, W3, W4, W5, W6, W7, W8, W9, W10, W11, W12, W13, W14, W15, eq_self, ite_true, ite_false, undef_eq, List.set_cons_zero, List.set_cons_succ, List.getD_cons_zero, List.getD_cons_succ, List.map_cons, List.map_nil, List.length_cons, List.length_nil, List.append_nil, List.cons_append, List.nil_append, List.replicate_succ, List.replicate_zero, Nat.reduceAdd, Nat.reduceSub, ↓reduceIte, List.getElem?_cons_zero, List.getElem?_cons_succ, basic, cellsL, resOf, setAt, List.append_assoc, List.length_append, List.getElem?_append_left, List.getElem?_append_right, List.set_append_left, List.set_append_right, below, belowB, belowA, atomB, List.mem_cons, List.not_mem_nil, forall_eq_or_imp, forall_eq, List.toList_toArray, implies_true, List.take_succ_cons, List.take_zero, List.drop_succ_cons, List.drop_zero, List.take_nil, List.drop_nil, Nat.reduceLeDiff, Nat.reduceMul, Int.reduceToNat, Int.reduceLT, Int.reduceLE, Int.reduceAdd, Int.reduceNeg, Int.reduceEq, splice, List.singleton_append, Nat.reduceEqDiff, Nat.reduceLT, isAtom, List.all_cons, List.all_nil, Option.map_some, Option.bind_some, List.length_set, Int.reduceSub, Int.reduceMul, List.getElem?_set_self, List.getElem?_set_ne, ofB_2, tmpR_if, ro_sliceData, ro_capNil, ro_noZero, ext_2, ext_3, ext_4, ext_5, List.set_set]
theorem reset_spec2 {m : Mem} {di : Nat} {a b c e sv : Value} (h : m[di]? = some ⟨[a, b, c, sv, e], 98, 1, 0, .own⟩) :
    LCall Try.prog 64 [.pointer (some ⟨di, 0, none⟩)] m fun v m' => m' = m.set di ⟨[a, .bool false, .bool false, .slice none 0 0, e], 98, 1, 0, .own⟩ := by
  have hi := lt_of_some h
  refine LCall_enter Try.func64 c64 ?_
  simp (contextual := true) (implicitDefEqProofs := false) (maxSteps := 2000000) (disch := first | rfl | exact Nat.le_of_ble_eq_true rfl | omega | (simp only [List.length_append, List.length_cons, List.length_nil, List.length_set]; omega)) only [L64, h, W1, W2, W3, W4, W5, W6, W7, W8, W9, W10, W11, W12, W13, W14, W15, eq_self, ite_true, ite_false, undef_eq, List.set_cons_zero, List.set_cons_succ, List.getD_cons_zero, List.getD_cons_succ, List.map_cons, List.map_nil, List.length_cons, List.length_nil, List.append_nil, List.cons_append, List.nil_append, List.replicate_succ, List.replicate_zero, Nat.reduceAdd, Nat.reduceSub, ↓reduceIte, List.getElem?_cons_zero, List.getElem?_cons_succ, basic, cellsL, resOf, setAt, List.append_assoc, List.length_append, List.getElem?_append_left, List.getElem?_append_right, List.set_append_left, List.set_append_right, below, belowB, belowA, atomB, List.mem_cons, List.not_mem_nil, forall_eq_or_imp, forall_eq, List.toList_toArray, implies_true, List.take_succ_cons, List.take_zero, List.drop_succ_cons, List.drop_zero, List.take_nil, List.drop_nil, Nat.reduceLeDiff, Nat.reduceMul, Int.reduceToNat, Int.reduceLT, Int.reduceLE, Int.reduceAdd, Int.reduceNeg, Int.reduceEq, splice, List.singleton_append, Nat.reduceEqDiff, Nat.reduceLT, isAtom, List.all_cons, List.all_nil, Option.map_some, Option.bind_some, List.length_set, Int.reduceSub, Int.reduceMul, List.getElem?_set_self, List.getElem?_set_ne, ofB_2, tmpR_if, ro_sliceData, ro_capNil, ro_noZero, ext_2, ext_3, ext_4, ext_5, List.set_set]
theorem drop_spec {m : Mem} {di : Nat} {a b c sv : Value} {e : Nat} (he : e ≤ 2000000) (h : m[di]? = some ⟨[a, b, c, sv, .int .i64 (e : Int)], 98, 1, 0, .own⟩) :
    LCall Try.prog 62 [.pointer (some ⟨di, 0, none⟩)] m fun v m' => m' = m.set di ⟨[a, .bool false, .bool false, .slice none 0 0, .int .i64 ((e + 1 : Nat) : Int)], 98, 1, 0, .own⟩ := by
  have hi := lt_of_some h
  have hw : IntKind.i64.wrap ((e : Int) + 1) = ((e + 1 : Nat) : Int) := by rw [wrap_i64 (by omega) (by omega)]; omega
  refine LCall_enter Try.func62 c62 ?_
  simp (contextual := true) (implicitDefEqProofs := false) (maxSteps := 2000000) (disch := first | rfl | exact Nat.le_of_ble_eq_true rfl | omega | (simp only [List.length_append, List.length_cons, List.length_nil, List.length_set]; omega)) only [L62, h, hw, W1, W2, W3, W4, W5, W6, W7, W8, W9, W10, W11, W12, W13, W14, W15, eq_self, ite_true, ite_false, undef_eq, List.set_cons_zero, List.set_cons_succ, List.getD_cons_zero, List.getD_cons_succ, List.map_cons, List.map_nil, List.length_cons, List.length_nil, List.append_nil, List.cons_append, List.nil_append, List.replicate_succ, List.replicate_zero, Nat.reduceAdd, Nat.reduceSub, ↓reduceIte, List.getElem?_cons_zero, List.getElem?_cons_succ, basic, cellsL, resOf, setAt, List.append_assoc, List.length_append, List.getElem?_append_left, List.getElem?_append_right, List.set_append_left, List.set_append_right, below, belowB, belowA, atomB, List.mem_cons, List.not_mem_nil, forall_eq_or_imp, forall_eq, List.toList_toArray, implies_true, List.take_succ_cons, List.take_zero, List.drop_succ_cons, List.drop_zero, List.take_nil, List.drop_nil, Nat.reduceLeDiff, Nat.reduceMul, Int.reduceToNat, Int.reduceLT, Int.reduceLE, Int.reduceAdd, Int.reduceNeg, Int.reduceEq, splice, List.singleton_append, Nat.reduceEqDiff, Nat.reduceLT, isAtom, List.all_cons, List.all_nil, Option.map_some, Option.bind_some, List.length_set, Int.reduceSub, Int.reduceMul, List.getElem?_set_self, List.getElem?_set_ne, ofB_2, tmpR_if, ro_sliceData, ro_capNil, ro_noZero, ext_2, ext_3, ext_4, ext_5, List.set_set]
  refine (reset_spec2 (a := a) (b := b) (c := c) (sv := sv) (e := .int .i64 ((e + 1 : Nat) : Int)) (by rw [List.getElem?_set_self hi])).mono ?_
  rintro v m' rfl
  simp (contextual := true) (implicitDefEqProofs := false) (maxSteps := 2000000) (disch := first | rfl | exact Nat.le_of_ble_eq_true rfl | omega | (simp only [List.length_append, List.length_cons, List.length_nil, List.length_set]; omega)) only [W1, W2, W3, W4, W5, W6, W7, W8, W9, W10, W11, W12, W13, W14, W15, eq_self, ite_true, ite_false, undef_eq, List.set_cons_zero, List.set_cons_succ, List.getD_cons_zero, List.getD_cons_succ, List.map_cons, List.map_nil, List.length_cons, List.length_nil, List.append_nil, List.cons_append, List.nil_append, List.replicate_succ, List.replicate_zero, Nat.reduceAdd, Nat.reduceSub, ↓reduceIte, List.getElem?_cons_zero, List.getElem?_cons_succ, basic, cellsL, resOf, setAt, List.append_assoc, List.length_append, List.getElem?_append_left, List.getElem?_append_right, List.set_append_left, List.set_append_right, below, belowB, belowA, atomB, List.mem_cons, List.not_mem_nil, forall_eq_or_imp, forall_eq, List.toList_toArray, implies_true, List.take_succ_cons, List.take_zero, List.drop_succ_cons, List.drop_zero, List.take_nil, List.drop_nil, Nat.reduceLeDiff, Nat.reduceMul, Int.reduceToNat, Int.reduceLT, Int.reduceLE, Int.reduceAdd, Int.reduceNeg, Int.reduceEq, splice, List.singleton_append, Nat.reduceEqDiff, Nat.reduceLT, isAtom, List.all_cons, List.all_nil, Option.map_some, Option.bind_some, List.length_set, Int.reduceSub, Int.reduceMul, List.getElem?_set_self, List.getElem?_set_ne, ofB_2, tmpR_if, ro_sliceData, ro_capNil, ro_noZero, ext_2, ext_3, ext_4, ext_5, List.set_set]

/-- A byte is taken into a frame. -/
theorem take_spec2 {m : Mem} {di : Nat} {F : List Nat} {d : DS} (c : UInt8) (h : Df m di F d) (hk : d.Ok) (hb : d.bad ≤ 2000000) (hp : d.pl = 1) :
    LCall Try.prog 61 [.pointer (some ⟨di, 0, none⟩), .int .u8 (c.toNat : Int)] m fun v m' => Frm F m m' ∧ ∃ F', Df m' di F' (d.take c) ∧ NwF m F F' := by
  obtain ⟨sv, G, rfl, hG, hd, hs⟩ := h
  have hi := lt_of_some hd
  obtain ⟨a, rfl, hform⟩ := By.form hs
  have hm := hk.m
  have hh := hk.h
  refine LCall_enter Try.func61 c61 ?_
  unfold dcells at hd
  by_cases hl : d.held.length < d.most
  · have hl' : ((d.most : Int) ≤ (d.held.length : Int)) = False := eq_false (by omega)
    simp (contextual := true) (implicitDefEqProofs := false) (maxSteps := 2000000) (disch := first | rfl | exact Nat.le_of_ble_eq_true rfl | omega | (simp only [List.length_append, List.length_cons, List.length_nil, List.length_set]; omega)) only [L61, hd, hl', W1, W2, W3, W4, W5, W6, W7, W8, W9, W10, W11, ops_nil, ops_n, ops_g, guardK_it, guardK_if, guardK_u, CondP_t, CondP_f, ex_call, pickK_it, loadK_p, loadNK_p, storeB_s, cellB_s, cellB_r, cellsB_s, cellsB_r, condK_it, lc_skip, lc_region, lc_draw, lc_seq, lc_cond, lc_block, lc_exit, lc_ret, then_n, then_e, then_r, block_n, block_r, block_e, bin_add, bin_sub, bin_mul, bin_quo, bin_rem, bin_and, bin_or, bin_xor, bin_andNot, bin_eql, bin_neq, bin_lss, bin_leq, bin_gtr, bin_geq, bin_shl, bin_shr, bin_sadd, bin_seql, bin_sneq, un_not, un_neg, eqL_b, eqL_i, eqL_s, eqL_pnn, eqL_pns, eqL_psn, eqL_pp, eqL_slnn, eqL_slns, eqL_slsn, ex_callv, slB_e, slB_r, apB_e, lc_chain, lc_bad, putBK_s, lc_label, lc_goto, then_g, block_g, jump_g, jump_n, jump_r, jump_e, lf_seq, lf_label, eq_self, ite_true, ite_false, undef_eq, List.set_cons_zero, List.set_cons_succ, List.getD_cons_zero, List.getD_cons_succ, List.map_cons, List.map_nil, List.length_cons, List.length_nil, List.append_nil, List.cons_append, List.nil_append, List.replicate_succ, List.replicate_zero, Nat.reduceAdd, Nat.reduceSub, ↓reduceIte, List.getElem?_cons_zero, List.getElem?_cons_succ, basic, cellsL, resOf, setAt, List.append_assoc, List.length_append, List.getElem?_append_left, List.getElem?_append_right, List.set_append_left, List.set_append_right, below, belowB, belowA, atomB, List.mem_cons, List.not_mem_nil, forall_eq_or_imp, forall_eq, List.toList_toArray, implies_true, List.take_succ_cons, List.take_zero, List.drop_succ_cons, List.drop_zero, List.take_nil, List.drop_nil, Nat.reduceLeDiff, Nat.reduceMul, Int.reduceToNat, Int.reduceLT, Int.reduceLE, Int.reduceAdd, Int.reduceNeg, Int.reduceEq, splice, List.singleton_append, Nat.reduceEqDiff, Nat.reduceLT, isAtom, List.all_cons, List.all_nil, Option.map_some, Option.bind_some, List.length_set, Int.reduceSub, Int.reduceMul, List.getElem?_set_self, List.getElem?_set_ne, ofB_2, tmpR_if, ro_sliceData, ro_capNil, ro_noZero, ext_2, ext_3, ext_4, ext_5, List.set_set]
    refine app_bytes (new := [c]) (hs.frm0 Frm.refl.app) rfl rfl (by omega) ?_
    intro v M G' hM hf hs' hG'
    have hdM := hf.get (i := di) (by rw [List.getElem?_append_left hi]; exact hd) hG
    have hdl := lt_of_some hdM
    obtain ⟨a', rfl, _⟩ := By.form hs'
    simp (contextual := true) (implicitDefEqProofs := false) (maxSteps := 2000000) (disch := first | rfl | exact Nat.le_of_ble_eq_true rfl | omega | (simp only [List.length_append, List.length_cons, List.length_nil, List.length_set]; omega)) only [hdM, W1, W2, W3, W4, W5, W6, W7, W8, W9, W10, W11, W12, W13, W14, W15, eq_self, ite_true, ite_false, undef_eq, List.set_cons_zero, List.set_cons_succ, List.getD_cons_zero, List.getD_cons_succ, List.map_cons, List.map_nil, List.length_cons, List.length_nil, List.append_nil, List.cons_append, List.nil_append, List.replicate_succ, List.replicate_zero, Nat.reduceAdd, Nat.reduceSub, ↓reduceIte, List.getElem?_cons_zero, List.getElem?_cons_succ, basic, cellsL, resOf, setAt, List.append_assoc, List.length_append, List.getElem?_append_left, List.getElem?_append_right, List.set_append_left, List.set_append_right, below, belowB, belowA, atomB, List.mem_cons, List.not_mem_nil, forall_eq_or_imp, forall_eq, List.toList_toArray, implies_true, List.take_succ_cons, List.take_zero, List.drop_succ_cons, List.drop_zero, List.take_nil, List.drop_nil, Nat.reduceLeDiff, Nat.reduceMul, Int.reduceToNat, Int.reduceLT, Int.reduceLE, Int.reduceAdd, Int.reduceNeg, Int.reduceEq, splice, List.singleton_append, Nat.reduceEqDiff, Nat.reduceLT, isAtom, List.all_cons, List.all_nil, Option.map_some, Option.bind_some, List.length_set, Int.reduceSub, Int.reduceMul, List.getElem?_set_self, List.getElem?_set_ne, ofB_2, tmpR_if, ro_sliceData, ro_capNil, ro_noZero, ext_2, ext_3, ext_4, ext_5, List.set_set]
    have hGd : di ∉ G' := fun hx => by
      rcases hG' di hx with h1 | h1
      · exact hG h1
      · simp at h1; omega
    refine ⟨(((Frm.refl (F := di :: G)).app.trans hf fun x hx => .inl (by simp [hx])).set (by simp)), di :: G', ⟨.slice a' (d.held.length + 1) (d.held.length + 1), G', rfl, hGd, ?_, ?_⟩, fun x hx => ?_⟩
    · rw [List.getElem?_set_self hdl]; simp [DS.take, hl, dcells, hp]
    · have : (d.take c).held = d.held ++ [c] := by simp [DS.take, hl]
      have e : (d.held ++ [c]).length = d.held.length + 1 := by simp
      rw [e] at hs'
      rw [this]; exact hs'.setb hGd
    · rcases List.mem_cons.mp hx with rfl | hx
      · exact .inl (by simp)
      · rcases hG' x hx with h1 | h1
        · exact .inl (by simp [h1])
        · simp at h1; exact .inr (by omega)
  · have hl' : ((d.most : Int) ≤ (d.held.length : Int)) = True := eq_true (by omega)
    simp (contextual := true) (implicitDefEqProofs := false) (maxSteps := 2000000) (disch := first | rfl | exact Nat.le_of_ble_eq_true rfl | omega | (simp only [List.length_append, List.length_cons, List.length_nil, List.length_set]; omega)) only [L61, hd, hl', W1, W2, W3, W4, W5, W6, W7, W8, W9, W10, W11, W12, W13, W14, W15, eq_self, ite_true, ite_false, undef_eq, List.set_cons_zero, List.set_cons_succ, List.getD_cons_zero, List.getD_cons_succ, List.map_cons, List.map_nil, List.length_cons, List.length_nil, List.append_nil, List.cons_append, List.nil_append, List.replicate_succ, List.replicate_zero, Nat.reduceAdd, Nat.reduceSub, ↓reduceIte, List.getElem?_cons_zero, List.getElem?_cons_succ, basic, cellsL, resOf, setAt, List.append_assoc, List.length_append, List.getElem?_append_left, List.getElem?_append_right, List.set_append_left, List.set_append_right, below, belowB, belowA, atomB, List.mem_cons, List.not_mem_nil, forall_eq_or_imp, forall_eq, List.toList_toArray, implies_true, List.take_succ_cons, List.take_zero, List.drop_succ_cons, List.drop_zero, List.take_nil, List.drop_nil, Nat.reduceLeDiff, Nat.reduceMul, Int.reduceToNat, Int.reduceLT, Int.reduceLE, Int.reduceAdd, Int.reduceNeg, Int.reduceEq, splice, List.singleton_append, Nat.reduceEqDiff, Nat.reduceLT, isAtom, List.all_cons, List.all_nil, Option.map_some, Option.bind_some, List.length_set, Int.reduceSub, Int.reduceMul, List.getElem?_set_self, List.getElem?_set_ne, ofB_2, tmpR_if, ro_sliceData, ro_capNil, ro_noZero, ext_2, ext_3, ext_4, ext_5, List.set_set]
    refine (drop_spec hb hd).mono ?_
    rintro v m' rfl
    simp (contextual := true) (implicitDefEqProofs := false) (maxSteps := 2000000) (disch := first | rfl | exact Nat.le_of_ble_eq_true rfl | omega | (simp only [List.length_append, List.length_cons, List.length_nil, List.length_set]; omega)) only [W1, W2, W3, W4, W5, W6, W7, W8, W9, W10, W11, W12, W13, W14, W15, eq_self, ite_true, ite_false, undef_eq, List.set_cons_zero, List.set_cons_succ, List.getD_cons_zero, List.getD_cons_succ, List.map_cons, List.map_nil, List.length_cons, List.length_nil, List.append_nil, List.cons_append, List.nil_append, List.replicate_succ, List.replicate_zero, Nat.reduceAdd, Nat.reduceSub, ↓reduceIte, List.getElem?_cons_zero, List.getElem?_cons_succ, basic, cellsL, resOf, setAt, List.append_assoc, List.length_append, List.getElem?_append_left, List.getElem?_append_right, List.set_append_left, List.set_append_right, below, belowB, belowA, atomB, List.mem_cons, List.not_mem_nil, forall_eq_or_imp, forall_eq, List.toList_toArray, implies_true, List.take_succ_cons, List.take_zero, List.drop_succ_cons, List.drop_zero, List.take_nil, List.drop_nil, Nat.reduceLeDiff, Nat.reduceMul, Int.reduceToNat, Int.reduceLT, Int.reduceLE, Int.reduceAdd, Int.reduceNeg, Int.reduceEq, splice, List.singleton_append, Nat.reduceEqDiff, Nat.reduceLT, isAtom, List.all_cons, List.all_nil, Option.map_some, Option.bind_some, List.length_set, Int.reduceSub, Int.reduceMul, List.getElem?_set_self, List.getElem?_set_ne, ofB_2, tmpR_if, ro_sliceData, ro_capNil, ro_noZero, ext_2, ext_3, ext_4, ext_5, List.set_set]
    have : d.take c = d.drop := by simp [DS.take, hl]
    rw [this]
    refine ⟨Frm.refl.set (by simp), [di], Df.clr (d := d.drop) hi rfl rfl, fun x hx => .inl (by simp at hx; simp [hx])⟩

/-- The frame that has ended. -/
theorem frame_spec {m : Mem} {di : Nat} {F : List Nat} {d : DS} (h : Df m di F d) (h0 : d.held ≠ []) (hl : d.held.length ≤ 100000) :
    Ret Try.prog 59 [.pointer (some ⟨di, 0, none⟩)] m (.agg (frow (fr d.held)).toArray) m := by
  obtain ⟨sv, G, rfl, hG, hd, hs⟩ := h
  have hi := lt_of_some hd
  obtain ⟨a, rfl, hform⟩ := By.form hs
  obtain ⟨x, r, hx⟩ : ∃ x r, d.held = x :: r := by
    cases hq : d.held with
    | nil => exact absurd hq h0
    | cons x r => exact ⟨x, r, rfl⟩
  unfold dcells at hd
  rw [hx] at hd hform hl ⊢
  obtain ⟨b, o, cs, rfl, rfl, hb, hlen, hcc, hrow⟩ := hform (by simp)
  have hbl := lt_of_some hb
  have c0 : cs[o]? = some (.int .u8 x.toNat) := by simpa using hrow 0 x rfl
  have hx8 := x.toNat_lt
  have hw := wrap_i64 (n := (x.toNat : Int)) (by omega) (by omega)
  have hq : IntKind.i64.wrap ((x.toNat : Int).tdiv 16) = ((x.toNat / 16 : Nat) : Int) := by
    have : (x.toNat : Int).tdiv 16 = ((x.toNat / 16 : Nat) : Int) := by rw [Int.tdiv_eq_ediv_of_nonneg (by omega)]; simp
    rw [this, wrap_i64 (by omega) (by omega)]
  have hq2 : (x.toNat : Int).tmod 16 = ((x.toNat % 16 : Nat) : Int) := by rw [Int.tmod_eq_emod_of_nonneg (by omega)]; simp
  have hq3 : (x.toNat : Int).tdiv 16 = ((x.toNat / 16 : Nat) : Int) := by rw [Int.tdiv_eq_ediv_of_nonneg (by omega)]; simp
  have hw4 : IntKind.i64.wrap ((x.toNat % 16 : Nat) : Int) = ((x.toNat % 16 : Nat) : Int) := wrap_i64 (by omega) (by omega)
  have hw5 : IntKind.i64.wrap ((x.toNat / 16 : Nat) : Int) = ((x.toNat / 16 : Nat) : Int) := wrap_i64 (by omega) (by omega)
  have hcut : (cs.drop (o + 1)).take r.length = byteCells r := by
    have : (cs.drop o).take (r.length + 1) = byteCells (x :: r) := by simpa using hcc
    rw [byteCells_cons] at this
    have h2 := congrArg (List.drop 1) this
    simp only [List.drop_succ_cons, List.drop_zero] at h2
    rw [← h2, List.drop_take, List.drop_drop]; rfl
  have hpos : ((0 : Int) < ((r.length + 1 : Nat) : Int)) = True := eq_true (by omega)
  have hlen' : o + 1 + r.length ≤ cs.length := by simp at hlen; omega
  refine LCall_drop (LCall_enter Try.func59 c59 ?_)
  simp (contextual := true) (implicitDefEqProofs := false) (maxSteps := 2000000) (disch := first | rfl | exact Nat.le_of_ble_eq_true rfl | omega | (simp only [List.length_append, List.length_cons, List.length_nil, List.length_set]; omega)) only [L59, hd, hb, c0, hw, hq, hq2, hq3, hw4, hw5, fr, frow, hpos, Nat.add_sub_cancel, hlen', hcut, bytesL_cells, W1, W2, W3, W4, W5, W6, W7, W8, W9, W10, W11, W12, W13, W14, W15, eq_self, ite_true, ite_false, undef_eq, List.set_cons_zero, List.set_cons_succ, List.getD_cons_zero, List.getD_cons_succ, List.map_cons, List.map_nil, List.length_cons, List.length_nil, List.append_nil, List.cons_append, List.nil_append, List.replicate_succ, List.replicate_zero, Nat.reduceAdd, Nat.reduceSub, ↓reduceIte, List.getElem?_cons_zero, List.getElem?_cons_succ, basic, cellsL, resOf, setAt, List.append_assoc, List.length_append, List.getElem?_append_left, List.getElem?_append_right, List.set_append_left, List.set_append_right, below, belowB, belowA, atomB, List.mem_cons, List.not_mem_nil, forall_eq_or_imp, forall_eq, List.toList_toArray, implies_true, List.take_succ_cons, List.take_zero, List.drop_succ_cons, List.drop_zero, List.take_nil, List.drop_nil, Nat.reduceLeDiff, Nat.reduceMul, Int.reduceToNat, Int.reduceLT, Int.reduceLE, Int.reduceAdd, Int.reduceNeg, Int.reduceEq, splice, List.singleton_append, Nat.reduceEqDiff, Nat.reduceLT, isAtom, List.all_cons, List.all_nil, Option.map_some, Option.bind_some, List.length_set, Int.reduceSub, Int.reduceMul, List.getElem?_set_self, List.getElem?_set_ne, ofB_2, tmpR_if, ro_sliceData, ro_capNil, ro_noZero, ext_2, ext_3, ext_4, ext_5, List.set_set]
end Go.Proofs.Ytfefieicnmglcaa
