/- The document's deframer: walked. -/
import Derived.Test.YtfajlnpkickknaaKE
namespace Go.Proofs.Ytfajlnpkickknaa
open Go.Lg
set_option maxRecDepth 8000
set_option maxHeartbeats 4000000
set_option linter.unusedSimpArgs false
set_option linter.unnecessarySimpa false
set_option linter.unusedVariables false

def rcells (d : DS) (sv : Value) : List Value := [.int .i64 d.most, .int .i64 d.pl, .int .i64 d.bad, sv]
/-- The document's deframer in memory. -/
def Rf (M : Mem) (di : Nat) (F : List Nat) (d : DS) : Prop :=
  ∃ sv G, F = di :: G ∧ di ∉ G ∧ M[di]? = some ⟨rcells d sv, 41, 1, 0, .own⟩ ∧ By 5 M sv G d.held
namespace Rf
variable {M M' : Mem} {di : Nat} {F G : List Nat} {d d' : DS}
theorem frm (h : Rf M di F d) (k : Frm G M M') (hd : ∀ x ∈ F, x ∉ G) : Rf M' di F d := by
  obtain ⟨sv, H, rfl, h1, h2, h3⟩ := h
  exact ⟨sv, H, rfl, h1, k.get h2 (hd _ (by simp)), h3.frm k fun x hx => hd x (by simp [hx])⟩
theorem frm0 (h : Rf M di F d) (k : Frm [] M M') : Rf M' di F d := h.frm k (by simp)
theorem lt (h : Rf M di F d) : ∀ x ∈ F, x < M.length := by
  obtain ⟨sv, H, rfl, h1, h2, h3⟩ := h
  intro x hx
  rcases List.mem_cons.mp hx with rfl | hx
  · exact lt_of_some h2
  · exact h3.lt x hx
theorem clr {sv : Value} (hi : di < M.length) (hh : d.held = []) (hs : sv = .slice none 0 0) : Rf (M.set di ⟨rcells d sv, 41, 1, 0, .own⟩) di [di] d := by
  subst hs
  exact ⟨_, [], rfl, by simp, by rw [List.getElem?_set_self hi], by rw [hh]; exact .nil⟩
theorem keep {sv x1 x2 x3 : Value} (h : Rf M di F d) (hc : M[di]? = some ⟨[x1, x2, x3, sv], 41, 1, 0, .own⟩) (hh : d'.held = d.held) : Rf (M.set di ⟨rcells d' sv, 41, 1, 0, .own⟩) di F d' := by
  obtain ⟨sv0, H, rfl, hH, hd, hs⟩ := h
  rw [hc] at hd
  simp only [rcells, Option.some.injEq, Blk.mk.injEq, List.cons.injEq] at hd
  obtain rfl : sv = sv0 := hd.1.2.2.2.1
  have hi := lt_of_some hc
  exact ⟨sv, H, rfl, hH, by rw [List.getElem?_set_self hi], by rw [hh]; exact hs.setb hH⟩
theorem cell (h : Rf M di F d) : ∃ a, M[di]? = some ⟨[.int .i64 d.most, .int .i64 d.pl, .int .i64 d.bad, .slice a d.held.length d.held.length], 41, 1, 0, .own⟩ := by
  obtain ⟨sv, H, rfl, _, hd, hs⟩ := h
  obtain ⟨a, rfl, _⟩ := By.form hs
  exact ⟨a, hd⟩
theorem own (h : Rf M di F d) : di ∈ F := by obtain ⟨_, _, rfl, _⟩ := h; simp
end Rf
def tellF (d : DS) (c : UInt8) : PF := (d.tell c).headD (0, 0, [])
def tellB (d : DS) (c : UInt8) : Bool := !(d.tell c).isEmpty

theorem refnew_spec (k : Int) (m : Mem) : LCall Try.prog 17 [.int .i64 k] m fun v m' => v = .pointer (some ⟨m.length, 0, none⟩) ∧ m' = m ++ [⟨rcells (DS.new k) (.slice none 0 0), 41, 1, 0, .own⟩] := by
  have h := DS.new_most k
  refine LCall_enter Try.func17 c17 ?_
  have key : ∀ q : Int, ((DS.new k).most : Int) = q → rcells (DS.new k) (.slice none 0 0) = [.int .i64 q, .int .i64 0, .int .i64 0, .slice none 0 0] := fun q e => by subst e; rfl
  by_cases h1 : k < 1
  · have h1' : (k < 1) = True := eq_true h1
    rw [if_pos h1] at h
    rw [if_neg (by omega)] at h
    rw [key _ h]
    simp (contextual := true) (implicitDefEqProofs := false) (maxSteps := 2000000) (disch := first | rfl | exact Nat.le_of_ble_eq_true rfl | omega | (simp only [List.length_append, List.length_cons, List.length_nil, List.length_set]; omega)) only [L17, h1', W1, W2, W3, W4, W5, W6, W7, W8, W9, W10, W11, W12, W13, W14, W15, eq_self, ite_true, ite_false, undef_eq, List.set_cons_zero, List.set_cons_succ, List.getD_cons_zero, List.getD_cons_succ, List.map_cons, List.map_nil, List.length_cons, List.length_nil, List.append_nil, List.cons_append, List.nil_append, List.replicate_succ, List.replicate_zero, Nat.reduceAdd, Nat.reduceSub, ↓reduceIte, List.getElem?_cons_zero, List.getElem?_cons_succ, basic, cellsL, resOf, setAt, List.append_assoc, List.length_append, List.getElem?_append_left, List.getElem?_append_right, List.set_append_left, List.set_append_right, below, belowB, belowA, atomB, List.mem_cons, List.not_mem_nil, forall_eq_or_imp, forall_eq, List.toList_toArray, implies_true, List.take_succ_cons, List.take_zero, List.drop_succ_cons, List.drop_zero, List.take_nil, List.drop_nil, Nat.reduceLeDiff, Nat.reduceMul, Int.reduceToNat, Int.reduceLT, Int.reduceLE, Int.reduceAdd, Int.reduceNeg, Int.reduceEq, splice, List.singleton_append, Nat.reduceEqDiff, Nat.reduceLT, isAtom, List.all_cons, List.all_nil, Option.map_some, Option.bind_some, List.length_set, Int.reduceSub, Int.reduceMul, List.getElem?_set_self, List.getElem?_set_ne, ofB_2, tmpR_if, ro_sliceData, ro_capNil, ro_noZero, ext_2, ext_3, ext_4, ext_5, List.set_set]
  · have h1' : (k < 1) = False := eq_false h1
    rw [if_neg h1] at h
    by_cases h2 : 4096 < k
    · have h2' : (4096 < k) = True := eq_true h2
      rw [if_pos h2] at h
      rw [key _ h]
      simp (contextual := true) (implicitDefEqProofs := false) (maxSteps := 2000000) (disch := first | rfl | exact Nat.le_of_ble_eq_true rfl | omega | (simp only [List.length_append, List.length_cons, List.length_nil, List.length_set]; omega)) only [L17, h1', h2', W1, W2, W3, W4, W5, W6, W7, W8, W9, W10, W11, W12, W13, W14, W15, eq_self, ite_true, ite_false, undef_eq, List.set_cons_zero, List.set_cons_succ, List.getD_cons_zero, List.getD_cons_succ, List.map_cons, List.map_nil, List.length_cons, List.length_nil, List.append_nil, List.cons_append, List.nil_append, List.replicate_succ, List.replicate_zero, Nat.reduceAdd, Nat.reduceSub, ↓reduceIte, List.getElem?_cons_zero, List.getElem?_cons_succ, basic, cellsL, resOf, setAt, List.append_assoc, List.length_append, List.getElem?_append_left, List.getElem?_append_right, List.set_append_left, List.set_append_right, below, belowB, belowA, atomB, List.mem_cons, List.not_mem_nil, forall_eq_or_imp, forall_eq, List.toList_toArray, implies_true, List.take_succ_cons, List.take_zero, List.drop_succ_cons, List.drop_zero, List.take_nil, List.drop_nil, Nat.reduceLeDiff, Nat.reduceMul, Int.reduceToNat, Int.reduceLT, Int.reduceLE, Int.reduceAdd, Int.reduceNeg, Int.reduceEq, splice, List.singleton_append, Nat.reduceEqDiff, Nat.reduceLT, isAtom, List.all_cons, List.all_nil, Option.map_some, Option.bind_some, List.length_set, Int.reduceSub, Int.reduceMul, List.getElem?_set_self, List.getElem?_set_ne, ofB_2, tmpR_if, ro_sliceData, ro_capNil, ro_noZero, ext_2, ext_3, ext_4, ext_5, List.set_set]
    · have h2' : (4096 < k) = False := eq_false h2
      rw [if_neg h2] at h
      rw [key _ h]
      simp (contextual := true) (implicitDefEqProofs := false) (maxSteps := 2000000) (disch := first | rfl | exact Nat.le_of_ble_eq_true rfl | omega | (simp only [List.length_append, List.length_cons, List.length_nil, List.length_set]; omega)) only [L17, h1', h2', W1, W2, W3, W4, W5, W6, W7, W8, W9, W10, W11, W12, W13, W14, W15, eq_self, ite_true, ite_false, undef_eq, List.set_cons_zero, List.set_cons_succ, List.getD_cons_zero, List.getD_cons_succ, List.map_cons, List.map_nil, List.length_cons, List.length_nil, List.append_nil, List.cons_append, List.nil_append, List.replicate_succ, List.replicate_zero, Nat.reduceAdd, Nat.reduceSub, ↓reduceIte, List.getElem?_cons_zero, List.getElem?_cons_succ, basic, cellsL, resOf, setAt, List.append_assoc, List.length_append, List.getElem?_append_left, List.getElem?_append_right, List.set_append_left, List.set_append_right, below, belowB, belowA, atomB, List.mem_cons, List.not_mem_nil, forall_eq_or_imp, forall_eq, List.toList_toArray, implies_true, List.take_succ_cons, List.take_zero, List.drop_succ_cons, List.drop_zero, List.take_nil, List.drop_nil, Nat.reduceLeDiff, Nat.reduceMul, Int.reduceToNat, Int.reduceLT, Int.reduceLE, Int.reduceAdd, Int.reduceNeg, Int.reduceEq, splice, List.singleton_append, Nat.reduceEqDiff, Nat.reduceLT, isAtom, List.all_cons, List.all_nil, Option.map_some, Option.bind_some, List.length_set, Int.reduceSub, Int.reduceMul, List.getElem?_set_self, List.getElem?_set_ne, ofB_2, tmpR_if, ro_sliceData, ro_capNil, ro_noZero, ext_2, ext_3, ext_4, ext_5, List.set_set]

theorem wrap_u8c {n : Nat} (h : n < 256) : IntKind.u8.wrap (n : Int) = n := by
  simp [IntKind.wrap, IntKind.bits, IntKind.signed]; omega
theorem appchain {m M1 Y M2 : Mem} {z1 z2 e : Blk} {k : Nat} {G1 G2 : List Nat} (hk : m.length + 2 ≤ k) (hf1 : Frm [k] (m ++ [z1, z2, e]) M1) (hG1 : ∀ x ∈ G1, x ∈ [k] ∨ (m ++ [z1, z2, e]).length ≤ x) (hf2 : Frm G1 (M1 ++ Y) M2) (hG2 : ∀ x ∈ G2, x ∈ G1 ∨ (M1 ++ Y).length ≤ x) : Frm [] (m ++ [z1, z2]) M2 ∧ ∀ x ∈ G2, (m ++ [z1, z2]).length ≤ x := by
  have h1 := hf1.len
  have e0 : m ++ [z1, z2, e] = (m ++ [z1, z2]) ++ [e] := by rw [List.append_assoc]; rfl
  have e1 : (m ++ [z1, z2]).length = m.length + 2 := by simp
  have e2 : (m ++ [z1, z2, e]).length = m.length + 3 := by simp
  rw [e2] at h1 hG1
  rw [e0] at hf1
  rw [e1]
  have g1 : ∀ x ∈ G1, m.length + 2 ≤ x := fun x hx => by
    rcases hG1 x hx with h | h
    · simp at h; omega
    · omega
  refine ⟨(((Frm.refl (F := [])).app.trans hf1 fun x hx => .inr (by simp at hx; omega)).app).trans hf2 fun x hx => .inr (by rw [e1]; exact g1 x hx), fun x hx => ?_⟩
  rcases hG2 x hx with h | h
  · exact g1 x h
  · rw [List.length_append] at h; omega

theorem byte_spec {m : Mem} {di : Nat} {F : List Nat} {d : DS} (c : UInt8) (h : Rf m di F d) (hk : d.Ok) (hb : d.bad ≤ 2000000) :
    LCall Try.prog 40 [.pointer (some ⟨di, 0, none⟩), .int .u8 (c.toNat : Int)] m fun v m' => v = .tuple #[.agg (frow (tellF d c)).toArray, .bool (tellB d c)] ∧ Frm F m m' ∧ ∃ F', Rf m' di F' (d.step c) ∧ NwF m F F' := by
  obtain ⟨sv, H, hFH, hH, hd, hs⟩ := id h
  obtain ⟨a, rfl, hform⟩ := By.form hs
  unfold rcells at hd
  have hi := lt_of_some hd
  have hm := hk.m
  have hh := hk.h
  have hdi := h.own
  refine LCall_enter Try.func40 c40 ?_
  by_cases hp0 : d.pl = 0
  · rw [hp0] at hd
    have ht : d.tell c = [] := by simp [DS.tell, hp0]
    have hf : frow (tellF d c) = [.int .i64 0, .int .i64 0, .string ⟨#[]⟩] := by simp [tellF, ht, frow, txt]
    have hbq : tellB d c = false := by simp [tellB, ht]
    rw [hf, hbq]
    by_cases hc1 : c = 192
    · have hk1 : ((c.toNat : Int) = 192) = True := (c_eq c 192).trans (eq_true hc1)
      have hst : d.step c = ⟨d.most, 1, [], d.bad⟩ := by simp [DS.step, hp0, hc1]
      rw [hst]
      simp (contextual := true) (implicitDefEqProofs := false) (maxSteps := 2000000) (disch := first | rfl | exact Nat.le_of_ble_eq_true rfl | omega | (simp only [List.length_append, List.length_cons, List.length_nil, List.length_set]; omega)) only [L40, hd, hk1, W1, W2, W3, W4, W5, W6, W7, W8, W9, W10, W11, W12, W13, W14, W15, eq_self, ite_true, ite_false, undef_eq, List.set_cons_zero, List.set_cons_succ, List.getD_cons_zero, List.getD_cons_succ, List.map_cons, List.map_nil, List.length_cons, List.length_nil, List.append_nil, List.cons_append, List.nil_append, List.replicate_succ, List.replicate_zero, Nat.reduceAdd, Nat.reduceSub, ↓reduceIte, List.getElem?_cons_zero, List.getElem?_cons_succ, basic, cellsL, resOf, setAt, List.append_assoc, List.length_append, List.getElem?_append_left, List.getElem?_append_right, List.set_append_left, List.set_append_right, below, belowB, belowA, atomB, List.mem_cons, List.not_mem_nil, forall_eq_or_imp, forall_eq, List.toList_toArray, implies_true, List.take_succ_cons, List.take_zero, List.drop_succ_cons, List.drop_zero, List.take_nil, List.drop_nil, Nat.reduceLeDiff, Nat.reduceMul, Int.reduceToNat, Int.reduceLT, Int.reduceLE, Int.reduceAdd, Int.reduceNeg, Int.reduceEq, splice, List.singleton_append, Nat.reduceEqDiff, Nat.reduceLT, isAtom, List.all_cons, List.all_nil, Option.map_some, Option.bind_some, List.length_set, Int.reduceSub, Int.reduceMul, List.getElem?_set_self, List.getElem?_set_ne, ofB_2, tmpR_if, ro_sliceData, ro_capNil, ro_noZero, ext_2, ext_3, ext_4, ext_5, List.set_set]
      exact ⟨(Frm.refl.set (.inl hdi)).app, [di], (Rf.clr (d := ⟨d.most, 1, [], d.bad⟩) (sv := .slice none 0 0) hi rfl rfl).frm0 Frm.refl.app, fun x hx => .inl (by simp at hx; subst hx; exact hdi)⟩
    · have hk1 : ((c.toNat : Int) = 192) = False := (c_eq c 192).trans (eq_false hc1)
      have hst : d.step c = d := by simp [DS.step, hp0, hc1]
      rw [hst]
      simp (contextual := true) (implicitDefEqProofs := false) (maxSteps := 2000000) (disch := first | rfl | exact Nat.le_of_ble_eq_true rfl | omega | (simp only [List.length_append, List.length_cons, List.length_nil, List.length_set]; omega)) only [L40, hd, hk1, W1, W2, W3, W4, W5, W6, W7, W8, W9, W10, W11, W12, W13, W14, W15, eq_self, ite_true, ite_false, undef_eq, List.set_cons_zero, List.set_cons_succ, List.getD_cons_zero, List.getD_cons_succ, List.map_cons, List.map_nil, List.length_cons, List.length_nil, List.append_nil, List.cons_append, List.nil_append, List.replicate_succ, List.replicate_zero, Nat.reduceAdd, Nat.reduceSub, ↓reduceIte, List.getElem?_cons_zero, List.getElem?_cons_succ, basic, cellsL, resOf, setAt, List.append_assoc, List.length_append, List.getElem?_append_left, List.getElem?_append_right, List.set_append_left, List.set_append_right, below, belowB, belowA, atomB, List.mem_cons, List.not_mem_nil, forall_eq_or_imp, forall_eq, List.toList_toArray, implies_true, List.take_succ_cons, List.take_zero, List.drop_succ_cons, List.drop_zero, List.take_nil, List.drop_nil, Nat.reduceLeDiff, Nat.reduceMul, Int.reduceToNat, Int.reduceLT, Int.reduceLE, Int.reduceAdd, Int.reduceNeg, Int.reduceEq, splice, List.singleton_append, Nat.reduceEqDiff, Nat.reduceLT, isAtom, List.all_cons, List.all_nil, Option.map_some, Option.bind_some, List.length_set, Int.reduceSub, Int.reduceMul, List.getElem?_set_self, List.getElem?_set_ne, ofB_2, tmpR_if, ro_sliceData, ro_capNil, ro_noZero, ext_2, ext_3, ext_4, ext_5, List.set_set]
      exact ⟨Frm.refl.app, F, h.frm0 Frm.refl.app, fun x hx => .inl hx⟩
  have hx8 := c.toNat_lt
  have hwc := wrap_i64 (n := (c.toNat : Int)) (by omega) (by omega)
  have hwu := wrap_u8c hx8
  have hw192 : IntKind.u8.wrap 192 = 192 := by decide
  have hw219 : IntKind.u8.wrap 219 = 219 := by decide
  have hwb : IntKind.i64.wrap ((d.bad : Int) + 1) = ((d.bad + 1 : Nat) : Int) := by rw [wrap_i64 (by omega) (by omega)]; omega
  by_cases hp1 : d.pl = 1
  · rw [hp1] at hd
    by_cases hc1 : c = 192
    · have hk1 : ((c.toNat : Int) = 192) = True := (c_eq c 192).trans (eq_true hc1)
      have hst : d.step c = ⟨d.most, 1, [], d.bad⟩ := by simp [DS.step, hp1, hc1]
      rw [hst]
      by_cases hne : d.held = []
      · have ht : d.tell c = [] := by simp [DS.tell, hne]
        have hf : frow (tellF d c) = [.int .i64 0, .int .i64 0, .string ⟨#[]⟩] := by simp [tellF, ht, frow, txt]
        have hbq : tellB d c = false := by simp [tellB, ht]
        rw [hf, hbq]
        have hz : ((0 : Int) < (d.held.length : Int)) = False := by simp [hne]
        simp (contextual := true) (implicitDefEqProofs := false) (maxSteps := 2000000) (disch := first | rfl | exact Nat.le_of_ble_eq_true rfl | omega | (simp only [List.length_append, List.length_cons, List.length_nil, List.length_set]; omega)) only [L40, hd, hk1, hz, W1, W2, W3, W4, W5, W6, W7, W8, W9, W10, W11, W12, W13, W14, W15, eq_self, ite_true, ite_false, undef_eq, List.set_cons_zero, List.set_cons_succ, List.getD_cons_zero, List.getD_cons_succ, List.map_cons, List.map_nil, List.length_cons, List.length_nil, List.append_nil, List.cons_append, List.nil_append, List.replicate_succ, List.replicate_zero, Nat.reduceAdd, Nat.reduceSub, ↓reduceIte, List.getElem?_cons_zero, List.getElem?_cons_succ, basic, cellsL, resOf, setAt, List.append_assoc, List.length_append, List.getElem?_append_left, List.getElem?_append_right, List.set_append_left, List.set_append_right, below, belowB, belowA, atomB, List.mem_cons, List.not_mem_nil, forall_eq_or_imp, forall_eq, List.toList_toArray, implies_true, List.take_succ_cons, List.take_zero, List.drop_succ_cons, List.drop_zero, List.take_nil, List.drop_nil, Nat.reduceLeDiff, Nat.reduceMul, Int.reduceToNat, Int.reduceLT, Int.reduceLE, Int.reduceAdd, Int.reduceNeg, Int.reduceEq, splice, List.singleton_append, Nat.reduceEqDiff, Nat.reduceLT, isAtom, List.all_cons, List.all_nil, Option.map_some, Option.bind_some, List.length_set, Int.reduceSub, Int.reduceMul, List.getElem?_set_self, List.getElem?_set_ne, ofB_2, tmpR_if, ro_sliceData, ro_capNil, ro_noZero, ext_2, ext_3, ext_4, ext_5, List.set_set]
        exact ⟨(Frm.refl.set (.inl hdi)).app, [di], (Rf.clr (d := ⟨d.most, 1, [], d.bad⟩) (sv := .slice none 0 0) hi rfl rfl).frm0 Frm.refl.app, fun x hx => .inl (by simp at hx; subst hx; exact hdi)⟩
      · have ht : d.tell c = [fr d.held] := by simp [DS.tell, hp1, hc1, hne]
        obtain ⟨x, r, hx⟩ : ∃ x r, d.held = x :: r := by
          cases hq : d.held with
          | nil => exact absurd hq hne
          | cons x r => exact ⟨x, r, rfl⟩
        have hf : frow (tellF d c) = [.int .i64 ((x.toNat / 16 : Nat) : Int), .int .i64 ((x.toNat % 16 : Nat) : Int), txt r] := by simp [tellF, ht, frow, fr, hx]
        have hbq : tellB d c = true := by simp [tellB, ht]
        rw [hf, hbq]
        rw [hx] at hd hform hh
        obtain ⟨b, o, cs, rfl, _, hb2, hlen, hcc, hrow⟩ := hform (by simp)
        have hbl := lt_of_some hb2
        have c0 : cs[o]? = some (.int .u8 x.toNat) := by simpa using hrow 0 x rfl
        have hxx := x.toNat_lt
        have hw := wrap_i64 (n := (x.toNat : Int)) (by omega) (by omega)
        have hq3 : (x.toNat : Int).tdiv 16 = ((x.toNat / 16 : Nat) : Int) := by rw [Int.tdiv_eq_ediv_of_nonneg (by omega)]; simp
        have hq2 : (x.toNat : Int).tmod 16 = ((x.toNat % 16 : Nat) : Int) := by rw [Int.tmod_eq_emod_of_nonneg (by omega)]; simp
        have hw5 : IntKind.i64.wrap ((x.toNat / 16 : Nat) : Int) = ((x.toNat / 16 : Nat) : Int) := wrap_i64 (by omega) (by omega)
        have hw4 : IntKind.i64.wrap ((x.toNat % 16 : Nat) : Int) = ((x.toNat % 16 : Nat) : Int) := wrap_i64 (by omega) (by omega)
        have hcut : (cs.drop (o + 1)).take r.length = byteCells r := by
          have : (cs.drop o).take (r.length + 1) = byteCells (x :: r) := by simpa using hcc
          rw [byteCells_cons] at this
          have h2 := congrArg (List.drop 1) this
          simp only [List.drop_succ_cons, List.drop_zero] at h2
          rw [← h2, List.drop_take, List.drop_drop]; rfl
        have hpos : ((0 : Int) < ((r.length + 1 : Nat) : Int)) = True := eq_true (by omega)
        have hlen' : o + 1 + r.length ≤ cs.length := by simp at hlen; omega
        simp (contextual := true) (implicitDefEqProofs := false) (maxSteps := 2000000) (disch := first | rfl | exact Nat.le_of_ble_eq_true rfl | omega | (simp only [List.length_append, List.length_cons, List.length_nil, List.length_set]; omega)) only [L40, hd, hk1, hb2, c0, hw, hq2, hq3, hw4, hw5, hpos, Nat.add_sub_cancel, hlen', hcut, bytesL_cells, W1, W2, W3, W4, W5, W6, W7, W8, W9, W10, W11, W12, W13, W14, W15, eq_self, ite_true, ite_false, undef_eq, List.set_cons_zero, List.set_cons_succ, List.getD_cons_zero, List.getD_cons_succ, List.map_cons, List.map_nil, List.length_cons, List.length_nil, List.append_nil, List.cons_append, List.nil_append, List.replicate_succ, List.replicate_zero, Nat.reduceAdd, Nat.reduceSub, ↓reduceIte, List.getElem?_cons_zero, List.getElem?_cons_succ, basic, cellsL, resOf, setAt, List.append_assoc, List.length_append, List.getElem?_append_left, List.getElem?_append_right, List.set_append_left, List.set_append_right, below, belowB, belowA, atomB, List.mem_cons, List.not_mem_nil, forall_eq_or_imp, forall_eq, List.toList_toArray, implies_true, List.take_succ_cons, List.take_zero, List.drop_succ_cons, List.drop_zero, List.take_nil, List.drop_nil, Nat.reduceLeDiff, Nat.reduceMul, Int.reduceToNat, Int.reduceLT, Int.reduceLE, Int.reduceAdd, Int.reduceNeg, Int.reduceEq, splice, List.singleton_append, Nat.reduceEqDiff, Nat.reduceLT, isAtom, List.all_cons, List.all_nil, Option.map_some, Option.bind_some, List.length_set, Int.reduceSub, Int.reduceMul, List.getElem?_set_self, List.getElem?_set_ne, ofB_2, tmpR_if, ro_sliceData, ro_capNil, ro_noZero, ext_2, ext_3, ext_4, ext_5, List.set_set]
        exact ⟨(Frm.refl.set (.inl hdi)).app, [di], (Rf.clr (d := ⟨d.most, 1, [], d.bad⟩) (sv := .slice none 0 0) hi rfl rfl).frm0 Frm.refl.app, fun x hx => .inl (by simp at hx; subst hx; exact hdi)⟩
    have hk1 : ((c.toNat : Int) = 192) = False := (c_eq c 192).trans (eq_false hc1)
    have ht : d.tell c = [] := by simp [DS.tell, hc1]
    have hf : frow (tellF d c) = [.int .i64 0, .int .i64 0, .string ⟨#[]⟩] := by simp [tellF, ht, frow, txt]
    have hbq : tellB d c = false := by simp [tellB, ht]
    rw [hf, hbq]
    by_cases hc2 : c = 219
    · have hk2 : ((c.toNat : Int) = 219) = True := (c_eq c 219).trans (eq_true hc2)
      have hst : d.step c = ⟨d.most, 2, d.held, d.bad⟩ := by simp [DS.step, hp1, hc2]
      rw [hst]
      simp (contextual := true) (implicitDefEqProofs := false) (maxSteps := 2000000) (disch := first | rfl | exact Nat.le_of_ble_eq_true rfl | omega | (simp only [List.length_append, List.length_cons, List.length_nil, List.length_set]; omega)) only [L40, hd, hk1, hk2, W1, W2, W3, W4, W5, W6, W7, W8, W9, W10, W11, W12, W13, W14, W15, eq_self, ite_true, ite_false, undef_eq, List.set_cons_zero, List.set_cons_succ, List.getD_cons_zero, List.getD_cons_succ, List.map_cons, List.map_nil, List.length_cons, List.length_nil, List.append_nil, List.cons_append, List.nil_append, List.replicate_succ, List.replicate_zero, Nat.reduceAdd, Nat.reduceSub, ↓reduceIte, List.getElem?_cons_zero, List.getElem?_cons_succ, basic, cellsL, resOf, setAt, List.append_assoc, List.length_append, List.getElem?_append_left, List.getElem?_append_right, List.set_append_left, List.set_append_right, below, belowB, belowA, atomB, List.mem_cons, List.not_mem_nil, forall_eq_or_imp, forall_eq, List.toList_toArray, implies_true, List.take_succ_cons, List.take_zero, List.drop_succ_cons, List.drop_zero, List.take_nil, List.drop_nil, Nat.reduceLeDiff, Nat.reduceMul, Int.reduceToNat, Int.reduceLT, Int.reduceLE, Int.reduceAdd, Int.reduceNeg, Int.reduceEq, splice, List.singleton_append, Nat.reduceEqDiff, Nat.reduceLT, isAtom, List.all_cons, List.all_nil, Option.map_some, Option.bind_some, List.length_set, Int.reduceSub, Int.reduceMul, List.getElem?_set_self, List.getElem?_set_ne, ofB_2, tmpR_if, ro_sliceData, ro_capNil, ro_noZero, ext_2, ext_3, ext_4, ext_5, List.set_set]
      exact ⟨(Frm.refl.set (.inl hdi)).app, F, (h.keep (d' := ⟨d.most, 2, d.held, d.bad⟩) hd rfl).frm0 Frm.refl.app, fun x hx => .inl hx⟩
    have hk2 : ((c.toNat : Int) = 219) = False := (c_eq c 219).trans (eq_false hc2)
    have hst : d.step c = d.take c := by simp [DS.step, hp1, hc1, hc2]
    rw [hst]
    by_cases hroom : d.held.length < d.most
    · have hfull : ((d.held.length : Int) = (d.most : Int)) = False := eq_false (by omega)
      have htk : d.take c = ⟨d.most, 1, d.held ++ [c], d.bad⟩ := by simp [DS.take, hroom]
      rw [htk]
      simp (contextual := true) (implicitDefEqProofs := false) (maxSteps := 2000000) (disch := first | rfl | exact Nat.le_of_ble_eq_true rfl | omega | (simp only [List.length_append, List.length_cons, List.length_nil, List.length_set]; omega)) only [L40, hd, hk1, hk2, hfull, hwc, hwu, W1, W2, W3, W4, W5, W6, W7, W8, W9, W10, W11, ops_nil, ops_n, ops_g, guardK_it, guardK_if, guardK_u, CondP_t, CondP_f, ex_call, pickK_it, loadK_p, loadNK_p, storeB_s, cellB_s, cellB_r, cellsB_s, cellsB_r, condK_it, lc_skip, lc_region, lc_draw, lc_seq, lc_cond, lc_block, lc_exit, lc_ret, then_n, then_e, then_r, block_n, block_r, block_e, bin_add, bin_sub, bin_mul, bin_quo, bin_rem, bin_and, bin_or, bin_xor, bin_andNot, bin_eql, bin_neq, bin_lss, bin_leq, bin_gtr, bin_geq, bin_shl, bin_shr, bin_sadd, bin_seql, bin_sneq, un_not, un_neg, eqL_b, eqL_i, eqL_s, eqL_pnn, eqL_pns, eqL_psn, eqL_pp, eqL_slnn, eqL_slns, eqL_slsn, ex_callv, slB_e, slB_r, apB_e, lc_chain, lc_bad, putBK_s, lc_label, lc_goto, then_g, block_g, jump_g, jump_n, jump_r, jump_e, lf_seq, lf_label, eq_self, ite_true, ite_false, undef_eq, List.set_cons_zero, List.set_cons_succ, List.getD_cons_zero, List.getD_cons_succ, List.map_cons, List.map_nil, List.length_cons, List.length_nil, List.append_nil, List.cons_append, List.nil_append, List.replicate_succ, List.replicate_zero, Nat.reduceAdd, Nat.reduceSub, ↓reduceIte, List.getElem?_cons_zero, List.getElem?_cons_succ, basic, cellsL, resOf, setAt, List.append_assoc, List.length_append, List.getElem?_append_left, List.getElem?_append_right, List.set_append_left, List.set_append_right, below, belowB, belowA, atomB, List.mem_cons, List.not_mem_nil, forall_eq_or_imp, forall_eq, List.toList_toArray, implies_true, List.take_succ_cons, List.take_zero, List.drop_succ_cons, List.drop_zero, List.take_nil, List.drop_nil, Nat.reduceLeDiff, Nat.reduceMul, Int.reduceToNat, Int.reduceLT, Int.reduceLE, Int.reduceAdd, Int.reduceNeg, Int.reduceEq, splice, List.singleton_append, Nat.reduceEqDiff, Nat.reduceLT, isAtom, List.all_cons, List.all_nil, Option.map_some, Option.bind_some, List.length_set, Int.reduceSub, Int.reduceMul, List.getElem?_set_self, List.getElem?_set_ne, ofB_2, tmpR_if, ro_sliceData, ro_capNil, ro_noZero, ext_2, ext_3, ext_4, ext_5, List.set_set]
      rw [new_rows (hs.frm0 Frm.refl.app)]
      refine app_any (rows := []) (bytes := 1) (Sl.make (cs := []) (by simp) (by simp) rfl rfl) (new := d.held.map bRow) (by simp) (bRows_len _) rfl (by simp; omega) ?_
      intro v1 M1 G1 hM1 hf1 hs1 hG1
      rw [List.nil_append] at hs1
      obtain ⟨a1, rfl, _⟩ := By.form hs1
      simp (contextual := true) (implicitDefEqProofs := false) (maxSteps := 2000000) (disch := first | rfl | exact Nat.le_of_ble_eq_true rfl | omega | (simp only [List.length_append, List.length_cons, List.length_nil, List.length_set]; omega)) only [hwu, W1, W2, W3, W4, W5, W6, W7, W8, W9, W10, W11, ops_nil, ops_n, ops_g, guardK_it, guardK_if, guardK_u, CondP_t, CondP_f, ex_call, pickK_it, loadK_p, loadNK_p, storeB_s, cellB_s, cellB_r, cellsB_s, cellsB_r, condK_it, lc_skip, lc_region, lc_draw, lc_seq, lc_cond, lc_block, lc_exit, lc_ret, then_n, then_e, then_r, block_n, block_r, block_e, bin_add, bin_sub, bin_mul, bin_quo, bin_rem, bin_and, bin_or, bin_xor, bin_andNot, bin_eql, bin_neq, bin_lss, bin_leq, bin_gtr, bin_geq, bin_shl, bin_shr, bin_sadd, bin_seql, bin_sneq, un_not, un_neg, eqL_b, eqL_i, eqL_s, eqL_pnn, eqL_pns, eqL_psn, eqL_pp, eqL_slnn, eqL_slns, eqL_slsn, ex_callv, slB_e, slB_r, apB_e, lc_chain, lc_bad, putBK_s, lc_label, lc_goto, then_g, block_g, jump_g, jump_n, jump_r, jump_e, lf_seq, lf_label, eq_self, ite_true, ite_false, undef_eq, List.set_cons_zero, List.set_cons_succ, List.getD_cons_zero, List.getD_cons_succ, List.map_cons, List.map_nil, List.length_cons, List.length_nil, List.append_nil, List.cons_append, List.nil_append, List.replicate_succ, List.replicate_zero, Nat.reduceAdd, Nat.reduceSub, ↓reduceIte, List.getElem?_cons_zero, List.getElem?_cons_succ, basic, cellsL, resOf, setAt, List.append_assoc, List.length_append, List.getElem?_append_left, List.getElem?_append_right, List.set_append_left, List.set_append_right, below, belowB, belowA, atomB, List.mem_cons, List.not_mem_nil, forall_eq_or_imp, forall_eq, List.toList_toArray, implies_true, List.take_succ_cons, List.take_zero, List.drop_succ_cons, List.drop_zero, List.take_nil, List.drop_nil, Nat.reduceLeDiff, Nat.reduceMul, Int.reduceToNat, Int.reduceLT, Int.reduceLE, Int.reduceAdd, Int.reduceNeg, Int.reduceEq, splice, List.singleton_append, Nat.reduceEqDiff, Nat.reduceLT, isAtom, List.all_cons, List.all_nil, Option.map_some, Option.bind_some, List.length_set, Int.reduceSub, Int.reduceMul, List.getElem?_set_self, List.getElem?_set_ne, ofB_2, tmpR_if, ro_sliceData, ro_capNil, ro_noZero, ext_2, ext_3, ext_4, ext_5, List.set_set]
      refine app_bytes (new := [c]) (Sl.frm0 hs1 Frm.refl.app) rfl rfl (by omega) ?_
      intro v2 M2 G2 hM2 hf2 hs2 hG2
      have hfx := appchain (by simp) hf1 hG1 hf2 hG2
      have hdM := hfx.1.get0 (i := di) (by rw [List.getElem?_append_left (by simpa using hi)]; exact hd)
      have hz1 := hfx.1.get0 (i := m.length) (b := ⟨[.int .i64 0, .int .i64 0, .string ⟨#[]⟩], 30, 1, 0, .own⟩) (by rw [List.getElem?_append_right (by simp)]; simp)
      have hz2 := hfx.1.get0 (i := m.length + 1) (b := ⟨[.int .i64 0, .int .i64 0, .string ⟨#[]⟩], 30, 1, 0, .own⟩) (by rw [List.getElem?_append_right (by simp)]; simp)
      have hdl := lt_of_some hdM
      have hzl1 := lt_of_some hz1
      have hzl2 := lt_of_some hz2
      have hne1 : m.length ≠ di := by omega
      have hne2 : m.length + 1 ≠ di := by omega
      have e : (d.held ++ [c]).length = d.held.length + 1 := by simp
      obtain ⟨a2, rfl, _⟩ := By.form hs2
      rw [e] at hs2
      have hdG : ∀ x ∈ G2, m.length + 2 ≤ x := fun x hx => by have := hfx.2 x hx; simp at this; omega
      have hdG1 : di ∉ G2 := fun hx => by have := hdG di hx; omega
      have hdG2 : m.length ∉ G2 := fun hx => by have := hdG _ hx; omega
      simp (contextual := true) (implicitDefEqProofs := false) (maxSteps := 2000000) (disch := first | rfl | exact Nat.le_of_ble_eq_true rfl | omega | (simp only [List.length_append, List.length_cons, List.length_nil, List.length_set]; omega)) only [hdM, e, hz1, hz2, hne1, hne2, W1, W2, W3, W4, W5, W6, W7, W8, W9, W10, W11, W12, W13, W14, W15, eq_self, ite_true, ite_false, undef_eq, List.set_cons_zero, List.set_cons_succ, List.getD_cons_zero, List.getD_cons_succ, List.map_cons, List.map_nil, List.length_cons, List.length_nil, List.append_nil, List.cons_append, List.nil_append, List.replicate_succ, List.replicate_zero, Nat.reduceAdd, Nat.reduceSub, ↓reduceIte, List.getElem?_cons_zero, List.getElem?_cons_succ, basic, cellsL, resOf, setAt, List.append_assoc, List.length_append, List.getElem?_append_left, List.getElem?_append_right, List.set_append_left, List.set_append_right, below, belowB, belowA, atomB, List.mem_cons, List.not_mem_nil, forall_eq_or_imp, forall_eq, List.toList_toArray, implies_true, List.take_succ_cons, List.take_zero, List.drop_succ_cons, List.drop_zero, List.take_nil, List.drop_nil, Nat.reduceLeDiff, Nat.reduceMul, Int.reduceToNat, Int.reduceLT, Int.reduceLE, Int.reduceAdd, Int.reduceNeg, Int.reduceEq, splice, List.singleton_append, Nat.reduceEqDiff, Nat.reduceLT, isAtom, List.all_cons, List.all_nil, Option.map_some, Option.bind_some, List.length_set, Int.reduceSub, Int.reduceMul, List.getElem?_set_self, List.getElem?_set_ne, ofB_2, tmpR_if, ro_sliceData, ro_capNil, ro_noZero, ext_2, ext_3, ext_4, ext_5, List.set_set]
      refine ⟨?_, di :: G2, ⟨.slice a2 (d.held.length + 1) (d.held.length + 1), G2, rfl, hdG1, ?_, ?_⟩, fun x hx => ?_⟩
      · exact (((Frm.refl (F := F)).app.trans hfx.1 (by simp)).set (.inl hdi)).set (.inr (Nat.le_refl _))
      · rw [List.getElem?_set_ne (by omega), List.getElem?_set_self hdl]; rfl
      · exact (hs2.setb hdG1).setb hdG2
      · rcases List.mem_cons.mp hx with rfl | hx
        · exact .inl hdi
        · have := hdG x hx; exact .inr (by omega)
    · have hfull : ((d.held.length : Int) = (d.most : Int)) = True := eq_true (by omega)
      have htk : d.take c = d.drop := by simp [DS.take, hroom]
      rw [htk]
      simp (contextual := true) (implicitDefEqProofs := false) (maxSteps := 2000000) (disch := first | rfl | exact Nat.le_of_ble_eq_true rfl | omega | (simp only [List.length_append, List.length_cons, List.length_nil, List.length_set]; omega)) only [L40, hd, hk1, hk2, hfull, hwc, hwb, W1, W2, W3, W4, W5, W6, W7, W8, W9, W10, W11, W12, W13, W14, W15, eq_self, ite_true, ite_false, undef_eq, List.set_cons_zero, List.set_cons_succ, List.getD_cons_zero, List.getD_cons_succ, List.map_cons, List.map_nil, List.length_cons, List.length_nil, List.append_nil, List.cons_append, List.nil_append, List.replicate_succ, List.replicate_zero, Nat.reduceAdd, Nat.reduceSub, ↓reduceIte, List.getElem?_cons_zero, List.getElem?_cons_succ, basic, cellsL, resOf, setAt, List.append_assoc, List.length_append, List.getElem?_append_left, List.getElem?_append_right, List.set_append_left, List.set_append_right, below, belowB, belowA, atomB, List.mem_cons, List.not_mem_nil, forall_eq_or_imp, forall_eq, List.toList_toArray, implies_true, List.take_succ_cons, List.take_zero, List.drop_succ_cons, List.drop_zero, List.take_nil, List.drop_nil, Nat.reduceLeDiff, Nat.reduceMul, Int.reduceToNat, Int.reduceLT, Int.reduceLE, Int.reduceAdd, Int.reduceNeg, Int.reduceEq, splice, List.singleton_append, Nat.reduceEqDiff, Nat.reduceLT, isAtom, List.all_cons, List.all_nil, Option.map_some, Option.bind_some, List.length_set, Int.reduceSub, Int.reduceMul, List.getElem?_set_self, List.getElem?_set_ne, ofB_2, tmpR_if, ro_sliceData, ro_capNil, ro_noZero, ext_2, ext_3, ext_4, ext_5, List.set_set]
      exact ⟨(Frm.refl.set (.inl hdi)).app, [di], (Rf.clr (d := d.drop) (sv := .slice none 0 0) hi rfl rfl).frm0 Frm.refl.app, fun x hx => .inl (by simp at hx; subst hx; exact hdi)⟩
  · have hp2 : d.pl = 2 := by have := hk.p; omega
    rw [hp2] at hd
    have ht : d.tell c = [] := by simp [DS.tell, hp1]
    have hf : frow (tellF d c) = [.int .i64 0, .int .i64 0, .string ⟨#[]⟩] := by simp [tellF, ht, frow, txt]
    have hbq : tellB d c = false := by simp [tellB, ht]
    rw [hf, hbq]
    have hs3 := hs.setb (B := ⟨[.int .i64 d.most, .int .i64 1, .int .i64 d.bad, .slice a d.held.length d.held.length], 41, 1, 0, .own⟩) hH
    have hd3 : (m.set di ⟨[.int .i64 d.most, .int .i64 1, .int .i64 d.bad, .slice a d.held.length d.held.length], 41, 1, 0, .own⟩)[di]? = some ⟨[.int .i64 d.most, .int .i64 1, .int .i64 d.bad, .slice a d.held.length d.held.length], 41, 1, 0, .own⟩ := by rw [List.getElem?_set_self hi]
    by_cases hq220 : c = 220
    · have hk220 : ((c.toNat : Int) = 220) = True := (c_eq c 220).trans (eq_true hq220)
      have hk221 : ((c.toNat : Int) = 221) = False := (c_eq c 221).trans (eq_false (by rw [hq220]; decide))
      have hst : d.step c = d.take 192 := by simp [DS.step, hp2, hq220]
      rw [hst]
      by_cases hroom : d.held.length < d.most
      · have hfull : ((d.held.length : Int) = (d.most : Int)) = False := eq_false (by omega)
        have htk : d.take 192 = ⟨d.most, 1, d.held ++ [192], d.bad⟩ := by simp [DS.take, hroom]
        rw [htk]
        simp (contextual := true) (implicitDefEqProofs := false) (maxSteps := 2000000) (disch := first | rfl | exact Nat.le_of_ble_eq_true rfl | omega | (simp only [List.length_append, List.length_cons, List.length_nil, List.length_set]; omega)) only [L40, hd, hk220, hk221, hfull, hw192, W1, W2, W3, W4, W5, W6, W7, W8, W9, W10, W11, ops_nil, ops_n, ops_g, guardK_it, guardK_if, guardK_u, CondP_t, CondP_f, ex_call, pickK_it, loadK_p, loadNK_p, storeB_s, cellB_s, cellB_r, cellsB_s, cellsB_r, condK_it, lc_skip, lc_region, lc_draw, lc_seq, lc_cond, lc_block, lc_exit, lc_ret, then_n, then_e, then_r, block_n, block_r, block_e, bin_add, bin_sub, bin_mul, bin_quo, bin_rem, bin_and, bin_or, bin_xor, bin_andNot, bin_eql, bin_neq, bin_lss, bin_leq, bin_gtr, bin_geq, bin_shl, bin_shr, bin_sadd, bin_seql, bin_sneq, un_not, un_neg, eqL_b, eqL_i, eqL_s, eqL_pnn, eqL_pns, eqL_psn, eqL_pp, eqL_slnn, eqL_slns, eqL_slsn, ex_callv, slB_e, slB_r, apB_e, lc_chain, lc_bad, putBK_s, lc_label, lc_goto, then_g, block_g, jump_g, jump_n, jump_r, jump_e, lf_seq, lf_label, eq_self, ite_true, ite_false, undef_eq, List.set_cons_zero, List.set_cons_succ, List.getD_cons_zero, List.getD_cons_succ, List.map_cons, List.map_nil, List.length_cons, List.length_nil, List.append_nil, List.cons_append, List.nil_append, List.replicate_succ, List.replicate_zero, Nat.reduceAdd, Nat.reduceSub, ↓reduceIte, List.getElem?_cons_zero, List.getElem?_cons_succ, basic, cellsL, resOf, setAt, List.append_assoc, List.length_append, List.getElem?_append_left, List.getElem?_append_right, List.set_append_left, List.set_append_right, below, belowB, belowA, atomB, List.mem_cons, List.not_mem_nil, forall_eq_or_imp, forall_eq, List.toList_toArray, implies_true, List.take_succ_cons, List.take_zero, List.drop_succ_cons, List.drop_zero, List.take_nil, List.drop_nil, Nat.reduceLeDiff, Nat.reduceMul, Int.reduceToNat, Int.reduceLT, Int.reduceLE, Int.reduceAdd, Int.reduceNeg, Int.reduceEq, splice, List.singleton_append, Nat.reduceEqDiff, Nat.reduceLT, isAtom, List.all_cons, List.all_nil, Option.map_some, Option.bind_some, List.length_set, Int.reduceSub, Int.reduceMul, List.getElem?_set_self, List.getElem?_set_ne, ofB_2, tmpR_if, ro_sliceData, ro_capNil, ro_noZero, ext_2, ext_3, ext_4, ext_5, List.set_set]
        rw [new_rows (hs3.frm0 Frm.refl.app)]
        refine app_any (rows := []) (bytes := 1) (Sl.make (cs := []) (by simp) (by simp) rfl rfl) (new := d.held.map bRow) (by simp) (bRows_len _) rfl (by simp; omega) ?_
        intro v1 M1 G1 hM1 hf1 hs1 hG1
        rw [List.nil_append] at hs1
        obtain ⟨a1, rfl, _⟩ := By.form hs1
        simp (contextual := true) (implicitDefEqProofs := false) (maxSteps := 2000000) (disch := first | rfl | exact Nat.le_of_ble_eq_true rfl | omega | (simp only [List.length_append, List.length_cons, List.length_nil, List.length_set]; omega)) only [hw192, W1, W2, W3, W4, W5, W6, W7, W8, W9, W10, W11, ops_nil, ops_n, ops_g, guardK_it, guardK_if, guardK_u, CondP_t, CondP_f, ex_call, pickK_it, loadK_p, loadNK_p, storeB_s, cellB_s, cellB_r, cellsB_s, cellsB_r, condK_it, lc_skip, lc_region, lc_draw, lc_seq, lc_cond, lc_block, lc_exit, lc_ret, then_n, then_e, then_r, block_n, block_r, block_e, bin_add, bin_sub, bin_mul, bin_quo, bin_rem, bin_and, bin_or, bin_xor, bin_andNot, bin_eql, bin_neq, bin_lss, bin_leq, bin_gtr, bin_geq, bin_shl, bin_shr, bin_sadd, bin_seql, bin_sneq, un_not, un_neg, eqL_b, eqL_i, eqL_s, eqL_pnn, eqL_pns, eqL_psn, eqL_pp, eqL_slnn, eqL_slns, eqL_slsn, ex_callv, slB_e, slB_r, apB_e, lc_chain, lc_bad, putBK_s, lc_label, lc_goto, then_g, block_g, jump_g, jump_n, jump_r, jump_e, lf_seq, lf_label, eq_self, ite_true, ite_false, undef_eq, List.set_cons_zero, List.set_cons_succ, List.getD_cons_zero, List.getD_cons_succ, List.map_cons, List.map_nil, List.length_cons, List.length_nil, List.append_nil, List.cons_append, List.nil_append, List.replicate_succ, List.replicate_zero, Nat.reduceAdd, Nat.reduceSub, ↓reduceIte, List.getElem?_cons_zero, List.getElem?_cons_succ, basic, cellsL, resOf, setAt, List.append_assoc, List.length_append, List.getElem?_append_left, List.getElem?_append_right, List.set_append_left, List.set_append_right, below, belowB, belowA, atomB, List.mem_cons, List.not_mem_nil, forall_eq_or_imp, forall_eq, List.toList_toArray, implies_true, List.take_succ_cons, List.take_zero, List.drop_succ_cons, List.drop_zero, List.take_nil, List.drop_nil, Nat.reduceLeDiff, Nat.reduceMul, Int.reduceToNat, Int.reduceLT, Int.reduceLE, Int.reduceAdd, Int.reduceNeg, Int.reduceEq, splice, List.singleton_append, Nat.reduceEqDiff, Nat.reduceLT, isAtom, List.all_cons, List.all_nil, Option.map_some, Option.bind_some, List.length_set, Int.reduceSub, Int.reduceMul, List.getElem?_set_self, List.getElem?_set_ne, ofB_2, tmpR_if, ro_sliceData, ro_capNil, ro_noZero, ext_2, ext_3, ext_4, ext_5, List.set_set]
        refine app_bytes (new := [192]) (Sl.frm0 hs1 Frm.refl.app) rfl rfl (by omega) ?_
        intro v2 M2 G2 hM2 hf2 hs2 hG2
        have hfx := appchain (by simp) hf1 hG1 hf2 hG2
        have hdM := hfx.1.get0 (i := di) (by rw [List.getElem?_append_left (by simpa using hi)]; exact hd3)
        have hz1 := hfx.1.get0 (i := m.length) (b := ⟨[.int .i64 0, .int .i64 0, .string ⟨#[]⟩], 30, 1, 0, .own⟩) (by rw [List.getElem?_append_right (by simp)]; simp)
        have hz2 := hfx.1.get0 (i := m.length + 1) (b := ⟨[.int .i64 0, .int .i64 0, .string ⟨#[]⟩], 30, 1, 0, .own⟩) (by rw [List.getElem?_append_right (by simp)]; simp)
        have hdl := lt_of_some hdM
        have hzl1 := lt_of_some hz1
        have hzl2 := lt_of_some hz2
        have hne1 : m.length ≠ di := by omega
        have hne2 : m.length + 1 ≠ di := by omega
        have e : (d.held ++ [192]).length = d.held.length + 1 := by simp
        obtain ⟨a2, rfl, _⟩ := By.form hs2
        rw [e] at hs2
        have hdG : ∀ x ∈ G2, m.length + 2 ≤ x := fun x hx => by have := hfx.2 x hx; simp at this; omega
        have hdG1 : di ∉ G2 := fun hx => by have := hdG di hx; omega
        have hdG2 : m.length ∉ G2 := fun hx => by have := hdG _ hx; omega
        simp (contextual := true) (implicitDefEqProofs := false) (maxSteps := 2000000) (disch := first | rfl | exact Nat.le_of_ble_eq_true rfl | omega | (simp only [List.length_append, List.length_cons, List.length_nil, List.length_set]; omega)) only [hdM, e, hz1, hz2, hne1, hne2, W1, W2, W3, W4, W5, W6, W7, W8, W9, W10, W11, W12, W13, W14, W15, eq_self, ite_true, ite_false, undef_eq, List.set_cons_zero, List.set_cons_succ, List.getD_cons_zero, List.getD_cons_succ, List.map_cons, List.map_nil, List.length_cons, List.length_nil, List.append_nil, List.cons_append, List.nil_append, List.replicate_succ, List.replicate_zero, Nat.reduceAdd, Nat.reduceSub, ↓reduceIte, List.getElem?_cons_zero, List.getElem?_cons_succ, basic, cellsL, resOf, setAt, List.append_assoc, List.length_append, List.getElem?_append_left, List.getElem?_append_right, List.set_append_left, List.set_append_right, below, belowB, belowA, atomB, List.mem_cons, List.not_mem_nil, forall_eq_or_imp, forall_eq, List.toList_toArray, implies_true, List.take_succ_cons, List.take_zero, List.drop_succ_cons, List.drop_zero, List.take_nil, List.drop_nil, Nat.reduceLeDiff, Nat.reduceMul, Int.reduceToNat, Int.reduceLT, Int.reduceLE, Int.reduceAdd, Int.reduceNeg, Int.reduceEq, splice, List.singleton_append, Nat.reduceEqDiff, Nat.reduceLT, isAtom, List.all_cons, List.all_nil, Option.map_some, Option.bind_some, List.length_set, Int.reduceSub, Int.reduceMul, List.getElem?_set_self, List.getElem?_set_ne, ofB_2, tmpR_if, ro_sliceData, ro_capNil, ro_noZero, ext_2, ext_3, ext_4, ext_5, List.set_set]
        refine ⟨?_, di :: G2, ⟨.slice a2 (d.held.length + 1) (d.held.length + 1), G2, rfl, hdG1, ?_, ?_⟩, fun x hx => ?_⟩
        · exact ((((Frm.refl (F := F)).set (.inl hdi)).app.trans hfx.1 (by simp)).set (.inl hdi)).set (.inr (Nat.le_refl _))
        · rw [List.getElem?_set_ne (by omega), List.getElem?_set_self hdl]; rfl
        · exact (hs2.setb hdG1).setb hdG2
        · rcases List.mem_cons.mp hx with rfl | hx
          · exact .inl hdi
          · have := hdG x hx; exact .inr (by omega)
      · have hfull : ((d.held.length : Int) = (d.most : Int)) = True := eq_true (by omega)
        have htk : d.take 192 = d.drop := by simp [DS.take, hroom]
        rw [htk]
        simp (contextual := true) (implicitDefEqProofs := false) (maxSteps := 2000000) (disch := first | rfl | exact Nat.le_of_ble_eq_true rfl | omega | (simp only [List.length_append, List.length_cons, List.length_nil, List.length_set]; omega)) only [L40, hd, hk220, hk221, hfull, hwb, W1, W2, W3, W4, W5, W6, W7, W8, W9, W10, W11, W12, W13, W14, W15, eq_self, ite_true, ite_false, undef_eq, List.set_cons_zero, List.set_cons_succ, List.getD_cons_zero, List.getD_cons_succ, List.map_cons, List.map_nil, List.length_cons, List.length_nil, List.append_nil, List.cons_append, List.nil_append, List.replicate_succ, List.replicate_zero, Nat.reduceAdd, Nat.reduceSub, ↓reduceIte, List.getElem?_cons_zero, List.getElem?_cons_succ, basic, cellsL, resOf, setAt, List.append_assoc, List.length_append, List.getElem?_append_left, List.getElem?_append_right, List.set_append_left, List.set_append_right, below, belowB, belowA, atomB, List.mem_cons, List.not_mem_nil, forall_eq_or_imp, forall_eq, List.toList_toArray, implies_true, List.take_succ_cons, List.take_zero, List.drop_succ_cons, List.drop_zero, List.take_nil, List.drop_nil, Nat.reduceLeDiff, Nat.reduceMul, Int.reduceToNat, Int.reduceLT, Int.reduceLE, Int.reduceAdd, Int.reduceNeg, Int.reduceEq, splice, List.singleton_append, Nat.reduceEqDiff, Nat.reduceLT, isAtom, List.all_cons, List.all_nil, Option.map_some, Option.bind_some, List.length_set, Int.reduceSub, Int.reduceMul, List.getElem?_set_self, List.getElem?_set_ne, ofB_2, tmpR_if, ro_sliceData, ro_capNil, ro_noZero, ext_2, ext_3, ext_4, ext_5, List.set_set]
        exact ⟨(Frm.refl.set (.inl hdi)).app, [di], (Rf.clr (d := d.drop) (sv := .slice none 0 0) hi rfl rfl).frm0 Frm.refl.app, fun x hx => .inl (by simp at hx; subst hx; exact hdi)⟩
    have hk220 : ((c.toNat : Int) = 220) = False := (c_eq c 220).trans (eq_false hq220)
    by_cases hq221 : c = 221
    · have hk221 : ((c.toNat : Int) = 221) = True := (c_eq c 221).trans (eq_true hq221)
      have hk220 : ((c.toNat : Int) = 220) = False := (c_eq c 220).trans (eq_false (by rw [hq221]; decide))
      have hst : d.step c = d.take 219 := by simp [DS.step, hp2, hq221]
      rw [hst]
      by_cases hroom : d.held.length < d.most
      · have hfull : ((d.held.length : Int) = (d.most : Int)) = False := eq_false (by omega)
        have htk : d.take 219 = ⟨d.most, 1, d.held ++ [219], d.bad⟩ := by simp [DS.take, hroom]
        rw [htk]
        simp (contextual := true) (implicitDefEqProofs := false) (maxSteps := 2000000) (disch := first | rfl | exact Nat.le_of_ble_eq_true rfl | omega | (simp only [List.length_append, List.length_cons, List.length_nil, List.length_set]; omega)) only [L40, hd, hk220, hk221, hfull, hw219, W1, W2, W3, W4, W5, W6, W7, W8, W9, W10, W11, ops_nil, ops_n, ops_g, guardK_it, guardK_if, guardK_u, CondP_t, CondP_f, ex_call, pickK_it, loadK_p, loadNK_p, storeB_s, cellB_s, cellB_r, cellsB_s, cellsB_r, condK_it, lc_skip, lc_region, lc_draw, lc_seq, lc_cond, lc_block, lc_exit, lc_ret, then_n, then_e, then_r, block_n, block_r, block_e, bin_add, bin_sub, bin_mul, bin_quo, bin_rem, bin_and, bin_or, bin_xor, bin_andNot, bin_eql, bin_neq, bin_lss, bin_leq, bin_gtr, bin_geq, bin_shl, bin_shr, bin_sadd, bin_seql, bin_sneq, un_not, un_neg, eqL_b, eqL_i, eqL_s, eqL_pnn, eqL_pns, eqL_psn, eqL_pp, eqL_slnn, eqL_slns, eqL_slsn, ex_callv, slB_e, slB_r, apB_e, lc_chain, lc_bad, putBK_s, lc_label, lc_goto, then_g, block_g, jump_g, jump_n, jump_r, jump_e, lf_seq, lf_label, eq_self, ite_true, ite_false, undef_eq, List.set_cons_zero, List.set_cons_succ, List.getD_cons_zero, List.getD_cons_succ, List.map_cons, List.map_nil, List.length_cons, List.length_nil, List.append_nil, List.cons_append, List.nil_append, List.replicate_succ, List.replicate_zero, Nat.reduceAdd, Nat.reduceSub, ↓reduceIte, List.getElem?_cons_zero, List.getElem?_cons_succ, basic, cellsL, resOf, setAt, List.append_assoc, List.length_append, List.getElem?_append_left, List.getElem?_append_right, List.set_append_left, List.set_append_right, below, belowB, belowA, atomB, List.mem_cons, List.not_mem_nil, forall_eq_or_imp, forall_eq, List.toList_toArray, implies_true, List.take_succ_cons, List.take_zero, List.drop_succ_cons, List.drop_zero, List.take_nil, List.drop_nil, Nat.reduceLeDiff, Nat.reduceMul, Int.reduceToNat, Int.reduceLT, Int.reduceLE, Int.reduceAdd, Int.reduceNeg, Int.reduceEq, splice, List.singleton_append, Nat.reduceEqDiff, Nat.reduceLT, isAtom, List.all_cons, List.all_nil, Option.map_some, Option.bind_some, List.length_set, Int.reduceSub, Int.reduceMul, List.getElem?_set_self, List.getElem?_set_ne, ofB_2, tmpR_if, ro_sliceData, ro_capNil, ro_noZero, ext_2, ext_3, ext_4, ext_5, List.set_set]
        rw [new_rows (hs3.frm0 Frm.refl.app)]
        refine app_any (rows := []) (bytes := 1) (Sl.make (cs := []) (by simp) (by simp) rfl rfl) (new := d.held.map bRow) (by simp) (bRows_len _) rfl (by simp; omega) ?_
        intro v1 M1 G1 hM1 hf1 hs1 hG1
        rw [List.nil_append] at hs1
        obtain ⟨a1, rfl, _⟩ := By.form hs1
        simp (contextual := true) (implicitDefEqProofs := false) (maxSteps := 2000000) (disch := first | rfl | exact Nat.le_of_ble_eq_true rfl | omega | (simp only [List.length_append, List.length_cons, List.length_nil, List.length_set]; omega)) only [hw219, W1, W2, W3, W4, W5, W6, W7, W8, W9, W10, W11, ops_nil, ops_n, ops_g, guardK_it, guardK_if, guardK_u, CondP_t, CondP_f, ex_call, pickK_it, loadK_p, loadNK_p, storeB_s, cellB_s, cellB_r, cellsB_s, cellsB_r, condK_it, lc_skip, lc_region, lc_draw, lc_seq, lc_cond, lc_block, lc_exit, lc_ret, then_n, then_e, then_r, block_n, block_r, block_e, bin_add, bin_sub, bin_mul, bin_quo, bin_rem, bin_and, bin_or, bin_xor, bin_andNot, bin_eql, bin_neq, bin_lss, bin_leq, bin_gtr, bin_geq, bin_shl, bin_shr, bin_sadd, bin_seql, bin_sneq, un_not, un_neg, eqL_b, eqL_i, eqL_s, eqL_pnn, eqL_pns, eqL_psn, eqL_pp, eqL_slnn, eqL_slns, eqL_slsn, ex_callv, slB_e, slB_r, apB_e, lc_chain, lc_bad, putBK_s, lc_label, lc_goto, then_g, block_g, jump_g, jump_n, jump_r, jump_e, lf_seq, lf_label, eq_self, ite_true, ite_false, undef_eq, List.set_cons_zero, List.set_cons_succ, List.getD_cons_zero, List.getD_cons_succ, List.map_cons, List.map_nil, List.length_cons, List.length_nil, List.append_nil, List.cons_append, List.nil_append, List.replicate_succ, List.replicate_zero, Nat.reduceAdd, Nat.reduceSub, ↓reduceIte, List.getElem?_cons_zero, List.getElem?_cons_succ, basic, cellsL, resOf, setAt, List.append_assoc, List.length_append, List.getElem?_append_left, List.getElem?_append_right, List.set_append_left, List.set_append_right, below, belowB, belowA, atomB, List.mem_cons, List.not_mem_nil, forall_eq_or_imp, forall_eq, List.toList_toArray, implies_true, List.take_succ_cons, List.take_zero, List.drop_succ_cons, List.drop_zero, List.take_nil, List.drop_nil, Nat.reduceLeDiff, Nat.reduceMul, Int.reduceToNat, Int.reduceLT, Int.reduceLE, Int.reduceAdd, Int.reduceNeg, Int.reduceEq, splice, List.singleton_append, Nat.reduceEqDiff, Nat.reduceLT, isAtom, List.all_cons, List.all_nil, Option.map_some, Option.bind_some, List.length_set, Int.reduceSub, Int.reduceMul, List.getElem?_set_self, List.getElem?_set_ne, ofB_2, tmpR_if, ro_sliceData, ro_capNil, ro_noZero, ext_2, ext_3, ext_4, ext_5, List.set_set]
        refine app_bytes (new := [219]) (Sl.frm0 hs1 Frm.refl.app) rfl rfl (by omega) ?_
        intro v2 M2 G2 hM2 hf2 hs2 hG2
        have hfx := appchain (by simp) hf1 hG1 hf2 hG2
        have hdM := hfx.1.get0 (i := di) (by rw [List.getElem?_append_left (by simpa using hi)]; exact hd3)
        have hz1 := hfx.1.get0 (i := m.length) (b := ⟨[.int .i64 0, .int .i64 0, .string ⟨#[]⟩], 30, 1, 0, .own⟩) (by rw [List.getElem?_append_right (by simp)]; simp)
        have hz2 := hfx.1.get0 (i := m.length + 1) (b := ⟨[.int .i64 0, .int .i64 0, .string ⟨#[]⟩], 30, 1, 0, .own⟩) (by rw [List.getElem?_append_right (by simp)]; simp)
        have hdl := lt_of_some hdM
        have hzl1 := lt_of_some hz1
        have hzl2 := lt_of_some hz2
        have hne1 : m.length ≠ di := by omega
        have hne2 : m.length + 1 ≠ di := by omega
        have e : (d.held ++ [219]).length = d.held.length + 1 := by simp
        obtain ⟨a2, rfl, _⟩ := By.form hs2
        rw [e] at hs2
        have hdG : ∀ x ∈ G2, m.length + 2 ≤ x := fun x hx => by have := hfx.2 x hx; simp at this; omega
        have hdG1 : di ∉ G2 := fun hx => by have := hdG di hx; omega
        have hdG2 : m.length ∉ G2 := fun hx => by have := hdG _ hx; omega
        simp (contextual := true) (implicitDefEqProofs := false) (maxSteps := 2000000) (disch := first | rfl | exact Nat.le_of_ble_eq_true rfl | omega | (simp only [List.length_append, List.length_cons, List.length_nil, List.length_set]; omega)) only [hdM, e, hz1, hz2, hne1, hne2, W1, W2, W3, W4, W5, W6, W7, W8, W9, W10, W11, W12, W13, W14, W15, eq_self, ite_true, ite_false, undef_eq, List.set_cons_zero, List.set_cons_succ, List.getD_cons_zero, List.getD_cons_succ, List.map_cons, List.map_nil, List.length_cons, List.length_nil, List.append_nil, List.cons_append, List.nil_append, List.replicate_succ, List.replicate_zero, Nat.reduceAdd, Nat.reduceSub, ↓reduceIte, List.getElem?_cons_zero, List.getElem?_cons_succ, basic, cellsL, resOf, setAt, List.append_assoc, List.length_append, List.getElem?_append_left, List.getElem?_append_right, List.set_append_left, List.set_append_right, below, belowB, belowA, atomB, List.mem_cons, List.not_mem_nil, forall_eq_or_imp, forall_eq, List.toList_toArray, implies_true, List.take_succ_cons, List.take_zero, List.drop_succ_cons, List.drop_zero, List.take_nil, List.drop_nil, Nat.reduceLeDiff, Nat.reduceMul, Int.reduceToNat, Int.reduceLT, Int.reduceLE, Int.reduceAdd, Int.reduceNeg, Int.reduceEq, splice, List.singleton_append, Nat.reduceEqDiff, Nat.reduceLT, isAtom, List.all_cons, List.all_nil, Option.map_some, Option.bind_some, List.length_set, Int.reduceSub, Int.reduceMul, List.getElem?_set_self, List.getElem?_set_ne, ofB_2, tmpR_if, ro_sliceData, ro_capNil, ro_noZero, ext_2, ext_3, ext_4, ext_5, List.set_set]
        refine ⟨?_, di :: G2, ⟨.slice a2 (d.held.length + 1) (d.held.length + 1), G2, rfl, hdG1, ?_, ?_⟩, fun x hx => ?_⟩
        · exact ((((Frm.refl (F := F)).set (.inl hdi)).app.trans hfx.1 (by simp)).set (.inl hdi)).set (.inr (Nat.le_refl _))
        · rw [List.getElem?_set_ne (by omega), List.getElem?_set_self hdl]; rfl
        · exact (hs2.setb hdG1).setb hdG2
        · rcases List.mem_cons.mp hx with rfl | hx
          · exact .inl hdi
          · have := hdG x hx; exact .inr (by omega)
      · have hfull : ((d.held.length : Int) = (d.most : Int)) = True := eq_true (by omega)
        have htk : d.take 219 = d.drop := by simp [DS.take, hroom]
        rw [htk]
        simp (contextual := true) (implicitDefEqProofs := false) (maxSteps := 2000000) (disch := first | rfl | exact Nat.le_of_ble_eq_true rfl | omega | (simp only [List.length_append, List.length_cons, List.length_nil, List.length_set]; omega)) only [L40, hd, hk220, hk221, hfull, hwb, W1, W2, W3, W4, W5, W6, W7, W8, W9, W10, W11, W12, W13, W14, W15, eq_self, ite_true, ite_false, undef_eq, List.set_cons_zero, List.set_cons_succ, List.getD_cons_zero, List.getD_cons_succ, List.map_cons, List.map_nil, List.length_cons, List.length_nil, List.append_nil, List.cons_append, List.nil_append, List.replicate_succ, List.replicate_zero, Nat.reduceAdd, Nat.reduceSub, ↓reduceIte, List.getElem?_cons_zero, List.getElem?_cons_succ, basic, cellsL, resOf, setAt, List.append_assoc, List.length_append, List.getElem?_append_left, List.getElem?_append_right, List.set_append_left, List.set_append_right, below, belowB, belowA, atomB, List.mem_cons, List.not_mem_nil, forall_eq_or_imp, forall_eq, List.toList_toArray, implies_true, List.take_succ_cons, List.take_zero, List.drop_succ_cons, List.drop_zero, List.take_nil, List.drop_nil, Nat.reduceLeDiff, Nat.reduceMul, Int.reduceToNat, Int.reduceLT, Int.reduceLE, Int.reduceAdd, Int.reduceNeg, Int.reduceEq, splice, List.singleton_append, Nat.reduceEqDiff, Nat.reduceLT, isAtom, List.all_cons, List.all_nil, Option.map_some, Option.bind_some, List.length_set, Int.reduceSub, Int.reduceMul, List.getElem?_set_self, List.getElem?_set_ne, ofB_2, tmpR_if, ro_sliceData, ro_capNil, ro_noZero, ext_2, ext_3, ext_4, ext_5, List.set_set]
        exact ⟨(Frm.refl.set (.inl hdi)).app, [di], (Rf.clr (d := d.drop) (sv := .slice none 0 0) hi rfl rfl).frm0 Frm.refl.app, fun x hx => .inl (by simp at hx; subst hx; exact hdi)⟩
    have hk221 : ((c.toNat : Int) = 221) = False := (c_eq c 221).trans (eq_false hq221)
    by_cases hc1 : c = 192
    · have hk1 : ((c.toNat : Int) = 192) = True := (c_eq c 192).trans (eq_true hc1)
      have hst : d.step c = ⟨d.most, 1, [], d.bad + 1⟩ := by simp [DS.step, hp2, hc1]
      rw [hst]
      simp (contextual := true) (implicitDefEqProofs := false) (maxSteps := 2000000) (disch := first | rfl | exact Nat.le_of_ble_eq_true rfl | omega | (simp only [List.length_append, List.length_cons, List.length_nil, List.length_set]; omega)) only [L40, hd, hk220, hk221, hk1, hwb, W1, W2, W3, W4, W5, W6, W7, W8, W9, W10, W11, W12, W13, W14, W15, eq_self, ite_true, ite_false, undef_eq, List.set_cons_zero, List.set_cons_succ, List.getD_cons_zero, List.getD_cons_succ, List.map_cons, List.map_nil, List.length_cons, List.length_nil, List.append_nil, List.cons_append, List.nil_append, List.replicate_succ, List.replicate_zero, Nat.reduceAdd, Nat.reduceSub, ↓reduceIte, List.getElem?_cons_zero, List.getElem?_cons_succ, basic, cellsL, resOf, setAt, List.append_assoc, List.length_append, List.getElem?_append_left, List.getElem?_append_right, List.set_append_left, List.set_append_right, below, belowB, belowA, atomB, List.mem_cons, List.not_mem_nil, forall_eq_or_imp, forall_eq, List.toList_toArray, implies_true, List.take_succ_cons, List.take_zero, List.drop_succ_cons, List.drop_zero, List.take_nil, List.drop_nil, Nat.reduceLeDiff, Nat.reduceMul, Int.reduceToNat, Int.reduceLT, Int.reduceLE, Int.reduceAdd, Int.reduceNeg, Int.reduceEq, splice, List.singleton_append, Nat.reduceEqDiff, Nat.reduceLT, isAtom, List.all_cons, List.all_nil, Option.map_some, Option.bind_some, List.length_set, Int.reduceSub, Int.reduceMul, List.getElem?_set_self, List.getElem?_set_ne, ofB_2, tmpR_if, ro_sliceData, ro_capNil, ro_noZero, ext_2, ext_3, ext_4, ext_5, List.set_set]
      exact ⟨(Frm.refl.set (.inl hdi)).app, [di], (Rf.clr (d := ⟨d.most, 1, [], d.bad + 1⟩) (sv := .slice none 0 0) hi rfl rfl).frm0 Frm.refl.app, fun x hx => .inl (by simp at hx; subst hx; exact hdi)⟩
    · have hk1 : ((c.toNat : Int) = 192) = False := (c_eq c 192).trans (eq_false hc1)
      have hst : d.step c = d.drop := by simp [DS.step, hp2, hq220, hq221, hc1]
      rw [hst]
      simp (contextual := true) (implicitDefEqProofs := false) (maxSteps := 2000000) (disch := first | rfl | exact Nat.le_of_ble_eq_true rfl | omega | (simp only [List.length_append, List.length_cons, List.length_nil, List.length_set]; omega)) only [L40, hd, hk220, hk221, hk1, hwb, W1, W2, W3, W4, W5, W6, W7, W8, W9, W10, W11, W12, W13, W14, W15, eq_self, ite_true, ite_false, undef_eq, List.set_cons_zero, List.set_cons_succ, List.getD_cons_zero, List.getD_cons_succ, List.map_cons, List.map_nil, List.length_cons, List.length_nil, List.append_nil, List.cons_append, List.nil_append, List.replicate_succ, List.replicate_zero, Nat.reduceAdd, Nat.reduceSub, ↓reduceIte, List.getElem?_cons_zero, List.getElem?_cons_succ, basic, cellsL, resOf, setAt, List.append_assoc, List.length_append, List.getElem?_append_left, List.getElem?_append_right, List.set_append_left, List.set_append_right, below, belowB, belowA, atomB, List.mem_cons, List.not_mem_nil, forall_eq_or_imp, forall_eq, List.toList_toArray, implies_true, List.take_succ_cons, List.take_zero, List.drop_succ_cons, List.drop_zero, List.take_nil, List.drop_nil, Nat.reduceLeDiff, Nat.reduceMul, Int.reduceToNat, Int.reduceLT, Int.reduceLE, Int.reduceAdd, Int.reduceNeg, Int.reduceEq, splice, List.singleton_append, Nat.reduceEqDiff, Nat.reduceLT, isAtom, List.all_cons, List.all_nil, Option.map_some, Option.bind_some, List.length_set, Int.reduceSub, Int.reduceMul, List.getElem?_set_self, List.getElem?_set_ne, ofB_2, tmpR_if, ro_sliceData, ro_capNil, ro_noZero, ext_2, ext_3, ext_4, ext_5, List.set_set]
      exact ⟨(Frm.refl.set (.inl hdi)).app, [di], (Rf.clr (d := d.drop) (sv := .slice none 0 0) hi rfl rfl).frm0 Frm.refl.app, fun x hx => .inl (by simp at hx; subst hx; exact hdi)⟩
end Go.Proofs.Ytfajlnpkickknaa
