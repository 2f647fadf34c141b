/- An editor: its keys, walked. -/
import Derived.Test.YtfpnnaalbjmnlaaDoorA
namespace Go.Proofs.YtfpnnaalbjmnlaaDoor
open Go.Lg
set_option maxRecDepth 8000
set_option maxHeartbeats 8000000
set_option linter.unusedSimpArgs false
set_option linter.unnecessarySimpa false
set_option linter.unusedVariables false

/-- A line that is typed, whether the last key was the end of one, and how many were lost. -/
structure ES where
  b : List UInt8
  en : Bool
  lost : Nat
abbrev TR := List UInt8 × Bool
def trow (x : TR) : List Value := [txt x.1, .bool x.2]
def wordL (b : List UInt8) : List UInt8 := trimP (fun x => decide (x ≠ 32)) (trimP (fun x => decide (x = 32)) b)
namespace ES
def letter (e : ES) (c : UInt8) : ES := if 120 ≤ e.b.length then ⟨e.b, e.en, e.lost + 1⟩ else ⟨e.b ++ [c], e.en, e.lost⟩
def key (e : ES) (c : UInt8) : ES :=
  if c = 10 ∧ e.en = true then ⟨e.b, false, e.lost⟩
  else if c = 10 ∨ c = 13 then ⟨[], decide (c = 13), e.lost⟩
  else if c = 8 ∨ c = 127 then ⟨e.b.take (e.b.length - 1), false, e.lost⟩
  else if c = 21 then ⟨[], false, e.lost⟩
  else if c = 23 then ⟨wordL e.b, false, e.lost⟩
  else if c = 3 then ⟨[], false, e.lost⟩
  else if 32 ≤ c.toNat then letter ⟨e.b, false, e.lost⟩ c
  else ⟨e.b, false, e.lost⟩
def tell (e : ES) (c : UInt8) : List TR :=
  if c = 10 ∧ e.en = true then [] else if c = 10 ∨ c = 13 then [(e.b, false)] else if c = 3 then [([], true)] else []
def run : ES → List UInt8 → ES
  | e, [] => e
  | e, c :: l => run (e.key c) l
def out : ES → List UInt8 → List TR
  | _, [] => []
  | e, c :: l => e.tell c ++ out (e.key c) l
theorem run_append : ∀ {l l' : List UInt8} {e : ES}, e.run (l ++ l') = (e.run l).run l'
  | [], _, _ => rfl
  | c :: l, l', e => by simp only [List.cons_append, run]; exact run_append
theorem out_append : ∀ {l l' : List UInt8} {e : ES}, e.out (l ++ l') = e.out l ++ (e.run l).out l'
  | [], _, _ => rfl
  | c :: l, l', e => by simp only [List.cons_append, out, run, out_append, List.append_assoc]
structure Ok (e : ES) (n : Nat) : Prop where
  b : e.b.length ≤ 120
  l : e.lost ≤ n
theorem word_le {b : List UInt8} : (wordL b).length ≤ b.length := Nat.le_trans trimP_le trimP_le
theorem key_ok {e : ES} {n : Nat} (h : e.Ok n) (c : UInt8) : (e.key c).Ok (n + 1) := by
  obtain ⟨h1, h2⟩ := h
  have hw := word_le (b := e.b)
  unfold key
  split
  · exact ⟨h1, by simp only; omega⟩
  split
  · exact ⟨by simp, by simp only; omega⟩
  split
  · exact ⟨by simp; omega, by simp only; omega⟩
  split
  · exact ⟨by simp, by simp only; omega⟩
  split
  · exact ⟨by simp only; omega, by simp only; omega⟩
  split
  · exact ⟨by simp, by simp only; omega⟩
  split
  · unfold letter
    split
    · exact ⟨h1, by simp only; omega⟩
    · exact ⟨by simp at *; omega, by simp only; omega⟩
  · exact ⟨h1, by simp only; omega⟩
theorem tell_len {e : ES} {c : UInt8} : (e.tell c).length ≤ 1 := by
  unfold tell
  split
  · simp
  · split
    · simp
    · split <;> simp
theorem run_ok : ∀ {l : List UInt8} {e : ES} {n : Nat}, e.Ok n → (e.run l).Ok (n + l.length)
  | [], _, _, h => h
  | c :: l, e, n, h => by
    have := run_ok (l := l) (key_ok h c)
    simp only [List.length_cons, run]
    rwa [show n + (l.length + 1) = n + 1 + l.length by omega]
theorem out_len : ∀ {l : List UInt8} {e : ES}, (e.out l).length ≤ l.length
  | [], _ => by simp [out]
  | c :: l, e => by
    have h1 := tell_len (e := e) (c := c)
    have h2 := out_len (l := l) (e := e.key c)
    simp only [out, List.length_append, List.length_cons]; omega
end ES

def ecells (e : ES) (sv : Value) : List Value := [sv, .bool e.en, .int .i64 (e.lost : Int)]
/-- An editor in memory. -/
def Ed (M : Mem) (ei : Nat) (F : List Nat) (e : ES) : Prop :=
  ∃ sv G, F = ei :: G ∧ ei ∉ G ∧ M[ei]? = some ⟨ecells e sv, 44, 1, 0, .own⟩ ∧ By 5 M sv G e.b
namespace Ed
variable {M M' : Mem} {ei : Nat} {F G : List Nat} {e e' : ES}
theorem frm (h : Ed M ei F e) (k : Frm G M M') (hd : ∀ x ∈ F, x ∉ G) : Ed M' ei F e := by
  obtain ⟨sv, H, rfl, h1, h2, h3⟩ := h
  exact ⟨sv, H, rfl, h1, k.get h2 (hd _ (by simp)), h3.frm k fun x hx => hd x (by simp [hx])⟩
theorem frm0 (h : Ed M ei F e) (k : Frm [] M M') : Ed M' ei F e := h.frm k (by simp)
theorem lt (h : Ed M ei F e) : ∀ x ∈ F, x < M.length := by
  obtain ⟨sv, H, rfl, h1, h2, h3⟩ := h
  intro x hx
  rcases List.mem_cons.mp hx with rfl | hx
  · exact lt_of_some h2
  · exact h3.lt x hx
/-- The cells are written, the bytes are these. -/
theorem set {sv : Value} {H : List Nat} (hi : ei < M.length) (hn : ei ∉ H) (hb : By 5 M sv H e.b) : Ed (M.set ei ⟨ecells e sv, 44, 1, 0, .own⟩) ei (ei :: H) e :=
  ⟨sv, H, rfl, hn, by rw [List.getElem?_set_self hi], hb.setb hn⟩
theorem clr {sv : Value} (hi : ei < M.length) (hh : e.b = []) (hs : sv = .slice none 0 0) : Ed (M.set ei ⟨ecells e sv, 44, 1, 0, .own⟩) ei [ei] e := by
  subst hs
  exact ⟨_, [], rfl, by simp, by rw [List.getElem?_set_self hi], by rw [hh]; exact .nil⟩
end Ed

structure FE (M0 : Mem) (F0 G0 : List Nat) (ei : Nat) (M : Mem) (F G : List Nat) (e : ES) (out : Value) (rows : List TR) : Prop where
  f : Frm (F0 ++ G0) M0 M
  df : Ed M ei F e
  o : Sl M 28 2 out G (rows.map trow)
  dj : ∀ x ∈ F, x ∉ G
  nf : NwF M0 F0 F
  ng : NwF M0 G0 G
namespace FE
variable {M0 M M' : Mem} {F0 G0 F G F' G' : List Nat} {ei : Nat} {d d' : ES} {out out' : Value} {rows rows' : List TR}
theorem stepD (h : FE M0 F0 G0 ei M F G d out rows) (k : Frm F M M') (hd : Ed M' ei F' d') (hn : NwF M F F') : FE M0 F0 G0 ei M' F' G d' out rows := by
  have hl := h.f.len
  refine ⟨h.f.trans k fun x hx => ?_, hd, h.o.frm k fun x hx hx' => h.dj x hx' hx, fun x hx hx' => ?_, fun x hx => ?_, h.ng⟩
  · rcases h.nf x hx with h1 | h1
    · exact .inl (by simp [h1])
    · exact .inr h1
  · rcases hn x hx with h1 | h1
    · exact h.dj x h1 hx'
    · have := h.o.lt x hx'; omega
  · rcases hn x hx with h1 | h1
    · exact h.nf x h1
    · exact .inr (by omega)
theorem stepO (h : FE M0 F0 G0 ei M F G d out rows) (k : Frm G M M') (ho : Sl M' 28 2 out' G' (rows'.map trow)) (hn : NwF M G G') : FE M0 F0 G0 ei M' F G' d out' rows' := by
  have hl := h.f.len
  refine ⟨h.f.trans k fun x hx => ?_, h.df.frm k fun x hx => h.dj x hx, ho, fun x hx hx' => ?_, h.nf, fun x hx => ?_⟩
  · rcases h.ng x hx with h1 | h1
    · exact .inl (by simp [h1])
    · exact .inr h1
  · rcases hn x hx' with h1 | h1
    · exact h.dj x hx h1
    · have := h.df.lt x hx; omega
  · rcases hn x hx with h1 | h1
    · exact h.ng x h1
    · exact .inr (by omega)
theorem pure (h : FE M0 F0 G0 ei M F G d out rows) (k : Frm [] M M') : FE M0 F0 G0 ei M' F G d out rows :=
  ⟨h.f.trans k (by simp), h.df.frm0 k, h.o.frm0 k, h.dj, h.nf, h.ng⟩
theorem trans {H : List Nat} (h : FE M0 F0 G0 ei M F G d out rows) (k : FE M F H ei M' F' G' d' out' rows') (hH : ∀ x ∈ H, x ∈ G) : FE M0 F0 G0 ei M' F' G' d' out' rows' := by
  have hl := h.f.len
  refine ⟨h.f.trans k.f fun x hx => ?_, k.df, k.o, k.dj, fun x hx => ?_, fun x hx => ?_⟩
  · rcases List.mem_append.mp hx with h1 | h1
    · rcases h.nf x h1 with h2 | h2
      · exact .inl (by simp [h2])
      · exact .inr h2
    · rcases h.ng x (hH x h1) with h2 | h2
      · exact .inl (by simp [h2])
      · exact .inr h2
  · rcases k.nf x hx with h1 | h1
    · exact h.nf x h1
    · exact .inr (by omega)
  · rcases k.ng x hx with h1 | h1
    · exact h.ng x (hH x h1)
    · exact .inr (by omega)
end FE

theorem By.form2 {T : Nat} {m : Mem} {v : Value} {F : List Nat} {l : List UInt8} (h : By T m v F l) : (v = .slice none 0 0 ∧ l = []) ∨ ∃ b o cs, v = .slice (some ⟨b, o, none⟩) l.length l.length ∧ F = [b] ∧ m[b]? = some ⟨cs, T, 1, 0, .own⟩ ∧ b < m.length := by
  unfold By at h
  generalize hr : l.map bRow = rows at h
  cases h with
  | nil => exact .inl ⟨rfl, by simpa using hr⟩
  | @own b o cs _ hb h1 h2 h3 =>
    refine .inr ⟨b, o, cs, ?_, rfl, hb, lt_of_some hb⟩
    rw [← hr, List.length_map]

theorem word_spec {m : Mem} {ei : Nat} {F : List Nat} {e : ES} (h : Ed m ei F e) (hb : e.b.length ≤ 1000) :
    LCall Tryd.prog 19 [.pointer (some ⟨ei, 0, none⟩)] m fun v m' => Frm F m m' ∧ Ed m' ei F ⟨wordL e.b, e.en, e.lost⟩ := by
  obtain ⟨sv, G, rfl, hG, hc, hs⟩ := h
  have hi := lt_of_some hc
  obtain ⟨a, rfl, _⟩ := By.form hs
  unfold ecells at hc
  refine LCall_enter Tryd.func19 c19 ?_
  simp (contextual := true) (implicitDefEqProofs := false) (maxSteps := 2000000) (disch := first | rfl | exact Nat.le_of_ble_eq_true rfl | omega | (simp only [List.length_append, List.length_cons, List.length_nil, List.length_set]; omega)) only [L19, hc, W1, W2, W3, W4, W5, W6, W7, W8, W9, W10, W11, W12, W13, W14, W15, eq_self, ite_true, ite_false, undef_eq, List.set_cons_zero, List.set_cons_succ, List.getD_cons_zero, List.getD_cons_succ, List.map_cons, List.map_nil, List.length_cons, List.length_nil, List.append_nil, List.cons_append, List.nil_append, List.replicate_succ, List.replicate_zero, Nat.reduceAdd, Nat.reduceSub, ↓reduceIte, List.getElem?_cons_zero, List.getElem?_cons_succ, basic, cellsL, resOf, setAt, List.append_assoc, List.length_append, List.getElem?_append_left, List.getElem?_append_right, List.set_append_left, List.set_append_right, below, belowB, belowA, atomB, List.mem_cons, List.not_mem_nil, forall_eq_or_imp, forall_eq, List.toList_toArray, implies_true, List.take_succ_cons, List.take_zero, List.drop_succ_cons, List.drop_zero, List.take_nil, List.drop_nil, Nat.reduceLeDiff, Nat.reduceMul, Int.reduceToNat, Int.reduceLT, Int.reduceLE, Int.reduceAdd, Int.reduceNeg, Int.reduceEq, splice, List.singleton_append, Nat.reduceEqDiff, Nat.reduceLT, isAtom, List.all_cons, List.all_nil, Option.map_some, Option.bind_some, List.length_set, Int.reduceSub, Int.reduceMul, List.getElem?_set_self, List.getElem?_set_ne, ofB_2, tmpR_if, ro_sliceData, ro_capNil, ro_noZero, ext_2, ext_3, ext_4, ext_5, List.set_set]
  refine (trim_spec hs hb).mono ?_
  rintro v m1 ⟨rfl, k, hk, rfl, e1⟩
  have hs1 : By 5 m1 (.slice a k k) G (e.b.take k) := By.take hs hk
  have hk1 : (e.b.take k).length = k := by simp; omega
  have hs2 : By 5 (m1.set ei ⟨[.slice a k k, .bool e.en, .int .i64 (e.lost : Int)], 44, 1, 0, .own⟩) (.slice a k k) G (e.b.take k) := hs1.setb hG
  simp (contextual := true) (implicitDefEqProofs := false) (maxSteps := 2000000) (disch := first | rfl | exact Nat.le_of_ble_eq_true rfl | omega | (simp only [List.length_append, List.length_cons, List.length_nil, List.length_set]; omega)) only [hc, W1, W2, W3, W4, W5, W6, W7, W8, W9, W10, W11, W12, W13, W14, W15, eq_self, ite_true, ite_false, undef_eq, List.set_cons_zero, List.set_cons_succ, List.getD_cons_zero, List.getD_cons_succ, List.map_cons, List.map_nil, List.length_cons, List.length_nil, List.append_nil, List.cons_append, List.nil_append, List.replicate_succ, List.replicate_zero, Nat.reduceAdd, Nat.reduceSub, ↓reduceIte, List.getElem?_cons_zero, List.getElem?_cons_succ, basic, cellsL, resOf, setAt, List.append_assoc, List.length_append, List.getElem?_append_left, List.getElem?_append_right, List.set_append_left, List.set_append_right, below, belowB, belowA, atomB, List.mem_cons, List.not_mem_nil, forall_eq_or_imp, forall_eq, List.toList_toArray, implies_true, List.take_succ_cons, List.take_zero, List.drop_succ_cons, List.drop_zero, List.take_nil, List.drop_nil, Nat.reduceLeDiff, Nat.reduceMul, Int.reduceToNat, Int.reduceLT, Int.reduceLE, Int.reduceAdd, Int.reduceNeg, Int.reduceEq, splice, List.singleton_append, Nat.reduceEqDiff, Nat.reduceLT, isAtom, List.all_cons, List.all_nil, Option.map_some, Option.bind_some, List.length_set, Int.reduceSub, Int.reduceMul, List.getElem?_set_self, List.getElem?_set_ne, ofB_2, tmpR_if, ro_sliceData, ro_capNil, ro_noZero, ext_2, ext_3, ext_4, ext_5, List.set_set]
  have hl := last_spec (l := e.b.take k) (a := a) 32 (by rw [hk1]; exact hs2) (by omega)
  rw [hk1] at hl
  refine hl.mono ?_
  rintro v m2 ⟨rfl, j, hj, rfl, e2⟩
  have hw : IntKind.i64.wrap ((j : Int) - 1 + 1) = (j : Int) := by rw [wrap_i64 (by omega) (by omega)]; omega
  have hj0 : ((0 : Int) ≤ (j : Int)) = True := by simp
  have hjk : ((j : Int) ≤ (k : Int)) = True := eq_true (by omega)
  have hs3 := By.take (l := e.b.take k) (n := k) hs1 (i := j) (by omega)
  have hword : wordL e.b = (e.b.take k).take j := by rw [wordL, e1, e2]
  rcases By.form2 hs1 with ⟨hv, hnil⟩ | ⟨b, o, cs, hv, hGe, hb1, hbl⟩
  · simp only [Value.slice.injEq] at hv
    obtain ⟨rfl, rfl, _⟩ := hv
    obtain rfl : j = 0 := by omega
    simp (contextual := true) (implicitDefEqProofs := false) (maxSteps := 2000000) (disch := first | rfl | exact Nat.le_of_ble_eq_true rfl | omega | (simp only [List.length_append, List.length_cons, List.length_nil, List.length_set]; omega)) only [W1, W2, W3, W4, W5, W6, W7, W8, W9, W10, W11, W12, W13, W14, W15, eq_self, ite_true, ite_false, undef_eq, List.set_cons_zero, List.set_cons_succ, List.getD_cons_zero, List.getD_cons_succ, List.map_cons, List.map_nil, List.length_cons, List.length_nil, List.append_nil, List.cons_append, List.nil_append, List.replicate_succ, List.replicate_zero, Nat.reduceAdd, Nat.reduceSub, ↓reduceIte, List.getElem?_cons_zero, List.getElem?_cons_succ, basic, cellsL, resOf, setAt, List.append_assoc, List.length_append, List.getElem?_append_left, List.getElem?_append_right, List.set_append_left, List.set_append_right, below, belowB, belowA, atomB, List.mem_cons, List.not_mem_nil, forall_eq_or_imp, forall_eq, List.toList_toArray, implies_true, List.take_succ_cons, List.take_zero, List.drop_succ_cons, List.drop_zero, List.take_nil, List.drop_nil, Nat.reduceLeDiff, Nat.reduceMul, Int.reduceToNat, Int.reduceLT, Int.reduceLE, Int.reduceAdd, Int.reduceNeg, Int.reduceEq, splice, List.singleton_append, Nat.reduceEqDiff, Nat.reduceLT, isAtom, List.all_cons, List.all_nil, Option.map_some, Option.bind_some, List.length_set, Int.reduceSub, Int.reduceMul, List.getElem?_set_self, List.getElem?_set_ne, ofB_2, tmpR_if, ro_sliceData, ro_capNil, ro_noZero, ext_2, ext_3, ext_4, ext_5, List.set_set]
    refine ⟨Frm.refl.set (by simp), ?_⟩
    have hs4 : By 5 m1 (.slice none 0 0) G (wordL e.b) := by rw [hword]; exact hs3
    exact Ed.set (e := ⟨wordL e.b, e.en, e.lost⟩) hi hG hs4
  · simp only [Value.slice.injEq] at hv
    obtain ⟨rfl, _, _⟩ := hv
    have hbe : b ≠ ei := fun hx => hG (by rw [hGe, hx]; simp)
    have hb2 : (m1.set ei ⟨[.slice (some ⟨b, o, none⟩) k k, .bool e.en, .int .i64 (e.lost : Int)], 44, 1, 0, .own⟩)[b]? = some ⟨cs, 5, 1, 0, .own⟩ := by rw [List.getElem?_set_ne (Ne.symm hbe)]; exact hb1
    simp (contextual := true) (implicitDefEqProofs := false) (maxSteps := 2000000) (disch := first | rfl | exact Nat.le_of_ble_eq_true rfl | omega | (simp only [List.length_append, List.length_cons, List.length_nil, List.length_set]; omega)) only [hw, hj0, hjk, hb2, Int.toNat_natCast, W1, W2, W3, W4, W5, W6, W7, W8, W9, W10, W11, W12, W13, W14, W15, eq_self, ite_true, ite_false, undef_eq, List.set_cons_zero, List.set_cons_succ, List.getD_cons_zero, List.getD_cons_succ, List.map_cons, List.map_nil, List.length_cons, List.length_nil, List.append_nil, List.cons_append, List.nil_append, List.replicate_succ, List.replicate_zero, Nat.reduceAdd, Nat.reduceSub, ↓reduceIte, List.getElem?_cons_zero, List.getElem?_cons_succ, basic, cellsL, resOf, setAt, List.append_assoc, List.length_append, List.getElem?_append_left, List.getElem?_append_right, List.set_append_left, List.set_append_right, below, belowB, belowA, atomB, List.mem_cons, List.not_mem_nil, forall_eq_or_imp, forall_eq, List.toList_toArray, implies_true, List.take_succ_cons, List.take_zero, List.drop_succ_cons, List.drop_zero, List.take_nil, List.drop_nil, Nat.reduceLeDiff, Nat.reduceMul, Int.reduceToNat, Int.reduceLT, Int.reduceLE, Int.reduceAdd, Int.reduceNeg, Int.reduceEq, splice, List.singleton_append, Nat.reduceEqDiff, Nat.reduceLT, isAtom, List.all_cons, List.all_nil, Option.map_some, Option.bind_some, List.length_set, Int.reduceSub, Int.reduceMul, List.getElem?_set_self, List.getElem?_set_ne, ofB_2, tmpR_if, ro_sliceData, ro_capNil, ro_noZero, ext_2, ext_3, ext_4, ext_5, List.set_set]
    refine ⟨Frm.refl.set (by simp), ?_⟩
    have hs4 : By 5 m1 (.slice (some ⟨b, o, none⟩) j j) G (wordL e.b) := by rw [hword]; exact hs3
    exact Ed.set (e := ⟨wordL e.b, e.en, e.lost⟩) hi hG hs4

theorem letter_spec {m : Mem} {ei : Nat} {F : List Nat} {e : ES} (c : UInt8) (h : Ed m ei F e) (hb : e.b.length ≤ 1000) (hl : e.lost ≤ 2000000) :
    LCall Tryd.prog 20 [.pointer (some ⟨ei, 0, none⟩), .int .u8 (c.toNat : Int)] m fun v m' => Frm F m m' ∧ ∃ F', Ed m' ei F' (e.letter c) ∧ NwF m F F' := by
  obtain ⟨sv, G, rfl, hG, hc, hs⟩ := h
  have hi := lt_of_some hc
  obtain ⟨a, rfl, _⟩ := By.form hs
  unfold ecells at hc
  refine LCall_enter Tryd.func20 c20 ?_
  by_cases h120 : 120 ≤ e.b.length
  · have h' : ((120 : Int) ≤ (e.b.length : Int)) = True := eq_true (by omega)
    have hw : IntKind.i64.wrap ((e.lost : Int) + 1) = ((e.lost + 1 : Nat) : Int) := by rw [wrap_i64 (by omega) (by omega)]; omega
    simp (contextual := true) (implicitDefEqProofs := false) (maxSteps := 2000000) (disch := first | rfl | exact Nat.le_of_ble_eq_true rfl | omega | (simp only [List.length_append, List.length_cons, List.length_nil, List.length_set]; omega)) only [L20, hc, h', hw, W1, W2, W3, W4, W5, W6, W7, W8, W9, W10, W11, W12, W13, W14, W15, eq_self, ite_true, ite_false, undef_eq, List.set_cons_zero, List.set_cons_succ, List.getD_cons_zero, List.getD_cons_succ, List.map_cons, List.map_nil, List.length_cons, List.length_nil, List.append_nil, List.cons_append, List.nil_append, List.replicate_succ, List.replicate_zero, Nat.reduceAdd, Nat.reduceSub, ↓reduceIte, List.getElem?_cons_zero, List.getElem?_cons_succ, basic, cellsL, resOf, setAt, List.append_assoc, List.length_append, List.getElem?_append_left, List.getElem?_append_right, List.set_append_left, List.set_append_right, below, belowB, belowA, atomB, List.mem_cons, List.not_mem_nil, forall_eq_or_imp, forall_eq, List.toList_toArray, implies_true, List.take_succ_cons, List.take_zero, List.drop_succ_cons, List.drop_zero, List.take_nil, List.drop_nil, Nat.reduceLeDiff, Nat.reduceMul, Int.reduceToNat, Int.reduceLT, Int.reduceLE, Int.reduceAdd, Int.reduceNeg, Int.reduceEq, splice, List.singleton_append, Nat.reduceEqDiff, Nat.reduceLT, isAtom, List.all_cons, List.all_nil, Option.map_some, Option.bind_some, List.length_set, Int.reduceSub, Int.reduceMul, List.getElem?_set_self, List.getElem?_set_ne, ofB_2, tmpR_if, ro_sliceData, ro_capNil, ro_noZero, ext_2, ext_3, ext_4, ext_5, List.set_set]
    have e1 : e.letter c = ⟨e.b, e.en, e.lost + 1⟩ := if_pos h120
    rw [e1]
    exact ⟨Frm.refl.set (by simp), ei :: G, Ed.set (e := ⟨e.b, e.en, e.lost + 1⟩) hi hG hs, fun x hx => .inl hx⟩
  · have h' : ((120 : Int) ≤ (e.b.length : Int)) = False := eq_false (by omega)
    have e1 : e.letter c = ⟨e.b ++ [c], e.en, e.lost⟩ := if_neg h120
    simp (contextual := true) (implicitDefEqProofs := false) (maxSteps := 2000000) (disch := first | rfl | exact Nat.le_of_ble_eq_true rfl | omega | (simp only [List.length_append, List.length_cons, List.length_nil, List.length_set]; omega)) only [L20, hc, h', W1, W2, W3, W4, W5, W6, W7, W8, W9, W10, W11, ops_nil, ops_n, ops_g, guardK_it, guardK_if, guardK_u, CondP_t, CondP_f, ex_call, pickK_it, loadK_p, loadNK_p, storeB_s, cellB_s, cellB_r, cellsB_s, cellsB_r, condK_it, lc_skip, lc_region, lc_draw, lc_seq, lc_cond, lc_block, lc_exit, lc_ret, then_n, then_e, then_r, block_n, block_r, block_e, bin_add, bin_sub, bin_mul, bin_quo, bin_rem, bin_and, bin_or, bin_xor, bin_andNot, bin_eql, bin_neq, bin_lss, bin_leq, bin_gtr, bin_geq, bin_shl, bin_shr, bin_sadd, bin_seql, bin_sneq, un_not, un_neg, eqL_b, eqL_i, eqL_s, eqL_pnn, eqL_pns, eqL_psn, eqL_pp, eqL_slnn, eqL_slns, eqL_slsn, ex_callv, slB_e, slB_r, apB_e, lc_chain, lc_bad, putBK_s, lc_label, lc_goto, then_g, block_g, jump_g, jump_n, jump_r, jump_e, lf_seq, lf_label, eq_self, ite_true, ite_false, undef_eq, List.set_cons_zero, List.set_cons_succ, List.getD_cons_zero, List.getD_cons_succ, List.map_cons, List.map_nil, List.length_cons, List.length_nil, List.append_nil, List.cons_append, List.nil_append, List.replicate_succ, List.replicate_zero, Nat.reduceAdd, Nat.reduceSub, ↓reduceIte, List.getElem?_cons_zero, List.getElem?_cons_succ, basic, cellsL, resOf, setAt, List.append_assoc, List.length_append, List.getElem?_append_left, List.getElem?_append_right, List.set_append_left, List.set_append_right, below, belowB, belowA, atomB, List.mem_cons, List.not_mem_nil, forall_eq_or_imp, forall_eq, List.toList_toArray, implies_true, List.take_succ_cons, List.take_zero, List.drop_succ_cons, List.drop_zero, List.take_nil, List.drop_nil, Nat.reduceLeDiff, Nat.reduceMul, Int.reduceToNat, Int.reduceLT, Int.reduceLE, Int.reduceAdd, Int.reduceNeg, Int.reduceEq, splice, List.singleton_append, Nat.reduceEqDiff, Nat.reduceLT, isAtom, List.all_cons, List.all_nil, Option.map_some, Option.bind_some, List.length_set, Int.reduceSub, Int.reduceMul, List.getElem?_set_self, List.getElem?_set_ne, ofB_2, tmpR_if, ro_sliceData, ro_capNil, ro_noZero, ext_2, ext_3, ext_4, ext_5, List.set_set]
    refine app_bytes (new := [c]) (hs.frm0 Frm.refl.app) rfl rfl (by omega) ?_
    intro v M G' hM hf hs' hG'
    have hdM := hf.get (i := ei) (by rw [List.getElem?_append_left hi]; exact hc) hG
    have hdl := lt_of_some hdM
    obtain ⟨a', rfl, _⟩ := By.form hs'
    simp (contextual := true) (implicitDefEqProofs := false) (maxSteps := 2000000) (disch := first | rfl | exact Nat.le_of_ble_eq_true rfl | omega | (simp only [List.length_append, List.length_cons, List.length_nil, List.length_set]; omega)) only [hdM, W1, W2, W3, W4, W5, W6, W7, W8, W9, W10, W11, W12, W13, W14, W15, eq_self, ite_true, ite_false, undef_eq, List.set_cons_zero, List.set_cons_succ, List.getD_cons_zero, List.getD_cons_succ, List.map_cons, List.map_nil, List.length_cons, List.length_nil, List.append_nil, List.cons_append, List.nil_append, List.replicate_succ, List.replicate_zero, Nat.reduceAdd, Nat.reduceSub, ↓reduceIte, List.getElem?_cons_zero, List.getElem?_cons_succ, basic, cellsL, resOf, setAt, List.append_assoc, List.length_append, List.getElem?_append_left, List.getElem?_append_right, List.set_append_left, List.set_append_right, below, belowB, belowA, atomB, List.mem_cons, List.not_mem_nil, forall_eq_or_imp, forall_eq, List.toList_toArray, implies_true, List.take_succ_cons, List.take_zero, List.drop_succ_cons, List.drop_zero, List.take_nil, List.drop_nil, Nat.reduceLeDiff, Nat.reduceMul, Int.reduceToNat, Int.reduceLT, Int.reduceLE, Int.reduceAdd, Int.reduceNeg, Int.reduceEq, splice, List.singleton_append, Nat.reduceEqDiff, Nat.reduceLT, isAtom, List.all_cons, List.all_nil, Option.map_some, Option.bind_some, List.length_set, Int.reduceSub, Int.reduceMul, List.getElem?_set_self, List.getElem?_set_ne, ofB_2, tmpR_if, ro_sliceData, ro_capNil, ro_noZero, ext_2, ext_3, ext_4, ext_5, List.set_set]
    have hGd : ei ∉ G' := fun hx => by
      rcases hG' ei hx with h1 | h1
      · exact hG h1
      · simp at h1; omega
    rw [e1]
    have hs5 : By 5 M (.slice a' (e.b.length + 1) (e.b.length + 1)) G' (e.b ++ [c]) := by simpa only [List.length_append, List.length_cons, List.length_nil, Nat.zero_add] using hs'
    refine ⟨((Frm.refl (F := ei :: G)).app.trans hf fun x hx => .inl (by simp [hx])).set (by simp), ei :: G', Ed.set (e := ⟨e.b ++ [c], e.en, e.lost⟩) hdl hGd hs5, fun x hx => ?_⟩
    rcases List.mem_cons.mp hx with rfl | hx
    · exact .inl (by simp)
    · rcases hG' x hx with h1 | h1
      · exact .inl (by simp [h1])
      · simp at h1; exact .inr (by omega)
end Go.Proofs.YtfpnnaalbjmnlaaDoor
