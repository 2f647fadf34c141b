/- Bytes fed to a deframer: walked. -/
import Derived.Test.YtfefieicnmglcaaQ
namespace Go.Proofs.Ytfefieicnmglcaa
open Go.Lg
set_option maxRecDepth 8000
set_option maxHeartbeats 4000000
set_option linter.unusedSimpArgs false
set_option linter.unnecessarySimpa false
set_option linter.unusedVariables false

/-- What holds at a jump, closed to a walk. -/
def jAt (I : Nat → Nat → List Value → Mem → Prop) (b : Nat) (l : Nat) (t : List Value) (m : Mem) : Prop := ∃ n, n < b ∧ I n l t m
theorem jAt_congr {I : Nat → Nat → List Value → Mem → Prop} {b l : Nat} {t t' : List Value} {m m' : Mem} (h : t = t') (k : m = m') : jAt I b l t m = jAt I b l t' m' := by rw [h, k]
attribute [congr] jAt_congr
theorem jAt_go {I : Nat → Nat → List Value → Mem → Prop} {n b l : Nat} {t : List Value} {m : Mem} (h : I n l t m) (hn : n < b) : jAt I b l t m := ⟨n, hn, h⟩
theorem scope_fall {P : Program} {A B R : LCode} {l0 : Nat} {Q : Exit → List Value → Mem → Prop} {t : List Value} {m : Mem} (I : Nat → Nat → List Value → Mem → Prop) (b : Nat) (hA : hasL A l0 = false) (hB : hasL B l0 = false)
    (first : LC P (.seq A B) (thenL (jAt I b l0) (jumpL (jAt I b) Q)) t m)
    (pass : ∀ n l t m, n < b → I n l t m → LF P (.seq A (.seq B (.seq (.label l0) R))) l (jumpL (jAt I n) Q) t m) : LC P (.scope (.seq A (.seq B (.seq (.label l0) R)))) Q t m := by
  intro X hX
  have key : ∀ n l t m, n < b → I n l t m → X l t m := by
    intro n
    induction n using Nat.strongRecOn with
    | _ n ih => exact fun l t m hb h => hX l t m (LF_mono (jumpL_mono (fun l t m ⟨n', h1, h2⟩ => ih n' h1 l t m (Nat.lt_trans h1 hb) h2) fun _ _ _ h => h) (pass n l t m hb h))
  have fall : ∀ n t m, n < b → I n l0 t m → LC P R (jumpL X Q) t m := by
    intro n t m hn h
    have h1 := pass n l0 t m hn h
    rw [lf_seq, hA, if_neg (by decide), lf_seq, hB, if_neg (by decide), lf_seq, if_pos (by simp [hasL])] at h1
    obtain ⟨_, h2⟩ := h1
    exact LC_mono (jumpL_mono (fun l t m ⟨n', h3, h4⟩ => key n' l t m (Nat.lt_trans h3 hn) h4) fun _ _ _ h => h) h2
  have hj : ∀ e t m, jumpL (jAt I b) Q e t m → jumpL X Q e t m := jumpL_mono (fun l t m ⟨n, h1, h2⟩ => key n l t m h1 h2) fun _ _ _ h => h
  refine LC_mono (c := A) ?_ first
  intro e t m h
  cases e
  case normal =>
    refine LC_mono (c := B) ?_ h
    intro e t m h
    cases e
    case normal =>
      obtain ⟨n, h1, h2⟩ := h
      exact fall n t m h1 h2
    case exit id => exact hj (.exit id) t m h
    case goto l => exact hj (.goto l) t m h
    case ret => exact hj .ret t m h
    case panic c => exact hj (.panic c) t m h
    case outgrown => exact hj .outgrown t m h
  case exit id => exact hj (.exit id) t m h
  case goto l => exact hj (.goto l) t m h
  case ret => exact hj .ret t m h
  case panic c => exact hj (.panic c) t m h
  case outgrown => exact hj .outgrown t m h

/-- A deframer and what it told, in memory, and what was there before. -/
structure FS (M0 : Mem) (F0 G0 : List Nat) (di : Nat) (M : Mem) (F G : List Nat) (d : DS) (out : Value) (rows : List PF) : Prop where
  f : Frm (F0 ++ G0) M0 M
  df : Df M di F d
  o : Sl M 38 3 out G (rows.map frow)
  dj : ∀ x ∈ F, x ∉ G
  nf : NwF M0 F0 F
  ng : NwF M0 G0 G
namespace FS
variable {M0 M M' : Mem} {F0 G0 F G F' G' : List Nat} {di : Nat} {d d' : DS} {out out' : Value} {rows rows' : List PF}
theorem stepD (h : FS M0 F0 G0 di M F G d out rows) (k : Frm F M M') (hd : Df M' di F' d') (hn : NwF M F F') : FS M0 F0 G0 di M' F' G d' out rows := by
  have hl := h.f.len
  refine ⟨h.f.trans k fun x hx => ?_, hd, h.o.frm k fun x hx hx' => h.dj x hx' hx, fun x hx hx' => ?_, fun x hx => ?_, h.ng⟩
  · rcases h.nf x hx with h1 | h1
    · exact .inl (by simp [h1])
    · exact .inr h1
  · rcases hn x hx with h1 | h1
    · exact h.dj x h1 hx'
    · have := h.o.lt x hx'; omega
  · rcases hn x hx with h1 | h1
    · exact h.nf x h1
    · exact .inr (by omega)
theorem stepO (h : FS M0 F0 G0 di M F G d out rows) (k : Frm G M M') (ho : Sl M' 38 3 out' G' (rows'.map frow)) (hn : NwF M G G') : FS M0 F0 G0 di M' F G' d out' rows' := by
  have hl := h.f.len
  refine ⟨h.f.trans k fun x hx => ?_, h.df.frm k fun x hx => h.dj x hx, ho, fun x hx hx' => ?_, h.nf, fun x hx => ?_⟩
  · rcases h.ng x hx with h1 | h1
    · exact .inl (by simp [h1])
    · exact .inr h1
  · rcases hn x hx' with h1 | h1
    · exact h.dj x hx h1
    · have := h.df.lt x hx; omega
  · rcases hn x hx with h1 | h1
    · exact h.ng x h1
    · exact .inr (by omega)
theorem pure (h : FS M0 F0 G0 di M F G d out rows) (k : Frm [] M M') : FS M0 F0 G0 di M' F G d out rows :=
  ⟨h.f.trans k (by simp), h.df.frm0 k, h.o.frm0 k, h.dj, h.nf, h.ng⟩
/-- The deframer's cells are written. -/
theorem setd {sv : Value} (h : FS M0 F0 G0 di M F G d out rows) (hh : d'.held = []) (hs : sv = .slice none 0 0) : FS M0 F0 G0 di (M.set di ⟨dcells d' sv, 98, 1, 0, .own⟩) [di] G d' out rows := by
  have hdi : di ∈ F := by obtain ⟨_, _, rfl, _⟩ := h.df; simp
  exact h.stepD (Frm.refl.set (.inl hdi)) (Df.clr (h.df.lt _ hdi) hh hs) fun x hx => .inl (by simp at hx; subst hx; exact hdi)
end FS

theorem Df.cell {M : Mem} {di : Nat} {F : List Nat} {d : DS} {b1 b2 : Bool} (h : Df M di F d) (h1 : decide (d.pl ≠ 0) = b1) (h2 : decide (d.pl = 2) = b2) :
    ∃ a, M[di]? = some ⟨[.int .i64 d.most, .bool b1, .bool b2, .slice a d.held.length d.held.length, .int .i64 d.bad], 98, 1, 0, .own⟩ := by
  obtain ⟨sv, H, rfl, _, hd, hs⟩ := h
  obtain ⟨a, rfl, _⟩ := By.form hs
  subst h1 h2
  exact ⟨a, hd⟩
theorem FS.keep {M0 M : Mem} {F0 G0 F G : List Nat} {di : Nat} {d d' : DS} {out sv x1 x2 x3 x5 : Value} {rows : List PF} (h : FS M0 F0 G0 di M F G d out rows) (hc : M[di]? = some ⟨[x1, x2, x3, sv, x5], 98, 1, 0, .own⟩) (hh : d'.held = d.held) :
    FS M0 F0 G0 di (M.set di ⟨dcells d' sv, 98, 1, 0, .own⟩) F G d' out rows := by
  obtain ⟨sv0, H, rfl, hH, hd, hs⟩ := h.df
  rw [hc] at hd
  simp only [dcells, Option.some.injEq, Blk.mk.injEq, List.cons.injEq] at hd
  obtain rfl : sv = sv0 := hd.1.2.2.2.1
  have hi := lt_of_some hc
  refine h.stepD (Frm.refl.set (by simp)) ⟨sv, H, rfl, hH, by rw [List.getElem?_set_self hi], ?_⟩ fun x hx => .inl hx
  rw [hh]; exact hs.setb hH

def lab (pl : Nat) : Nat := if pl = 0 then 0 else if pl = 1 then 2 else 1
/-- How far the bytes are taken. -/
structure Go1 (s : List UInt8) (d0 : DS) (rows0 : List PF) (i : Nat) (d : DS) (rows : List PF) : Prop where
  le : i ≤ s.length
  ok : d.Ok
  run : d.run (s.drop i) = d0.run s
  out : rows ++ d.out (s.drop i) = rows0 ++ d0.out s
  nr : rows.length + (s.length - i) ≤ 100000
  nb : d.bad + (s.length - i) ≤ 1000000
namespace Go1
variable {s : List UInt8} {d0 d : DS} {rows0 rows : List PF} {i : Nat} {c : UInt8}
theorem step (h : Go1 s d0 rows0 i d rows) (hc : s[i]? = some c) : Go1 s d0 rows0 (i + 1) (d.step c) (rows ++ d.tell c) := by
  have hi := (List.getElem?_eq_some_iff.mp hc).1
  have e : s.drop i = c :: s.drop (i + 1) := by
    rw [List.drop_eq_getElem_cons hi, (List.getElem?_eq_some_iff.mp hc).2]
  have h1 := h.run
  have h2 := h.out
  have h3 := DS.step_bad (d := d) (c := c)
  have h4 := DS.tell_len (d := d) (c := c)
  have h5 := h.nr
  have h6 := h.nb
  rw [e] at h1 h2
  exact ⟨hi, DS.step_ok h.ok, h1, by rw [List.append_assoc]; exact h2, by rw [List.length_append]; omega, by omega⟩
theorem fin (h : Go1 s d0 rows0 s.length d rows) : d = d0.run s ∧ rows = rows0 ++ d0.out s := by
  have h1 := h.run
  have h2 := h.out
  rw [List.drop_length] at h1 h2
  exact ⟨h1, by rw [← h2]; exact (List.append_nil _).symm⟩
end Go1
theorem c_eq (c k : UInt8) : ((c.toNat : Int) = (k.toNat : Int)) = (c = k) := propext ⟨fun h => UInt8.toNat_inj.mp (by omega), fun h => by rw [h]⟩

theorem feed_spec {M0 : Mem} {di : Nat} {F0 G0 : List Nat} {d0 : DS} {out0 : Value} {rows0 : List PF} (s : List UInt8) (hD : Df M0 di F0 d0) (hO : Sl M0 38 3 out0 G0 (rows0.map frow)) (hdj : ∀ x ∈ F0, x ∉ G0) (hok : d0.Ok)
    (hr : rows0.length + s.length ≤ 100000) (hb : d0.bad + s.length ≤ 1000000) :
    LCall Try.prog 56 [.pointer (some ⟨di, 0, none⟩), txt s, out0] M0 fun v M => ∃ F G, FS M0 F0 G0 di M F G (d0.run s) v (rows0 ++ d0.out s) := by
  refine LCall_enter Try.func56 c56 ?_
  simp (contextual := true) (implicitDefEqProofs := false) (maxSteps := 2000000) (disch := first | rfl | exact Nat.le_of_ble_eq_true rfl | omega | (simp only [List.length_append, List.length_cons, List.length_nil, List.length_set]; omega)) only [L56, W1, W2, W3, W4, W5, W6, W7, W8, W9, W10, W11, W12, W13, W14, W15, eq_self, ite_true, ite_false, undef_eq, List.set_cons_zero, List.set_cons_succ, List.getD_cons_zero, List.getD_cons_succ, List.map_cons, List.map_nil, List.length_cons, List.length_nil, List.append_nil, List.cons_append, List.nil_append, List.replicate_succ, List.replicate_zero, Nat.reduceAdd, Nat.reduceSub, ↓reduceIte, List.getElem?_cons_zero, List.getElem?_cons_succ, basic, cellsL, resOf, setAt, List.append_assoc, List.length_append, List.getElem?_append_left, List.getElem?_append_right, List.set_append_left, List.set_append_right, below, belowB, belowA, atomB, List.mem_cons, List.not_mem_nil, forall_eq_or_imp, forall_eq, List.toList_toArray, implies_true, List.take_succ_cons, List.take_zero, List.drop_succ_cons, List.drop_zero, List.take_nil, List.drop_nil, Nat.reduceLeDiff, Nat.reduceMul, Int.reduceToNat, Int.reduceLT, Int.reduceLE, Int.reduceAdd, Int.reduceNeg, Int.reduceEq, splice, List.singleton_append, Nat.reduceEqDiff, Nat.reduceLT, isAtom, List.all_cons, List.all_nil, Option.map_some, Option.bind_some, List.length_set, Int.reduceSub, Int.reduceMul, List.getElem?_set_self, List.getElem?_set_ne, ofB_2, tmpR_if, ro_sliceData, ro_capNil, ro_noZero, ext_2, ext_3, ext_4, ext_5, List.set_set]
  obtain ⟨I, hI⟩ : ∃ I : Nat → Nat → List Value → Mem → Prop, I = fun n l t M => ∃ (i : Nat) (d : DS) (rows : List PF) (out : Value) (F G : List Nat), n = s.length - i ∧ l = lab d.pl ∧ Go1 s d0 rows0 i d rows ∧ FS M0 F0 G0 di M F G d out rows ∧
    Tab 107 [(0, .pointer (some ⟨di, 0, none⟩)), (1, txt s), (2, out), (7, .int .i64 (i : Int))] t := ⟨_, rfl⟩
  refine scope_fall I (s.length + 1) (by rfl) (by rfl) ?_ ?_
  · have h0 : ∀ t, (Tab 107 [(0, .pointer (some ⟨di, 0, none⟩)), (1, txt s), (2, out0), (7, .int .i64 0)] t) → I s.length (lab d0.pl) t M0 := fun t ht => by
      rw [hI]
      exact ⟨0, d0, rows0, out0, _, _, rfl, rfl, ⟨Nat.zero_le _, hok, rfl, rfl, hr, hb⟩, ⟨Frm.refl, hD, hO, hdj, fun x hx => .inl hx, fun x hx => .inl hx⟩, ht⟩
    clear hI
    by_cases hp0 : d0.pl = 0
    · obtain ⟨a, hd⟩ := hD.cell (b1 := false) (by simp [hp0]) rfl
      have hl : lab d0.pl = 0 := by simp [lab, hp0]
      rw [hl] at h0
      simp (contextual := true) (implicitDefEqProofs := false) (maxSteps := 2000000) (disch := first | rfl | exact Nat.le_of_ble_eq_true rfl | omega | (simp only [List.length_append, List.length_cons, List.length_nil, List.length_set]; omega)) only [hd, W1, W2, W3, W4, W5, W6, W7, W8, W9, W10, W11, W12, W13, W14, W15, eq_self, ite_true, ite_false, undef_eq, List.set_cons_zero, List.set_cons_succ, List.getD_cons_zero, List.getD_cons_succ, List.map_cons, List.map_nil, List.length_cons, List.length_nil, List.append_nil, List.cons_append, List.nil_append, List.replicate_succ, List.replicate_zero, Nat.reduceAdd, Nat.reduceSub, ↓reduceIte, List.getElem?_cons_zero, List.getElem?_cons_succ, basic, cellsL, resOf, setAt, List.append_assoc, List.length_append, List.getElem?_append_left, List.getElem?_append_right, List.set_append_left, List.set_append_right, below, belowB, belowA, atomB, List.mem_cons, List.not_mem_nil, forall_eq_or_imp, forall_eq, List.toList_toArray, implies_true, List.take_succ_cons, List.take_zero, List.drop_succ_cons, List.drop_zero, List.take_nil, List.drop_nil, Nat.reduceLeDiff, Nat.reduceMul, Int.reduceToNat, Int.reduceLT, Int.reduceLE, Int.reduceAdd, Int.reduceNeg, Int.reduceEq, splice, List.singleton_append, Nat.reduceEqDiff, Nat.reduceLT, isAtom, List.all_cons, List.all_nil, Option.map_some, Option.bind_some, List.length_set, Int.reduceSub, Int.reduceMul, List.getElem?_set_self, List.getElem?_set_ne, ofB_2, tmpR_if, ro_sliceData, ro_capNil, ro_noZero, ext_2, ext_3, ext_4, ext_5, List.set_set]
      exact jAt_go (h0 _ ⟨rfl, by simp⟩) (by omega)
    · by_cases hp1 : d0.pl = 1
      · obtain ⟨a, hd⟩ := hD.cell (b1 := true) (b2 := false) (by simp [hp0]) (by simp [hp1])
        have hl : lab d0.pl = 2 := by simp [lab, hp1]
        rw [hl] at h0
        simp (contextual := true) (implicitDefEqProofs := false) (maxSteps := 2000000) (disch := first | rfl | exact Nat.le_of_ble_eq_true rfl | omega | (simp only [List.length_append, List.length_cons, List.length_nil, List.length_set]; omega)) only [hd, W1, W2, W3, W4, W5, W6, W7, W8, W9, W10, W11, W12, W13, W14, W15, eq_self, ite_true, ite_false, undef_eq, List.set_cons_zero, List.set_cons_succ, List.getD_cons_zero, List.getD_cons_succ, List.map_cons, List.map_nil, List.length_cons, List.length_nil, List.append_nil, List.cons_append, List.nil_append, List.replicate_succ, List.replicate_zero, Nat.reduceAdd, Nat.reduceSub, ↓reduceIte, List.getElem?_cons_zero, List.getElem?_cons_succ, basic, cellsL, resOf, setAt, List.append_assoc, List.length_append, List.getElem?_append_left, List.getElem?_append_right, List.set_append_left, List.set_append_right, below, belowB, belowA, atomB, List.mem_cons, List.not_mem_nil, forall_eq_or_imp, forall_eq, List.toList_toArray, implies_true, List.take_succ_cons, List.take_zero, List.drop_succ_cons, List.drop_zero, List.take_nil, List.drop_nil, Nat.reduceLeDiff, Nat.reduceMul, Int.reduceToNat, Int.reduceLT, Int.reduceLE, Int.reduceAdd, Int.reduceNeg, Int.reduceEq, splice, List.singleton_append, Nat.reduceEqDiff, Nat.reduceLT, isAtom, List.all_cons, List.all_nil, Option.map_some, Option.bind_some, List.length_set, Int.reduceSub, Int.reduceMul, List.getElem?_set_self, List.getElem?_set_ne, ofB_2, tmpR_if, ro_sliceData, ro_capNil, ro_noZero, ext_2, ext_3, ext_4, ext_5, List.set_set]
        exact jAt_go (h0 _ ⟨rfl, by simp⟩) (by omega)
      · obtain ⟨a, hd⟩ := hD.cell (b1 := true) (b2 := true) (by simp [hp0]) (by have := hok.p; simp; omega)
        have hl : lab d0.pl = 1 := by simp [lab, hp0, hp1]
        rw [hl] at h0
        simp (contextual := true) (implicitDefEqProofs := false) (maxSteps := 2000000) (disch := first | rfl | exact Nat.le_of_ble_eq_true rfl | omega | (simp only [List.length_append, List.length_cons, List.length_nil, List.length_set]; omega)) only [hd, W1, W2, W3, W4, W5, W6, W7, W8, W9, W10, W11, W12, W13, W14, W15, eq_self, ite_true, ite_false, undef_eq, List.set_cons_zero, List.set_cons_succ, List.getD_cons_zero, List.getD_cons_succ, List.map_cons, List.map_nil, List.length_cons, List.length_nil, List.append_nil, List.cons_append, List.nil_append, List.replicate_succ, List.replicate_zero, Nat.reduceAdd, Nat.reduceSub, ↓reduceIte, List.getElem?_cons_zero, List.getElem?_cons_succ, basic, cellsL, resOf, setAt, List.append_assoc, List.length_append, List.getElem?_append_left, List.getElem?_append_right, List.set_append_left, List.set_append_right, below, belowB, belowA, atomB, List.mem_cons, List.not_mem_nil, forall_eq_or_imp, forall_eq, List.toList_toArray, implies_true, List.take_succ_cons, List.take_zero, List.drop_succ_cons, List.drop_zero, List.take_nil, List.drop_nil, Nat.reduceLeDiff, Nat.reduceMul, Int.reduceToNat, Int.reduceLT, Int.reduceLE, Int.reduceAdd, Int.reduceNeg, Int.reduceEq, splice, List.singleton_append, Nat.reduceEqDiff, Nat.reduceLT, isAtom, List.all_cons, List.all_nil, Option.map_some, Option.bind_some, List.length_set, Int.reduceSub, Int.reduceMul, List.getElem?_set_self, List.getElem?_set_ne, ofB_2, tmpR_if, ro_sliceData, ro_capNil, ro_noZero, ext_2, ext_3, ext_4, ext_5, List.set_set]
        exact jAt_go (h0 _ ⟨rfl, by simp⟩) (by omega)
  · intro n l t M hn h
    rw [hI] at h
    obtain ⟨i, d, rows, out, F, G, rfl, rfl, hgo, hfs, ht⟩ := h
    have go : ∀ (i' : Nat) (d' : DS) (rows' : List PF) (out' : Value) (F' G' : List Nat) (t : List Value) (M' : Mem) (l : Nat), i < i' → l = lab d'.pl → Go1 s d0 rows0 i' d' rows' → FS M0 F0 G0 di M' F' G' d' out' rows' →
        (Tab 107 [(0, .pointer (some ⟨di, 0, none⟩)), (1, txt s), (2, out'), (7, .int .i64 (i' : Int))] t) → jAt I (s.length - i) l t M' := by
      intro i' d' rows' out' F' G' t M' l h1 h2 h3 h4 h5
      refine ⟨s.length - i', by have := h3.le; omega, ?_⟩
      rw [hI]
      exact ⟨i', d', rows', out', F', G', rfl, h2, h3, h4, h5⟩
    clear hI
    obtain ⟨f, rfl⟩ : ∃ f' : Nat → Value, t = [.pointer (some ⟨di, 0, none⟩), txt s, out, f' 3, f' 4, f' 5, f' 6, .int .i64 (i : Int), f' 8, f' 9, f' 10, f' 11, f' 12, f' 13, f' 14, f' 15, f' 16, f' 17, f' 18, f' 19, f' 20, f' 21, f' 22, f' 23, f' 24, f' 25, f' 26, f' 27, f' 28, f' 29, f' 30, f' 31, f' 32, f' 33, f' 34, f' 35, f' 36, f' 37, f' 38, f' 39, f' 40, f' 41, f' 42, f' 43, f' 44, f' 45, f' 46, f' 47, f' 48, f' 49, f' 50, f' 51, f' 52, f' 53, f' 54, f' 55, f' 56, f' 57, f' 58, f' 59, f' 60, f' 61, f' 62, f' 63, f' 64, f' 65, f' 66, f' 67, f' 68, f' 69, f' 70, f' 71, f' 72, f' 73, f' 74, f' 75, f' 76, f' 77, f' 78, f' 79, f' 80, f' 81, f' 82, f' 83, f' 84, f' 85, f' 86, f' 87, f' 88, f' 89, f' 90, f' 91, f' 92, f' 93, f' 94, f' 95, f' 96, f' 97, f' 98, f' 99, f' 100, f' 101, f' 102, f' 103, f' 104, f' 105, f' 106] := ht.open fun f' => rfl
    have hle := hgo.le
    have hnr := hgo.nr
    have hnb := hgo.nb
    have hok' := hgo.ok
    have hms := hok'.m
    have hhs := hok'.h
    obtain ⟨oa, rfl, _⟩ := hfs.o.form
    have done : i = s.length → ∃ F G, FS M0 F0 G0 di M F G (d0.run s) (.slice oa (rows.map frow).length (rows.map frow).length) (rows0 ++ d0.out s) := fun h => by
      subst h
      obtain ⟨e1, e2⟩ := hgo.fin
      rw [← e1, ← e2]
      exact ⟨F, G, hfs⟩
    have hlen : ((i : Int) = (s.length : Int)) = True ∧ i = s.length ∨ ((i : Int) = (s.length : Int)) = False ∧ i < s.length := by
      by_cases h : i = s.length
      · exact .inl ⟨eq_true (by omega), h⟩
      · exact .inr ⟨eq_false (by omega), by omega⟩
    have hw1 : IntKind.i64.wrap ((i : Int) + 1) = ((i + 1 : Nat) : Int) := by rw [wrap_i64 (by omega) (by omega)]; omega
    have hw2 : IntKind.i64.wrap (((i + 1 : Nat) : Int) - 1) = (i : Int) := by rw [wrap_i64 (by omega) (by omega)]; omega
    have h0i : ((0 : Int) ≤ (i : Int)) = True := by simp
    generalize hR : (rows.map frow).length = R at hfs done ⊢
    by_cases hp0 : d.pl = 0
    · -- between
      have hl : lab d.pl = 0 := by simp [lab, hp0]
      rw [hl]
      obtain ⟨a, hd⟩ := hfs.df.cell (b1 := false) (b2 := false) (by simp [hp0]) (by simp [hp0])
      have hdl := lt_of_some hd
      rcases hlen with ⟨e1, e2⟩ | ⟨e1, e2⟩
      · simp (contextual := true) (implicitDefEqProofs := false) (maxSteps := 2000000) (disch := first | rfl | exact Nat.le_of_ble_eq_true rfl | omega | (simp only [List.length_append, List.length_cons, List.length_nil, List.length_set]; omega)) only [hasL, Bool.or_false, Bool.false_or, hd, bin_ladd, str_cut, str_app, str_eq, string_mk_size, string_mk, e1, W1, W2, W3, W4, W5, W6, W7, W8, W9, W10, W11, W12, W13, W14, W15, eq_self, ite_true, ite_false, undef_eq, List.set_cons_zero, List.set_cons_succ, List.getD_cons_zero, List.getD_cons_succ, List.map_cons, List.map_nil, List.length_cons, List.length_nil, List.append_nil, List.cons_append, List.nil_append, List.replicate_succ, List.replicate_zero, Nat.reduceAdd, Nat.reduceSub, ↓reduceIte, List.getElem?_cons_zero, List.getElem?_cons_succ, basic, cellsL, resOf, setAt, List.append_assoc, List.length_append, List.getElem?_append_left, List.getElem?_append_right, List.set_append_left, List.set_append_right, below, belowB, belowA, atomB, List.mem_cons, List.not_mem_nil, forall_eq_or_imp, forall_eq, List.toList_toArray, implies_true, List.take_succ_cons, List.take_zero, List.drop_succ_cons, List.drop_zero, List.take_nil, List.drop_nil, Nat.reduceLeDiff, Nat.reduceMul, Int.reduceToNat, Int.reduceLT, Int.reduceLE, Int.reduceAdd, Int.reduceNeg, Int.reduceEq, splice, List.singleton_append, Nat.reduceEqDiff, Nat.reduceLT, isAtom, List.all_cons, List.all_nil, Option.map_some, Option.bind_some, List.length_set, Int.reduceSub, Int.reduceMul, List.getElem?_set_self, List.getElem?_set_ne, ofB_2, tmpR_if, ro_sliceData, ro_capNil, ro_noZero, ext_2, ext_3, ext_4, ext_5, List.set_set]
        exact done e2
      obtain ⟨c, hc⟩ : ∃ c, s[i]? = some c := ⟨s[i], List.getElem?_eq_getElem e2⟩
      have hg1 := hgo.step hc
      have htl : d.tell c = [] := by simp [DS.tell, hp0]
      rw [htl, List.append_nil] at hg1
      by_cases hc1 : c = 192
      · have hk1 : ((c.toNat : Int) = 192) = True := (c_eq c 192).trans (eq_true hc1)
        have hst : d.step c = ⟨d.most, 1, [], d.bad⟩ := by simp [DS.step, hp0, hc1]
        rw [hst] at hg1
        simp (contextual := true) (implicitDefEqProofs := false) (maxSteps := 2000000) (disch := first | rfl | exact Nat.le_of_ble_eq_true rfl | omega | (simp only [List.length_append, List.length_cons, List.length_nil, List.length_set]; omega)) only [hasL, Bool.or_false, Bool.false_or, hd, bin_ladd, str_cut, str_app, str_eq, string_mk_size, string_mk, e1, hw1, hw2, h0i, Int.toNat_natCast, hc, hk1, W1, W2, W3, W4, W5, W6, W7, W8, W9, W10, W11, W12, W13, W14, W15, eq_self, ite_true, ite_false, undef_eq, List.set_cons_zero, List.set_cons_succ, List.getD_cons_zero, List.getD_cons_succ, List.map_cons, List.map_nil, List.length_cons, List.length_nil, List.append_nil, List.cons_append, List.nil_append, List.replicate_succ, List.replicate_zero, Nat.reduceAdd, Nat.reduceSub, ↓reduceIte, List.getElem?_cons_zero, List.getElem?_cons_succ, basic, cellsL, resOf, setAt, List.append_assoc, List.length_append, List.getElem?_append_left, List.getElem?_append_right, List.set_append_left, List.set_append_right, below, belowB, belowA, atomB, List.mem_cons, List.not_mem_nil, forall_eq_or_imp, forall_eq, List.toList_toArray, implies_true, List.take_succ_cons, List.take_zero, List.drop_succ_cons, List.drop_zero, List.take_nil, List.drop_nil, Nat.reduceLeDiff, Nat.reduceMul, Int.reduceToNat, Int.reduceLT, Int.reduceLE, Int.reduceAdd, Int.reduceNeg, Int.reduceEq, splice, List.singleton_append, Nat.reduceEqDiff, Nat.reduceLT, isAtom, List.all_cons, List.all_nil, Option.map_some, Option.bind_some, List.length_set, Int.reduceSub, Int.reduceMul, List.getElem?_set_self, List.getElem?_set_ne, ofB_2, tmpR_if, ro_sliceData, ro_capNil, ro_noZero, ext_2, ext_3, ext_4, ext_5, List.set_set]
        refine (begin_spec hd).mono ?_
        rintro v M2 rfl
        have hfs2 := hfs.setd (d' := ⟨d.most, 1, [], d.bad⟩) rfl rfl
        simp (contextual := true) (implicitDefEqProofs := false) (maxSteps := 2000000) (disch := first | rfl | exact Nat.le_of_ble_eq_true rfl | omega | (simp only [List.length_append, List.length_cons, List.length_nil, List.length_set]; omega)) only [W1, W2, W3, W4, W5, W6, W7, W8, W9, W10, W11, W12, W13, W14, W15, eq_self, ite_true, ite_false, undef_eq, List.set_cons_zero, List.set_cons_succ, List.getD_cons_zero, List.getD_cons_succ, List.map_cons, List.map_nil, List.length_cons, List.length_nil, List.append_nil, List.cons_append, List.nil_append, List.replicate_succ, List.replicate_zero, Nat.reduceAdd, Nat.reduceSub, ↓reduceIte, List.getElem?_cons_zero, List.getElem?_cons_succ, basic, cellsL, resOf, setAt, List.append_assoc, List.length_append, List.getElem?_append_left, List.getElem?_append_right, List.set_append_left, List.set_append_right, below, belowB, belowA, atomB, List.mem_cons, List.not_mem_nil, forall_eq_or_imp, forall_eq, List.toList_toArray, implies_true, List.take_succ_cons, List.take_zero, List.drop_succ_cons, List.drop_zero, List.take_nil, List.drop_nil, Nat.reduceLeDiff, Nat.reduceMul, Int.reduceToNat, Int.reduceLT, Int.reduceLE, Int.reduceAdd, Int.reduceNeg, Int.reduceEq, splice, List.singleton_append, Nat.reduceEqDiff, Nat.reduceLT, isAtom, List.all_cons, List.all_nil, Option.map_some, Option.bind_some, List.length_set, Int.reduceSub, Int.reduceMul, List.getElem?_set_self, List.getElem?_set_ne, ofB_2, tmpR_if, ro_sliceData, ro_capNil, ro_noZero, ext_2, ext_3, ext_4, ext_5, List.set_set]
        exact go (i + 1) _ _ _ _ _ _ _ _ (by omega) rfl hg1 hfs2 ⟨rfl, by simp [hw1]⟩
      · have hk1 : ((c.toNat : Int) = 192) = False := (c_eq c 192).trans (eq_false hc1)
        have hst : d.step c = d := by simp [DS.step, hp0, hc1]
        rw [hst] at hg1
        simp (contextual := true) (implicitDefEqProofs := false) (maxSteps := 2000000) (disch := first | rfl | exact Nat.le_of_ble_eq_true rfl | omega | (simp only [List.length_append, List.length_cons, List.length_nil, List.length_set]; omega)) only [hasL, Bool.or_false, Bool.false_or, hd, bin_ladd, str_cut, str_app, str_eq, string_mk_size, string_mk, e1, hw1, hw2, h0i, Int.toNat_natCast, hc, hk1, W1, W2, W3, W4, W5, W6, W7, W8, W9, W10, W11, W12, W13, W14, W15, eq_self, ite_true, ite_false, undef_eq, List.set_cons_zero, List.set_cons_succ, List.getD_cons_zero, List.getD_cons_succ, List.map_cons, List.map_nil, List.length_cons, List.length_nil, List.append_nil, List.cons_append, List.nil_append, List.replicate_succ, List.replicate_zero, Nat.reduceAdd, Nat.reduceSub, ↓reduceIte, List.getElem?_cons_zero, List.getElem?_cons_succ, basic, cellsL, resOf, setAt, List.append_assoc, List.length_append, List.getElem?_append_left, List.getElem?_append_right, List.set_append_left, List.set_append_right, below, belowB, belowA, atomB, List.mem_cons, List.not_mem_nil, forall_eq_or_imp, forall_eq, List.toList_toArray, implies_true, List.take_succ_cons, List.take_zero, List.drop_succ_cons, List.drop_zero, List.take_nil, List.drop_nil, Nat.reduceLeDiff, Nat.reduceMul, Int.reduceToNat, Int.reduceLT, Int.reduceLE, Int.reduceAdd, Int.reduceNeg, Int.reduceEq, splice, List.singleton_append, Nat.reduceEqDiff, Nat.reduceLT, isAtom, List.all_cons, List.all_nil, Option.map_some, Option.bind_some, List.length_set, Int.reduceSub, Int.reduceMul, List.getElem?_set_self, List.getElem?_set_ne, ofB_2, tmpR_if, ro_sliceData, ro_capNil, ro_noZero, ext_2, ext_3, ext_4, ext_5, List.set_set]
        exact go (i + 1) _ _ _ _ _ _ _ _ (by omega) hl.symm hg1 hfs ⟨rfl, by simp [hw1]⟩
    by_cases hp1 : d.pl = 1
    · -- inside
      have hl : lab d.pl = 2 := by simp [lab, hp1]
      rw [hl]
      obtain ⟨a, hd⟩ := hfs.df.cell (b1 := true) (b2 := false) (by simp [hp1]) (by simp [hp1])
      have hdl := lt_of_some hd
      rcases hlen with ⟨e1, e2⟩ | ⟨e1, e2⟩
      · simp (contextual := true) (implicitDefEqProofs := false) (maxSteps := 2000000) (disch := first | rfl | exact Nat.le_of_ble_eq_true rfl | omega | (simp only [List.length_append, List.length_cons, List.length_nil, List.length_set]; omega)) only [hasL, Bool.or_false, Bool.false_or, hd, bin_ladd, str_cut, str_app, str_eq, string_mk_size, string_mk, e1, W1, W2, W3, W4, W5, W6, W7, W8, W9, W10, W11, W12, W13, W14, W15, eq_self, ite_true, ite_false, undef_eq, List.set_cons_zero, List.set_cons_succ, List.getD_cons_zero, List.getD_cons_succ, List.map_cons, List.map_nil, List.length_cons, List.length_nil, List.append_nil, List.cons_append, List.nil_append, List.replicate_succ, List.replicate_zero, Nat.reduceAdd, Nat.reduceSub, ↓reduceIte, List.getElem?_cons_zero, List.getElem?_cons_succ, basic, cellsL, resOf, setAt, List.append_assoc, List.length_append, List.getElem?_append_left, List.getElem?_append_right, List.set_append_left, List.set_append_right, below, belowB, belowA, atomB, List.mem_cons, List.not_mem_nil, forall_eq_or_imp, forall_eq, List.toList_toArray, implies_true, List.take_succ_cons, List.take_zero, List.drop_succ_cons, List.drop_zero, List.take_nil, List.drop_nil, Nat.reduceLeDiff, Nat.reduceMul, Int.reduceToNat, Int.reduceLT, Int.reduceLE, Int.reduceAdd, Int.reduceNeg, Int.reduceEq, splice, List.singleton_append, Nat.reduceEqDiff, Nat.reduceLT, isAtom, List.all_cons, List.all_nil, Option.map_some, Option.bind_some, List.length_set, Int.reduceSub, Int.reduceMul, List.getElem?_set_self, List.getElem?_set_ne, ofB_2, tmpR_if, ro_sliceData, ro_capNil, ro_noZero, ext_2, ext_3, ext_4, ext_5, List.set_set]
        exact done e2
      obtain ⟨c, hc⟩ : ∃ c, s[i]? = some c := ⟨s[i], List.getElem?_eq_getElem e2⟩
      have hg1 := hgo.step hc
      by_cases hc1 : c = 192
      · have hk1 : ((c.toNat : Int) = 192) = True := (c_eq c 192).trans (eq_true hc1)
        have hst : d.step c = ⟨d.most, 1, [], d.bad⟩ := by simp [DS.step, hp1, hc1]
        rw [hst] at hg1
        by_cases hne : d.held = []
        · have htl : d.tell c = [] := by simp [DS.tell, hne]
          rw [htl, List.append_nil] at hg1
          have hz : ((0 : Int) < (d.held.length : Int)) = False := by simp [hne]
          simp (contextual := true) (implicitDefEqProofs := false) (maxSteps := 2000000) (disch := first | rfl | exact Nat.le_of_ble_eq_true rfl | omega | (simp only [List.length_append, List.length_cons, List.length_nil, List.length_set]; omega)) only [hasL, Bool.or_false, Bool.false_or, hd, bin_ladd, str_cut, str_app, str_eq, string_mk_size, string_mk, e1, hw1, hw2, h0i, Int.toNat_natCast, hc, hk1, hz, W1, W2, W3, W4, W5, W6, W7, W8, W9, W10, W11, W12, W13, W14, W15, eq_self, ite_true, ite_false, undef_eq, List.set_cons_zero, List.set_cons_succ, List.getD_cons_zero, List.getD_cons_succ, List.map_cons, List.map_nil, List.length_cons, List.length_nil, List.append_nil, List.cons_append, List.nil_append, List.replicate_succ, List.replicate_zero, Nat.reduceAdd, Nat.reduceSub, ↓reduceIte, List.getElem?_cons_zero, List.getElem?_cons_succ, basic, cellsL, resOf, setAt, List.append_assoc, List.length_append, List.getElem?_append_left, List.getElem?_append_right, List.set_append_left, List.set_append_right, below, belowB, belowA, atomB, List.mem_cons, List.not_mem_nil, forall_eq_or_imp, forall_eq, List.toList_toArray, implies_true, List.take_succ_cons, List.take_zero, List.drop_succ_cons, List.drop_zero, List.take_nil, List.drop_nil, Nat.reduceLeDiff, Nat.reduceMul, Int.reduceToNat, Int.reduceLT, Int.reduceLE, Int.reduceAdd, Int.reduceNeg, Int.reduceEq, splice, List.singleton_append, Nat.reduceEqDiff, Nat.reduceLT, isAtom, List.all_cons, List.all_nil, Option.map_some, Option.bind_some, List.length_set, Int.reduceSub, Int.reduceMul, List.getElem?_set_self, List.getElem?_set_ne, ofB_2, tmpR_if, ro_sliceData, ro_capNil, ro_noZero, ext_2, ext_3, ext_4, ext_5, List.set_set]
          refine (begin_spec hd).mono ?_
          rintro v M2 rfl
          have hfs2 := hfs.setd (d' := ⟨d.most, 1, [], d.bad⟩) rfl rfl
          simp (contextual := true) (implicitDefEqProofs := false) (maxSteps := 2000000) (disch := first | rfl | exact Nat.le_of_ble_eq_true rfl | omega | (simp only [List.length_append, List.length_cons, List.length_nil, List.length_set]; omega)) only [W1, W2, W3, W4, W5, W6, W7, W8, W9, W10, W11, W12, W13, W14, W15, eq_self, ite_true, ite_false, undef_eq, List.set_cons_zero, List.set_cons_succ, List.getD_cons_zero, List.getD_cons_succ, List.map_cons, List.map_nil, List.length_cons, List.length_nil, List.append_nil, List.cons_append, List.nil_append, List.replicate_succ, List.replicate_zero, Nat.reduceAdd, Nat.reduceSub, ↓reduceIte, List.getElem?_cons_zero, List.getElem?_cons_succ, basic, cellsL, resOf, setAt, List.append_assoc, List.length_append, List.getElem?_append_left, List.getElem?_append_right, List.set_append_left, List.set_append_right, below, belowB, belowA, atomB, List.mem_cons, List.not_mem_nil, forall_eq_or_imp, forall_eq, List.toList_toArray, implies_true, List.take_succ_cons, List.take_zero, List.drop_succ_cons, List.drop_zero, List.take_nil, List.drop_nil, Nat.reduceLeDiff, Nat.reduceMul, Int.reduceToNat, Int.reduceLT, Int.reduceLE, Int.reduceAdd, Int.reduceNeg, Int.reduceEq, splice, List.singleton_append, Nat.reduceEqDiff, Nat.reduceLT, isAtom, List.all_cons, List.all_nil, Option.map_some, Option.bind_some, List.length_set, Int.reduceSub, Int.reduceMul, List.getElem?_set_self, List.getElem?_set_ne, ofB_2, tmpR_if, ro_sliceData, ro_capNil, ro_noZero, ext_2, ext_3, ext_4, ext_5, List.set_set]
          exact go (i + 1) _ _ _ _ _ _ _ _ (by omega) rfl hg1 hfs2 ⟨rfl, by simp [hw1]⟩
        · have htl : d.tell c = [fr d.held] := by simp [DS.tell, hp1, hc1, hne]
          rw [htl] at hg1
          have hz : ((0 : Int) < (d.held.length : Int)) = True := eq_true (by have := List.length_pos_iff.mpr hne; omega)
          simp (contextual := true) (implicitDefEqProofs := false) (maxSteps := 2000000) (disch := first | rfl | exact Nat.le_of_ble_eq_true rfl | omega | (simp only [List.length_append, List.length_cons, List.length_nil, List.length_set]; omega)) only [hasL, Bool.or_false, Bool.false_or, hd, bin_ladd, str_cut, str_app, str_eq, string_mk_size, string_mk, e1, hw1, hw2, h0i, Int.toNat_natCast, hc, hk1, hz, W1, W2, W3, W4, W5, W6, W7, W8, W9, W10, W11, ops_nil, ops_n, ops_g, guardK_it, guardK_if, guardK_u, CondP_t, CondP_f, ex_call, pickK_it, loadK_p, loadNK_p, storeB_s, cellB_s, cellB_r, cellsB_s, cellsB_r, condK_it, lc_skip, lc_region, lc_draw, lc_seq, lc_cond, lc_block, lc_exit, lc_ret, then_n, then_e, then_r, block_n, block_r, block_e, bin_add, bin_sub, bin_mul, bin_quo, bin_rem, bin_and, bin_or, bin_xor, bin_andNot, bin_eql, bin_neq, bin_lss, bin_leq, bin_gtr, bin_geq, bin_shl, bin_shr, bin_sadd, bin_seql, bin_sneq, un_not, un_neg, eqL_b, eqL_i, eqL_s, eqL_pnn, eqL_pns, eqL_psn, eqL_pp, eqL_slnn, eqL_slns, eqL_slsn, ex_callv, slB_e, slB_r, apB_e, lc_chain, lc_bad, putBK_s, lc_label, lc_goto, then_g, block_g, jump_g, jump_n, jump_r, jump_e, lf_seq, lf_label, eq_self, ite_true, ite_false, undef_eq, List.set_cons_zero, List.set_cons_succ, List.getD_cons_zero, List.getD_cons_succ, List.map_cons, List.map_nil, List.length_cons, List.length_nil, List.append_nil, List.cons_append, List.nil_append, List.replicate_succ, List.replicate_zero, Nat.reduceAdd, Nat.reduceSub, ↓reduceIte, List.getElem?_cons_zero, List.getElem?_cons_succ, basic, cellsL, resOf, setAt, List.append_assoc, List.length_append, List.getElem?_append_left, List.getElem?_append_right, List.set_append_left, List.set_append_right, below, belowB, belowA, atomB, List.mem_cons, List.not_mem_nil, forall_eq_or_imp, forall_eq, List.toList_toArray, implies_true, List.take_succ_cons, List.take_zero, List.drop_succ_cons, List.drop_zero, List.take_nil, List.drop_nil, Nat.reduceLeDiff, Nat.reduceMul, Int.reduceToNat, Int.reduceLT, Int.reduceLE, Int.reduceAdd, Int.reduceNeg, Int.reduceEq, splice, List.singleton_append, Nat.reduceEqDiff, Nat.reduceLT, isAtom, List.all_cons, List.all_nil, Option.map_some, Option.bind_some, List.length_set, Int.reduceSub, Int.reduceMul, List.getElem?_set_self, List.getElem?_set_ne, ofB_2, tmpR_if, ro_sliceData, ro_capNil, ro_noZero, ext_2, ext_3, ext_4, ext_5, List.set_set]
          refine (frame_spec hfs.df hne (by omega)).use ?_
          generalize fr d.held = y at hg1 ⊢
          have hyl : frow y = [.int .i64 y.1, .int .i64 y.2.1, txt y.2.2] := rfl
          rw [hyl]
          simp (contextual := true) (implicitDefEqProofs := false) (maxSteps := 2000000) (disch := first | rfl | exact Nat.le_of_ble_eq_true rfl | omega | (simp only [List.length_append, List.length_cons, List.length_nil, List.length_set]; omega)) only [W1, W2, W3, W4, W5, W6, W7, W8, W9, W10, W11, ops_nil, ops_n, ops_g, guardK_it, guardK_if, guardK_u, CondP_t, CondP_f, ex_call, pickK_it, loadK_p, loadNK_p, storeB_s, cellB_s, cellB_r, cellsB_s, cellsB_r, condK_it, lc_skip, lc_region, lc_draw, lc_seq, lc_cond, lc_block, lc_exit, lc_ret, then_n, then_e, then_r, block_n, block_r, block_e, bin_add, bin_sub, bin_mul, bin_quo, bin_rem, bin_and, bin_or, bin_xor, bin_andNot, bin_eql, bin_neq, bin_lss, bin_leq, bin_gtr, bin_geq, bin_shl, bin_shr, bin_sadd, bin_seql, bin_sneq, un_not, un_neg, eqL_b, eqL_i, eqL_s, eqL_pnn, eqL_pns, eqL_psn, eqL_pp, eqL_slnn, eqL_slns, eqL_slsn, ex_callv, slB_e, slB_r, apB_e, lc_chain, lc_bad, putBK_s, lc_label, lc_goto, then_g, block_g, jump_g, jump_n, jump_r, jump_e, lf_seq, lf_label, eq_self, ite_true, ite_false, undef_eq, List.set_cons_zero, List.set_cons_succ, List.getD_cons_zero, List.getD_cons_succ, List.map_cons, List.map_nil, List.length_cons, List.length_nil, List.append_nil, List.cons_append, List.nil_append, List.replicate_succ, List.replicate_zero, Nat.reduceAdd, Nat.reduceSub, ↓reduceIte, List.getElem?_cons_zero, List.getElem?_cons_succ, basic, cellsL, resOf, setAt, List.append_assoc, List.length_append, List.getElem?_append_left, List.getElem?_append_right, List.set_append_left, List.set_append_right, below, belowB, belowA, atomB, List.mem_cons, List.not_mem_nil, forall_eq_or_imp, forall_eq, List.toList_toArray, implies_true, List.take_succ_cons, List.take_zero, List.drop_succ_cons, List.drop_zero, List.take_nil, List.drop_nil, Nat.reduceLeDiff, Nat.reduceMul, Int.reduceToNat, Int.reduceLT, Int.reduceLE, Int.reduceAdd, Int.reduceNeg, Int.reduceEq, splice, List.singleton_append, Nat.reduceEqDiff, Nat.reduceLT, isAtom, List.all_cons, List.all_nil, Option.map_some, Option.bind_some, List.length_set, Int.reduceSub, Int.reduceMul, List.getElem?_set_self, List.getElem?_set_ne, ofB_2, tmpR_if, ro_sliceData, ro_capNil, ro_noZero, ext_2, ext_3, ext_4, ext_5, List.set_set]
          refine app_row (bytes := 32) (hfs.o.frm0 Frm.refl.app) rfl (by simp; omega) ?_
          intro v M2 G2 hM hf hs hG
          have hfs2 : FS M0 F0 G0 di M2 F G2 d v (rows ++ [y]) := (hfs.pure Frm.refl.app).stepO hf (by rw [List.map_append]; exact hs) fun x hx => .inr (hG x hx)
          obtain ⟨a2, hd2⟩ := hfs2.df.cell (b1 := true) (b2 := false) (by simp [hp1]) (by simp [hp1])
          obtain ⟨va, rfl, _⟩ := hfs2.o.form
          simp (contextual := true) (implicitDefEqProofs := false) (maxSteps := 2000000) (disch := first | rfl | exact Nat.le_of_ble_eq_true rfl | omega | (simp only [List.length_append, List.length_cons, List.length_nil, List.length_set]; omega)) only [W1, W2, W3, W4, W5, W6, W7, W8, W9, W10, W11, W12, W13, W14, W15, eq_self, ite_true, ite_false, undef_eq, List.set_cons_zero, List.set_cons_succ, List.getD_cons_zero, List.getD_cons_succ, List.map_cons, List.map_nil, List.length_cons, List.length_nil, List.append_nil, List.cons_append, List.nil_append, List.replicate_succ, List.replicate_zero, Nat.reduceAdd, Nat.reduceSub, ↓reduceIte, List.getElem?_cons_zero, List.getElem?_cons_succ, basic, cellsL, resOf, setAt, List.append_assoc, List.length_append, List.getElem?_append_left, List.getElem?_append_right, List.set_append_left, List.set_append_right, below, belowB, belowA, atomB, List.mem_cons, List.not_mem_nil, forall_eq_or_imp, forall_eq, List.toList_toArray, implies_true, List.take_succ_cons, List.take_zero, List.drop_succ_cons, List.drop_zero, List.take_nil, List.drop_nil, Nat.reduceLeDiff, Nat.reduceMul, Int.reduceToNat, Int.reduceLT, Int.reduceLE, Int.reduceAdd, Int.reduceNeg, Int.reduceEq, splice, List.singleton_append, Nat.reduceEqDiff, Nat.reduceLT, isAtom, List.all_cons, List.all_nil, Option.map_some, Option.bind_some, List.length_set, Int.reduceSub, Int.reduceMul, List.getElem?_set_self, List.getElem?_set_ne, ofB_2, tmpR_if, ro_sliceData, ro_capNil, ro_noZero, ext_2, ext_3, ext_4, ext_5, List.set_set]
          refine (begin_spec hd2).mono ?_
          rintro _ M3 rfl
          have hfs3 := hfs2.setd (d' := ⟨d.most, 1, [], d.bad⟩) rfl rfl
          simp (contextual := true) (implicitDefEqProofs := false) (maxSteps := 2000000) (disch := first | rfl | exact Nat.le_of_ble_eq_true rfl | omega | (simp only [List.length_append, List.length_cons, List.length_nil, List.length_set]; omega)) only [W1, W2, W3, W4, W5, W6, W7, W8, W9, W10, W11, W12, W13, W14, W15, eq_self, ite_true, ite_false, undef_eq, List.set_cons_zero, List.set_cons_succ, List.getD_cons_zero, List.getD_cons_succ, List.map_cons, List.map_nil, List.length_cons, List.length_nil, List.append_nil, List.cons_append, List.nil_append, List.replicate_succ, List.replicate_zero, Nat.reduceAdd, Nat.reduceSub, ↓reduceIte, List.getElem?_cons_zero, List.getElem?_cons_succ, basic, cellsL, resOf, setAt, List.append_assoc, List.length_append, List.getElem?_append_left, List.getElem?_append_right, List.set_append_left, List.set_append_right, below, belowB, belowA, atomB, List.mem_cons, List.not_mem_nil, forall_eq_or_imp, forall_eq, List.toList_toArray, implies_true, List.take_succ_cons, List.take_zero, List.drop_succ_cons, List.drop_zero, List.take_nil, List.drop_nil, Nat.reduceLeDiff, Nat.reduceMul, Int.reduceToNat, Int.reduceLT, Int.reduceLE, Int.reduceAdd, Int.reduceNeg, Int.reduceEq, splice, List.singleton_append, Nat.reduceEqDiff, Nat.reduceLT, isAtom, List.all_cons, List.all_nil, Option.map_some, Option.bind_some, List.length_set, Int.reduceSub, Int.reduceMul, List.getElem?_set_self, List.getElem?_set_ne, ofB_2, tmpR_if, ro_sliceData, ro_capNil, ro_noZero, ext_2, ext_3, ext_4, ext_5, List.set_set]
          exact go (i + 1) _ _ _ _ _ _ _ _ (by omega) rfl hg1 hfs3 ⟨rfl, by simp [hw1]⟩
      have hk1 : ((c.toNat : Int) = 192) = False := (c_eq c 192).trans (eq_false hc1)
      have htl : d.tell c = [] := by simp [DS.tell, hc1]
      rw [htl, List.append_nil] at hg1
      by_cases hc2 : c = 219
      · have hk2 : ((c.toNat : Int) = 219) = True := (c_eq c 219).trans (eq_true hc2)
        have hst : d.step c = ⟨d.most, 2, d.held, d.bad⟩ := by simp [DS.step, hp1, hc2]
        rw [hst] at hg1
        simp (contextual := true) (implicitDefEqProofs := false) (maxSteps := 2000000) (disch := first | rfl | exact Nat.le_of_ble_eq_true rfl | omega | (simp only [List.length_append, List.length_cons, List.length_nil, List.length_set]; omega)) only [hasL, Bool.or_false, Bool.false_or, hd, bin_ladd, str_cut, str_app, str_eq, string_mk_size, string_mk, e1, hw1, hw2, h0i, Int.toNat_natCast, hc, hk1, hk2, W1, W2, W3, W4, W5, W6, W7, W8, W9, W10, W11, W12, W13, W14, W15, eq_self, ite_true, ite_false, undef_eq, List.set_cons_zero, List.set_cons_succ, List.getD_cons_zero, List.getD_cons_succ, List.map_cons, List.map_nil, List.length_cons, List.length_nil, List.append_nil, List.cons_append, List.nil_append, List.replicate_succ, List.replicate_zero, Nat.reduceAdd, Nat.reduceSub, ↓reduceIte, List.getElem?_cons_zero, List.getElem?_cons_succ, basic, cellsL, resOf, setAt, List.append_assoc, List.length_append, List.getElem?_append_left, List.getElem?_append_right, List.set_append_left, List.set_append_right, below, belowB, belowA, atomB, List.mem_cons, List.not_mem_nil, forall_eq_or_imp, forall_eq, List.toList_toArray, implies_true, List.take_succ_cons, List.take_zero, List.drop_succ_cons, List.drop_zero, List.take_nil, List.drop_nil, Nat.reduceLeDiff, Nat.reduceMul, Int.reduceToNat, Int.reduceLT, Int.reduceLE, Int.reduceAdd, Int.reduceNeg, Int.reduceEq, splice, List.singleton_append, Nat.reduceEqDiff, Nat.reduceLT, isAtom, List.all_cons, List.all_nil, Option.map_some, Option.bind_some, List.length_set, Int.reduceSub, Int.reduceMul, List.getElem?_set_self, List.getElem?_set_ne, ofB_2, tmpR_if, ro_sliceData, ro_capNil, ro_noZero, ext_2, ext_3, ext_4, ext_5, List.set_set]
        have hfs2 := hfs.keep (d' := ⟨d.most, 2, d.held, d.bad⟩) hd rfl
        exact go (i + 1) _ _ _ _ _ _ _ _ (by omega) rfl hg1 hfs2 ⟨rfl, by simp [hw1]⟩
      · have hk2 : ((c.toNat : Int) = 219) = False := (c_eq c 219).trans (eq_false hc2)
        have hst : d.step c = d.take c := by simp [DS.step, hp1, hc1, hc2]
        rw [hst] at hg1
        simp (contextual := true) (implicitDefEqProofs := false) (maxSteps := 2000000) (disch := first | rfl | exact Nat.le_of_ble_eq_true rfl | omega | (simp only [List.length_append, List.length_cons, List.length_nil, List.length_set]; omega)) only [hasL, Bool.or_false, Bool.false_or, hd, bin_ladd, str_cut, str_app, str_eq, string_mk_size, string_mk, e1, hw1, hw2, h0i, Int.toNat_natCast, hc, hk1, hk2, W1, W2, W3, W4, W5, W6, W7, W8, W9, W10, W11, W12, W13, W14, W15, eq_self, ite_true, ite_false, undef_eq, List.set_cons_zero, List.set_cons_succ, List.getD_cons_zero, List.getD_cons_succ, List.map_cons, List.map_nil, List.length_cons, List.length_nil, List.append_nil, List.cons_append, List.nil_append, List.replicate_succ, List.replicate_zero, Nat.reduceAdd, Nat.reduceSub, ↓reduceIte, List.getElem?_cons_zero, List.getElem?_cons_succ, basic, cellsL, resOf, setAt, List.append_assoc, List.length_append, List.getElem?_append_left, List.getElem?_append_right, List.set_append_left, List.set_append_right, below, belowB, belowA, atomB, List.mem_cons, List.not_mem_nil, forall_eq_or_imp, forall_eq, List.toList_toArray, implies_true, List.take_succ_cons, List.take_zero, List.drop_succ_cons, List.drop_zero, List.take_nil, List.drop_nil, Nat.reduceLeDiff, Nat.reduceMul, Int.reduceToNat, Int.reduceLT, Int.reduceLE, Int.reduceAdd, Int.reduceNeg, Int.reduceEq, splice, List.singleton_append, Nat.reduceEqDiff, Nat.reduceLT, isAtom, List.all_cons, List.all_nil, Option.map_some, Option.bind_some, List.length_set, Int.reduceSub, Int.reduceMul, List.getElem?_set_self, List.getElem?_set_ne, ofB_2, tmpR_if, ro_sliceData, ro_capNil, ro_noZero, ext_2, ext_3, ext_4, ext_5, List.set_set]
        refine (take_spec2 c hfs.df hok' (by omega) hp1).mono ?_
        rintro v M2 ⟨hf2, F2, hdf2, hn2⟩
        have hfs2 := hfs.stepD hf2 hdf2 hn2
        by_cases hroom : d.held.length < d.most
        · have htk : d.take c = ⟨d.most, 1, d.held ++ [c], d.bad⟩ := by simp [DS.take, hroom]
          rw [htk] at hfs2 hg1
          obtain ⟨a2, hd2⟩ := hfs2.df.cell (b1 := true) (b2 := false) rfl rfl
          simp (contextual := true) (implicitDefEqProofs := false) (maxSteps := 2000000) (disch := first | rfl | exact Nat.le_of_ble_eq_true rfl | omega | (simp only [List.length_append, List.length_cons, List.length_nil, List.length_set]; omega)) only [hd2, W1, W2, W3, W4, W5, W6, W7, W8, W9, W10, W11, W12, W13, W14, W15, eq_self, ite_true, ite_false, undef_eq, List.set_cons_zero, List.set_cons_succ, List.getD_cons_zero, List.getD_cons_succ, List.map_cons, List.map_nil, List.length_cons, List.length_nil, List.append_nil, List.cons_append, List.nil_append, List.replicate_succ, List.replicate_zero, Nat.reduceAdd, Nat.reduceSub, ↓reduceIte, List.getElem?_cons_zero, List.getElem?_cons_succ, basic, cellsL, resOf, setAt, List.append_assoc, List.length_append, List.getElem?_append_left, List.getElem?_append_right, List.set_append_left, List.set_append_right, below, belowB, belowA, atomB, List.mem_cons, List.not_mem_nil, forall_eq_or_imp, forall_eq, List.toList_toArray, implies_true, List.take_succ_cons, List.take_zero, List.drop_succ_cons, List.drop_zero, List.take_nil, List.drop_nil, Nat.reduceLeDiff, Nat.reduceMul, Int.reduceToNat, Int.reduceLT, Int.reduceLE, Int.reduceAdd, Int.reduceNeg, Int.reduceEq, splice, List.singleton_append, Nat.reduceEqDiff, Nat.reduceLT, isAtom, List.all_cons, List.all_nil, Option.map_some, Option.bind_some, List.length_set, Int.reduceSub, Int.reduceMul, List.getElem?_set_self, List.getElem?_set_ne, ofB_2, tmpR_if, ro_sliceData, ro_capNil, ro_noZero, ext_2, ext_3, ext_4, ext_5, List.set_set]
          exact go (i + 1) _ _ _ _ _ _ _ _ (by omega) rfl hg1 hfs2 ⟨rfl, by simp [hw1]⟩
        · have htk : d.take c = d.drop := by simp [DS.take, hroom]
          rw [htk] at hfs2 hg1
          obtain ⟨a2, hd2⟩ := hfs2.df.cell (b1 := false) (b2 := false) rfl rfl
          have hdl2 := lt_of_some hd2
          by_cases e3 : i + 1 = s.length
          · have e3' : (((i + 1 : Nat) : Int) = (s.length : Int)) = True := eq_true (by omega)
            simp (contextual := true) (implicitDefEqProofs := false) (maxSteps := 2000000) (disch := first | rfl | exact Nat.le_of_ble_eq_true rfl | omega | (simp only [List.length_append, List.length_cons, List.length_nil, List.length_set]; omega)) only [hd2, bin_ladd, str_cut, str_app, str_eq, string_mk_size, string_mk, e3', W1, W2, W3, W4, W5, W6, W7, W8, W9, W10, W11, W12, W13, W14, W15, eq_self, ite_true, ite_false, undef_eq, List.set_cons_zero, List.set_cons_succ, List.getD_cons_zero, List.getD_cons_succ, List.map_cons, List.map_nil, List.length_cons, List.length_nil, List.append_nil, List.cons_append, List.nil_append, List.replicate_succ, List.replicate_zero, Nat.reduceAdd, Nat.reduceSub, ↓reduceIte, List.getElem?_cons_zero, List.getElem?_cons_succ, basic, cellsL, resOf, setAt, List.append_assoc, List.length_append, List.getElem?_append_left, List.getElem?_append_right, List.set_append_left, List.set_append_right, below, belowB, belowA, atomB, List.mem_cons, List.not_mem_nil, forall_eq_or_imp, forall_eq, List.toList_toArray, implies_true, List.take_succ_cons, List.take_zero, List.drop_succ_cons, List.drop_zero, List.take_nil, List.drop_nil, Nat.reduceLeDiff, Nat.reduceMul, Int.reduceToNat, Int.reduceLT, Int.reduceLE, Int.reduceAdd, Int.reduceNeg, Int.reduceEq, splice, List.singleton_append, Nat.reduceEqDiff, Nat.reduceLT, isAtom, List.all_cons, List.all_nil, Option.map_some, Option.bind_some, List.length_set, Int.reduceSub, Int.reduceMul, List.getElem?_set_self, List.getElem?_set_ne, ofB_2, tmpR_if, ro_sliceData, ro_capNil, ro_noZero, ext_2, ext_3, ext_4, ext_5, List.set_set]
            rw [e3] at hg1
            obtain ⟨q1, q2⟩ := hg1.fin
            rw [← q1, ← q2]
            exact ⟨_, _, hfs2⟩
          · have e3' : (((i + 1 : Nat) : Int) = (s.length : Int)) = False := eq_false (by omega)
            have e4 : i + 1 < s.length := by omega
            obtain ⟨c2, hc3⟩ : ∃ c, s[i + 1]? = some c := ⟨s[i + 1], List.getElem?_eq_getElem e4⟩
            have hg2 := hg1.step hc3
            have hw3 : IntKind.i64.wrap (((i + 1 : Nat) : Int) + 1) = ((i + 1 + 1 : Nat) : Int) := by rw [wrap_i64 (by omega) (by omega)]; omega
            have hw4 : IntKind.i64.wrap (((i + 1 + 1 : Nat) : Int) - 1) = ((i + 1 : Nat) : Int) := by rw [wrap_i64 (by omega) (by omega)]; omega
            have h1i : ((0 : Int) ≤ ((i + 1 : Nat) : Int)) = True := eq_true (by omega)
            have htl2 : d.drop.tell c2 = [] := by simp [DS.tell, DS.drop]
            rw [htl2, List.append_nil] at hg2
            by_cases hc4 : c2 = 192
            · have hk4 : ((c2.toNat : Int) = 192) = True := (c_eq c2 192).trans (eq_true hc4)
              have hst2 : d.drop.step c2 = ⟨d.most, 1, [], d.bad + 1⟩ := by simp [DS.step, DS.drop, hc4]
              rw [hst2] at hg2
              simp (contextual := true) (implicitDefEqProofs := false) (maxSteps := 2000000) (disch := first | rfl | exact Nat.le_of_ble_eq_true rfl | omega | (simp only [List.length_append, List.length_cons, List.length_nil, List.length_set]; omega)) only [hd2, bin_ladd, str_cut, str_app, str_eq, string_mk_size, string_mk, e3', hw3, hw4, h1i, Int.toNat_natCast, hc3, hk4, W1, W2, W3, W4, W5, W6, W7, W8, W9, W10, W11, W12, W13, W14, W15, eq_self, ite_true, ite_false, undef_eq, List.set_cons_zero, List.set_cons_succ, List.getD_cons_zero, List.getD_cons_succ, List.map_cons, List.map_nil, List.length_cons, List.length_nil, List.append_nil, List.cons_append, List.nil_append, List.replicate_succ, List.replicate_zero, Nat.reduceAdd, Nat.reduceSub, ↓reduceIte, List.getElem?_cons_zero, List.getElem?_cons_succ, basic, cellsL, resOf, setAt, List.append_assoc, List.length_append, List.getElem?_append_left, List.getElem?_append_right, List.set_append_left, List.set_append_right, below, belowB, belowA, atomB, List.mem_cons, List.not_mem_nil, forall_eq_or_imp, forall_eq, List.toList_toArray, implies_true, List.take_succ_cons, List.take_zero, List.drop_succ_cons, List.drop_zero, List.take_nil, List.drop_nil, Nat.reduceLeDiff, Nat.reduceMul, Int.reduceToNat, Int.reduceLT, Int.reduceLE, Int.reduceAdd, Int.reduceNeg, Int.reduceEq, splice, List.singleton_append, Nat.reduceEqDiff, Nat.reduceLT, isAtom, List.all_cons, List.all_nil, Option.map_some, Option.bind_some, List.length_set, Int.reduceSub, Int.reduceMul, List.getElem?_set_self, List.getElem?_set_ne, ofB_2, tmpR_if, ro_sliceData, ro_capNil, ro_noZero, ext_2, ext_3, ext_4, ext_5, List.set_set]
              refine (begin_spec hd2).mono ?_
              rintro _ M3 rfl
              have hfs3 := hfs2.setd (d' := ⟨d.most, 1, [], d.bad + 1⟩) rfl rfl
              simp (contextual := true) (implicitDefEqProofs := false) (maxSteps := 2000000) (disch := first | rfl | exact Nat.le_of_ble_eq_true rfl | omega | (simp only [List.length_append, List.length_cons, List.length_nil, List.length_set]; omega)) only [W1, W2, W3, W4, W5, W6, W7, W8, W9, W10, W11, W12, W13, W14, W15, eq_self, ite_true, ite_false, undef_eq, List.set_cons_zero, List.set_cons_succ, List.getD_cons_zero, List.getD_cons_succ, List.map_cons, List.map_nil, List.length_cons, List.length_nil, List.append_nil, List.cons_append, List.nil_append, List.replicate_succ, List.replicate_zero, Nat.reduceAdd, Nat.reduceSub, ↓reduceIte, List.getElem?_cons_zero, List.getElem?_cons_succ, basic, cellsL, resOf, setAt, List.append_assoc, List.length_append, List.getElem?_append_left, List.getElem?_append_right, List.set_append_left, List.set_append_right, below, belowB, belowA, atomB, List.mem_cons, List.not_mem_nil, forall_eq_or_imp, forall_eq, List.toList_toArray, implies_true, List.take_succ_cons, List.take_zero, List.drop_succ_cons, List.drop_zero, List.take_nil, List.drop_nil, Nat.reduceLeDiff, Nat.reduceMul, Int.reduceToNat, Int.reduceLT, Int.reduceLE, Int.reduceAdd, Int.reduceNeg, Int.reduceEq, splice, List.singleton_append, Nat.reduceEqDiff, Nat.reduceLT, isAtom, List.all_cons, List.all_nil, Option.map_some, Option.bind_some, List.length_set, Int.reduceSub, Int.reduceMul, List.getElem?_set_self, List.getElem?_set_ne, ofB_2, tmpR_if, ro_sliceData, ro_capNil, ro_noZero, ext_2, ext_3, ext_4, ext_5, List.set_set]
              exact go (i + 1 + 1) _ _ _ _ _ _ _ _ (by omega) rfl hg2 hfs3 ⟨rfl, by simp [hw3]⟩
            · have hk4 : ((c2.toNat : Int) = 192) = False := (c_eq c2 192).trans (eq_false hc4)
              have hst2 : d.drop.step c2 = d.drop := by simp [DS.step, DS.drop, hc4]
              rw [hst2] at hg2
              simp (contextual := true) (implicitDefEqProofs := false) (maxSteps := 2000000) (disch := first | rfl | exact Nat.le_of_ble_eq_true rfl | omega | (simp only [List.length_append, List.length_cons, List.length_nil, List.length_set]; omega)) only [hd2, bin_ladd, str_cut, str_app, str_eq, string_mk_size, string_mk, e3', hw3, hw4, h1i, Int.toNat_natCast, hc3, hk4, W1, W2, W3, W4, W5, W6, W7, W8, W9, W10, W11, W12, W13, W14, W15, eq_self, ite_true, ite_false, undef_eq, List.set_cons_zero, List.set_cons_succ, List.getD_cons_zero, List.getD_cons_succ, List.map_cons, List.map_nil, List.length_cons, List.length_nil, List.append_nil, List.cons_append, List.nil_append, List.replicate_succ, List.replicate_zero, Nat.reduceAdd, Nat.reduceSub, ↓reduceIte, List.getElem?_cons_zero, List.getElem?_cons_succ, basic, cellsL, resOf, setAt, List.append_assoc, List.length_append, List.getElem?_append_left, List.getElem?_append_right, List.set_append_left, List.set_append_right, below, belowB, belowA, atomB, List.mem_cons, List.not_mem_nil, forall_eq_or_imp, forall_eq, List.toList_toArray, implies_true, List.take_succ_cons, List.take_zero, List.drop_succ_cons, List.drop_zero, List.take_nil, List.drop_nil, Nat.reduceLeDiff, Nat.reduceMul, Int.reduceToNat, Int.reduceLT, Int.reduceLE, Int.reduceAdd, Int.reduceNeg, Int.reduceEq, splice, List.singleton_append, Nat.reduceEqDiff, Nat.reduceLT, isAtom, List.all_cons, List.all_nil, Option.map_some, Option.bind_some, List.length_set, Int.reduceSub, Int.reduceMul, List.getElem?_set_self, List.getElem?_set_ne, ofB_2, tmpR_if, ro_sliceData, ro_capNil, ro_noZero, ext_2, ext_3, ext_4, ext_5, List.set_set]
              exact go (i + 1 + 1) _ _ _ _ _ _ _ _ (by omega) rfl hg2 hfs2 ⟨rfl, by simp [hw3]⟩
    · -- escaped
      have hp2 : d.pl = 2 := by have := hok'.p; omega
      have hl : lab d.pl = 1 := by simp [lab, hp2]
      rw [hl]
      obtain ⟨a, hd⟩ := hfs.df.cell (b1 := true) (b2 := true) (by simp [hp2]) (by simp [hp2])
      have hdl := lt_of_some hd
      rcases hlen with ⟨e1, e2⟩ | ⟨e1, e2⟩
      · simp (contextual := true) (implicitDefEqProofs := false) (maxSteps := 2000000) (disch := first | rfl | exact Nat.le_of_ble_eq_true rfl | omega | (simp only [List.length_append, List.length_cons, List.length_nil, List.length_set]; omega)) only [hasL, Bool.or_false, Bool.false_or, hd, bin_ladd, str_cut, str_app, str_eq, string_mk_size, string_mk, e1, W1, W2, W3, W4, W5, W6, W7, W8, W9, W10, W11, W12, W13, W14, W15, eq_self, ite_true, ite_false, undef_eq, List.set_cons_zero, List.set_cons_succ, List.getD_cons_zero, List.getD_cons_succ, List.map_cons, List.map_nil, List.length_cons, List.length_nil, List.append_nil, List.cons_append, List.nil_append, List.replicate_succ, List.replicate_zero, Nat.reduceAdd, Nat.reduceSub, ↓reduceIte, List.getElem?_cons_zero, List.getElem?_cons_succ, basic, cellsL, resOf, setAt, List.append_assoc, List.length_append, List.getElem?_append_left, List.getElem?_append_right, List.set_append_left, List.set_append_right, below, belowB, belowA, atomB, List.mem_cons, List.not_mem_nil, forall_eq_or_imp, forall_eq, List.toList_toArray, implies_true, List.take_succ_cons, List.take_zero, List.drop_succ_cons, List.drop_zero, List.take_nil, List.drop_nil, Nat.reduceLeDiff, Nat.reduceMul, Int.reduceToNat, Int.reduceLT, Int.reduceLE, Int.reduceAdd, Int.reduceNeg, Int.reduceEq, splice, List.singleton_append, Nat.reduceEqDiff, Nat.reduceLT, isAtom, List.all_cons, List.all_nil, Option.map_some, Option.bind_some, List.length_set, Int.reduceSub, Int.reduceMul, List.getElem?_set_self, List.getElem?_set_ne, ofB_2, tmpR_if, ro_sliceData, ro_capNil, ro_noZero, ext_2, ext_3, ext_4, ext_5, List.set_set]
        exact done e2
      obtain ⟨c, hc⟩ : ∃ c, s[i]? = some c := ⟨s[i], List.getElem?_eq_getElem e2⟩
      have hg1 := hgo.step hc
      have htl : d.tell c = [] := by simp [DS.tell, hp1]
      rw [htl, List.append_nil] at hg1
      have hfs1 := hfs.keep (d' := ⟨d.most, 1, d.held, d.bad⟩) hd rfl
      have hok1 : DS.Ok ⟨d.most, 1, d.held, d.bad⟩ := ⟨hms, hhs, by simp, by simp⟩
      obtain ⟨a1, hd1⟩ := hfs1.df.cell (b1 := true) (b2 := false) rfl rfl
      by_cases hq220 : c = 220
      · have hk220 : ((c.toNat : Int) = 220) = True := (c_eq c 220).trans (eq_true hq220)
        have hst : d.step c = d.take 192 := by simp [DS.step, hp2, hq220]
        rw [hst] at hg1
        simp (contextual := true) (implicitDefEqProofs := false) (maxSteps := 2000000) (disch := first | rfl | exact Nat.le_of_ble_eq_true rfl | omega | (simp only [List.length_append, List.length_cons, List.length_nil, List.length_set]; omega)) only [hasL, Bool.or_false, Bool.false_or, hd, bin_ladd, str_cut, str_app, str_eq, string_mk_size, string_mk, e1, hw1, hw2, h0i, Int.toNat_natCast, hc, hk220, W1, W2, W3, W4, W5, W6, W7, W8, W9, W10, W11, W12, W13, W14, W15, eq_self, ite_true, ite_false, undef_eq, List.set_cons_zero, List.set_cons_succ, List.getD_cons_zero, List.getD_cons_succ, List.map_cons, List.map_nil, List.length_cons, List.length_nil, List.append_nil, List.cons_append, List.nil_append, List.replicate_succ, List.replicate_zero, Nat.reduceAdd, Nat.reduceSub, ↓reduceIte, List.getElem?_cons_zero, List.getElem?_cons_succ, basic, cellsL, resOf, setAt, List.append_assoc, List.length_append, List.getElem?_append_left, List.getElem?_append_right, List.set_append_left, List.set_append_right, below, belowB, belowA, atomB, List.mem_cons, List.not_mem_nil, forall_eq_or_imp, forall_eq, List.toList_toArray, implies_true, List.take_succ_cons, List.take_zero, List.drop_succ_cons, List.drop_zero, List.take_nil, List.drop_nil, Nat.reduceLeDiff, Nat.reduceMul, Int.reduceToNat, Int.reduceLT, Int.reduceLE, Int.reduceAdd, Int.reduceNeg, Int.reduceEq, splice, List.singleton_append, Nat.reduceEqDiff, Nat.reduceLT, isAtom, List.all_cons, List.all_nil, Option.map_some, Option.bind_some, List.length_set, Int.reduceSub, Int.reduceMul, List.getElem?_set_self, List.getElem?_set_ne, ofB_2, tmpR_if, ro_sliceData, ro_capNil, ro_noZero, ext_2, ext_3, ext_4, ext_5, List.set_set]
        have h48 := take_spec2 192 hfs1.df hok1 (by simp only; omega) rfl
        refine LCall.mono (f := 61) h48 ?_
        rintro v M2 ⟨hf2, F2, hdf2, hn2⟩
        have hfs2 := hfs1.stepD hf2 hdf2 hn2
        have htd : (⟨d.most, 1, d.held, d.bad⟩ : DS).take 192 = d.take 192 := rfl
        rw [htd] at hfs2
        by_cases hroom : d.held.length < d.most
        · have htk : d.take 192 = ⟨d.most, 1, d.held ++ [192], d.bad⟩ := by simp [DS.take, hroom]
          rw [htk] at hfs2 hg1
          obtain ⟨a2, hd2⟩ := hfs2.df.cell (b1 := true) (b2 := false) rfl rfl
          simp (contextual := true) (implicitDefEqProofs := false) (maxSteps := 2000000) (disch := first | rfl | exact Nat.le_of_ble_eq_true rfl | omega | (simp only [List.length_append, List.length_cons, List.length_nil, List.length_set]; omega)) only [hd2, W1, W2, W3, W4, W5, W6, W7, W8, W9, W10, W11, W12, W13, W14, W15, eq_self, ite_true, ite_false, undef_eq, List.set_cons_zero, List.set_cons_succ, List.getD_cons_zero, List.getD_cons_succ, List.map_cons, List.map_nil, List.length_cons, List.length_nil, List.append_nil, List.cons_append, List.nil_append, List.replicate_succ, List.replicate_zero, Nat.reduceAdd, Nat.reduceSub, ↓reduceIte, List.getElem?_cons_zero, List.getElem?_cons_succ, basic, cellsL, resOf, setAt, List.append_assoc, List.length_append, List.getElem?_append_left, List.getElem?_append_right, List.set_append_left, List.set_append_right, below, belowB, belowA, atomB, List.mem_cons, List.not_mem_nil, forall_eq_or_imp, forall_eq, List.toList_toArray, implies_true, List.take_succ_cons, List.take_zero, List.drop_succ_cons, List.drop_zero, List.take_nil, List.drop_nil, Nat.reduceLeDiff, Nat.reduceMul, Int.reduceToNat, Int.reduceLT, Int.reduceLE, Int.reduceAdd, Int.reduceNeg, Int.reduceEq, splice, List.singleton_append, Nat.reduceEqDiff, Nat.reduceLT, isAtom, List.all_cons, List.all_nil, Option.map_some, Option.bind_some, List.length_set, Int.reduceSub, Int.reduceMul, List.getElem?_set_self, List.getElem?_set_ne, ofB_2, tmpR_if, ro_sliceData, ro_capNil, ro_noZero, ext_2, ext_3, ext_4, ext_5, List.set_set]
          exact go (i + 1) _ _ _ _ _ _ _ _ (by omega) rfl hg1 hfs2 ⟨rfl, by simp [hw1]⟩
        · have htk : d.take 192 = d.drop := by simp [DS.take, hroom]
          rw [htk] at hfs2 hg1
          obtain ⟨a2, hd2⟩ := hfs2.df.cell (b1 := false) (b2 := false) rfl rfl
          simp (contextual := true) (implicitDefEqProofs := false) (maxSteps := 2000000) (disch := first | rfl | exact Nat.le_of_ble_eq_true rfl | omega | (simp only [List.length_append, List.length_cons, List.length_nil, List.length_set]; omega)) only [hd2, W1, W2, W3, W4, W5, W6, W7, W8, W9, W10, W11, W12, W13, W14, W15, eq_self, ite_true, ite_false, undef_eq, List.set_cons_zero, List.set_cons_succ, List.getD_cons_zero, List.getD_cons_succ, List.map_cons, List.map_nil, List.length_cons, List.length_nil, List.append_nil, List.cons_append, List.nil_append, List.replicate_succ, List.replicate_zero, Nat.reduceAdd, Nat.reduceSub, ↓reduceIte, List.getElem?_cons_zero, List.getElem?_cons_succ, basic, cellsL, resOf, setAt, List.append_assoc, List.length_append, List.getElem?_append_left, List.getElem?_append_right, List.set_append_left, List.set_append_right, below, belowB, belowA, atomB, List.mem_cons, List.not_mem_nil, forall_eq_or_imp, forall_eq, List.toList_toArray, implies_true, List.take_succ_cons, List.take_zero, List.drop_succ_cons, List.drop_zero, List.take_nil, List.drop_nil, Nat.reduceLeDiff, Nat.reduceMul, Int.reduceToNat, Int.reduceLT, Int.reduceLE, Int.reduceAdd, Int.reduceNeg, Int.reduceEq, splice, List.singleton_append, Nat.reduceEqDiff, Nat.reduceLT, isAtom, List.all_cons, List.all_nil, Option.map_some, Option.bind_some, List.length_set, Int.reduceSub, Int.reduceMul, List.getElem?_set_self, List.getElem?_set_ne, ofB_2, tmpR_if, ro_sliceData, ro_capNil, ro_noZero, ext_2, ext_3, ext_4, ext_5, List.set_set]
          exact go (i + 1) _ _ _ _ _ _ _ _ (by omega) rfl hg1 hfs2 ⟨rfl, by simp [hw1]⟩
      have hk220 : ((c.toNat : Int) = 220) = False := (c_eq c 220).trans (eq_false hq220)
      by_cases hq221 : c = 221
      · have hk221 : ((c.toNat : Int) = 221) = True := (c_eq c 221).trans (eq_true hq221)
        have hst : d.step c = d.take 219 := by simp [DS.step, hp2, hq221]
        rw [hst] at hg1
        simp (contextual := true) (implicitDefEqProofs := false) (maxSteps := 2000000) (disch := first | rfl | exact Nat.le_of_ble_eq_true rfl | omega | (simp only [List.length_append, List.length_cons, List.length_nil, List.length_set]; omega)) only [hasL, Bool.or_false, Bool.false_or, hd, bin_ladd, str_cut, str_app, str_eq, string_mk_size, string_mk, e1, hw1, hw2, h0i, Int.toNat_natCast, hc, hk221, hk220, W1, W2, W3, W4, W5, W6, W7, W8, W9, W10, W11, W12, W13, W14, W15, eq_self, ite_true, ite_false, undef_eq, List.set_cons_zero, List.set_cons_succ, List.getD_cons_zero, List.getD_cons_succ, List.map_cons, List.map_nil, List.length_cons, List.length_nil, List.append_nil, List.cons_append, List.nil_append, List.replicate_succ, List.replicate_zero, Nat.reduceAdd, Nat.reduceSub, ↓reduceIte, List.getElem?_cons_zero, List.getElem?_cons_succ, basic, cellsL, resOf, setAt, List.append_assoc, List.length_append, List.getElem?_append_left, List.getElem?_append_right, List.set_append_left, List.set_append_right, below, belowB, belowA, atomB, List.mem_cons, List.not_mem_nil, forall_eq_or_imp, forall_eq, List.toList_toArray, implies_true, List.take_succ_cons, List.take_zero, List.drop_succ_cons, List.drop_zero, List.take_nil, List.drop_nil, Nat.reduceLeDiff, Nat.reduceMul, Int.reduceToNat, Int.reduceLT, Int.reduceLE, Int.reduceAdd, Int.reduceNeg, Int.reduceEq, splice, List.singleton_append, Nat.reduceEqDiff, Nat.reduceLT, isAtom, List.all_cons, List.all_nil, Option.map_some, Option.bind_some, List.length_set, Int.reduceSub, Int.reduceMul, List.getElem?_set_self, List.getElem?_set_ne, ofB_2, tmpR_if, ro_sliceData, ro_capNil, ro_noZero, ext_2, ext_3, ext_4, ext_5, List.set_set]
        have h48 := take_spec2 219 hfs1.df hok1 (by simp only; omega) rfl
        refine LCall.mono (f := 61) h48 ?_
        rintro v M2 ⟨hf2, F2, hdf2, hn2⟩
        have hfs2 := hfs1.stepD hf2 hdf2 hn2
        have htd : (⟨d.most, 1, d.held, d.bad⟩ : DS).take 219 = d.take 219 := rfl
        rw [htd] at hfs2
        by_cases hroom : d.held.length < d.most
        · have htk : d.take 219 = ⟨d.most, 1, d.held ++ [219], d.bad⟩ := by simp [DS.take, hroom]
          rw [htk] at hfs2 hg1
          obtain ⟨a2, hd2⟩ := hfs2.df.cell (b1 := true) (b2 := false) rfl rfl
          simp (contextual := true) (implicitDefEqProofs := false) (maxSteps := 2000000) (disch := first | rfl | exact Nat.le_of_ble_eq_true rfl | omega | (simp only [List.length_append, List.length_cons, List.length_nil, List.length_set]; omega)) only [hd2, W1, W2, W3, W4, W5, W6, W7, W8, W9, W10, W11, W12, W13, W14, W15, eq_self, ite_true, ite_false, undef_eq, List.set_cons_zero, List.set_cons_succ, List.getD_cons_zero, List.getD_cons_succ, List.map_cons, List.map_nil, List.length_cons, List.length_nil, List.append_nil, List.cons_append, List.nil_append, List.replicate_succ, List.replicate_zero, Nat.reduceAdd, Nat.reduceSub, ↓reduceIte, List.getElem?_cons_zero, List.getElem?_cons_succ, basic, cellsL, resOf, setAt, List.append_assoc, List.length_append, List.getElem?_append_left, List.getElem?_append_right, List.set_append_left, List.set_append_right, below, belowB, belowA, atomB, List.mem_cons, List.not_mem_nil, forall_eq_or_imp, forall_eq, List.toList_toArray, implies_true, List.take_succ_cons, List.take_zero, List.drop_succ_cons, List.drop_zero, List.take_nil, List.drop_nil, Nat.reduceLeDiff, Nat.reduceMul, Int.reduceToNat, Int.reduceLT, Int.reduceLE, Int.reduceAdd, Int.reduceNeg, Int.reduceEq, splice, List.singleton_append, Nat.reduceEqDiff, Nat.reduceLT, isAtom, List.all_cons, List.all_nil, Option.map_some, Option.bind_some, List.length_set, Int.reduceSub, Int.reduceMul, List.getElem?_set_self, List.getElem?_set_ne, ofB_2, tmpR_if, ro_sliceData, ro_capNil, ro_noZero, ext_2, ext_3, ext_4, ext_5, List.set_set]
          exact go (i + 1) _ _ _ _ _ _ _ _ (by omega) rfl hg1 hfs2 ⟨rfl, by simp [hw1]⟩
        · have htk : d.take 219 = d.drop := by simp [DS.take, hroom]
          rw [htk] at hfs2 hg1
          obtain ⟨a2, hd2⟩ := hfs2.df.cell (b1 := false) (b2 := false) rfl rfl
          simp (contextual := true) (implicitDefEqProofs := false) (maxSteps := 2000000) (disch := first | rfl | exact Nat.le_of_ble_eq_true rfl | omega | (simp only [List.length_append, List.length_cons, List.length_nil, List.length_set]; omega)) only [hd2, W1, W2, W3, W4, W5, W6, W7, W8, W9, W10, W11, W12, W13, W14, W15, eq_self, ite_true, ite_false, undef_eq, List.set_cons_zero, List.set_cons_succ, List.getD_cons_zero, List.getD_cons_succ, List.map_cons, List.map_nil, List.length_cons, List.length_nil, List.append_nil, List.cons_append, List.nil_append, List.replicate_succ, List.replicate_zero, Nat.reduceAdd, Nat.reduceSub, ↓reduceIte, List.getElem?_cons_zero, List.getElem?_cons_succ, basic, cellsL, resOf, setAt, List.append_assoc, List.length_append, List.getElem?_append_left, List.getElem?_append_right, List.set_append_left, List.set_append_right, below, belowB, belowA, atomB, List.mem_cons, List.not_mem_nil, forall_eq_or_imp, forall_eq, List.toList_toArray, implies_true, List.take_succ_cons, List.take_zero, List.drop_succ_cons, List.drop_zero, List.take_nil, List.drop_nil, Nat.reduceLeDiff, Nat.reduceMul, Int.reduceToNat, Int.reduceLT, Int.reduceLE, Int.reduceAdd, Int.reduceNeg, Int.reduceEq, splice, List.singleton_append, Nat.reduceEqDiff, Nat.reduceLT, isAtom, List.all_cons, List.all_nil, Option.map_some, Option.bind_some, List.length_set, Int.reduceSub, Int.reduceMul, List.getElem?_set_self, List.getElem?_set_ne, ofB_2, tmpR_if, ro_sliceData, ro_capNil, ro_noZero, ext_2, ext_3, ext_4, ext_5, List.set_set]
          exact go (i + 1) _ _ _ _ _ _ _ _ (by omega) rfl hg1 hfs2 ⟨rfl, by simp [hw1]⟩
      have hk221 : ((c.toNat : Int) = 221) = False := (c_eq c 221).trans (eq_false hq221)
      by_cases hc1 : c = 192
      · have hk1 : ((c.toNat : Int) = 192) = True := (c_eq c 192).trans (eq_true hc1)
        have hst : d.step c = ⟨d.most, 1, [], d.bad + 1⟩ := by simp [DS.step, hp2, hc1]
        rw [hst] at hg1
        simp (contextual := true) (implicitDefEqProofs := false) (maxSteps := 2000000) (disch := first | rfl | exact Nat.le_of_ble_eq_true rfl | omega | (simp only [List.length_append, List.length_cons, List.length_nil, List.length_set]; omega)) only [hasL, Bool.or_false, Bool.false_or, hd, bin_ladd, str_cut, str_app, str_eq, string_mk_size, string_mk, e1, hw1, hw2, h0i, Int.toNat_natCast, hc, hk220, hk221, hk1, W1, W2, W3, W4, W5, W6, W7, W8, W9, W10, W11, W12, W13, W14, W15, eq_self, ite_true, ite_false, undef_eq, List.set_cons_zero, List.set_cons_succ, List.getD_cons_zero, List.getD_cons_succ, List.map_cons, List.map_nil, List.length_cons, List.length_nil, List.append_nil, List.cons_append, List.nil_append, List.replicate_succ, List.replicate_zero, Nat.reduceAdd, Nat.reduceSub, ↓reduceIte, List.getElem?_cons_zero, List.getElem?_cons_succ, basic, cellsL, resOf, setAt, List.append_assoc, List.length_append, List.getElem?_append_left, List.getElem?_append_right, List.set_append_left, List.set_append_right, below, belowB, belowA, atomB, List.mem_cons, List.not_mem_nil, forall_eq_or_imp, forall_eq, List.toList_toArray, implies_true, List.take_succ_cons, List.take_zero, List.drop_succ_cons, List.drop_zero, List.take_nil, List.drop_nil, Nat.reduceLeDiff, Nat.reduceMul, Int.reduceToNat, Int.reduceLT, Int.reduceLE, Int.reduceAdd, Int.reduceNeg, Int.reduceEq, splice, List.singleton_append, Nat.reduceEqDiff, Nat.reduceLT, isAtom, List.all_cons, List.all_nil, Option.map_some, Option.bind_some, List.length_set, Int.reduceSub, Int.reduceMul, List.getElem?_set_self, List.getElem?_set_ne, ofB_2, tmpR_if, ro_sliceData, ro_capNil, ro_noZero, ext_2, ext_3, ext_4, ext_5, List.set_set]
        refine (drop_spec (e := d.bad) (by omega) hd1).mono ?_
        rintro v M2 rfl
        have hfs2 := hfs1.setd (d' := d.drop) rfl rfl
        obtain ⟨a2, hd2⟩ := hfs2.df.cell (b1 := false) (b2 := false) rfl rfl
        have hfs3 := hfs2.setd (d' := ⟨d.most, 1, [], d.bad + 1⟩) rfl rfl
        obtain ⟨a3, hd3⟩ := hfs3.df.cell (b1 := true) (b2 := false) rfl rfl
        simp only [List.set_set] at hd2 hfs3 hd3
        simp (contextual := true) (implicitDefEqProofs := false) (maxSteps := 2000000) (disch := first | rfl | exact Nat.le_of_ble_eq_true rfl | omega | (simp only [List.length_append, List.length_cons, List.length_nil, List.length_set]; omega)) only [W1, W2, W3, W4, W5, W6, W7, W8, W9, W10, W11, W12, W13, W14, W15, eq_self, ite_true, ite_false, undef_eq, List.set_cons_zero, List.set_cons_succ, List.getD_cons_zero, List.getD_cons_succ, List.map_cons, List.map_nil, List.length_cons, List.length_nil, List.append_nil, List.cons_append, List.nil_append, List.replicate_succ, List.replicate_zero, Nat.reduceAdd, Nat.reduceSub, ↓reduceIte, List.getElem?_cons_zero, List.getElem?_cons_succ, basic, cellsL, resOf, setAt, List.append_assoc, List.length_append, List.getElem?_append_left, List.getElem?_append_right, List.set_append_left, List.set_append_right, below, belowB, belowA, atomB, List.mem_cons, List.not_mem_nil, forall_eq_or_imp, forall_eq, List.toList_toArray, implies_true, List.take_succ_cons, List.take_zero, List.drop_succ_cons, List.drop_zero, List.take_nil, List.drop_nil, Nat.reduceLeDiff, Nat.reduceMul, Int.reduceToNat, Int.reduceLT, Int.reduceLE, Int.reduceAdd, Int.reduceNeg, Int.reduceEq, splice, List.singleton_append, Nat.reduceEqDiff, Nat.reduceLT, isAtom, List.all_cons, List.all_nil, Option.map_some, Option.bind_some, List.length_set, Int.reduceSub, Int.reduceMul, List.getElem?_set_self, List.getElem?_set_ne, ofB_2, tmpR_if, ro_sliceData, ro_capNil, ro_noZero, ext_2, ext_3, ext_4, ext_5, List.set_set]
        refine (begin_spec hd2).mono ?_
        rintro v M3 rfl
        simp (contextual := true) (implicitDefEqProofs := false) (maxSteps := 2000000) (disch := first | rfl | exact Nat.le_of_ble_eq_true rfl | omega | (simp only [List.length_append, List.length_cons, List.length_nil, List.length_set]; omega)) only [hd3, W1, W2, W3, W4, W5, W6, W7, W8, W9, W10, W11, W12, W13, W14, W15, eq_self, ite_true, ite_false, undef_eq, List.set_cons_zero, List.set_cons_succ, List.getD_cons_zero, List.getD_cons_succ, List.map_cons, List.map_nil, List.length_cons, List.length_nil, List.append_nil, List.cons_append, List.nil_append, List.replicate_succ, List.replicate_zero, Nat.reduceAdd, Nat.reduceSub, ↓reduceIte, List.getElem?_cons_zero, List.getElem?_cons_succ, basic, cellsL, resOf, setAt, List.append_assoc, List.length_append, List.getElem?_append_left, List.getElem?_append_right, List.set_append_left, List.set_append_right, below, belowB, belowA, atomB, List.mem_cons, List.not_mem_nil, forall_eq_or_imp, forall_eq, List.toList_toArray, implies_true, List.take_succ_cons, List.take_zero, List.drop_succ_cons, List.drop_zero, List.take_nil, List.drop_nil, Nat.reduceLeDiff, Nat.reduceMul, Int.reduceToNat, Int.reduceLT, Int.reduceLE, Int.reduceAdd, Int.reduceNeg, Int.reduceEq, splice, List.singleton_append, Nat.reduceEqDiff, Nat.reduceLT, isAtom, List.all_cons, List.all_nil, Option.map_some, Option.bind_some, List.length_set, Int.reduceSub, Int.reduceMul, List.getElem?_set_self, List.getElem?_set_ne, ofB_2, tmpR_if, ro_sliceData, ro_capNil, ro_noZero, ext_2, ext_3, ext_4, ext_5, List.set_set]
        exact go (i + 1) _ _ _ _ _ _ _ _ (by omega) rfl hg1 hfs3 ⟨rfl, by simp [hw1]⟩
      · have hk1 : ((c.toNat : Int) = 192) = False := (c_eq c 192).trans (eq_false hc1)
        have hst : d.step c = d.drop := by simp [DS.step, hp2, hq220, hq221, hc1]
        rw [hst] at hg1
        simp (contextual := true) (implicitDefEqProofs := false) (maxSteps := 2000000) (disch := first | rfl | exact Nat.le_of_ble_eq_true rfl | omega | (simp only [List.length_append, List.length_cons, List.length_nil, List.length_set]; omega)) only [hasL, Bool.or_false, Bool.false_or, hd, bin_ladd, str_cut, str_app, str_eq, string_mk_size, string_mk, e1, hw1, hw2, h0i, Int.toNat_natCast, hc, hk220, hk221, hk1, W1, W2, W3, W4, W5, W6, W7, W8, W9, W10, W11, W12, W13, W14, W15, eq_self, ite_true, ite_false, undef_eq, List.set_cons_zero, List.set_cons_succ, List.getD_cons_zero, List.getD_cons_succ, List.map_cons, List.map_nil, List.length_cons, List.length_nil, List.append_nil, List.cons_append, List.nil_append, List.replicate_succ, List.replicate_zero, Nat.reduceAdd, Nat.reduceSub, ↓reduceIte, List.getElem?_cons_zero, List.getElem?_cons_succ, basic, cellsL, resOf, setAt, List.append_assoc, List.length_append, List.getElem?_append_left, List.getElem?_append_right, List.set_append_left, List.set_append_right, below, belowB, belowA, atomB, List.mem_cons, List.not_mem_nil, forall_eq_or_imp, forall_eq, List.toList_toArray, implies_true, List.take_succ_cons, List.take_zero, List.drop_succ_cons, List.drop_zero, List.take_nil, List.drop_nil, Nat.reduceLeDiff, Nat.reduceMul, Int.reduceToNat, Int.reduceLT, Int.reduceLE, Int.reduceAdd, Int.reduceNeg, Int.reduceEq, splice, List.singleton_append, Nat.reduceEqDiff, Nat.reduceLT, isAtom, List.all_cons, List.all_nil, Option.map_some, Option.bind_some, List.length_set, Int.reduceSub, Int.reduceMul, List.getElem?_set_self, List.getElem?_set_ne, ofB_2, tmpR_if, ro_sliceData, ro_capNil, ro_noZero, ext_2, ext_3, ext_4, ext_5, List.set_set]
        refine (drop_spec (e := d.bad) (by omega) hd1).mono ?_
        rintro v M2 rfl
        have hfs2 := hfs1.setd (d' := d.drop) rfl rfl
        obtain ⟨a2, hd2⟩ := hfs2.df.cell (b1 := false) (b2 := false) rfl rfl
        simp only [List.set_set] at hfs2 hd2
        simp (contextual := true) (implicitDefEqProofs := false) (maxSteps := 2000000) (disch := first | rfl | exact Nat.le_of_ble_eq_true rfl | omega | (simp only [List.length_append, List.length_cons, List.length_nil, List.length_set]; omega)) only [hd2, W1, W2, W3, W4, W5, W6, W7, W8, W9, W10, W11, W12, W13, W14, W15, eq_self, ite_true, ite_false, undef_eq, List.set_cons_zero, List.set_cons_succ, List.getD_cons_zero, List.getD_cons_succ, List.map_cons, List.map_nil, List.length_cons, List.length_nil, List.append_nil, List.cons_append, List.nil_append, List.replicate_succ, List.replicate_zero, Nat.reduceAdd, Nat.reduceSub, ↓reduceIte, List.getElem?_cons_zero, List.getElem?_cons_succ, basic, cellsL, resOf, setAt, List.append_assoc, List.length_append, List.getElem?_append_left, List.getElem?_append_right, List.set_append_left, List.set_append_right, below, belowB, belowA, atomB, List.mem_cons, List.not_mem_nil, forall_eq_or_imp, forall_eq, List.toList_toArray, implies_true, List.take_succ_cons, List.take_zero, List.drop_succ_cons, List.drop_zero, List.take_nil, List.drop_nil, Nat.reduceLeDiff, Nat.reduceMul, Int.reduceToNat, Int.reduceLT, Int.reduceLE, Int.reduceAdd, Int.reduceNeg, Int.reduceEq, splice, List.singleton_append, Nat.reduceEqDiff, Nat.reduceLT, isAtom, List.all_cons, List.all_nil, Option.map_some, Option.bind_some, List.length_set, Int.reduceSub, Int.reduceMul, List.getElem?_set_self, List.getElem?_set_ne, ofB_2, tmpR_if, ro_sliceData, ro_capNil, ro_noZero, ext_2, ext_3, ext_4, ext_5, List.set_set]
        exact go (i + 1) _ _ _ _ _ _ _ _ (by omega) rfl hg1 hfs2 ⟨rfl, by simp [hw1]⟩
end Go.Proofs.Ytfefieicnmglcaa
