/- The pieces of a message, taken in turn: the plain law; the law of what comes through, walked. -/
import Derived.Test.YtfajlnpkickknaaU
namespace Go.Proofs.Ytfajlnpkickknaa
open Go.Lg
set_option maxRecDepth 8000
set_option maxHeartbeats 4000000
set_option linter.unusedSimpArgs false
set_option linter.unnecessarySimpa false
set_option linter.unusedVariables false

/-- What has begun ahead of piece i. -/
def stG (p r N : Nat) (text : List UInt8) (i : Nat) : GS := ⟨true, p, ((N - i : Nat) : Int), text.take (i * r - 1)⟩
section
variable {p r N : Nat} {text : List UInt8}
theorem u8_nat {n : Nat} (h : n < 256) : (UInt8.ofNat n).toNat = n := by
  rw [UInt8.toNat_ofNat']; omega
theorem moreT_mk (on : Bool) (pid left : Int) (t s : List UInt8) (k : Int) : moreT ⟨on, pid, left, t⟩ s k =
    if 600 < t.length + s.length then failT 5 else if 0 < k then ⟨⟨on, pid, k, t ++ s⟩, 0, [], false, 0⟩ else ⟨gz, pid, t ++ s, true, 0⟩ := rfl
theorem take_first (g : GS) (hp : p < 256) (hr : 0 < r) (hN : N ≤ 41) (hl : text.length ≤ 600) (h0 : 0 < N) (h1 : N = 1 → text.length ≤ r - 1) :
    takeT g 8 (piece (UInt8.ofNat p :: text) r N 0).2 = if 1 < N then ⟨stG p r N text 1, 0, [], false, 0⟩ else ⟨gz, p, text, true, 0⟩ := by
  have hc : chunk (UInt8.ofNat p :: text) r 0 = UInt8.ofNat p :: text.take (r - 1) := by
    obtain ⟨q, rfl⟩ : ∃ q, r = q + 1 := ⟨r - 1, by omega⟩
    simp [chunk]
  have hm : (UInt8.ofNat (mark N 0)).toNat = N - 1 + 128 := by
    rw [u8_nat] <;> unfold mark
    · simp
    · simp; omega
  have hq := u8_nat hp
  unfold takeT piece
  rw [hc, if_neg (by omega), if_neg (by omega)]
  simp only
  rw [hm, if_pos (by omega), hq]
  unfold moreT
  have hlt : (text.take (r - 1)).length ≤ 600 := by simp; omega
  simp only [List.length_nil, List.nil_append, Nat.zero_add]
  rw [if_neg (by omega)]
  by_cases h : 1 < N
  · rw [if_pos (by omega), if_pos h]
    simp only [stG, Nat.one_mul]
    congr 2
    omega
  · rw [if_neg (by omega), if_neg h, List.take_of_length_le (h1 (by omega))]
theorem chunk_next {i : Nat} (hi : 1 ≤ i) (hr : 0 < r) (a : UInt8) : chunk (a :: text) r i = (text.drop (i * r - 1)).take r := by
  have : 0 < i * r := Nat.mul_pos (by omega) hr
  obtain ⟨q, hq⟩ : ∃ q, i * r = q + 1 := ⟨i * r - 1, by omega⟩
  unfold chunk
  rw [hq, List.drop_succ_cons, Nat.add_sub_cancel]
theorem mark_next {i : Nat} (hN : N ≤ 41) (hi : 1 ≤ i) : (UInt8.ofNat (mark N i)).toNat = N - 1 - i := by
  rw [u8_nat]
  all_goals unfold mark
  all_goals rw [if_neg (by omega)]
  all_goals omega
theorem take_next {i : Nat} (hi : 1 ≤ i ∧ i < N) (hr : 0 < r) (hN : N ≤ 41) (hl : text.length ≤ 600) (hend : text.length ≤ N * r - 1) :
    takeT (stG p r N text i) 8 (piece (UInt8.ofNat p :: text) r N i).2 = if i + 1 < N then ⟨stG p r N text (i + 1), 0, [], false, 0⟩ else ⟨gz, p, text, true, 0⟩ := by
  have hc := chunk_next (text := text) hi.1 hr (UInt8.ofNat p)
  have hm := mark_next hN hi.1
  have hir : 0 < i * r := Nat.mul_pos (by omega) hr
  have hs : (i + 1) * r - 1 = (i * r - 1) + r := by rw [Nat.succ_mul]; omega
  have hcat : text.take (i * r - 1) ++ (text.drop (i * r - 1)).take r = text.take ((i + 1) * r - 1) := by
    rw [hs, List.take_add]
  unfold takeT piece
  rw [hc, if_neg (by omega), if_neg (by omega)]
  simp only
  rw [hm, if_neg (by omega)]
  have h7 : ¬ ((stG p r N text i).on = false ∨ ((N - 1 - i : Nat) : Int) ≠ (stG p r N text i).left - 1) := by
    simp only [stG]
    rintro (h | h)
    · cases h
    · exact h (by omega)
  rw [if_neg h7]
  unfold stG
  rw [moreT_mk]
  have hlen : (text.take (i * r - 1)).length + ((text.drop (i * r - 1)).take r).length = (text.take ((i + 1) * r - 1)).length := by rw [← List.length_append, hcat]
  have hlen2 : (text.take ((i + 1) * r - 1)).length ≤ text.length := by rw [List.length_take]; omega
  have h600 : ¬ 600 < (text.take (i * r - 1)).length + ((text.drop (i * r - 1)).take r).length := by rw [hlen]; omega
  by_cases h : i + 1 < N
  · rw [if_pos h]
    split
    · rename_i h'; exact absurd h' h600
    split
    · rw [hcat]
      congr 2
      omega
    · rename_i h'; exact absurd h' (by omega)
  · have hNi : i + 1 = N := by omega
    rw [if_neg h]
    split
    · rename_i h'; exact absurd h' h600
    split
    · rename_i h'; exact absurd h' (by omega)
    · rw [hcat, hNi, List.take_of_length_le hend]
theorem take_wrong {i : Nat} {g : GS} {A : List UInt8} (hi : 1 ≤ i) (hiN : i < N) (hN : N ≤ 41) (h : g.on = false ∨ g.left ≠ ((N - i : Nat) : Int)) :
    takeT g 8 (piece A r N i).2 = failT 7 := by
  have hm := mark_next (N := N) hN hi
  unfold takeT piece
  rw [if_neg (by omega), if_neg (by omega)]
  simp only
  rw [hm, if_neg (by omega), if_pos]
  rcases h with h | h
  · exact .inl h
  · exact .inr (by omega)
end

/-- The cut of a message, if there is one. -/
structure Cut (pid : Int) (text : List UInt8) (l : List PP) (r : Nat) : Prop where
  len : text.length ≤ 600
  pos : 0 < l.length
  le : l.length ≤ 41
  info : ∀ (i : Nat) (x : PP), l[i]? = some x → x.2.length ≤ 700
  go : ∀ (i : Nat) (x : PP), l[i]? = some x → ∀ g, i = 0 ∨ g = stG pid.toNat r l.length text i → ∃ g', takeT g x.1 x.2 = if i + 1 < l.length then ⟨stG pid.toNat r l.length text (i + 1), 0, [], false, 0⟩ else ⟨g', pid, text, true, 0⟩
  bad : ∀ (i : Nat) (x : PP), l[i]? = some x → 1 ≤ i → ∀ g, g.on = false ∨ g.left ≠ ((l.length - i : Nat) : Int) → takeT g x.1 x.2 = failT 7

theorem split_cut (pid n1 : Int) (text : List UInt8) (h : (splitL pid n1 text).2 = 0) : Cut pid text (splitL pid n1 text).1 (n1.toNat - 1) := by
  unfold splitL at h ⊢
  by_cases h1 : ¬ (0 ≤ pid ∧ pid ≤ 255) ∨ ¬ (16 ≤ n1 ∧ n1 ≤ 256)
  · rw [if_pos h1] at h; simp at h
  rw [if_neg h1] at h ⊢
  have hp : (0 ≤ pid ∧ pid ≤ 255) ∧ (16 ≤ n1 ∧ n1 ≤ 256) := by omega
  by_cases h2 : 600 < text.length
  · rw [if_pos h2] at h; simp at h
  rw [if_neg h2] at h ⊢
  by_cases h3 : (text.length : Int) ≤ n1 ∧ pid ≠ 8
  · rw [if_pos h3]
    refine ⟨by omega, by simp, by simp, ?_, ?_, ?_⟩
    · intro i x hx
      match i, hx with
      | 0, hx => simp at hx; subst hx; simp only; omega
    · intro i x hx g _
      match i, hx with
      | 0, hx =>
        simp at hx; subst hx
        refine ⟨g, ?_⟩
        unfold takeT
        rw [if_neg (by simp only; omega), if_pos h3.2, if_neg (by simp only; omega), if_neg (by simp)]
    · intro i x hx hi
      match i, hx, hi with
      | i + 1, hx, _ => simp at hx
  · rw [if_neg h3]
    obtain ⟨r, hr⟩ : ∃ r, n1.toNat - 1 = r := ⟨_, rfl⟩
    obtain ⟨p, hpp⟩ : ∃ p : Nat, pid = (p : Int) := ⟨pid.toNat, by omega⟩
    subst hpp
    rw [hr]
    simp only [Int.toNat_natCast]
    have hp256 : p < 256 := by omega
    have hr15 : 15 ≤ r ∧ r ≤ 255 := by omega
    have hN : howMany (text.length + 1) r ≤ 41 := many_le hr15.1 (by omega)
    have hNl : ∀ i, i < howMany (text.length + 1) r ↔ i * r < text.length + 1 := fun i => many_lt (by omega)
    generalize howMany (text.length + 1) r = N at hN hNl ⊢
    have hN0 : 0 < N := (hNl 0).2 (by omega)
    have hend : text.length ≤ N * r - 1 := by
      have : ¬ N * r < text.length + 1 := fun h => by have := (hNl N).2 h; omega
      omega
    have hlen : ((List.range N).map (piece (UInt8.ofNat p :: text) r N)).length = N := by simp
    have hget : ∀ i x, ((List.range N).map (piece (UInt8.ofNat p :: text) r N))[i]? = some x → i < N ∧ x = piece (UInt8.ofNat p :: text) r N i := by
      intro i x hx
      have hi : i < N := by have := (List.getElem?_eq_some_iff.mp hx).1; omega
      rw [List.getElem?_map, List.getElem?_range hi] at hx
      simp at hx
      exact ⟨hi, hx.symm⟩
    refine ⟨by omega, by omega, by omega, ?_, ?_, ?_⟩
    · intro i x hx
      obtain ⟨hi, rfl⟩ := hget i x hx
      simp only [piece, chunk, List.length_cons, List.length_take, List.length_drop]
      omega
    · intro i x hx g hg
      obtain ⟨hi, rfl⟩ := hget i x hx
      rw [hlen] at hg ⊢
      refine ⟨gz, ?_⟩
      show takeT g 8 _ = _
      by_cases h0 : i = 0
      · subst h0
        exact take_first g hp256 (by omega) hN (by omega) hN0 fun h => by subst h; omega
      · rcases hg with hg | hg
        · exact absurd hg h0
        · subst hg
          exact take_next ⟨by omega, hi⟩ (by omega) hN (by omega) hend
    · intro i x hx hi1 g hg
      obtain ⟨hi, rfl⟩ := hget i x hx
      rw [hlen] at hg
      exact take_wrong hi1 hi hN hg
theorem split_none (pid n1 : Int) (text : List UInt8) (h : (splitL pid n1 text).2 ≠ 0) : (splitL pid n1 text).1 = [] := by
  unfold splitL at h ⊢
  by_cases h1 : ¬ (0 ≤ pid ∧ pid ≤ 255) ∨ ¬ (16 ≤ n1 ∧ n1 ≤ 256)
  · rw [if_pos h1]
  rw [if_neg h1] at h ⊢
  by_cases h2 : 600 < text.length
  · rw [if_pos h2]
  rw [if_neg h2] at h ⊢
  by_cases h3 : (text.length : Int) ≤ n1 ∧ pid ≠ 8
  · rw [if_pos h3] at h; simp at h
  · rw [if_neg h3] at h; simp at h
theorem stG_ok {p r N i : Nat} {text : List UInt8} (hl : text.length ≤ 600) (hN : N ≤ 41) : (stG p r N text i).Ok := by
  refine ⟨?_, ?_⟩
  · simp only [stG, List.length_take]; omega
  · simp only [stG]; omega

theorem through_law (pid n1 : Int) (text : List UInt8) (hl : text.length ≤ 140737488355328) (m : Mem) : LCall Try.prog 9 [.int .i64 pid, str text, .int .i64 n1] m fun v _ => v = .bool true := by
  refine LCall_enter Try.func9 c9 ?_
  simp (contextual := true) (implicitDefEqProofs := false) (maxSteps := 2000000) (disch := first | rfl | exact Nat.le_of_ble_eq_true rfl | omega | (simp only [List.length_append, List.length_cons, List.length_nil, List.length_set]; omega)) only [L9, W1, W2, W3, W4, W5, W6, W7, W8, W9, W10, W11, W12, W13, W14, W15, eq_self, ite_true, ite_false, undef_eq, List.set_cons_zero, List.set_cons_succ, List.getD_cons_zero, List.getD_cons_succ, List.map_cons, List.map_nil, List.length_cons, List.length_nil, List.append_nil, List.cons_append, List.nil_append, List.replicate_succ, List.replicate_zero, Nat.reduceAdd, Nat.reduceSub, ↓reduceIte, List.getElem?_cons_zero, List.getElem?_cons_succ, basic, cellsL, resOf, setAt, List.append_assoc, List.length_append, List.getElem?_append_left, List.getElem?_append_right, List.set_append_left, List.set_append_right, below, belowB, belowA, atomB, List.mem_cons, List.not_mem_nil, forall_eq_or_imp, forall_eq, List.toList_toArray, implies_true, List.take_succ_cons, List.take_zero, List.drop_succ_cons, List.drop_zero, List.take_nil, List.drop_nil, Nat.reduceLeDiff, Nat.reduceMul, Int.reduceToNat, Int.reduceLT, Int.reduceLE, Int.reduceAdd, Int.reduceNeg, Int.reduceEq, splice, List.singleton_append, Nat.reduceEqDiff, Nat.reduceLT, isAtom, List.all_cons, List.all_nil, Option.map_some, Option.bind_some, List.length_set, Int.reduceSub, Int.reduceMul, List.getElem?_set_self, List.getElem?_set_ne, ofB_2, tmpR_if, ro_sliceData, ro_capNil, ro_noZero, ext_2, ext_3, ext_4, ext_5, List.set_set]
  refine (awake10 _).use ?_
  simp (contextual := true) (implicitDefEqProofs := false) (maxSteps := 2000000) (disch := first | rfl | exact Nat.le_of_ble_eq_true rfl | omega | (simp only [List.length_append, List.length_cons, List.length_nil, List.length_set]; omega)) only [W1, W2, W3, W4, W5, W6, W7, W8, W9, W10, W11, W12, W13, W14, W15, eq_self, ite_true, ite_false, undef_eq, List.set_cons_zero, List.set_cons_succ, List.getD_cons_zero, List.getD_cons_succ, List.map_cons, List.map_nil, List.length_cons, List.length_nil, List.append_nil, List.cons_append, List.nil_append, List.replicate_succ, List.replicate_zero, Nat.reduceAdd, Nat.reduceSub, ↓reduceIte, List.getElem?_cons_zero, List.getElem?_cons_succ, basic, cellsL, resOf, setAt, List.append_assoc, List.length_append, List.getElem?_append_left, List.getElem?_append_right, List.set_append_left, List.set_append_right, below, belowB, belowA, atomB, List.mem_cons, List.not_mem_nil, forall_eq_or_imp, forall_eq, List.toList_toArray, implies_true, List.take_succ_cons, List.take_zero, List.drop_succ_cons, List.drop_zero, List.take_nil, List.drop_nil, Nat.reduceLeDiff, Nat.reduceMul, Int.reduceToNat, Int.reduceLT, Int.reduceLE, Int.reduceAdd, Int.reduceNeg, Int.reduceEq, splice, List.singleton_append, Nat.reduceEqDiff, Nat.reduceLT, isAtom, List.all_cons, List.all_nil, Option.map_some, Option.bind_some, List.length_set, Int.reduceSub, Int.reduceMul, List.getElem?_set_self, List.getElem?_set_ne, ofB_2, tmpR_if, ro_sliceData, ro_capNil, ro_noZero, ext_2, ext_3, ext_4, ext_5, List.set_set]
  refine (split_spec pid n1 text hl m).mono ?_
  rintro v M ⟨sv, G, rfl, hf, hs, hG⟩
  have hnone := split_none pid n1 text
  have hcut := split_cut pid n1 text
  generalize splitL pid n1 text = S at hs hnone hcut ⊢
  obtain ⟨l, e⟩ := S
  simp only at hs hnone hcut ⊢
  obtain ⟨a, rfl, hd⟩ := hs.form
  simp only [List.length_map] at hd ⊢
  by_cases he : e = 0
  · subst he
    have hC := hcut rfl
    clear hcut hnone
    have hpos := hC.pos
    have hle := hC.le
    obtain ⟨b, o, cs, rfl, rfl, hb, hlen, hcc, hrow⟩ := hd hpos
    have hbl := lt_of_some hb
    simp (contextual := true) (implicitDefEqProofs := false) (maxSteps := 2000000) (disch := first | rfl | exact Nat.le_of_ble_eq_true rfl | omega | (simp only [List.length_append, List.length_cons, List.length_nil, List.length_set]; omega)) only [W1, W2, W3, W4, W5, W6, W7, W8, W9, W10, W11, W12, W13, W14, W15, eq_self, ite_true, ite_false, undef_eq, List.set_cons_zero, List.set_cons_succ, List.getD_cons_zero, List.getD_cons_succ, List.map_cons, List.map_nil, List.length_cons, List.length_nil, List.append_nil, List.cons_append, List.nil_append, List.replicate_succ, List.replicate_zero, Nat.reduceAdd, Nat.reduceSub, ↓reduceIte, List.getElem?_cons_zero, List.getElem?_cons_succ, basic, cellsL, resOf, setAt, List.append_assoc, List.length_append, List.getElem?_append_left, List.getElem?_append_right, List.set_append_left, List.set_append_right, below, belowB, belowA, atomB, List.mem_cons, List.not_mem_nil, forall_eq_or_imp, forall_eq, List.toList_toArray, implies_true, List.take_succ_cons, List.take_zero, List.drop_succ_cons, List.drop_zero, List.take_nil, List.drop_nil, Nat.reduceLeDiff, Nat.reduceMul, Int.reduceToNat, Int.reduceLT, Int.reduceLE, Int.reduceAdd, Int.reduceNeg, Int.reduceEq, splice, List.singleton_append, Nat.reduceEqDiff, Nat.reduceLT, isAtom, List.all_cons, List.all_nil, Option.map_some, Option.bind_some, List.length_set, Int.reduceSub, Int.reduceMul, List.getElem?_set_self, List.getElem?_set_ne, ofB_2, tmpR_if, ro_sliceData, ro_capNil, ro_noZero, ext_2, ext_3, ext_4, ext_5, List.set_set]
    refine (newg_spec _).mono ?_
    rintro _ _ ⟨rfl, rfl⟩
    simp (contextual := true) (implicitDefEqProofs := false) (maxSteps := 2000000) (disch := first | rfl | exact Nat.le_of_ble_eq_true rfl | omega | (simp only [List.length_append, List.length_cons, List.length_nil, List.length_set]; omega)) only [W1, W2, W3, W4, W5, W6, W7, W8, W9, W10, W11, W12, W13, W14, W15, eq_self, ite_true, ite_false, undef_eq, List.set_cons_zero, List.set_cons_succ, List.getD_cons_zero, List.getD_cons_succ, List.map_cons, List.map_nil, List.length_cons, List.length_nil, List.append_nil, List.cons_append, List.nil_append, List.replicate_succ, List.replicate_zero, Nat.reduceAdd, Nat.reduceSub, ↓reduceIte, List.getElem?_cons_zero, List.getElem?_cons_succ, basic, cellsL, resOf, setAt, List.append_assoc, List.length_append, List.getElem?_append_left, List.getElem?_append_right, List.set_append_left, List.set_append_right, below, belowB, belowA, atomB, List.mem_cons, List.not_mem_nil, forall_eq_or_imp, forall_eq, List.toList_toArray, implies_true, List.take_succ_cons, List.take_zero, List.drop_succ_cons, List.drop_zero, List.take_nil, List.drop_nil, Nat.reduceLeDiff, Nat.reduceMul, Int.reduceToNat, Int.reduceLT, Int.reduceLE, Int.reduceAdd, Int.reduceNeg, Int.reduceEq, splice, List.singleton_append, Nat.reduceEqDiff, Nat.reduceLT, isAtom, List.all_cons, List.all_nil, Option.map_some, Option.bind_some, List.length_set, Int.reduceSub, Int.reduceMul, List.getElem?_set_self, List.getElem?_set_ne, ofB_2, tmpR_if, ro_sliceData, ro_capNil, ro_noZero, ext_2, ext_3, ext_4, ext_5, List.set_set]
    refine take_spec (g := gz) 8 [133, 122, 97, 98, 99] (by simp) gz_ok (by simp) _ ?_
    have hok := take_ok (p := 8) (i := [133, 122, 97, 98, 99]) gz_ok
    generalize (takeT gz 8 [133, 122, 97, 98, 99]) = R at hok
    obtain ⟨g0, r1, r2, r3, r4⟩ := R
    simp only [TR.val] at hok ⊢
    simp (contextual := true) (implicitDefEqProofs := false) (maxSteps := 2000000) (disch := first | rfl | exact Nat.le_of_ble_eq_true rfl | omega | (simp only [List.length_append, List.length_cons, List.length_nil, List.length_set]; omega)) only [W1, W2, W3, W4, W5, W6, W7, W8, W9, W10, W11, W12, W13, W14, W15, eq_self, ite_true, ite_false, undef_eq, List.set_cons_zero, List.set_cons_succ, List.getD_cons_zero, List.getD_cons_succ, List.map_cons, List.map_nil, List.length_cons, List.length_nil, List.append_nil, List.cons_append, List.nil_append, List.replicate_succ, List.replicate_zero, Nat.reduceAdd, Nat.reduceSub, ↓reduceIte, List.getElem?_cons_zero, List.getElem?_cons_succ, basic, cellsL, resOf, setAt, List.append_assoc, List.length_append, List.getElem?_append_left, List.getElem?_append_right, List.set_append_left, List.set_append_right, below, belowB, belowA, atomB, List.mem_cons, List.not_mem_nil, forall_eq_or_imp, forall_eq, List.toList_toArray, implies_true, List.take_succ_cons, List.take_zero, List.drop_succ_cons, List.drop_zero, List.take_nil, List.drop_nil, Nat.reduceLeDiff, Nat.reduceMul, Int.reduceToNat, Int.reduceLT, Int.reduceLE, Int.reduceAdd, Int.reduceNeg, Int.reduceEq, splice, List.singleton_append, Nat.reduceEqDiff, Nat.reduceLT, isAtom, List.all_cons, List.all_nil, Option.map_some, Option.bind_some, List.length_set, Int.reduceSub, Int.reduceMul, List.getElem?_set_self, List.getElem?_set_ne, ofB_2, tmpR_if, ro_sliceData, ro_capNil, ro_noZero, ext_2, ext_3, ext_4, ext_5, List.set_set]
    refine loop_inv (fun n t M' => ∃ (i : Nat) (g : GS), n = l.length - i ∧ i ≤ l.length ∧ g.Ok ∧ (i = 0 ∨ i = l.length ∨ g = stG pid.toNat (n1.toNat - 1) l.length text i) ∧ Frm [] M M' ∧ M'[M.length]? = some ⟨g.cells, 96, 1, 0, .own⟩ ∧
      Tab 72 [(0, .int .i64 pid), (1, str text), (7, .slice (some ⟨b, o, none⟩) l.length l.length), (9, .pointer (some ⟨M.length, 0, none⟩)), (33, .slice (some ⟨b, o, none⟩) l.length l.length), (34, .int .i64 (l.length : Int)), (35, .int .i64 (i : Int))] t) (n := l.length) ?_ ?_
    · exact ⟨0, g0, rfl, Nat.zero_le _, hok, .inl rfl, Frm.refl.app, by simp, ⟨rfl, by simp⟩⟩
    rintro n t M' ⟨i, g, rfl, hi, hg, hst, hf', hgc, ht⟩
    obtain ⟨f, rfl⟩ : ∃ f' : Nat → Value, t = [.int .i64 pid, str text, f' 2, f' 3, f' 4, f' 5, f' 6, .slice (some ⟨b, o, none⟩) l.length l.length, f' 8, .pointer (some ⟨M.length, 0, none⟩), f' 10, f' 11, f' 12, f' 13, f' 14, f' 15, f' 16, f' 17, f' 18, f' 19, f' 20, f' 21, f' 22, f' 23, f' 24, f' 25, f' 26, f' 27, f' 28, f' 29, f' 30, f' 31, f' 32, .slice (some ⟨b, o, none⟩) l.length l.length, .int .i64 (l.length : Int), .int .i64 (i : Int), f' 36, f' 37, f' 38, f' 39, f' 40, f' 41, f' 42, f' 43, f' 44, f' 45, f' 46, f' 47, f' 48, f' 49, f' 50, f' 51, f' 52, f' 53, f' 54, f' 55, f' 56, f' 57, f' 58, f' 59, f' 60, f' 61, f' 62, f' 63, f' 64, f' 65, f' 66, f' 67, f' 68, f' 69, f' 70, f' 71] := ht.open fun f' => rfl
    have hgl := lt_of_some hgc
    have hbM := hf'.get0 hb
    have hbMl := lt_of_some hbM
    by_cases hlt : i < l.length
    · have hlt' : ((i : Int) < (l.length : Int)) = True := eq_true (by omega)
      have h0' : ((0 : Int) ≤ (i : Int)) = True := by simp
      have hwi : IntKind.i64.wrap ((i : Int) + 1) = ((i + 1 : Nat) : Int) := by rw [wrap_i64 (by omega) (by omega)]; omega
      have hwl : IntKind.i64.wrap ((l.length : Int) - 1) = ((l.length - 1 : Nat) : Int) := by rw [wrap_i64 (by omega) (by omega)]; omega
      obtain ⟨x, hx⟩ : ∃ x, l[i]? = some x := ⟨l[i], List.getElem?_eq_getElem hlt⟩
      have hxr := hrow i (prow x) (by simp [hx])
      obtain ⟨xp, xi⟩ := x
      have hpart : List.take 2 (List.drop (o + i * 2) cs) = [.int .i64 xp, str xi] := hxr
      have hxl := hC.info i _ hx
      obtain ⟨g', hgo⟩ := hC.go i _ hx g (hst.elim .inl fun h => h.elim (fun h => absurd h (by omega)) .inr)
      simp only at hgo hxl
      simp (contextual := true) (implicitDefEqProofs := false) (maxSteps := 2000000) (disch := first | rfl | exact Nat.le_of_ble_eq_true rfl | omega | (simp only [List.length_append, List.length_cons, List.length_nil, List.length_set]; omega)) only [hbM, hlt', h0', hpart, Int.toNat_natCast, W1, W2, W3, W4, W5, W6, W7, W8, W9, W10, W11, W12, W13, W14, W15, eq_self, ite_true, ite_false, undef_eq, List.set_cons_zero, List.set_cons_succ, List.getD_cons_zero, List.getD_cons_succ, List.map_cons, List.map_nil, List.length_cons, List.length_nil, List.append_nil, List.cons_append, List.nil_append, List.replicate_succ, List.replicate_zero, Nat.reduceAdd, Nat.reduceSub, ↓reduceIte, List.getElem?_cons_zero, List.getElem?_cons_succ, basic, cellsL, resOf, setAt, List.append_assoc, List.length_append, List.getElem?_append_left, List.getElem?_append_right, List.set_append_left, List.set_append_right, below, belowB, belowA, atomB, List.mem_cons, List.not_mem_nil, forall_eq_or_imp, forall_eq, List.toList_toArray, implies_true, List.take_succ_cons, List.take_zero, List.drop_succ_cons, List.drop_zero, List.take_nil, List.drop_nil, Nat.reduceLeDiff, Nat.reduceMul, Int.reduceToNat, Int.reduceLT, Int.reduceLE, Int.reduceAdd, Int.reduceNeg, Int.reduceEq, splice, List.singleton_append, Nat.reduceEqDiff, Nat.reduceLT, isAtom, List.all_cons, List.all_nil, Option.map_some, Option.bind_some, List.length_set, Int.reduceSub, Int.reduceMul, List.getElem?_set_self, List.getElem?_set_ne, ofB_2, tmpR_if, ro_sliceData, ro_capNil, ro_noZero, ext_2, ext_3, ext_4, ext_5, List.set_set]
      refine take_spec (g := g) xp xi (by rw [List.getElem?_append_left hgl]; exact hgc) hg (by omega) _ ?_
      have hok' := take_ok (p := xp) (i := xi) hg
      by_cases hend : i + 1 < l.length
      · rw [if_pos hend] at hgo
        rw [hgo] at hok' ⊢
        simp only [TR.val] at hok' ⊢
        have hne : ((i : Int) = ((l.length - 1 : Nat) : Int)) = False := eq_false (by omega)
        simp (contextual := true) (implicitDefEqProofs := false) (maxSteps := 2000000) (disch := first | rfl | exact Nat.le_of_ble_eq_true rfl | omega | (simp only [List.length_append, List.length_cons, List.length_nil, List.length_set]; omega)) only [hwl, hne, W1, W2, W3, W4, W5, W6, W7, W8, W9, W10, W11, W12, W13, W14, W15, eq_self, ite_true, ite_false, undef_eq, List.set_cons_zero, List.set_cons_succ, List.getD_cons_zero, List.getD_cons_succ, List.map_cons, List.map_nil, List.length_cons, List.length_nil, List.append_nil, List.cons_append, List.nil_append, List.replicate_succ, List.replicate_zero, Nat.reduceAdd, Nat.reduceSub, ↓reduceIte, List.getElem?_cons_zero, List.getElem?_cons_succ, basic, cellsL, resOf, setAt, List.append_assoc, List.length_append, List.getElem?_append_left, List.getElem?_append_right, List.set_append_left, List.set_append_right, below, belowB, belowA, atomB, List.mem_cons, List.not_mem_nil, forall_eq_or_imp, forall_eq, List.toList_toArray, implies_true, List.take_succ_cons, List.take_zero, List.drop_succ_cons, List.drop_zero, List.take_nil, List.drop_nil, Nat.reduceLeDiff, Nat.reduceMul, Int.reduceToNat, Int.reduceLT, Int.reduceLE, Int.reduceAdd, Int.reduceNeg, Int.reduceEq, splice, List.singleton_append, Nat.reduceEqDiff, Nat.reduceLT, isAtom, List.all_cons, List.all_nil, Option.map_some, Option.bind_some, List.length_set, Int.reduceSub, Int.reduceMul, List.getElem?_set_self, List.getElem?_set_ne, ofB_2, tmpR_if, ro_sliceData, ro_capNil, ro_noZero, ext_2, ext_3, ext_4, ext_5, List.set_set]
        refine kInv_go ⟨i + 1, _, rfl, by omega, hok', .inr (.inr rfl), ?_, ?_, ⟨rfl, by simp [hwi]⟩⟩ (by omega)
        · exact (hf'.set (.inr (Nat.le_refl _))).app
        · rw [List.getElem?_append_left (by simpa using hgl), List.getElem?_set_self hgl]
      · rw [if_neg hend] at hgo
        rw [hgo] at hok' ⊢
        simp only [TR.val] at hok' ⊢
        have hne : ((i : Int) = ((l.length - 1 : Nat) : Int)) = True := eq_true (by omega)
        simp (contextual := true) (implicitDefEqProofs := false) (maxSteps := 2000000) (disch := first | rfl | exact Nat.le_of_ble_eq_true rfl | omega | (simp only [List.length_append, List.length_cons, List.length_nil, List.length_set]; omega)) only [hwl, hne, eqN_is, Bool.and_self, W1, W2, W3, W4, W5, W6, W7, W8, W9, W10, W11, W12, W13, W14, W15, eq_self, ite_true, ite_false, undef_eq, List.set_cons_zero, List.set_cons_succ, List.getD_cons_zero, List.getD_cons_succ, List.map_cons, List.map_nil, List.length_cons, List.length_nil, List.append_nil, List.cons_append, List.nil_append, List.replicate_succ, List.replicate_zero, Nat.reduceAdd, Nat.reduceSub, ↓reduceIte, List.getElem?_cons_zero, List.getElem?_cons_succ, basic, cellsL, resOf, setAt, List.append_assoc, List.length_append, List.getElem?_append_left, List.getElem?_append_right, List.set_append_left, List.set_append_right, below, belowB, belowA, atomB, List.mem_cons, List.not_mem_nil, forall_eq_or_imp, forall_eq, List.toList_toArray, implies_true, List.take_succ_cons, List.take_zero, List.drop_succ_cons, List.drop_zero, List.take_nil, List.drop_nil, Nat.reduceLeDiff, Nat.reduceMul, Int.reduceToNat, Int.reduceLT, Int.reduceLE, Int.reduceAdd, Int.reduceNeg, Int.reduceEq, splice, List.singleton_append, Nat.reduceEqDiff, Nat.reduceLT, isAtom, List.all_cons, List.all_nil, Option.map_some, Option.bind_some, List.length_set, Int.reduceSub, Int.reduceMul, List.getElem?_set_self, List.getElem?_set_ne, ofB_2, tmpR_if, ro_sliceData, ro_capNil, ro_noZero, ext_2, ext_3, ext_4, ext_5, List.set_set]
        refine kInv_go ⟨i + 1, _, rfl, by omega, hok', .inr (.inl (by omega)), ?_, ?_, ⟨rfl, by simp [hwi]⟩⟩ (by omega)
        · exact (hf'.set (.inr (Nat.le_refl _))).app
        · rw [List.getElem?_append_left (by simpa using hgl), List.getElem?_set_self hgl]
    · have hlt' : ((i : Int) < (l.length : Int)) = False := eq_false (by omega)
      have hp' : ((0 : Int) < (l.length : Int)) = True := eq_true (by omega)
      simp (contextual := true) (implicitDefEqProofs := false) (maxSteps := 2000000) (disch := first | rfl | exact Nat.le_of_ble_eq_true rfl | omega | (simp only [List.length_append, List.length_cons, List.length_nil, List.length_set]; omega)) only [hlt', hp', W1, W2, W3, W4, W5, W6, W7, W8, W9, W10, W11, W12, W13, W14, W15, eq_self, ite_true, ite_false, undef_eq, List.set_cons_zero, List.set_cons_succ, List.getD_cons_zero, List.getD_cons_succ, List.map_cons, List.map_nil, List.length_cons, List.length_nil, List.append_nil, List.cons_append, List.nil_append, List.replicate_succ, List.replicate_zero, Nat.reduceAdd, Nat.reduceSub, ↓reduceIte, List.getElem?_cons_zero, List.getElem?_cons_succ, basic, cellsL, resOf, setAt, List.append_assoc, List.length_append, List.getElem?_append_left, List.getElem?_append_right, List.set_append_left, List.set_append_right, below, belowB, belowA, atomB, List.mem_cons, List.not_mem_nil, forall_eq_or_imp, forall_eq, List.toList_toArray, implies_true, List.take_succ_cons, List.take_zero, List.drop_succ_cons, List.drop_zero, List.take_nil, List.drop_nil, Nat.reduceLeDiff, Nat.reduceMul, Int.reduceToNat, Int.reduceLT, Int.reduceLE, Int.reduceAdd, Int.reduceNeg, Int.reduceEq, splice, List.singleton_append, Nat.reduceEqDiff, Nat.reduceLT, isAtom, List.all_cons, List.all_nil, Option.map_some, Option.bind_some, List.length_set, Int.reduceSub, Int.reduceMul, List.getElem?_set_self, List.getElem?_set_ne, ofB_2, tmpR_if, ro_sliceData, ro_capNil, ro_noZero, ext_2, ext_3, ext_4, ext_5, List.set_set]
  · have hl0 := hnone he
    subst hl0
    have he' : (e = 0) = False := eq_false he
    simp (contextual := true) (implicitDefEqProofs := false) (maxSteps := 2000000) (disch := first | rfl | exact Nat.le_of_ble_eq_true rfl | omega | (simp only [List.length_append, List.length_cons, List.length_nil, List.length_set]; omega)) only [he', W1, W2, W3, W4, W5, W6, W7, W8, W9, W10, W11, W12, W13, W14, W15, eq_self, ite_true, ite_false, undef_eq, List.set_cons_zero, List.set_cons_succ, List.getD_cons_zero, List.getD_cons_succ, List.map_cons, List.map_nil, List.length_cons, List.length_nil, List.append_nil, List.cons_append, List.nil_append, List.replicate_succ, List.replicate_zero, Nat.reduceAdd, Nat.reduceSub, ↓reduceIte, List.getElem?_cons_zero, List.getElem?_cons_succ, basic, cellsL, resOf, setAt, List.append_assoc, List.length_append, List.getElem?_append_left, List.getElem?_append_right, List.set_append_left, List.set_append_right, below, belowB, belowA, atomB, List.mem_cons, List.not_mem_nil, forall_eq_or_imp, forall_eq, List.toList_toArray, implies_true, List.take_succ_cons, List.take_zero, List.drop_succ_cons, List.drop_zero, List.take_nil, List.drop_nil, Nat.reduceLeDiff, Nat.reduceMul, Int.reduceToNat, Int.reduceLT, Int.reduceLE, Int.reduceAdd, Int.reduceNeg, Int.reduceEq, splice, List.singleton_append, Nat.reduceEqDiff, Nat.reduceLT, isAtom, List.all_cons, List.all_nil, Option.map_some, Option.bind_some, List.length_set, Int.reduceSub, Int.reduceMul, List.getElem?_set_self, List.getElem?_set_ne, ofB_2, tmpR_if, ro_sliceData, ro_capNil, ro_noZero, ext_2, ext_3, ext_4, ext_5, List.set_set]

theorem text_of {m : Mem} {n : Nat} {v : Value} (h : TyV Try.prog m (n + 1) 9 v) : ∃ l : List UInt8, v = str l ∧ l.length ≤ 140737488355328 := by
  obtain ⟨xs, h1, rfl⟩ := TyV.one (x := v) (aggT_no Try.underlying9 rfl) h
  obtain ⟨a, rfl, hs⟩ := h1.text Try.underlying9
  obtain ⟨l, rfl⟩ := str_is a
  exact ⟨l, rfl, by rw [string_mk_size] at hs; exact reach_47 hs⟩
theorem through_all (m : Mem) (vs : List Value) (h : F2 (TyV Try.prog m 5) [3, 9, 3] vs) : LCall Try.prog 9 vs m fun v _ => v = .bool true := by
  obtain ⟨v1, v2, v3, rfl, h1, h2, h3⟩ := h.three_inv
  obtain ⟨a, rfl, _⟩ := h1.int Try.underlying3
  obtain ⟨l, rfl, hs⟩ := text_of h2
  obtain ⟨b, rfl, _⟩ := h3.int Try.underlying3
  exact through_law a b l hs m
end Go.Proofs.Ytfajlnpkickknaa
