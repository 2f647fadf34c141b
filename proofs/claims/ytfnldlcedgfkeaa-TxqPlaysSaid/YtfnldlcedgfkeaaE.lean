/- What is put first of a class goes first: the law, walked. -/
import Derived.Test.YtfnldlcedgfkeaaD
namespace Go.Proofs.Ytfnldlcedgfkeaa
open Go.Lg
set_option maxRecDepth 8000
set_option maxHeartbeats 8000000
set_option linter.unusedSimpArgs false
set_option linter.unnecessarySimpa false
set_option linter.unusedVariables false

structure TOp where
  k : Int
  n : Int
  m : Int
  y : Int
  t : ByteArray
def TOp.row (o : TOp) : List Value := [.int .i64 o.k, .int .i64 o.n, .int .i64 o.m, .int .i64 o.y, .string o.t]

theorem awake16 (m : Mem) : Ret Try.prog 11 [] m (.bool true) m := run_alone tab_ok (n := 200) (d := 20) (by kernel_rfl) rfl rfl m

theorem great_spec (ops : List TOp) (v : Value) (m : Mem) (hv : SlIn m 5 (ops.map TOp.row).flatten ops.length v) (K : Value → Mem → Prop) (hk1 : K (.bool true) m) (hk2 : ops.length ≤ 150 → (∀ o ∈ ops, o.t.size ≤ 1000) → K (.bool false) m) : LCall Try.prog 12 [v] m K := by
  obtain ⟨sa, rfl, hmax, hcell⟩ := hv.form
  refine LCall_drop (LCall_enter Try.func12 c12 ?_)
  simp (contextual := true) (implicitDefEqProofs := false) (maxSteps := 2000000) (disch := first | rfl | exact Nat.le_of_ble_eq_true rfl | omega | (simp only [List.length_append, List.length_cons, List.length_nil, List.length_set]; omega)) only [L12, W1, W2, W3, W4, W5, W6, W7, W8, W9, W10, W11, W12, W13, W14, W15, eq_self, ite_true, ite_false, undef_eq, List.set_cons_zero, List.set_cons_succ, List.getD_cons_zero, List.getD_cons_succ, List.map_cons, List.map_nil, List.length_cons, List.length_nil, List.append_nil, List.cons_append, List.nil_append, List.replicate_succ, List.replicate_zero, Nat.reduceAdd, Nat.reduceSub, ↓reduceIte, List.getElem?_cons_zero, List.getElem?_cons_succ, basic, cellsL, resOf, setAt, List.append_assoc, List.length_append, List.getElem?_append_left, List.getElem?_append_right, List.set_append_left, List.set_append_right, below, belowB, belowA, atomB, List.mem_cons, List.not_mem_nil, forall_eq_or_imp, forall_eq, List.toList_toArray, implies_true, List.take_succ_cons, List.take_zero, List.drop_succ_cons, List.drop_zero, List.take_nil, List.drop_nil, Nat.reduceLeDiff, Nat.reduceMul, Int.reduceToNat, Int.reduceLT, Int.reduceLE, Int.reduceAdd, Int.reduceNeg, Int.reduceEq, splice, List.singleton_append, Nat.reduceEqDiff, Nat.reduceLT, isAtom, List.all_cons, List.all_nil, Option.map_some, Option.bind_some, List.length_set, Int.reduceSub, Int.reduceMul, List.getElem?_set_self, List.getElem?_set_ne, ofB_2, tmpR_if, ro_sliceData, ro_capNil, ro_noZero, ext_2, ext_3, ext_4, ext_5, List.set_set]
  refine ifI (fun h => ?_) (fun h => ?_)
  · exact hk1
  refine loop_inv (fun n t M => ∃ (j : Nat), n = ops.length - j ∧ j ≤ ops.length ∧ (∀ o ∈ ops.take j, o.t.size ≤ 1000) ∧ Frm [] m M ∧
    Tab 19 [(8, .slice sa ops.length ops.length), (9, .int .i64 (ops.length : Int)), (10, .int .i64 (j : Int))] t) (n := ops.length) ?_ ?_
  · exact ⟨0, rfl, Nat.zero_le _, by simp, Frm.refl, ⟨rfl, by simp⟩⟩
  rintro n t M ⟨j, rfl, hj, hx, hf, ht⟩
  obtain ⟨f, rfl⟩ : ∃ f' : Nat → Value, t = [f' 0, f' 1, f' 2, f' 3, f' 4, f' 5, f' 6, f' 7, .slice sa ops.length ops.length, .int .i64 (ops.length : Int), .int .i64 (j : Int), f' 11, f' 12, f' 13, f' 14, f' 15, f' 16, f' 17, f' 18] := ht.open fun f' => rfl
  by_cases hlt : j < ops.length
  · have hlt' : ((j : Int) < (ops.length : Int)) = True := by simp [hlt]
    have h0' : ((0 : Int) ≤ (j : Int)) = True := by simp
    have hwj : IntKind.i64.wrap ((j : Int) + 1) = ((j + 1 : Nat) : Int) := by rw [wrap_i64 (by omega) (by omega)]; omega
    obtain ⟨ib, T, rfl, hm, hib⟩ := hcell (by omega)
    obtain ⟨o, ho⟩ : ∃ r, ops[j]? = some r := ⟨ops[j], List.getElem?_eq_getElem hlt⟩
    have hpart : List.take 5 (List.drop (j * 5) (ops.map TOp.row).flatten) = [.int .i64 o.k, .int .i64 o.n, .int .i64 o.m, .int .i64 o.y, .string o.t] := flatten_part (f := TOp.row) (s := 5) (fun _ => rfl) ops j o ho
    have hfl : (ops.map TOp.row).flatten.length = ops.length * 5 := flatten_length (f := TOp.row) (s := 5) (fun _ => rfl) ops
    have hmM := hf.get0 hm
    simp (contextual := true) (implicitDefEqProofs := false) (maxSteps := 2000000) (disch := first | rfl | exact Nat.le_of_ble_eq_true rfl | omega | (simp only [List.length_append, List.length_cons, List.length_nil, List.length_set]; omega)) only [hmM, hlt', h0', hpart, Int.toNat_natCast, W1, W2, W3, W4, W5, W6, W7, W8, W9, W10, W11, W12, W13, W14, W15, eq_self, ite_true, ite_false, undef_eq, List.set_cons_zero, List.set_cons_succ, List.getD_cons_zero, List.getD_cons_succ, List.map_cons, List.map_nil, List.length_cons, List.length_nil, List.append_nil, List.cons_append, List.nil_append, List.replicate_succ, List.replicate_zero, Nat.reduceAdd, Nat.reduceSub, ↓reduceIte, List.getElem?_cons_zero, List.getElem?_cons_succ, basic, cellsL, resOf, setAt, List.append_assoc, List.length_append, List.getElem?_append_left, List.getElem?_append_right, List.set_append_left, List.set_append_right, below, belowB, belowA, atomB, List.mem_cons, List.not_mem_nil, forall_eq_or_imp, forall_eq, List.toList_toArray, implies_true, List.take_succ_cons, List.take_zero, List.drop_succ_cons, List.drop_zero, List.take_nil, List.drop_nil, Nat.reduceLeDiff, Nat.reduceMul, Int.reduceToNat, Int.reduceLT, Int.reduceLE, Int.reduceAdd, Int.reduceNeg, Int.reduceEq, splice, List.singleton_append, Nat.reduceEqDiff, Nat.reduceLT, isAtom, List.all_cons, List.all_nil, Option.map_some, Option.bind_some, List.length_set, Int.reduceSub, Int.reduceMul, List.getElem?_set_self, List.getElem?_set_ne, ofB_2, tmpR_if, ro_sliceData, ro_capNil, ro_noZero, ext_2, ext_3, ext_4, ext_5, List.set_set]
    refine ifI (fun h => ?_) (fun h => ?_)
    · exact ⟨(hf.nil_trans Frm.refl.app).ext (by simp), hk1⟩
    · refine kInv_go ⟨j + 1, rfl, by omega, fun x hx' => ?_, hf.nil_trans Frm.refl.app, ⟨rfl, by simp [hwj]⟩⟩ (by omega)
      rw [take_snoc ho] at hx'
      rcases List.mem_append.mp hx' with h1 | h1
      · exact hx x h1
      · simp at h1; subst h1; omega
  · have hlt' : ((j : Int) < (ops.length : Int)) = False := by simp; omega
    simp (contextual := true) (implicitDefEqProofs := false) (maxSteps := 2000000) (disch := first | rfl | exact Nat.le_of_ble_eq_true rfl | omega | (simp only [List.length_append, List.length_cons, List.length_nil, List.length_set]; omega)) only [hlt', W1, W2, W3, W4, W5, W6, W7, W8, W9, W10, W11, W12, W13, W14, W15, eq_self, ite_true, ite_false, undef_eq, List.set_cons_zero, List.set_cons_succ, List.getD_cons_zero, List.getD_cons_succ, List.map_cons, List.map_nil, List.length_cons, List.length_nil, List.append_nil, List.cons_append, List.nil_append, List.replicate_succ, List.replicate_zero, Nat.reduceAdd, Nat.reduceSub, ↓reduceIte, List.getElem?_cons_zero, List.getElem?_cons_succ, basic, cellsL, resOf, setAt, List.append_assoc, List.length_append, List.getElem?_append_left, List.getElem?_append_right, List.set_append_left, List.set_append_right, below, belowB, belowA, atomB, List.mem_cons, List.not_mem_nil, forall_eq_or_imp, forall_eq, List.toList_toArray, implies_true, List.take_succ_cons, List.take_zero, List.drop_succ_cons, List.drop_zero, List.take_nil, List.drop_nil, Nat.reduceLeDiff, Nat.reduceMul, Int.reduceToNat, Int.reduceLT, Int.reduceLE, Int.reduceAdd, Int.reduceNeg, Int.reduceEq, splice, List.singleton_append, Nat.reduceEqDiff, Nat.reduceLT, isAtom, List.all_cons, List.all_nil, Option.map_some, Option.bind_some, List.length_set, Int.reduceSub, Int.reduceMul, List.getElem?_set_self, List.getElem?_set_ne, ofB_2, tmpR_if, ro_sliceData, ro_capNil, ro_noZero, ext_2, ext_3, ext_4, ext_5, List.set_set]
    rw [List.take_of_length_le (by omega)] at hx
    exact ⟨hf.ext (by simp), hk2 (by omega) hx⟩

/-- A queue, what was put, and how many of it came out. -/
structure Or (m M : Mem) (q pb ab : Nat) (F : List Nat) (L : Nat → List En) (p : Nat → Value) (H : Nat → List Nat) (P : Nat → List ByteArray) (a : Nat → Nat) : Prop where
  f : Frm [] m M
  qu : Qu M q F L
  pc : M[pb]? = some ⟨[p 0, p 1, p 2], 28, 1, 0, .own⟩
  ps : ∀ c, c < 3 → Sl M 9 1 (p c) (H c) ((P c).map tRow)
  ac : M[ab]? = some ⟨[.int .i64 (a 0 : Int), .int .i64 (a 1 : Int), .int .i64 (a 2 : Int)], 29, 1, 0, .own⟩
  fl : ∀ x ∈ F, m.length ≤ x ∧ x ≠ pb ∧ x ≠ ab ∧ ∀ c, c < 3 → x ∉ H c
  hl : ∀ c, c < 3 → ∀ x ∈ H c, m.length ≤ x ∧ x ≠ pb ∧ x ≠ ab
  hd : ∀ c d, c < 3 → d < 3 → c ≠ d → ∀ x ∈ H c, x ∉ H d
  bl : m.length ≤ pb ∧ m.length ≤ ab ∧ pb ≠ ab
namespace Or
variable {m M M' : Mem} {q pb ab : Nat} {F F' : List Nat} {L L' : Nat → List En} {p : Nat → Value} {H : Nat → List Nat} {P : Nat → List ByteArray} {a : Nat → Nat}
theorem pure (h : Or m M q pb ab F L p H P a) (k : Frm [] M M') : Or m M' q pb ab F L p H P a :=
  ⟨h.f.trans k (by simp), h.qu.frm k (by simp), k.get0 h.pc, fun c hc => (h.ps c hc).frm0 k, k.get0 h.ac, h.fl, h.hl, h.hd, h.bl⟩
theorem stepQ (h : Or m M q pb ab F L p H P a) (k : Frm F M M') (hq : Qu M' q F' L') (hn : NwF M F F') : Or m M' q pb ab F' L' p H P a := by
  have hlen := h.f.len
  refine ⟨h.f.trans k fun x hx => .inr (h.fl x hx).1, hq, k.get h.pc fun hx => (h.fl _ hx).2.1 rfl, fun c hc => (h.ps c hc).frm k fun x hx hx' => (h.fl x hx').2.2.2 c hc hx, k.get h.ac fun hx => (h.fl _ hx).2.2.1 rfl, fun x hx => ?_, h.hl, h.hd, h.bl⟩
  rcases hn x hx with h1 | h1
  · exact h.fl x h1
  · have h2 := lt_of_some h.pc
    have h3 := lt_of_some h.ac
    exact ⟨by omega, by omega, by omega, fun c hc hx' => by have := (h.ps c hc).lt x hx'; omega⟩
theorem stepP (h : Or m M q pb ab F L p H P a) {c : Nat} (hc : c < 3) {v : Value} {G : List Nat} {l : List ByteArray} (k : Frm (H c) M M') (hs : Sl M' 9 1 v G (l.map tRow)) (hG : ∀ x ∈ G, M.length ≤ x) :
    Or m (M'.set pb ⟨[upd p c v 0, upd p c v 1, upd p c v 2], 28, 1, 0, .own⟩) q pb ab F L (upd p c v) (upd H c G) (upd P c l) a := by
  have hlen := h.f.len
  have h2 := lt_of_some h.pc
  have h3 := lt_of_some h.ac
  have hpM := lt_of_some (k.get h.pc fun hx => (h.hl c hc _ hx).2.1 rfl)
  have hset : Frm [pb] M' (M'.set pb ⟨[upd p c v 0, upd p c v 1, upd p c v 2], 28, 1, 0, .own⟩) := Frm.refl.set (by simp)
  have hpG : pb ∉ G := fun hx => by have := hG _ hx; omega
  have hFl := h.qu.lt
  refine ⟨(h.f.trans k fun x hx => .inr (h.hl c hc x hx).1).trans hset fun x hx => .inr (by simp at hx; subst hx; exact h.bl.1), ?_, by rw [List.getElem?_set_self hpM], fun d hd => ?_, hset.get (k.get h.ac fun hx => (h.hl c hc _ hx).2.2 rfl) (by simpa using (Ne.symm h.bl.2.2)), fun x hx => ?_, fun d hd x hx => ?_, fun d e hd he hne x hx => ?_, h.bl⟩
  · exact (h.qu.frm k fun x hx hx' => (h.fl x hx).2.2.2 c hc hx').frm hset fun x hx hx' => by simp at hx'; exact (h.fl x hx).2.1 hx'
  · by_cases e : d = c
    · subst e; rw [upd_same, upd_same, upd_same]; exact hs.setb hpG
    · rw [upd_other e, upd_other e, upd_other e]
      exact ((h.ps d hd).frm k fun x hx => h.hd d c hd hc e x hx).setb fun hx => (h.hl d hd _ hx).2.1 rfl
  · obtain ⟨f1, f2, f3, f4⟩ := h.fl x hx
    refine ⟨f1, f2, f3, fun d hd => ?_⟩
    by_cases e : d = c
    · subst e; rw [upd_same]; intro hx'; have := hG x hx'; have := hFl x hx; omega
    · rw [upd_other e]; exact f4 d hd
  · by_cases e : d = c
    · subst e; rw [upd_same] at hx
      have := hG x hx
      exact ⟨by omega, by omega, by omega⟩
    · rw [upd_other e] at hx; exact h.hl d hd x hx
  · by_cases e1 : d = c
    · subst e1
      rw [upd_same] at hx
      rw [upd_other (Ne.symm hne)]
      intro hx'
      have := hG x hx
      have := (h.ps e he).lt x hx'
      omega
    · rw [upd_other e1] at hx
      by_cases e2 : e = c
      · subst e2
        rw [upd_same]
        intro hx'
        have := hG x hx'
        have := (h.ps d hd).lt x hx
        omega
      · rw [upd_other e2]; exact h.hd d e hd he hne x hx
theorem stepA (h : Or m M q pb ab F L p H P a) {c x : Nat} :
    Or m (M.set ab ⟨[.int .i64 ((upd a c x 0 : Nat) : Int), .int .i64 ((upd a c x 1 : Nat) : Int), .int .i64 ((upd a c x 2 : Nat) : Int)], 29, 1, 0, .own⟩) q pb ab F L p H P (upd a c x) := by
  have hset : Frm [ab] M (M.set ab ⟨[.int .i64 ((upd a c x 0 : Nat) : Int), .int .i64 ((upd a c x 1 : Nat) : Int), .int .i64 ((upd a c x 2 : Nat) : Int)], 29, 1, 0, .own⟩) := Frm.refl.set (by simp)
  refine ⟨h.f.trans hset fun x hx => .inr (by simp at hx; subst hx; exact h.bl.2.1), h.qu.frm hset fun x hx hx' => by simp at hx'; exact (h.fl x hx).2.2.1 hx', hset.get h.pc (by simpa using h.bl.2.2), fun d hd => (h.ps d hd).setb fun hx => (h.hl d hd _ hx).2.2 rfl, by rw [List.getElem?_set_self (lt_of_some h.ac)], h.fl, h.hl, h.hd, h.bl⟩
end Or

def nm (c n : Int) : ByteArray := ⟨[UInt8.ofNat (c % 256).toNat, UInt8.ofNat (n % 256).toNat, UInt8.ofNat (n / 256 % 256).toNat].toArray⟩
theorem u8w (x : Int) : IntKind.u8.wrap x = ((UInt8.ofNat (x % 256).toNat).toNat : Int) := by
  simp [IntKind.wrap, IntKind.bits, IntKind.signed]; omega
/-- How what was put, what came out, and what waits go together. -/
structure Rl (L : Nat → List En) (P : Nat → List ByteArray) (a : Nat → Nat) (N : Nat) : Prop where
  le : ∀ c, c < 3 → a c ≤ (P c).length
  len : ∀ c, c < 3 → (P c).length ≤ N
  eq : ∀ c, c < 3 → (L c).map En.t = (P c).drop (a c)
  nm : ∀ c, c < 3 → ∀ t ∈ P c, ∃ n, t = nm (c : Int) n
namespace Rl
variable {L : Nat → List En} {P : Nat → List ByteArray} {a : Nat → Nat} {N : Nat}
theorem put (h : Rl L P a N) {c : Nat} (hc : c < 3) (k n : Int) : Rl (upd L c (L c ++ [⟨k, Proofs.Ytfnldlcedgfkeaa.nm c n⟩])) (upd P c (P c ++ [Proofs.Ytfnldlcedgfkeaa.nm c n])) a (N + 1) := by
  refine ⟨fun d hd => ?_, fun d hd => ?_, fun d hd => ?_, fun d hd t ht => ?_⟩
  · by_cases e : d = c
    · subst e; rw [upd_same]; have := h.le d hd; simp; omega
    · rw [upd_other e]; exact h.le d hd
  · by_cases e : d = c
    · subst e; rw [upd_same]; have := h.len d hd; simp; omega
    · rw [upd_other e]; have := h.len d hd; omega
  · by_cases e : d = c
    · subst e; rw [upd_same, upd_same, List.map_append, h.eq d hd, List.drop_append_of_le_length (h.le d hd)]; rfl
    · rw [upd_other e, upd_other e]; exact h.eq d hd
  · by_cases e : d = c
    · subst e
      rw [upd_same] at ht
      rcases List.mem_append.mp ht with h1 | h1
      · exact h.nm d hd t h1
      · simp at h1; exact ⟨n, h1⟩
    · rw [upd_other e] at ht; exact h.nm d hd t ht
theorem mono (h : Rl L P a N) {N' : Nat} (hn : N ≤ N') : Rl L P a N' := ⟨h.le, fun c hc => by have := h.len c hc; omega, h.eq, h.nm⟩
/-- The first one goes. -/
theorem pop {k : Nat} {e : En} (h : Rl (dropQ k L) P a N) (he : (allL L)[k]? = some e) : ∃ c, c < 3 ∧ (P c)[a c]? = some e.t ∧ (∃ n, e.t = Proofs.Ytfnldlcedgfkeaa.nm (c : Int) n) ∧ a c < (P c).length ∧ (∀ d, d < c → a d = (P d).length) ∧ Rl (dropQ (k + 1) L) P (upd a c (a c + 1)) N := by
  obtain ⟨c, hc, hce, hlow, hrest⟩ := pop_step he
  have h1 := h.eq c hc
  rw [hce, List.map_cons] at h1
  have hlt : a c < (P c).length := by
    refine Decidable.byContradiction fun hn => ?_
    rw [List.drop_of_length_le (by omega)] at h1
    cases h1
  rw [List.drop_eq_getElem_cons hlt] at h1
  obtain ⟨h2, h3⟩ := List.cons.inj h1
  have h4 : (P c)[a c]? = some e.t := by rw [List.getElem?_eq_getElem hlt, h2]
  refine ⟨c, hc, h4, h.nm c hc _ (List.mem_of_getElem? h4), hlt, fun d hd => ?_, ⟨fun d hd => ?_, h.len, fun d hd => ?_, h.nm⟩⟩
  · have h5 := h.eq d (by omega)
    rw [hlow d hd] at h5
    have h6 := congrArg List.length h5
    have h7 := h.le d (by omega)
    simp at h6
    omega
  · by_cases e : d = c
    · subst e; rw [upd_same]; omega
    · rw [upd_other e]; exact h.le d hd
  · by_cases e : d = c
    · subst e; rw [upd_same]; exact h3
    · rw [upd_other e, hrest d hd e]; exact h.eq d hd
end Rl
theorem nm_get (c : Nat) (hc : c < 3) (n : Int) : (nm (c : Int) n).size = 3 ∧ (nm (c : Int) n).data.toList[0]? = some (UInt8.ofNat c) ∧ (UInt8.ofNat c).toNat = c := by
  refine ⟨rfl, ?_, ?_⟩
  · have : ((c : Int) % 256).toNat = c := by omega
    simp [nm, this]
  · rw [UInt8.toNat_ofNat']; omega
end Go.Proofs.Ytfnldlcedgfkeaa
