/- An editor: texts that are typed, walked. -/
import Derived.Test.YtfpnnaalbjmnlaaDoorC
namespace Go.Proofs.YtfpnnaalbjmnlaaDoor
open Go.Lg
set_option maxRecDepth 8000
set_option maxHeartbeats 8000000
set_option linter.unusedSimpArgs false
set_option linter.unnecessarySimpa false
set_option linter.unusedVariables false

theorem cellB_l {c : List Value} {T z f o : Nat} {kd : Kind} (h : kd.live = true) : cellB (some ⟨c, T, z, f, kd⟩) o = c[o]? := by simp [cellB, h]
def TxIn (m : Mem) (l : List (List UInt8)) (v : Value) (B : List Nat) : Prop := ∃ a, v = .slice a l.length l.length ∧ l.length ≤ 9223372036854775807 ∧
  (0 < l.length → ∃ i T kd f, a = some ⟨i, 0, none⟩ ∧ B = [i] ∧ m[i]? = some ⟨l.map txt, T, 1, f, kd⟩ ∧ kd.live = true)
theorem TxIn.frm {m m' : Mem} {l : List (List UInt8)} {v : Value} {B F : List Nat} (h : TxIn m l v B) (k : Frm F m m') (hd : ∀ x ∈ B, x ∉ F) : TxIn m' l v B := by
  obtain ⟨a, rfl, h1, h2⟩ := h
  refine ⟨a, rfl, h1, fun h0 => ?_⟩
  obtain ⟨i, T, kd, f, e, rfl, hm, hl⟩ := h2 h0
  exact ⟨i, T, kd, f, e, rfl, k.get hm (hd i (by simp)), hl⟩
theorem TxIn.one {m : Mem} {s : List UInt8} {i T : Nat} (h : m[i]? = some ⟨[txt s], T, 1, 0, .own⟩) : TxIn m [s] (.slice (some ⟨i, 0, none⟩) 1 1) [i] :=
  ⟨_, rfl, by simp, fun _ => ⟨i, T, .own, 0, rfl, rfl, h, rfl⟩⟩
theorem flat_snoc {l : List (List UInt8)} {j : Nat} {s : List UInt8} (h : l[j]? = some s) : (l.take (j + 1)).flatten = (l.take j).flatten ++ s := by
  rw [take_snoc h, List.flatten_append]; simp
theorem flat_take_le (l : List (List UInt8)) (j : Nat) : (l.take j).flatten.length ≤ l.flatten.length := by
  have : l.flatten = (l.take j).flatten ++ (l.drop j).flatten := by rw [← List.flatten_append, List.take_append_drop]
  rw [this, List.length_append]; omega

theorem TxIn.two {m : Mem} {s s' : List UInt8} {i T : Nat} (h : m[i]? = some ⟨[txt s, txt s'], T, 1, 0, .own⟩) : TxIn m [s, s'] (.slice (some ⟨i, 0, none⟩) 2 2) [i] :=
  ⟨_, rfl, by simp, fun _ => ⟨i, T, .own, 0, rfl, by simp, h, rfl⟩⟩

theorem take_run {e : ES} {l : List UInt8} {i : Nat} {c : UInt8} (h : l[i]? = some c) : e.run (l.take (i + 1)) = (e.run (l.take i)).key c ∧ e.out (l.take (i + 1)) = e.out (l.take i) ++ (e.run (l.take i)).tell c := by
  rw [take_snoc h, ES.run_append, ES.out_append]
  exact ⟨rfl, by simp [ES.out]⟩

theorem type_spec {M0 : Mem} {ei : Nat} {F0 B : List Nat} {e : ES} {l : List (List UInt8)} {v : Value} {N : Nat} (hD : Ed M0 ei F0 e) (hv : TxIn M0 l v B) (hB : ∀ x ∈ B, x ∉ F0) (hok : e.Ok N) (hn : N + l.flatten.length ≤ 100000) (hls : ∀ s ∈ l, s.length ≤ 100000) :
    LCall Tryd.prog 8 [.pointer (some ⟨ei, 0, none⟩), v] M0 fun v' M => ∃ F G, FE M0 F0 [] ei M F G (e.run l.flatten) v' (e.out l.flatten) := by
  have hv0 := hv
  obtain ⟨a, rfl, hlen, _⟩ := hv
  refine LCall_enter Tryd.func8 c8 ?_
  simp (contextual := true) (implicitDefEqProofs := false) (maxSteps := 2000000) (disch := first | rfl | exact Nat.le_of_ble_eq_true rfl | omega | (simp only [List.length_append, List.length_cons, List.length_nil, List.length_set]; omega)) only [L8, W1, W2, W3, W4, W5, W6, W7, W8, W9, W10, W11, W12, W13, W14, W15, eq_self, ite_true, ite_false, undef_eq, List.set_cons_zero, List.set_cons_succ, List.getD_cons_zero, List.getD_cons_succ, List.map_cons, List.map_nil, List.length_cons, List.length_nil, List.append_nil, List.cons_append, List.nil_append, List.replicate_succ, List.replicate_zero, Nat.reduceAdd, Nat.reduceSub, ↓reduceIte, List.getElem?_cons_zero, List.getElem?_cons_succ, basic, cellsL, resOf, setAt, List.append_assoc, List.length_append, List.getElem?_append_left, List.getElem?_append_right, List.set_append_left, List.set_append_right, below, belowB, belowA, atomB, List.mem_cons, List.not_mem_nil, forall_eq_or_imp, forall_eq, List.toList_toArray, implies_true, List.take_succ_cons, List.take_zero, List.drop_succ_cons, List.drop_zero, List.take_nil, List.drop_nil, Nat.reduceLeDiff, Nat.reduceMul, Int.reduceToNat, Int.reduceLT, Int.reduceLE, Int.reduceAdd, Int.reduceNeg, Int.reduceEq, splice, List.singleton_append, Nat.reduceEqDiff, Nat.reduceLT, isAtom, List.all_cons, List.all_nil, Option.map_some, Option.bind_some, List.length_set, Int.reduceSub, Int.reduceMul, List.getElem?_set_self, List.getElem?_set_ne, ofB_2, tmpR_if, ro_sliceData, ro_capNil, ro_noZero, ext_2, ext_3, ext_4, ext_5, List.set_set]
  refine loop_inv (fun n t M => ∃ (j : Nat) (out : Value) (F G : List Nat), n = l.length - j ∧ j ≤ l.length ∧ FE M0 F0 [] ei M F G (e.run (l.take j).flatten) out (e.out (l.take j).flatten) ∧
    Tab 32 [(0, .pointer (some ⟨ei, 0, none⟩)), (5, out), (12, .slice a l.length l.length), (13, .int .i64 (l.length : Int)), (14, .int .i64 (j : Int))] t) (n := l.length) ?_ ?_
  · exact ⟨0, _, F0, [], rfl, Nat.zero_le _, ⟨Frm.refl, hD, .nil, by simp, fun x hx => .inl hx, by simp [NwF]⟩, ⟨rfl, by simp⟩⟩
  rintro n t M ⟨j, out, F, G, rfl, hj, hfs, ht⟩
  obtain ⟨f, rfl⟩ : ∃ f' : Nat → Value, t = [.pointer (some ⟨ei, 0, none⟩), f' 1, f' 2, f' 3, f' 4, out, f' 6, f' 7, f' 8, f' 9, f' 10, f' 11, .slice a l.length l.length, .int .i64 (l.length : Int), .int .i64 (j : Int), f' 15, f' 16, f' 17, f' 18, f' 19, f' 20, f' 21, f' 22, f' 23, f' 24, f' 25, f' 26, f' 27, f' 28, f' 29, f' 30, f' 31] := ht.open fun f' => rfl
  obtain ⟨oa, rfl, _⟩ := hfs.o.form
  by_cases hlt : j < l.length
  · have hlt' : ((j : Int) < (l.length : Int)) = True := by simp [hlt]
    have h0 : ((0 : Int) ≤ (j : Int)) = True := by simp
    have hvM := hv0.frm hfs.f (by simpa using hB)
    obtain ⟨a', ee, _, hcell⟩ := hvM
    simp only [Value.slice.injEq, and_true] at ee
    subst ee
    obtain ⟨i, T, kd, fz, rfl, _, hm, hl⟩ := hcell (by omega)
    have hi := lt_of_some hm
    obtain ⟨s, hs⟩ : ∃ s, l[j]? = some s := ⟨l[j], List.getElem?_eq_getElem hlt⟩
    have hcs : (l.map txt)[j]? = some (txt s) := by simp [hs]
    have hsl := hls s (List.mem_of_getElem? hs)
    have hsn := flat_snoc hs
    have hl2 : (l.take (j + 1)).flatten.length = (l.take j).flatten.length + s.length := by rw [hsn, List.length_append]
    have hle := flat_take_le l (j + 1)
    have hokj := ES.run_ok (l := (l.take j).flatten) hok
    have hol := ES.out_len (l := (l.take j).flatten) (e := e)
    have hwj : IntKind.i64.wrap ((j : Int) + 1) = ((j + 1 : Nat) : Int) := by rw [wrap_i64 (by omega) (by omega)]; omega
    simp (contextual := true) (implicitDefEqProofs := false) (maxSteps := 2000000) (disch := first | rfl | exact Nat.le_of_ble_eq_true rfl | omega | (simp only [List.length_append, List.length_cons, List.length_nil, List.length_set]; omega)) only [hm, hlt', h0, Int.toNat_natCast, cellB_l hl, hcs, bin_ladd, str_cut, str_app, str_eq, string_mk_size, string_mk, W1, W2, W3, W4, W5, W6, W7, W8, W9, W10, W11, W12, W13, W14, W15, eq_self, ite_true, ite_false, undef_eq, List.set_cons_zero, List.set_cons_succ, List.getD_cons_zero, List.getD_cons_succ, List.map_cons, List.map_nil, List.length_cons, List.length_nil, List.append_nil, List.cons_append, List.nil_append, List.replicate_succ, List.replicate_zero, Nat.reduceAdd, Nat.reduceSub, ↓reduceIte, List.getElem?_cons_zero, List.getElem?_cons_succ, basic, cellsL, resOf, setAt, List.append_assoc, List.length_append, List.getElem?_append_left, List.getElem?_append_right, List.set_append_left, List.set_append_right, below, belowB, belowA, atomB, List.mem_cons, List.not_mem_nil, forall_eq_or_imp, forall_eq, List.toList_toArray, implies_true, List.take_succ_cons, List.take_zero, List.drop_succ_cons, List.drop_zero, List.take_nil, List.drop_nil, Nat.reduceLeDiff, Nat.reduceMul, Int.reduceToNat, Int.reduceLT, Int.reduceLE, Int.reduceAdd, Int.reduceNeg, Int.reduceEq, splice, List.singleton_append, Nat.reduceEqDiff, Nat.reduceLT, isAtom, List.all_cons, List.all_nil, Option.map_some, Option.bind_some, List.length_set, Int.reduceSub, Int.reduceMul, List.getElem?_set_self, List.getElem?_set_ne, ofB_2, tmpR_if, ro_sliceData, ro_capNil, ro_noZero, ext_2, ext_3, ext_4, ext_5, List.set_set]
    have hfs1 := hfs.pure (M' := M ++ [⟨byteCells s, 5, 1, 0, .own⟩]) Frm.refl.app
    have hbc : (M ++ [⟨byteCells s, 5, 1, 0, .own⟩])[M.length]? = some ⟨byteCells s, 5, 1, 0, .own⟩ := by simp
    have hMF : M.length ∉ F ∧ M.length ∉ G := ⟨fun h => by have := hfs.df.lt _ h; omega, fun h => by have := hfs.o.lt _ h; omega⟩
    have hml := hfs.f.len
    generalize M ++ [(⟨byteCells s, 5, 1, 0, .own⟩ : Blk)] = M1 at hfs1 hbc ⊢
    generalize M.length = p at hbc hMF hml ⊢
    refine loop_inv (fun n t M => ∃ (q : Nat) (out : Value) (F G : List Nat), n = s.length - q ∧ q ≤ s.length ∧ FE M0 F0 [] ei M F G ((e.run (l.take j).flatten).run (s.take q)) out (e.out (l.take j).flatten ++ (e.run (l.take j).flatten).out (s.take q)) ∧
      M[p]? = some ⟨byteCells s, 5, 1, 0, .own⟩ ∧ p ∉ F ∧ p ∉ G ∧
      Tab 32 [(0, .pointer (some ⟨ei, 0, none⟩)), (5, out), (12, .slice (some ⟨i, 0, none⟩) l.length l.length), (13, .int .i64 (l.length : Int)), (14, .int .i64 (j : Int)), (19, .slice (some ⟨p, 0, none⟩) s.length s.length), (20, .int .i64 (s.length : Int)), (21, .int .i64 (q : Int))] t) (n := s.length) ?_ ?_
    · exact ⟨0, _, F, G, rfl, Nat.zero_le _, by simpa [ES.run, ES.out] using hfs1, hbc, hMF.1, hMF.2, ⟨rfl, by simp⟩⟩
    clear hfs1 hbc hMF hfs hm hi
    rintro n t M ⟨q, out, F, G, rfl, hq, hfs, hbc, hpF, hpG, ht⟩
    obtain ⟨f, rfl⟩ : ∃ f' : Nat → Value, t = [.pointer (some ⟨ei, 0, none⟩), f' 1, f' 2, f' 3, f' 4, out, f' 6, f' 7, f' 8, f' 9, f' 10, f' 11, .slice (some ⟨i, 0, none⟩) l.length l.length, .int .i64 (l.length : Int), .int .i64 (j : Int), f' 15, f' 16, f' 17, f' 18, .slice (some ⟨p, 0, none⟩) s.length s.length, .int .i64 (s.length : Int), .int .i64 (q : Int), f' 22, f' 23, f' 24, f' 25, f' 26, f' 27, f' 28, f' 29, f' 30, f' 31] := ht.open fun f' => rfl
    obtain ⟨oa, rfl, _⟩ := hfs.o.form
    by_cases hqs : q < s.length
    · have hqs' : ((q : Int) < (s.length : Int)) = True := by simp [hqs]
      have hq0 : ((0 : Int) ≤ (q : Int)) = True := by simp
      have hwq : IntKind.i64.wrap ((q : Int) + 1) = ((q + 1 : Nat) : Int) := by rw [wrap_i64 (by omega) (by omega)]; omega
      obtain ⟨c, hc⟩ : ∃ c, s[q]? = some c := ⟨_, List.getElem?_eq_getElem hqs⟩
      have hcc := byteCells_get hc
      obtain ⟨r1, r2⟩ := take_run (e := e.run (l.take j).flatten) hc
      have hok2 := ES.run_ok (l := s.take q) hokj
      have hol2 := ES.out_len (l := s.take q) (e := e.run (l.take j).flatten)
      have htq : (s.take q).length = q := by simp; omega
      have hMl := hfs.f.len
      simp (contextual := true) (implicitDefEqProofs := false) (maxSteps := 2000000) (disch := first | rfl | exact Nat.le_of_ble_eq_true rfl | omega | (simp only [List.length_append, List.length_cons, List.length_nil, List.length_set]; omega)) only [hbc, hqs', hq0, hcc, Int.toNat_natCast, W1, W2, W3, W4, W5, W6, W7, W8, W9, W10, W11, W12, W13, W14, W15, eq_self, ite_true, ite_false, undef_eq, List.set_cons_zero, List.set_cons_succ, List.getD_cons_zero, List.getD_cons_succ, List.map_cons, List.map_nil, List.length_cons, List.length_nil, List.append_nil, List.cons_append, List.nil_append, List.replicate_succ, List.replicate_zero, Nat.reduceAdd, Nat.reduceSub, ↓reduceIte, List.getElem?_cons_zero, List.getElem?_cons_succ, basic, cellsL, resOf, setAt, List.append_assoc, List.length_append, List.getElem?_append_left, List.getElem?_append_right, List.set_append_left, List.set_append_right, below, belowB, belowA, atomB, List.mem_cons, List.not_mem_nil, forall_eq_or_imp, forall_eq, List.toList_toArray, implies_true, List.take_succ_cons, List.take_zero, List.drop_succ_cons, List.drop_zero, List.take_nil, List.drop_nil, Nat.reduceLeDiff, Nat.reduceMul, Int.reduceToNat, Int.reduceLT, Int.reduceLE, Int.reduceAdd, Int.reduceNeg, Int.reduceEq, splice, List.singleton_append, Nat.reduceEqDiff, Nat.reduceLT, isAtom, List.all_cons, List.all_nil, Option.map_some, Option.bind_some, List.length_set, Int.reduceSub, Int.reduceMul, List.getElem?_set_self, List.getElem?_set_ne, ofB_2, tmpR_if, ro_sliceData, ro_capNil, ro_noZero, ext_2, ext_3, ext_4, ext_5, List.set_set]
      refine (key_spec c hfs.df hfs.o hfs.dj hok2 (by omega) (by rw [List.length_append]; omega)).mono ?_
      rintro v2 M2 ⟨F2, G2, h2⟩
      have h3 := hfs.trans h2 fun x hx => hx
      rw [List.append_assoc, ← r1, ← r2] at h3
      have hpl := lt_of_some hbc
      obtain ⟨va, rfl, _⟩ := h2.o.form
      simp (contextual := true) (implicitDefEqProofs := false) (maxSteps := 2000000) (disch := first | rfl | exact Nat.le_of_ble_eq_true rfl | omega | (simp only [List.length_append, List.length_cons, List.length_nil, List.length_set]; omega)) only [W1, W2, W3, W4, W5, W6, W7, W8, W9, W10, W11, W12, W13, W14, W15, eq_self, ite_true, ite_false, undef_eq, List.set_cons_zero, List.set_cons_succ, List.getD_cons_zero, List.getD_cons_succ, List.map_cons, List.map_nil, List.length_cons, List.length_nil, List.append_nil, List.cons_append, List.nil_append, List.replicate_succ, List.replicate_zero, Nat.reduceAdd, Nat.reduceSub, ↓reduceIte, List.getElem?_cons_zero, List.getElem?_cons_succ, basic, cellsL, resOf, setAt, List.append_assoc, List.length_append, List.getElem?_append_left, List.getElem?_append_right, List.set_append_left, List.set_append_right, below, belowB, belowA, atomB, List.mem_cons, List.not_mem_nil, forall_eq_or_imp, forall_eq, List.toList_toArray, implies_true, List.take_succ_cons, List.take_zero, List.drop_succ_cons, List.drop_zero, List.take_nil, List.drop_nil, Nat.reduceLeDiff, Nat.reduceMul, Int.reduceToNat, Int.reduceLT, Int.reduceLE, Int.reduceAdd, Int.reduceNeg, Int.reduceEq, splice, List.singleton_append, Nat.reduceEqDiff, Nat.reduceLT, isAtom, List.all_cons, List.all_nil, Option.map_some, Option.bind_some, List.length_set, Int.reduceSub, Int.reduceMul, List.getElem?_set_self, List.getElem?_set_ne, ofB_2, tmpR_if, ro_sliceData, ro_capNil, ro_noZero, ext_2, ext_3, ext_4, ext_5, List.set_set]
      refine kInv_go ⟨q + 1, _, F2, G2, rfl, by omega, h3, h2.f.get hbc (by simp [hpF, hpG]), fun h => ?_, fun h => ?_, ⟨rfl, by simp [hwq]⟩⟩ (by omega)
      · rcases h2.nf p h with h | h
        · exact hpF h
        · omega
      · rcases h2.ng p h with h | h
        · exact hpG h
        · omega
    · have hqs' : ((q : Int) < (s.length : Int)) = False := by simp; omega
      have htk : s.take q = s := List.take_of_length_le (by omega)
      rw [htk, ← ES.run_append, ← ES.out_append, ← hsn] at hfs
      simp (contextual := true) (implicitDefEqProofs := false) (maxSteps := 2000000) (disch := first | rfl | exact Nat.le_of_ble_eq_true rfl | omega | (simp only [List.length_append, List.length_cons, List.length_nil, List.length_set]; omega)) only [hqs', W1, W2, W3, W4, W5, W6, W7, W8, W9, W10, W11, W12, W13, W14, W15, eq_self, ite_true, ite_false, undef_eq, List.set_cons_zero, List.set_cons_succ, List.getD_cons_zero, List.getD_cons_succ, List.map_cons, List.map_nil, List.length_cons, List.length_nil, List.append_nil, List.cons_append, List.nil_append, List.replicate_succ, List.replicate_zero, Nat.reduceAdd, Nat.reduceSub, ↓reduceIte, List.getElem?_cons_zero, List.getElem?_cons_succ, basic, cellsL, resOf, setAt, List.append_assoc, List.length_append, List.getElem?_append_left, List.getElem?_append_right, List.set_append_left, List.set_append_right, below, belowB, belowA, atomB, List.mem_cons, List.not_mem_nil, forall_eq_or_imp, forall_eq, List.toList_toArray, implies_true, List.take_succ_cons, List.take_zero, List.drop_succ_cons, List.drop_zero, List.take_nil, List.drop_nil, Nat.reduceLeDiff, Nat.reduceMul, Int.reduceToNat, Int.reduceLT, Int.reduceLE, Int.reduceAdd, Int.reduceNeg, Int.reduceEq, splice, List.singleton_append, Nat.reduceEqDiff, Nat.reduceLT, isAtom, List.all_cons, List.all_nil, Option.map_some, Option.bind_some, List.length_set, Int.reduceSub, Int.reduceMul, List.getElem?_set_self, List.getElem?_set_ne, ofB_2, tmpR_if, ro_sliceData, ro_capNil, ro_noZero, ext_2, ext_3, ext_4, ext_5, List.set_set]
      rw [htk, ← ES.out_append, ← hsn]
      exact kInv_go ⟨j + 1, _, F, G, rfl, by omega, hfs, ⟨rfl, by simp [hwj]⟩⟩ (by omega)
  · have hlt' : ((j : Int) < (l.length : Int)) = False := by simp; omega
    rw [List.take_of_length_le (by omega)] at hfs
    simp (contextual := true) (implicitDefEqProofs := false) (maxSteps := 2000000) (disch := first | rfl | exact Nat.le_of_ble_eq_true rfl | omega | (simp only [List.length_append, List.length_cons, List.length_nil, List.length_set]; omega)) only [hlt', W1, W2, W3, W4, W5, W6, W7, W8, W9, W10, W11, W12, W13, W14, W15, eq_self, ite_true, ite_false, undef_eq, List.set_cons_zero, List.set_cons_succ, List.getD_cons_zero, List.getD_cons_succ, List.map_cons, List.map_nil, List.length_cons, List.length_nil, List.append_nil, List.cons_append, List.nil_append, List.replicate_succ, List.replicate_zero, Nat.reduceAdd, Nat.reduceSub, ↓reduceIte, List.getElem?_cons_zero, List.getElem?_cons_succ, basic, cellsL, resOf, setAt, List.append_assoc, List.length_append, List.getElem?_append_left, List.getElem?_append_right, List.set_append_left, List.set_append_right, below, belowB, belowA, atomB, List.mem_cons, List.not_mem_nil, forall_eq_or_imp, forall_eq, List.toList_toArray, implies_true, List.take_succ_cons, List.take_zero, List.drop_succ_cons, List.drop_zero, List.take_nil, List.drop_nil, Nat.reduceLeDiff, Nat.reduceMul, Int.reduceToNat, Int.reduceLT, Int.reduceLE, Int.reduceAdd, Int.reduceNeg, Int.reduceEq, splice, List.singleton_append, Nat.reduceEqDiff, Nat.reduceLT, isAtom, List.all_cons, List.all_nil, Option.map_some, Option.bind_some, List.length_set, Int.reduceSub, Int.reduceMul, List.getElem?_set_self, List.getElem?_set_ne, ofB_2, tmpR_if, ro_sliceData, ro_capNil, ro_noZero, ext_2, ext_3, ext_4, ext_5, List.set_set]
    rw [List.take_of_length_le (by omega)]
    exact ⟨F, G, hfs⟩
end Go.Proofs.YtfpnnaalbjmnlaaDoor
