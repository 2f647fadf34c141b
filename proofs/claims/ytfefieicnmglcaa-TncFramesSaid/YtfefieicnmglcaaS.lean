/- Texts fed to a deframer; one frame of one byte; walked. -/
import Derived.Test.YtfefieicnmglcaaR
namespace Go.Proofs.Ytfefieicnmglcaa
open Go.Lg
set_option maxRecDepth 8000
set_option maxHeartbeats 4000000
set_option linter.unusedSimpArgs false
set_option linter.unnecessarySimpa false
set_option linter.unusedVariables false

theorem cellB_l {c : List Value} {T z f o : Nat} {kd : Kind} (h : kd.live = true) : cellB (some ⟨c, T, z, f, kd⟩) o = c[o]? := by simp [cellB, h]
def TxIn (m : Mem) (l : List (List UInt8)) (v : Value) (B : List Nat) : Prop := ∃ a, v = .slice a l.length l.length ∧ l.length ≤ 9223372036854775807 ∧
  (0 < l.length → ∃ i T kd f, a = some ⟨i, 0, none⟩ ∧ B = [i] ∧ m[i]? = some ⟨l.map txt, T, 1, f, kd⟩ ∧ kd.live = true)
theorem TxIn.frm {m m' : Mem} {l : List (List UInt8)} {v : Value} {B F : List Nat} (h : TxIn m l v B) (k : Frm F m m') (hd : ∀ x ∈ B, x ∉ F) : TxIn m' l v B := by
  obtain ⟨a, rfl, h1, h2⟩ := h
  refine ⟨a, rfl, h1, fun h0 => ?_⟩
  obtain ⟨i, T, kd, f, e, rfl, hm, hl⟩ := h2 h0
  exact ⟨i, T, kd, f, e, rfl, k.get hm (hd i (by simp)), hl⟩
theorem TxIn.one {m : Mem} {s : List UInt8} {i T : Nat} (h : m[i]? = some ⟨[txt s], T, 1, 0, .own⟩) : TxIn m [s] (.slice (some ⟨i, 0, none⟩) 1 1) [i] :=
  ⟨_, rfl, by simp, fun _ => ⟨i, T, .own, 0, rfl, rfl, h, rfl⟩⟩
theorem flat_snoc {l : List (List UInt8)} {j : Nat} {s : List UInt8} (h : l[j]? = some s) : (l.take (j + 1)).flatten = (l.take j).flatten ++ s := by
  rw [take_snoc h, List.flatten_append]; simp
theorem flat_take_le (l : List (List UInt8)) (j : Nat) : (l.take j).flatten.length ≤ l.flatten.length := by
  have : l.flatten = (l.take j).flatten ++ (l.drop j).flatten := by rw [← List.flatten_append, List.take_append_drop]
  rw [this, List.length_append]; omega

def DS.new (k : Int) : DS := ⟨(if 4096 < (if k < 1 then 1 else k) then 4096 else (if k < 1 then 1 else k)).toNat, 0, [], 0⟩
theorem DS.new_most (k : Int) : ((DS.new k).most : Int) = if 4096 < (if k < 1 then 1 else k) then 4096 else (if k < 1 then 1 else k) := by
  unfold DS.new
  simp only
  split <;> split <;> omega
theorem DS.new_ok (k : Int) : (DS.new k).Ok := by
  have h := DS.new_most k
  have h1 : 1 ≤ (DS.new k).most ∧ (DS.new k).most ≤ 4096 := by
    split at h <;> split at h <;> omega
  exact ⟨h1, by simp [DS.new], by simp [DS.new], fun _ => rfl⟩
theorem newd_spec (k : Int) (m : Mem) : LCall Try.prog 38 [.int .i64 k] m fun v m' => v = .pointer (some ⟨m.length, 0, none⟩) ∧ m' = m ++ [⟨dcells (DS.new k) (.slice none 0 0), 98, 1, 0, .own⟩] := by
  have h := DS.new_most k
  refine LCall_enter Try.func38 c38 ?_
  have key : dcells (DS.new k) (.slice none 0 0) = [.int .i64 (if 4096 < (if k < 1 then 1 else k) then 4096 else (if k < 1 then 1 else k)), .bool false, .bool false, .slice none 0 0, .int .i64 0] := by rw [← h]; rfl
  rw [key]
  simp (contextual := true) (implicitDefEqProofs := false) (maxSteps := 2000000) (disch := first | rfl | exact Nat.le_of_ble_eq_true rfl | omega | (simp only [List.length_append, List.length_cons, List.length_nil, List.length_set]; omega)) only [L38, W1, W2, W3, W4, W5, W6, W7, W8, W9, W10, W11, W12, W13, W14, W15, eq_self, ite_true, ite_false, undef_eq, List.set_cons_zero, List.set_cons_succ, List.getD_cons_zero, List.getD_cons_succ, List.map_cons, List.map_nil, List.length_cons, List.length_nil, List.append_nil, List.cons_append, List.nil_append, List.replicate_succ, List.replicate_zero, Nat.reduceAdd, Nat.reduceSub, ↓reduceIte, List.getElem?_cons_zero, List.getElem?_cons_succ, basic, cellsL, resOf, setAt, List.append_assoc, List.length_append, List.getElem?_append_left, List.getElem?_append_right, List.set_append_left, List.set_append_right, below, belowB, belowA, atomB, List.mem_cons, List.not_mem_nil, forall_eq_or_imp, forall_eq, List.toList_toArray, implies_true, List.take_succ_cons, List.take_zero, List.drop_succ_cons, List.drop_zero, List.take_nil, List.drop_nil, Nat.reduceLeDiff, Nat.reduceMul, Int.reduceToNat, Int.reduceLT, Int.reduceLE, Int.reduceAdd, Int.reduceNeg, Int.reduceEq, splice, List.singleton_append, Nat.reduceEqDiff, Nat.reduceLT, isAtom, List.all_cons, List.all_nil, Option.map_some, Option.bind_some, List.length_set, Int.reduceSub, Int.reduceMul, List.getElem?_set_self, List.getElem?_set_ne, ofB_2, tmpR_if, ro_sliceData, ro_capNil, ro_noZero, ext_2, ext_3, ext_4, ext_5, List.set_set]
theorem Df.fresh {m g : Mem} (k : Int) : Df (m ++ ⟨dcells (DS.new k) (.slice none 0 0), 98, 1, 0, .own⟩ :: g) m.length [m.length] (DS.new k) :=
  ⟨_, [], rfl, by simp, by simp, .nil⟩

theorem FS.trans {M0 M M' : Mem} {F0 G0 F G F' G' H : List Nat} {di : Nat} {d d' : DS} {out out' : Value} {rows rows' : List PF} (h : FS M0 F0 G0 di M F G d out rows) (k : FS M F H di M' F' G' d' out' rows') (hH : ∀ x ∈ H, x ∈ G) : FS M0 F0 G0 di M' F' G' d' out' rows' := by
  have hl := h.f.len
  refine ⟨h.f.trans k.f fun x hx => ?_, k.df, k.o, k.dj, fun x hx => ?_, fun x hx => ?_⟩
  · rcases List.mem_append.mp hx with h1 | h1
    · rcases h.nf x h1 with h2 | h2
      · exact .inl (by simp [h2])
      · exact .inr h2
    · rcases h.ng x (hH x h1) with h2 | h2
      · exact .inl (by simp [h2])
      · exact .inr h2
  · rcases k.nf x hx with h1 | h1
    · exact h.nf x h1
    · exact .inr (by omega)
  · rcases k.ng x hx with h1 | h1
    · exact h.ng x (hH x h1)
    · exact .inr (by omega)

theorem feeds_spec {M0 : Mem} {di : Nat} {F0 B : List Nat} {d0 : DS} {l : List (List UInt8)} {v : Value} (hD : Df M0 di F0 d0) (hv : TxIn M0 l v B) (hB : ∀ x ∈ B, x ∉ F0) (hok : d0.Ok) (hn : l.flatten.length ≤ 100000) (hb : d0.bad + l.flatten.length ≤ 1000000) :
    LCall Try.prog 40 [.pointer (some ⟨di, 0, none⟩), v] M0 fun v' M => ∃ F G, FS M0 F0 [] di M F G (d0.run l.flatten) v' (d0.out l.flatten) := by
  have hv0 := hv
  obtain ⟨a, rfl, hlen, _⟩ := hv
  refine LCall_enter Try.func40 c40 ?_
  simp (contextual := true) (implicitDefEqProofs := false) (maxSteps := 2000000) (disch := first | rfl | exact Nat.le_of_ble_eq_true rfl | omega | (simp only [List.length_append, List.length_cons, List.length_nil, List.length_set]; omega)) only [L40, W1, W2, W3, W4, W5, W6, W7, W8, W9, W10, W11, W12, W13, W14, W15, eq_self, ite_true, ite_false, undef_eq, List.set_cons_zero, List.set_cons_succ, List.getD_cons_zero, List.getD_cons_succ, List.map_cons, List.map_nil, List.length_cons, List.length_nil, List.append_nil, List.cons_append, List.nil_append, List.replicate_succ, List.replicate_zero, Nat.reduceAdd, Nat.reduceSub, ↓reduceIte, List.getElem?_cons_zero, List.getElem?_cons_succ, basic, cellsL, resOf, setAt, List.append_assoc, List.length_append, List.getElem?_append_left, List.getElem?_append_right, List.set_append_left, List.set_append_right, below, belowB, belowA, atomB, List.mem_cons, List.not_mem_nil, forall_eq_or_imp, forall_eq, List.toList_toArray, implies_true, List.take_succ_cons, List.take_zero, List.drop_succ_cons, List.drop_zero, List.take_nil, List.drop_nil, Nat.reduceLeDiff, Nat.reduceMul, Int.reduceToNat, Int.reduceLT, Int.reduceLE, Int.reduceAdd, Int.reduceNeg, Int.reduceEq, splice, List.singleton_append, Nat.reduceEqDiff, Nat.reduceLT, isAtom, List.all_cons, List.all_nil, Option.map_some, Option.bind_some, List.length_set, Int.reduceSub, Int.reduceMul, List.getElem?_set_self, List.getElem?_set_ne, ofB_2, tmpR_if, ro_sliceData, ro_capNil, ro_noZero, ext_2, ext_3, ext_4, ext_5, List.set_set]
  refine loop_inv (fun n t M => ∃ (j : Nat) (out : Value) (F G : List Nat), n = l.length - j ∧ j ≤ l.length ∧ FS M0 F0 [] di M F G (d0.run (l.take j).flatten) out (d0.out (l.take j).flatten) ∧
    Tab 22 [(0, .pointer (some ⟨di, 0, none⟩)), (5, out), (10, .slice a l.length l.length), (11, .int .i64 (l.length : Int)), (12, .int .i64 (j : Int))] t) (n := l.length) ?_ ?_
  · exact ⟨0, _, F0, [], rfl, Nat.zero_le _, ⟨Frm.refl, hD, .nil, by simp, fun x hx => .inl hx, by simp [NwF]⟩, ⟨rfl, by simp⟩⟩
  rintro n t M ⟨j, out, F, G, rfl, hj, hfs, ht⟩
  obtain ⟨f, rfl⟩ : ∃ f' : Nat → Value, t = [.pointer (some ⟨di, 0, none⟩), f' 1, f' 2, f' 3, f' 4, out, f' 6, f' 7, f' 8, f' 9, .slice a l.length l.length, .int .i64 (l.length : Int), .int .i64 (j : Int), f' 13, f' 14, f' 15, f' 16, f' 17, f' 18, f' 19, f' 20, f' 21] := ht.open fun f' => rfl
  obtain ⟨oa, rfl, _⟩ := hfs.o.form
  by_cases hlt : j < l.length
  · have hlt' : ((j : Int) < (l.length : Int)) = True := by simp [hlt]
    have h0 : ((0 : Int) ≤ (j : Int)) = True := by simp
    have hvM := hv0.frm hfs.f (by simpa using hB)
    obtain ⟨a', e, _, hcell⟩ := hvM
    simp only [Value.slice.injEq, and_true] at e
    subst e
    obtain ⟨i, T, kd, fz, rfl, _, hm, hl⟩ := hcell (by omega)
    have hi := lt_of_some hm
    obtain ⟨s, hs⟩ : ∃ s, l[j]? = some s := ⟨l[j], List.getElem?_eq_getElem hlt⟩
    have hcs : (l.map txt)[j]? = some (txt s) := by simp [hs]
    have hsn := flat_snoc hs
    have hl2 : (l.take (j + 1)).flatten.length = (l.take j).flatten.length + s.length := by rw [hsn, List.length_append]
    have hle := flat_take_le l (j + 1)
    have hrb := DS.run_bad (l := (l.take j).flatten) (d := d0)
    have hol := DS.out_len (l := (l.take j).flatten) (d := d0)
    have hwj : IntKind.i64.wrap ((j : Int) + 1) = ((j + 1 : Nat) : Int) := by rw [wrap_i64 (by omega) (by omega)]; omega
    simp (contextual := true) (implicitDefEqProofs := false) (maxSteps := 2000000) (disch := first | rfl | exact Nat.le_of_ble_eq_true rfl | omega | (simp only [List.length_append, List.length_cons, List.length_nil, List.length_set]; omega)) only [hm, hlt', h0, Int.toNat_natCast, cellB_l hl, hcs, W1, W2, W3, W4, W5, W6, W7, W8, W9, W10, W11, W12, W13, W14, W15, eq_self, ite_true, ite_false, undef_eq, List.set_cons_zero, List.set_cons_succ, List.getD_cons_zero, List.getD_cons_succ, List.map_cons, List.map_nil, List.length_cons, List.length_nil, List.append_nil, List.cons_append, List.nil_append, List.replicate_succ, List.replicate_zero, Nat.reduceAdd, Nat.reduceSub, ↓reduceIte, List.getElem?_cons_zero, List.getElem?_cons_succ, basic, cellsL, resOf, setAt, List.append_assoc, List.length_append, List.getElem?_append_left, List.getElem?_append_right, List.set_append_left, List.set_append_right, below, belowB, belowA, atomB, List.mem_cons, List.not_mem_nil, forall_eq_or_imp, forall_eq, List.toList_toArray, implies_true, List.take_succ_cons, List.take_zero, List.drop_succ_cons, List.drop_zero, List.take_nil, List.drop_nil, Nat.reduceLeDiff, Nat.reduceMul, Int.reduceToNat, Int.reduceLT, Int.reduceLE, Int.reduceAdd, Int.reduceNeg, Int.reduceEq, splice, List.singleton_append, Nat.reduceEqDiff, Nat.reduceLT, isAtom, List.all_cons, List.all_nil, Option.map_some, Option.bind_some, List.length_set, Int.reduceSub, Int.reduceMul, List.getElem?_set_self, List.getElem?_set_ne, ofB_2, tmpR_if, ro_sliceData, ro_capNil, ro_noZero, ext_2, ext_3, ext_4, ext_5, List.set_set]
    refine (feed_spec s hfs.df hfs.o hfs.dj (DS.run_ok hok) (by omega) (by omega)).mono ?_
    rintro v2 M2 ⟨F2, G2, h2⟩
    have h3 := hfs.trans h2 fun x hx => hx
    rw [← DS.run_append, ← DS.out_append, ← hsn] at h3
    simp (contextual := true) (implicitDefEqProofs := false) (maxSteps := 2000000) (disch := first | rfl | exact Nat.le_of_ble_eq_true rfl | omega | (simp only [List.length_append, List.length_cons, List.length_nil, List.length_set]; omega)) only [W1, W2, W3, W4, W5, W6, W7, W8, W9, W10, W11, W12, W13, W14, W15, eq_self, ite_true, ite_false, undef_eq, List.set_cons_zero, List.set_cons_succ, List.getD_cons_zero, List.getD_cons_succ, List.map_cons, List.map_nil, List.length_cons, List.length_nil, List.append_nil, List.cons_append, List.nil_append, List.replicate_succ, List.replicate_zero, Nat.reduceAdd, Nat.reduceSub, ↓reduceIte, List.getElem?_cons_zero, List.getElem?_cons_succ, basic, cellsL, resOf, setAt, List.append_assoc, List.length_append, List.getElem?_append_left, List.getElem?_append_right, List.set_append_left, List.set_append_right, below, belowB, belowA, atomB, List.mem_cons, List.not_mem_nil, forall_eq_or_imp, forall_eq, List.toList_toArray, implies_true, List.take_succ_cons, List.take_zero, List.drop_succ_cons, List.drop_zero, List.take_nil, List.drop_nil, Nat.reduceLeDiff, Nat.reduceMul, Int.reduceToNat, Int.reduceLT, Int.reduceLE, Int.reduceAdd, Int.reduceNeg, Int.reduceEq, splice, List.singleton_append, Nat.reduceEqDiff, Nat.reduceLT, isAtom, List.all_cons, List.all_nil, Option.map_some, Option.bind_some, List.length_set, Int.reduceSub, Int.reduceMul, List.getElem?_set_self, List.getElem?_set_ne, ofB_2, tmpR_if, ro_sliceData, ro_capNil, ro_noZero, ext_2, ext_3, ext_4, ext_5, List.set_set]
    exact kInv_go ⟨j + 1, v2, F2, G2, rfl, by omega, h3, ⟨rfl, by simp [hwj]⟩⟩ (by omega)
  · have hlt' : ((j : Int) < (l.length : Int)) = False := by simp; omega
    rw [List.take_of_length_le (by omega)] at hfs
    simp (contextual := true) (implicitDefEqProofs := false) (maxSteps := 2000000) (disch := first | rfl | exact Nat.le_of_ble_eq_true rfl | omega | (simp only [List.length_append, List.length_cons, List.length_nil, List.length_set]; omega)) only [hlt', W1, W2, W3, W4, W5, W6, W7, W8, W9, W10, W11, W12, W13, W14, W15, eq_self, ite_true, ite_false, undef_eq, List.set_cons_zero, List.set_cons_succ, List.getD_cons_zero, List.getD_cons_succ, List.map_cons, List.map_nil, List.length_cons, List.length_nil, List.append_nil, List.cons_append, List.nil_append, List.replicate_succ, List.replicate_zero, Nat.reduceAdd, Nat.reduceSub, ↓reduceIte, List.getElem?_cons_zero, List.getElem?_cons_succ, basic, cellsL, resOf, setAt, List.append_assoc, List.length_append, List.getElem?_append_left, List.getElem?_append_right, List.set_append_left, List.set_append_right, below, belowB, belowA, atomB, List.mem_cons, List.not_mem_nil, forall_eq_or_imp, forall_eq, List.toList_toArray, implies_true, List.take_succ_cons, List.take_zero, List.drop_succ_cons, List.drop_zero, List.take_nil, List.drop_nil, Nat.reduceLeDiff, Nat.reduceMul, Int.reduceToNat, Int.reduceLT, Int.reduceLE, Int.reduceAdd, Int.reduceNeg, Int.reduceEq, splice, List.singleton_append, Nat.reduceEqDiff, Nat.reduceLT, isAtom, List.all_cons, List.all_nil, Option.map_some, Option.bind_some, List.length_set, Int.reduceSub, Int.reduceMul, List.getElem?_set_self, List.getElem?_set_ne, ofB_2, tmpR_if, ro_sliceData, ro_capNil, ro_noZero, ext_2, ext_3, ext_4, ext_5, List.set_set]
    rw [List.take_of_length_le (by omega)]
    exact ⟨F, G, hfs⟩
/-- The cells of a slice that is appended. -/
theorem new_rows {m : Mem} {T sz : Nat} {sv : Value} {F : List Nat} {rows : List (List Value)} (h : Sl m T sz sv F rows) : newCells m sz sv = some rows.flatten := by
  cases h with
  | nil => rfl
  | @own b o cs _ hb hr hc hl =>
    rw [new_sl, hb, cellsB_s hl, hc]
def PFof (f : KF) : PF := (f.p, f.c, f.d.data.toList)
theorem PFof_row (f : KF) : frow (PFof f) = f.row := by
  unfold frow PFof KF.row txt
  simp only [string_list]
theorem run_esc (c : UInt8) (h : List UInt8) (b : Nat) (hl : h.length < 10) : (⟨10, 1, h, b⟩ : DS).run (esc c) = ⟨10, 1, h ++ [c], b⟩ ∧ (⟨10, 1, h, b⟩ : DS).out (esc c) = [] := by
  unfold esc
  by_cases h1 : c = 192
  · rw [if_pos h1, h1]
    simp [DS.run, DS.out, DS.step, DS.tell, DS.take, hl]
  · rw [if_neg h1]
    by_cases h2 : c = 219
    · rw [if_pos h2, h2]
      simp [DS.run, DS.out, DS.step, DS.tell, DS.take, hl]
    · rw [if_neg h2]
      simp [DS.run, DS.out, DS.step, DS.tell, DS.take, hl, h1, h2]
theorem run_escs : ∀ (l h : List UInt8) (b : Nat), h.length + l.length ≤ 10 → (⟨10, 1, h, b⟩ : DS).run (l.flatMap esc) = ⟨10, 1, h ++ l, b⟩ ∧ (⟨10, 1, h, b⟩ : DS).out (l.flatMap esc) = []
  | [], h, b, _ => by simp [DS.run, DS.out]
  | c :: l, h, b, hl => by
    simp only [List.length_cons] at hl
    obtain ⟨e1, e2⟩ := run_esc c h b (by omega)
    obtain ⟨e3, e4⟩ := run_escs l (h ++ [c]) b (by simp; omega)
    rw [List.flatMap_cons, DS.run_append, DS.out_append, e1, e2, e3, e4]
    simp
theorem fr_head (f : KF) (hok : f.ok = true) : fr (f.head :: f.d.data.toList) = PFof f := by
  have h : 0 ≤ f.p ∧ f.p < 16 ∧ 0 ≤ f.c ∧ f.c < 16 := by simpa [KF.ok] using hok
  have hn : f.head.toNat = (f.p * 16 + f.c).toNat := by
    unfold KF.head
    rw [UInt8.toNat_ofNat']; omega
  show (((f.head.toNat / 16 : Nat) : Int), ((f.head.toNat % 16 : Nat) : Int), f.d.data.toList) = (f.p, f.c, f.d.data.toList)
  rw [hn]
  simp only [Prod.mk.injEq, and_true]
  omega
theorem run_frame (f : KF) (hok : f.ok = true) (hs : f.d.size ≤ 1) (d : DS) (hm : d.most = 10) (hh : d.held = []) (hp : d.pl = 0 ∨ d.pl = 1) : d.run f.bytes = ⟨10, 1, [], d.bad⟩ ∧ d.out f.bytes = [PFof f] := by
  have h192 : d.step 192 = ⟨10, 1, [], d.bad⟩ := by
    rcases hp with h | h <;> simp [DS.step, h, hm]
  have ht : d.tell 192 = [] := by simp [DS.tell, hh]
  have hsz : f.d.data.toList.length ≤ 1 := by rw [← string_size]; exact hs
  obtain ⟨e1, e2⟩ := run_escs (f.head :: f.d.data.toList) [] d.bad (by simp; omega)
  unfold KF.bytes
  have r1 : d.run (192 :: ((f.head :: f.d.data.toList).flatMap esc ++ [192])) = (d.step 192).run ((f.head :: f.d.data.toList).flatMap esc ++ [192]) := rfl
  have r2 : d.out (192 :: ((f.head :: f.d.data.toList).flatMap esc ++ [192])) = d.tell 192 ++ (d.step 192).out ((f.head :: f.d.data.toList).flatMap esc ++ [192]) := rfl
  rw [r1, r2, h192, ht, DS.run_append, DS.out_append, e1, e2]
  refine ⟨by simp [DS.run, DS.step], ?_⟩
  rw [← fr_head f hok]
  simp [DS.out, DS.tell]
end Go.Proofs.Ytfefieicnmglcaa
