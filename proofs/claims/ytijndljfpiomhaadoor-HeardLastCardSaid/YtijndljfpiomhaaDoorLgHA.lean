/- What further operations do to a world that bears the memory: copies, clearing, new rows, texts made of bytes in place. -/
import Derived.Test.YtijndljfpiomhaaDoorLgH
import Derived.Lib.UnsafeStr
import Derived.Lib.Builder
import Derived.Lib.MakeNoZero
set_option linter.unusedVariables false
set_option linter.unusedSimpArgs false
namespace Go.Lg

variable {P : Program} {base : Nat} {r : Rho} {m : Mem} {w : World}

/-- Cells are set. -/
theorem runs_put (h : MR base r m w) {K : Value → Mem → Prop} {v v' : Value} {b o c p d t z : Nat} {A : Addr} {new new' : List Value} (hri : r b = some (p, d, t, z)) (hA : c = 0 ∨ A = ⟨p, d + o, none⟩ ∧ d + o + c * z ≤ t) (hc : c ≠ 0)
    (hn : F2 (CR r) new new') (hv : ∀ r', r.le r' → VR r' v v') (hk : putK m K v b o new) : ∃ w', (storeCells A new').run P w = .ok () w' ∧ Sim base r m w K v' w' := by
  obtain ⟨k, hm, ⟨h1, h2, h3⟩, hk⟩ := hk
  have hA' : A = ⟨p, d + o, none⟩ := by rcases hA with h0 | h0; (exact absurd h0 hc); exact h0.1
  subst hA'
  obtain ⟨w', hrun, hs⟩ := Stp.sets (P := P) hri ⟨p, d + o, none⟩ rfl new new' o 0 k m w h hm (Kind.own_of h1) rfl h2 h3 hn
  exact ⟨w', hrun, _, _, r, hk, hv r (Rho.le_refl _), hs⟩

theorem firstL_run (h : MR base r m w) {sz k n : Nat} {y y' : Value} {new : List Value} (hy : VR r y y') (hl : lenV y = some k) (hnk : n ≤ k) (hn : firstL m sz n y = some new) :
    ∃ new', (Builtin.firstCells sz n y').run P w = .ok new'.toArray w ∧ F2 (CR r) new new' := by
  unfold firstL at hn
  split at hn
  · rename_i s
    split at hn
    case isFalse => simp at hn
    simp at hn; subst hn
    obtain rfl := hy.string_inv
    refine ⟨(byteCells s.data.toList).take n, ?_, (byteCells_rel _).take n⟩
    simp only [Builtin.firstCells, Sem.run_pure]
    congr 1
    apply Array.ext'
    simp [byteCells]
  · rename_i n1 n2
    simp at hn; subst hn
    have : y' = .slice none 0 0 := by rcases hy with ⟨⟨⟨hy⟩⟩⟩; cases hy; rfl
    subst this
    exact ⟨[], by simp [Builtin.firstCells], .nil⟩
  · rename_i i o n1 n2
    obtain ⟨rfl, b, d, t, z, c, A, hri, hnc, hA, rfl⟩ := hy.slice_inv
    simp [lenV] at hl; subst hl
    obtain ⟨cs', hrun, hf, hlen⟩ := slice_cells (P := P) h hri hA hnc (fun h0 e => h0 (by rw [show n = 0 by omega, Nat.zero_mul])) hn
    exact ⟨cs', by simp only [Builtin.firstCells]; exact hrun, hf⟩
  · simp at hn

theorem lenOf_run {y y' : Value} {k : Nat} (hy : VR r y y') (hl : lenV y = some k) : (Builtin.lenOf y').run P w = .ok k w := by
  unfold lenV at hl
  split at hl
  · simp at hl; subst hl; obtain rfl := hy.string_inv; simp [Builtin.lenOf]
  · rename_i a n c
    simp at hl; subst hl
    cases a with
    | none =>
      have : y' = .slice none 0 0 ∧ n = 0 := by rcases hy with ⟨⟨⟨hy⟩⟩⟩; cases hy; exact ⟨rfl, rfl⟩
      obtain ⟨rfl, rfl⟩ := this
      simp [Builtin.lenOf]
    | some q =>
      have hq : ∃ i o, q = ⟨i, o, none⟩ := by
        generalize y' = v' at hy
        rcases hy with ⟨⟨⟨hy⟩⟩⟩; cases hy; exact ⟨_, _, rfl⟩
      obtain ⟨i, o, rfl⟩ := hq
      obtain ⟨rfl, b, d, t, z, c', A, hri, hnc, hA, rfl⟩ := hy.slice_inv
      simp [Builtin.lenOf]
  · simp at hl

theorem runs_copy (h : MR base r m w) {K : Value → Mem → Prop} {T X ty e : Nat} {te : TypeInfo} {x x' y y' : Value} (hT : P.underlying T = some (.slice e)) (hte : P.info? e = some te) (hx : VR r x x') (hy : VR r y y')
    (hk : match (generalizing := false) x with
    | .slice none _ _ => optP (lenV y) fun _ => K (.int .i64 0) m
    | .slice (some ⟨b, o, none⟩) n _ => optP (lenV y) fun k => optP (firstL m te.size (Nat.min k n) y) fun new => putK m K (.int .i64 (Nat.min k n)) b o new
    | _ => False) : Runs P (Builtin.copy_ #[T, X] ty #[x', y']) w base r m K := by
  cases x with
  | slice q n n' =>
   cases q with
   | none =>
    dsimp only at hk
    have : x' = .slice none 0 0 := by rcases hx with ⟨⟨⟨hx⟩⟩⟩; cases hx; rfl
    subst this
    obtain ⟨k, hl, hk⟩ := hk
    have h1 := lenOf_run (P := P) (w := w) hy hl
    refine .of_pure h (.atom (.int .i64 0)) hk ?_
    have hf : (Builtin.firstCells te.size 0 y').run P w = .ok #[] w := by
      unfold lenV at hl
      split at hl
      · obtain rfl := hy.string_inv; simp [Builtin.firstCells]
      · rename_i a n c
        cases a with
        | none =>
          have : y' = .slice none 0 0 := by rcases hy with ⟨⟨⟨hy⟩⟩⟩; cases hy; rfl
          subst this; simp [Builtin.firstCells]
        | some q =>
          have hq : ∃ i o, q = ⟨i, o, none⟩ := by
            generalize y' = v' at hy
            rcases hy with ⟨⟨⟨hy⟩⟩⟩; cases hy; exact ⟨_, _, rfl⟩
          obtain ⟨i, o, rfl⟩ := hq
          obtain ⟨rfl, b, d, t, z, c', A, hri, hnc, hA, rfl⟩ := hy.slice_inv
          simp [Builtin.firstCells, loadCells, loadCellsFrom]
      · simp at hl
    simp [Builtin.copy_, run_und hT, h1, run_size hte, hf, goInt]
   | some q =>
    obtain ⟨b, o, sp⟩ := q
    cases sp with
    | some _ => exact hk.elim
    | none =>
    dsimp only at hk
    obtain ⟨rfl, p, d, t, z, c, A, hri, hnc, hA, rfl⟩ := hx.slice_inv
    obtain ⟨k, hl, new, hf, hk⟩ := hk
    have h1 := lenOf_run (P := P) (w := w) hy hl
    obtain ⟨new', hf1, hnr⟩ := firstL_run (P := P) h hy hl (Nat.min_le_left _ _) hf
    by_cases hc : c = 0
    · have hn0 : n' = 0 := by omega
      subst hn0
      have hmin : Nat.min k 0 = 0 := Nat.le_zero.1 (Nat.min_le_right k 0)
      have hz : new = [] ∧ new' = [] := by
        have : new = [] := by
          unfold firstL at hf
          split at hf
          · split at hf
            · rw [hmin] at hf; simp at hf; exact hf
            · simp at hf
          · simp at hf; exact hf
          · rw [hmin, Nat.zero_mul] at hf
            unfold cells? at hf
            split at hf
            · split at hf
              · simp at hf; exact hf
              · simp at hf
            · simp at hf
          · simp at hf
        subst this
        exact ⟨rfl, hnr.nil_inv⟩
      obtain ⟨rfl, rfl⟩ := hz
      obtain ⟨kb, hm, _, hk⟩ := hk
      have e : m.set b { kb with cells := setAt kb.cells o [] } = m := by
        have := (List.getElem?_eq_some_iff.1 hm).2
        show m.set b kb = m
        rw [← this]; simp
      rw [e] at hk
      refine .of_pure h (.atom (.int .i64 _)) hk ?_
      rw [show min k 0 = 0 from hmin] at hf1
      simp [Builtin.copy_, run_und hT, h1, run_size hte, hf1, goInt, storeCells]
    · obtain ⟨w', hrun, hs⟩ := runs_put (P := P) (v' := .int .i64 (Nat.min k n')) h hri hA hc hnr (fun r' _ => .atom (.int .i64 _)) hk
      refine ⟨_, w', ?_, hs⟩
      simp [Builtin.copy_, run_und hT, h1, run_size hte, hf1, goInt, hrun]
  | _ => exact hk.elim

theorem runs_clear (h : MR base r m w) {K : Value → Mem → Prop} {T ty e : Nat} {te : TypeInfo} {z x x' : Value} (hT : P.underlying T = some (.slice e)) (hte : P.info? e = some te) (hz : te.zero = some z) (hx : VR r x x')
    (hzr : ∀ n, F2 (CR r) (zeroRow (cellsL z) n) (zeroRow (cellsL z) n))
    (hk : match (generalizing := false) x with
    | .slice none _ _ => K undef m
    | .slice (some ⟨b, o, none⟩) n _ => if n = 0 then K undef m else putK m K undef b o (zeroRow (cellsL z) (n * (cellsL z).length))
    | _ => False) : Runs P (Builtin.clear_ #[T] ty #[x']) w base r m K := by
  cases x with
  | slice q n n' =>
   cases q with
   | none =>
    dsimp only at hk
    have : x' = .slice none 0 0 := by rcases hx with ⟨⟨⟨hx⟩⟩⟩; cases hx; rfl
    subst this
    refine .of_pure h .undef hk ?_
    simp [Builtin.clear_, run_und hT, undef]
   | some q =>
    obtain ⟨b, o, sp⟩ := q
    cases sp with
    | some _ => exact hk.elim
    | none =>
    dsimp only at hk
    obtain ⟨rfl, p, d, t, zz, c, A, hri, hnc, hA, rfl⟩ := hx.slice_inv
    split at hk
    · rename_i h0
      subst h0
      refine .of_pure h .undef hk ?_
      simp [Builtin.clear_, run_und hT, undef]
    · rename_i h0
      obtain ⟨w', hrun, hs⟩ := runs_put (P := P) (v' := undef) h hri hA (by omega) (hzr _) (fun r' _ => .undef) hk
      refine ⟨_, w', ?_, hs⟩
      have e : (Builtin.zeroCells z.cells n').toList = zeroRow (cellsL z) (n' * (cellsL z).length) := by
        unfold Builtin.zeroCells zeroRow
        rw [cellsL_eq]
        simp
      obtain ⟨n2, rfl⟩ : ∃ q, n' = q + 1 := ⟨n' - 1, by omega⟩
      simp only [Builtin.clear_, List.getElem?_toArray, List.getElem?_cons_zero, Sem.run_bind, run_und hT, Result.andThen_ok, run_zero hte hz, e, hrun, Sem.run_pure, undef]
  | _ => exact hk.elim

theorem runs_makeSlice (h : MR base r m w) {K : Value → Mem → Prop} {T e : Nat} {te : TypeInfo} {z x x' y y' : Value} (hT : P.underlying T = some (.slice e)) (hte : P.info? e = some te) (hz : te.zero = some z) (hzs : (cellsL z).length = te.size)
    (hzr : ∀ n, F2 (CR r) (zeroRow (cellsL z) n) (zeroRow (cellsL z) n)) (hx : VR r x x') (hy : VR r y y')
    (hk : match (generalizing := false) x, y with
    | .int _ a, .int _ b => (0 ≤ a ∧ a ≤ b ∧ b.toNat * te.bytes ≤ 16777216 ∧ b ≤ 16777216) ∧ K (.slice (some ⟨m.length, 0, none⟩) a.toNat a.toNat) (m ++ [⟨zeroRow (cellsL z) (a.toNat * te.size), e, te.size, 0, .own⟩])
    | _, _ => False) : Runs P (Instr.makeSlice T x' y') w base r m K := by
  cases x with
  | int k1 a =>
   cases y with
   | int k2 b =>
    dsimp only at hk
    obtain rfl := hx.int_inv
    obtain rfl := hy.int_inv
    obtain ⟨⟨h1, h2, h3, h4⟩, hk⟩ := hk
    obtain ⟨a, rfl⟩ : ∃ n : Nat, a = n := ⟨a.toNat, by omega⟩
    obtain ⟨b, rfl⟩ : ∃ n : Nat, b = n := ⟨b.toNat, by omega⟩
    simp only [Int.toNat_natCast] at h3 hk
    have w1 : IntKind.i64.wrap (a : Int) = a := by simp [IntKind.wrap, IntKind.bits, IntKind.signed]; omega
    have w2 : IntKind.i64.wrap (b : Int) = b := by simp [IntKind.wrap, IntKind.bits, IntKind.signed]; omega
    have hab : a ≤ b := by omega
    have hle : a * te.size ≤ b * te.size := Nat.mul_le_mul_right _ hab
    have hsplit : zeroRow (cellsL z) (b * te.size) = zeroRow (cellsL z) (a * te.size) ++ (zeroRow (cellsL z) (b * te.size)).drop (a * te.size) := by
      have : zeroRow (cellsL z) (a * te.size) = (zeroRow (cellsL z) (b * te.size)).take (a * te.size) := by
        unfold zeroRow
        rw [← List.map_take, List.take_range, Nat.min_eq_left hle]
      rw [this, List.take_append_drop]
    have hs := Stp.allocRoom h e te.size 0 (hzr (a * te.size)) ((zeroRow (cellsL z) (b * te.size)).drop (a * te.size)) (fun e0 => by simp [zeroRow, e0])
    rw [← hsplit] at hs
    refine ⟨.slice (some ⟨w.heap.size, 0, none⟩) a b, _, ?_, _, _, _, hk, ?_, hs⟩
    · have hb : ¬ ((b : Int) < 0 ∨ ((te.bytes : Int) * b > 2 ^ 48)) := by
        have : ((te.bytes : Int) * b) = ((b * te.bytes : Nat) : Int) := by push_cast; rw [Int.mul_comm]
        rw [this]
        have : (2 : Int) ^ 48 = 281474976710656 := by decide
        omega
      have hrow : ((Array.range (b * te.size)).map (fun x => (if b * te.size = 0 then (#[] : Array Value) else z.cells)[x % (if b * te.size = 0 then (#[] : Array Value) else z.cells).size]!)) = (zeroRow (cellsL z) (b * te.size)).toArray := by
        apply Array.ext'
        unfold zeroRow
        rw [cellsL_eq]
        split
        · rename_i h0; rw [h0]; simp
        · simp
      have e1 : (decide ((b:Int) < 0) || decide ((te.bytes:Int) * b > 2 ^ 48)) = false := by
        simp only [Bool.or_eq_false_iff, decide_eq_false_iff_not]; omega
      simp only [Instr.makeSlice, Sem.run_bind, run_und hT, Result.andThen_ok, asInt, asIntOf, Sem.run_pure, run_info hte, w1, w2, e1, run_askRoom, run_size hte, Bool.false_or]
      have e2 : (decide ((a:Int) < 0) || decide ((a:Int) > b)) = false := by
        simp only [Bool.or_eq_false_iff, decide_eq_false_iff_not]; omega
      rw [e2]
      simp only [Bool.false_eq_true, if_false, Sem.run_pure, Result.andThen_ok, Int.toNat_natCast, Sem.run_bind, run_askRoom, run_size hte]
      by_cases h0 : b * te.size = 0
      · rw [if_pos h0]
        rw [if_pos h0] at hrow
        simp only [Sem.run_pure, Result.andThen_ok, Sem.run_bind, newRow, run_newObj, hrow, Int.toNat_natCast]
        rfl
      · rw [if_neg h0]
        rw [if_neg h0] at hrow
        simp only [Sem.run_pure, Result.andThen_ok, Sem.run_bind, run_zero hte hz, newRow, run_newObj, hrow, Int.toNat_natCast]
        rfl
    · refine .atom (.slice (b := w.heap.size) (d := 0) (t := (zeroRow (cellsL z) (b * te.size)).length) (z := te.size) ?_ hab (.inr ⟨rfl, ?_⟩))
      · simp only [↓reduceIte]
      · simp [zeroRow]
   | _ => exact hk.elim
  | _ => exact hk.elim

theorem runs_sliceData (h : MR base r m w) {K : Value → Mem → Prop} {ts : Array TypeId} {ty : Nat} {x x' : Value} (hx : VR r x x')
    (hk : match (generalizing := false) x with
    | .slice none _ _ => K (.pointer none) m
    | .slice (some a) n _ => n ≠ 0 ∧ K (.pointer (some a)) m
    | _ => False) : Runs P (Builtin.unsafeSliceData_ ts ty #[x']) w base r m K := by
  cases x with
  | slice q n n' =>
   cases q with
   | none =>
    dsimp only at hk
    have : x' = .slice none 0 0 := by rcases hx with ⟨⟨⟨hx⟩⟩⟩; cases hx; rfl
    subst this
    exact .of_pure h (.atom .nilPtr) hk rfl
   | some q =>
    dsimp only at hk
    have hq : ∃ i o, q = ⟨i, o, none⟩ := by
      generalize x' = v' at hx
      rcases hx with ⟨⟨⟨hx⟩⟩⟩; cases hx; exact ⟨_, _, rfl⟩
    obtain ⟨i, o, rfl⟩ := hq
    obtain ⟨rfl, p, d, t, z, c, A, hri, hnc, hA, rfl⟩ := hx.slice_inv
    obtain ⟨h0, hk⟩ := hk
    have : A = ⟨p, d + o, none⟩ := by rcases hA with h1 | h1; (exfalso; omega); exact h1.1
    subst this
    exact .of_pure h (.atom (.ptr hri)) hk (Lib.run_unsafeSliceData_row w ts ty _ _ c (by omega))
  | _ => exact hk.elim

theorem runs_capNil (h : MR base r m w) {K : Value → Mem → Prop} {ts : Array TypeId} {T e ty : Nat} {x x' : Value} (hts : ts = #[T]) (hT : P.underlying T = some (.slice e)) (hx : VR r x x')
    (hk : match (generalizing := false) x with
    | .slice none _ _ => K (.int .i64 0) m
    | _ => False) : Runs P (Builtin.cap_ ts ty #[x']) w base r m K := by
  cases x with
  | slice q n n' =>
   cases q with
   | some _ => exact hk.elim
   | none =>
    dsimp only at hk
    have : x' = .slice none 0 0 := by rcases hx with ⟨⟨⟨hx⟩⟩⟩; cases hx; rfl
    subst this
    subst hts
    refine .of_pure h (.atom (.int .i64 0)) hk ?_
    simp [Builtin.cap_, run_und hT, goInt]
  | _ => exact hk.elim

/-- A block is given up, and turned in the world. -/
theorem Stp.freeze (h : MR base r m w) {i b d t z o n : Nat} {k : Blk} (hi : r i = some (b, d, t, z)) (hk : m[i]? = some k) (ho : k.kind = .own) (hn : n ≠ 0) :
    Stp base r m w r (m.set i (dead k)) (w.freeze ⟨b, d + o, none⟩ n) := by
  obtain ⟨hb0, hb1⟩ := h.own_lt hi hk ho
  have hil : i < m.length := h.dom _ _ hi
  have hne : ∀ {u : Nat}, u ≠ b → (w.freeze ⟨b, d + o, none⟩ n).heap[u]? = w.heap[u]? := by
    intro u hu
    simp only [World.freeze, if_neg hn, Array.getElem?_modify]
    rw [if_neg (by omega)]
  have hsz : (w.freeze ⟨b, d + o, none⟩ n).heap.size = w.heap.size := by simp [World.freeze, if_neg hn]
  have keep : ∀ {j : Nat} {l : Blk}, (m.set i (dead k))[j]? = some l → (j = i ∧ l = dead k) ∨ (j ≠ i ∧ m[j]? = some l) := by
    intro j l hl
    by_cases e : i = j
    · subst e
      rw [List.getElem?_set_self hil] at hl
      simp at hl; subst hl; exact .inl ⟨rfl, rfl⟩
    · rw [List.getElem?_set_ne e] at hl
      exact .inr ⟨fun e' => e e'.symm, hl⟩
  refine ⟨⟨?_, ?_, ?_, by rw [hsz]; exact h.base⟩, fun _ _ => rfl, by simp, ?_, ?_, by omega, ?_, ?_, ?_⟩
  · intro j x hx; simpa using h.dom j x hx
  · intro j l b' d' t' z' hl hj
    rcases keep hl with ⟨rfl, rfl⟩ | ⟨hji, hl'⟩
    · simp [Bears, dead]
    · refine (h.blk j l b' d' t' z' hl' hj).congr fun hdead => hne ?_
      intro e
      subst e
      have hb := h.blk j l b' d' t' z' hl' hj
      unfold Bears at hb
      split at hb
      · rename_i e; exact hdead e
      · rename_i e; exact hji (h.inj j i l k b' _ _ hl' hk e ho hj hi)
      · obtain ⟨h0', _⟩ := hb; omega
  · intro a c' ka kc b' x y ha hc hka hkc hra hrc
    rcases keep ha with ⟨rfl, rfl⟩ | ⟨_, ha'⟩
    · simp [dead] at hka
    · rcases keep hc with ⟨rfl, rfl⟩ | ⟨_, hc'⟩
      · simp [dead] at hkc
      · exact h.inj a c' ka kc b' x y ha' hc' hka hkc hra hrc
  · intro b' hb' hn'
    refine hne ?_
    intro e; subst e
    exact hn' ⟨i, k, _, hk, ho, hi⟩
  · rintro b' hb' ⟨j, l, d', hl, hlo, hj⟩
    rcases keep hl with ⟨rfl, rfl⟩ | ⟨_, hl'⟩
    · simp [dead] at hlo
    · exact ⟨j, l, d', hl', hlo, hj⟩
  all_goals (simp only [World.freeze, if_neg hn])

theorem bytesL_ints : ∀ {cs : List Value} {l : List UInt8}, bytesL cs = some l → ∃ us : List Int, cs = us.map (Value.int .u8 ·) ∧ l = us.map fun u => UInt8.ofNat u.toNat
  | [], l, h => by simp [bytesL] at h; subst h; exact ⟨[], rfl, rfl⟩
  | c :: cs, l, h => by
    unfold bytesL at h
    split at h
    · rename_i e; cases e
    · rename_i u r' e
      injection e with e1 e2
      subst e1 e2
      cases hb : bytesL cs with
      | none => simp [hb] at h
      | some l' =>
        simp [hb] at h; subst h
        obtain ⟨us, rfl, rfl⟩ := bytesL_ints hb
        exact ⟨u :: us, rfl, rfl⟩
    · cases h

theorem loadBytes_run (w : World) : ∀ (us : List Int) (a : Addr) (acc : ByteArray), (∀ j u, us[j]? = some u → w.cell? (a.add j) = some (.int .u8 u)) →
    (loadBytes a acc us.length).run P w = .ok ⟨acc.data ++ (us.map fun u => UInt8.ofNat u.toNat).toArray⟩ w
  | [], a, acc, _ => by simp [loadBytes]
  | x :: l, a, acc, h => by
    have h0 : w.cell? a = some (.int .u8 x) := by
      have := h 0 x rfl
      simpa [Addr.add] using this
    have ih := loadBytes_run w l (a.add 1) (acc.push (UInt8.ofNat x.toNat)) (fun j y hy => by
      have := h (j + 1) y (by simpa using hy)
      have e : (a.add 1).add j = a.add (j + 1) := by
        unfold Addr.add
        by_cases hj : j = 0
        · subst hj; simp
        · simp [hj]; omega
      rw [e]; exact this)
    simp only [List.length_cons, loadBytes, Sem.run_bind, run_load, h0, Result.andThen]
    have e : (x.toNat.toUInt8) = UInt8.ofNat x.toNat := rfl
    rw [e, ih]
    congr 1
    apply ByteArray.ext
    simp [ByteArray.push]

theorem liesAt_bytes' {e : TypeId} (hc : P.cellsOf e = 1) (count off n : Nat) (hn : off + n ≤ count) : liesAt P P.depth e count off e n = true := by
  have hd : P.depth = (2 * (P.types.size + Made.depth) + 1) + 1 := rfl
  rw [hd]
  simp only [liesAt, Bool.or_eq_true]
  left
  rw [hd]
  simp [rowAt, hc, hn, sameLayout, Nat.mod_one]

/-- A text of bytes in place. -/
theorem runs_unsafeStr (h : MR base r m w) {K : Value → Mem → Prop} {pt it ty T : Nat} (hp : P.underlying pt = some (.pointer T)) (hc : P.cellsOf T = 1) {x x' y y' : Value} (hx : VR r x x') (hy : VR r y y')
    (hk : match (generalizing := false) x, y with
    | .pointer none, .int _ n => n = 0 ∧ K (.string .empty) m
    | .pointer (some ⟨b, o, none⟩), .int _ n => 0 < n ∧ usK m K T b o n.toNat
    | _, _ => False) : Runs P (Builtin.unsafeString_ #[pt, it] ty #[x', y']) w base r m K := by
  obtain ⟨q, rfl⟩ : ∃ q, x = .pointer q := by
    cases x <;> first | exact ⟨_, rfl⟩ | exact hk.elim
  cases y with
  | int kk n =>
   cases q with
   | none =>
    dsimp only at hk
    obtain rfl := hx.nilPtr_inv
    obtain rfl := hy.int_inv
    obtain ⟨rfl, hk⟩ := hk
    refine .of_pure h (.atom (.string _)) hk ?_
    have hmax : IntKind.i64.max = 9223372036854775807 := rfl
    have hdef : Builtin.unsafeString_ #[pt, it] ty #[.pointer none, .int kk 0] =
        (do
          let n ← asInt (.int kk 0)
          if n < 0 then runtimePanic (.error "unsafe.String: len out of range")
          if n > IntKind.i64.max then unsupported (.unsafePointer "String: a length above the largest int")
          if n = 0 then pure (.string .empty)
          else runtimePanic (.error "unsafe.String: ptr is nil and len is not zero")) := rfl
    rw [hdef]
    simp [asInt, asIntOf, hmax]
   | some q =>
    obtain ⟨b, o, sp⟩ := q
    cases sp with
    | some _ => exact hk.elim
    | none =>
    dsimp only at hk
    obtain ⟨q, d, t, z, hri, rfl⟩ := hx.ptr_inv
    obtain rfl := hy.int_inv
    obtain ⟨hn, k, hm, l, hl, ⟨⟨h1, h2, h3⟩, h4⟩, hk⟩ := hk
    obtain ⟨n, rfl⟩ : ∃ q : Nat, n = q := ⟨n.toNat, by omega⟩
    simp only [Int.toNat_natCast] at hl h3 h4 hk
    obtain ⟨us, hus, rfl⟩ := bytesL_ints hl
    have hlen : us.length = n := by
      have := congrArg List.length hus
      simp at this; omega
    have hbl := h.blk _ k _ _ _ _ hm hri
    unfold Bears at hbl
    rw [Kind.own_of h1] at hbl
    obtain ⟨h0, hz, c, fz, hb1, ht, hb2, hb3, hb4⟩ := hbl
    have hcell : ∀ j u, us[j]? = some u → w.cell? ((⟨q, d + o, none⟩ : Addr).add j) = some (.int .u8 u) := by
      intro j u hj
      have hj' : ((k.cells.drop o).take n)[j]? = some (.int .u8 u) := by rw [hus]; simp [hj]
      rw [List.getElem?_take] at hj'
      split at hj'
      · rw [List.getElem?_drop] at hj'
        obtain ⟨v', e, hv⟩ := hb3 _ _ hj'
        have hv' : v' = .int .u8 u := by cases hv with | atom hv => cases hv; rfl
        subst hv'
        rw [add_none]
        simp only [World.cell?, hb1]
        rw [← e, ← Nat.add_assoc]; rfl
      · cases hj'
    have hlb := loadBytes_run (P := P) w us ⟨q, d + o, none⟩ .empty hcell
    have hsh : w.shape? q = some (T, c.size) := by simp [World.shape?, hb1, h2]
    have hlies := liesAt_bytes' (P := P) hc (c.size / P.cellsOf T) (d + o) us.length (by rw [hc]; simp only [Nat.div_one]; omega)
    have hs := Stp.freeze h hri hm (Kind.own_of h1) (o := o) (n := us.length) (by omega)
    have hmax : IntKind.i64.max = 9223372036854775807 := rfl
    subst hlen
    have hneg : ¬ (us.length : Int) < 0 := by omega
    have h63 : ¬ (9223372036854775807 : Int) < (us.length : Int) := by omega
    have hl0 : us.length ≠ 0 := by omega
    have hl0' : ¬ us = [] := by intro e; rw [e] at hl0; exact hl0 rfl
    refine ⟨_, _, ?_, _, _, r, hk, .atom (.string _), hs⟩
    have hdef : Builtin.unsafeString_ #[pt, it] ty #[.pointer (some ⟨q, d + o, none⟩), .int kk us.length] =
      (do
        let n ← asInt (.int kk us.length)
        if n < 0 then runtimePanic (.error "unsafe.String: len out of range")
        if n > IntKind.i64.max then unsupported (.unsafePointer "String: a length above the largest int")
        if n = 0 then pure (.string .empty)
        else if ← variablesAt ⟨q, d + o, none⟩ (← elemOf pt) n.toNat then do
          let s ← loadBytes ⟨q, d + o, none⟩ .empty n.toNat
          freeze ⟨q, d + o, none⟩ n.toNat
          pure (.string s)
        else unsupported (.unsafePointer "String: not so many bytes at ptr")) := rfl
    rw [hdef]
    simp [asInt, asIntOf, hmax, h63, hneg, hl0', variablesAt, hsh, elemOf, run_und hp, hlies, hlb]
  | _ =>
   cases q with
   | none => exact hk.elim
   | some q => obtain ⟨b, o, sp⟩ := q; cases sp <;> exact hk.elim

/-- A row of bytes of which nothing is known. -/
theorem runs_noZero (h : MR base r m w) {K : Value → Mem → Prop} {ps : Array TypeId} {T e : Nat} (hT : P.underlying T = some (.slice e)) {x x' : Value} (hx : VR r x x')
    (hk : match (generalizing := false) x with
    | .int .i64 n => (0 ≤ n ∧ n ≤ 16777216) ∧ K (.slice (some ⟨m.length, 0, none⟩) n.toNat n.toNat) (m ++ [⟨[], e, 1, 0, .own⟩])
    | _ => False) : Runs P (Extern.BytealgMakeNoZero.makeNoZero ps #[T] #[x']) w base r m K := by
  obtain ⟨n, rfl⟩ : ∃ n, x = .int .i64 n := by
    cases x <;> first | exact hk.elim | (rename_i kk n; cases kk <;> first | exact ⟨_, rfl⟩ | exact hk.elim)
  obtain rfl := hx.int_inv
  obtain ⟨⟨h1, h2⟩, hk⟩ := hk
  obtain ⟨n, rfl⟩ : ∃ q : Nat, n = q := ⟨n.toNat, by omega⟩
  simp only [Int.toNat_natCast] at hk
  have hd := Stp.drew h
  have hd2 := Stp.drew hd.mr
  obtain ⟨cs, hrun, hcap, _⟩ := Lib.run_makeNoZero (P := P) w ps T e hT n (by omega)
  have hs := Stp.allocRoom hd2.mr e 1 0 (cs := []) (cs' := []) .nil cs.toList (fun _ => rfl)
  refine ⟨.slice (some ⟨w.heap.size, 0, none⟩) n cs.size, _, hrun, _, _, _, hk, ?_, (hd.trans hd2).trans (by rw [List.nil_append, Array.toArray_toList] at hs; exact hs)⟩
  refine .atom (.slice (b := w.heap.size) (d := 0) (t := cs.toList.length) (z := 1) (by simp) hcap (.inr ⟨rfl, by simp⟩))

/-- A pointer turned to unsafe.Pointer and back. -/
theorem runs_toU (h : MR base r m w) {K : Value → Mem → Prop} {S D t : Nat} {j : TypeInfo} {x x' : Value} (hS : P.underlying S = some (.pointer t)) (hD : P.underlying D = some .unsafePointer) (ht : P.info? t = some j) (hj : j.size ≠ 0) (hx : VR r x x')
    (hk : match (generalizing := false) x with
    | .pointer none => K (.pointer none) m
    | .pointer (some ⟨i, o, none⟩) => optP (cell? m i o) fun _ => K (.pointer (some ⟨i, o, none⟩)) m
    | _ => False) : Runs P (convert S D x') w base r m K := by
  split at hk
  · obtain rfl := hx.nilPtr_inv
    exact .of_pure h (.atom .nilPtr) hk (by simp [convert, run_underlying hS, run_underlying hD, Conv.unsafePointer])
  · rename_i i o
    obtain ⟨v, hc, hk⟩ := hk
    obtain ⟨b, d, t', z, hri, rfl⟩ := hx.ptr_inv
    unfold cell? at hc
    split at hc
    · rename_i k hm
      split at hc
      · rename_i hl
        obtain ⟨v', hw, _⟩ := h.read hri hm (Kind.live_of hl) hc
        unfold World.cell? at hw
        dsimp only at hw
        split at hw
        · rename_i c T fz hb
          have hlt : d + o < c.size := by
            rcases Nat.lt_or_ge (d + o) c.size with h' | h'
            · exact h'
            · simp [Array.getElem?_eq_none h'] at hw
          exact .of_pure h hx hk (Lib.run_to_unsafe (e := T) (cells := c.size) w ⟨b, d + o, none⟩ hS hD ht hj (by simp [World.shape?, hb]) hlt)
        · cases hw
      · cases hc
    · cases hc
  · exact hk.elim

theorem runs_ofU (h : MR base r m w) {K : Value → Mem → Prop} {S D u n : Nat} {j : TypeInfo} {x x' : Value} (hS : P.underlying S = some .unsafePointer) (hD : P.underlying D = some (.pointer u)) (hu : P.info? u = some j) (hlies : liesAt P P.depth u (n / P.cellsOf u) 0 u 1 = true) (hx : VR r x x')
    (hk : match (generalizing := false) x with
    | .pointer none => K (.pointer none) m
    | .pointer (some ⟨i, 0, none⟩) => optP m[i]? fun k => (k.kind.isOwn = true ∧ k.esz = 0 ∧ k.elem = u ∧ k.cells.length = n ∧ 0 < n) ∧ K (.pointer (some ⟨i, 0, none⟩)) m
    | _ => False) : Runs P (convert S D x') w base r m K := by
  split at hk
  · obtain rfl := hx.nilPtr_inv
    exact .of_pure h (.atom .nilPtr) hk (by simp [convert, run_underlying hS, run_underlying hD, Conv.unsafePointer])
  · rename_i i
    obtain ⟨k, hm, ⟨h1, h2, h3, h4, h5⟩, hk⟩ := hk
    obtain ⟨b, d, t', z, hri, rfl⟩ := hx.ptr_inv
    have hb := h.blk i k b d t' z hm hri
    unfold Bears at hb
    rw [Kind.own_of h1] at hb
    obtain ⟨_, hz, c, fz, hc, _, _, _, _, h0⟩ := hb
    obtain ⟨rfl, hcs⟩  := h0.1 (by rw [← hz]; exact h2) (by omega)
    rw [h3] at hc
    refine .of_pure h hx hk (Lib.run_from_unsafe (e := u) (cells := n) w ⟨b, 0 + 0, none⟩ hS hD hu ?_ hlies)
    simp [World.shape?, hc, hcs, h4]
  · exact hk.elim
end Go.Lg
