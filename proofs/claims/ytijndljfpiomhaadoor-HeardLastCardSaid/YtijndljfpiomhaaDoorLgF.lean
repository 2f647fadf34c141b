/- What the program's own operations do to a world that bears the memory, the rest: whole structs and slices, appends, sums, comparisons, conversions. -/
import Derived.Test.YtijndljfpiomhaaDoorLgE
import Derived.Laws.BytesArg
namespace Go.Lg

variable {P : Program} {base : Nat} {r : Rho} {m : Mem} {w : World}

theorem mapM_sizes {fs : Array Field} (hall : ∀ f ∈ fs.toList, ∃ ti, P.info? f.type = some ti) :
    (fs.mapM fun (f : Field) => (do pure (f.offset, ← sizeOf f.type) : Sem (Nat × Nat))).run P w = .ok (fs.map fun (f : Field) => (f.offset, ((P.info? f.type).map (·.size)).getD 0)) w := by
  have key : ∀ (l : List Field), (∀ f ∈ l, ∃ ti, P.info? f.type = some ti) → (l.mapM fun (f : Field) => (do pure (f.offset, ← sizeOf f.type) : Sem (Nat × Nat))).run P w = .ok (l.map fun (f : Field) => (f.offset, ((P.info? f.type).map (·.size)).getD 0)) w := by
    intro l
    induction l with
    | nil => intro _; rfl
    | cons f l ih =>
      intro h
      obtain ⟨ti, hti⟩ := h f (by simp)
      have ih' := ih (fun g hg => h g (by simp [hg]))
      simp at ih'
      simp [List.mapM_cons, run_size hti, hti, ih']
  rw [Array.mapM_eq_mapM_toList]
  simp only [Sem.run_map, key fs.toList hall, Result.andThen_ok]
  congr 1
  apply Array.ext'; simp

theorem runs_build (h : MR base r m w) {K : Value → Mem → Prop} {T : Nat} {ti : TypeInfo} {z : Value} {ev ev' : Operand → Value} {qs : Array (Nat × Operand)} {ps : List (Nat × Nat × Operand)}
    (hti : P.info? T = some ti) (hz : ti.zero = some z) (hzb : BR r z z)
    (hT : (∃ fs, P.underlying T = some (.struct fs) ∧ (∀ f ∈ fs.toList, ∃ ti, P.info? f.type = some ti) ∧ F2 (fun (p : Nat × Nat × Operand) (q : Nat × Operand) => p.2.2 = q.2 ∧ (fs.map fun (f : Field) => (f.offset, ((P.info? f.type).map (·.size)).getD 0))[q.1]? = some (p.1, p.2.1)) ps qs.toList) ∨
      (∃ n e te, P.underlying T = some (.array n e) ∧ P.info? e = some te ∧ F2 (fun (p : Nat × Nat × Operand) (q : Nat × Operand) => p.2.2 = q.2 ∧ some (q.1 * te.size, te.size) = some (p.1, p.2.1)) ps qs.toList))
    (hev : ∀ q ∈ qs.toList, VR r (ev q.2) (ev' q.2)) {cs : List Value} (hf : fillL ev (cellsL z) ps = some cs) (hk : K (.agg cs.toArray) m) :
    Runs P (Instr.build T (qs.map fun (i, x) => (i, ev' x))) w base r m K := by
  have hparts : (qs.map fun (i, x) => (i, ev' x)).toList = qs.toList.map fun q => (q.1, ev' q.2) := by simp
  rcases hT with ⟨fs, hfs, hall, hps⟩ | ⟨n, e, te, hT, hte, hps⟩
  · obtain ⟨cs', hrun, hcs⟩ := fill_run (r := r) (ev' := ev') ps qs.toList (cellsL z) (cellsL z) cs hzb.cellsL hps hev hf
    refine .of_pure h (v' := .agg cs'.toArray) (.base (.agg hcs)) hk ?_
    rw [cellsL_eq, Array.toArray_toList] at hrun
    simp only [Instr.build, Sem.run_bind, run_zero hti hz, run_und hfs, Result.andThen_ok, mapM_sizes hall, hparts, hrun, Sem.run_pure]
  · obtain ⟨cs', hrun, hcs⟩ := fill_run (r := r) (ev' := ev') (place := fun i => some (i * te.size, te.size)) ps qs.toList (cellsL z) (cellsL z) cs hzb.cellsL hps hev hf
    refine .of_pure h (v' := .agg cs'.toArray) (.base (.agg hcs)) hk ?_
    rw [cellsL_eq, Array.toArray_toList] at hrun
    simp only [Instr.build, Sem.run_bind, run_zero hti hz, run_und hT, Result.andThen_ok, run_size hte, hparts, hrun, Sem.run_pure]

/-- The cells that a slice's parts are laid into. -/

theorem runs_buildSlice (h : MR base r m w) {K : Value → Mem → Prop} {T e len : Nat} {te : TypeInfo} {z : Value} {ev ev' : Operand → Value} {qs : Array (Nat × Operand)} {ps : List (Nat × Nat × Operand)}
    (hT : P.underlying T = some (.slice e)) (hte : P.info? e = some te) (hz : te.zero = some z) (hzr : F2 (CR r) (zeroRow (cellsL z) (len * te.size)) (zeroRow (cellsL z) (len * te.size))) (hlim : len * te.size ≤ 16777216)
    (hps : F2 (fun (p : Nat × Nat × Operand) (q : Nat × Operand) => p.2.2 = q.2 ∧ some (q.1 * te.size, te.size) = some (p.1, p.2.1)) ps qs.toList)
    (hev : ∀ q ∈ qs.toList, VR r (ev q.2) (ev' q.2)) {cs : List Value} (hf : fillL ev (zeroRow (cellsL z) (len * te.size)) ps = some cs)
    (hk : K (.slice (some ⟨m.length, 0, none⟩) len len) (m ++ [⟨cs, e, te.size, 0, .own⟩])) (hzl : len * te.size ≤ cs.length) :
    Runs P (Instr.buildSlice T len (qs.map fun (i, x) => (i, ev' x))) w base r m K := by
  have hparts : (qs.map fun (i, x) => (i, ev' x)).toList = qs.toList.map fun q => (q.1, ev' q.2) := by simp
  obtain ⟨cs', hrun, hcs⟩ := fill_run (r := r) (ev' := ev') (place := fun i => some (i * te.size, te.size)) ps qs.toList _ _ cs hzr hps hev hf
  have hs := Stp.alloc h e te.size 0 hcs
  refine ⟨.slice (some ⟨w.heap.size, 0, none⟩) len len, w.alloc (.cells cs'.toArray e), ?_, _, _, (fun i => if i = m.length then some (w.heap.size, 0, cs'.length, te.size) else r i), hk, ?_, hs⟩
  · simp only [Instr.buildSlice, Sem.run_bind, run_und hT, Result.andThen_ok, run_size hte]
    rw [if_neg (by omega)]
    by_cases h0 : len * te.size = 0
    · rw [h0] at hrun
      have e0 : (zeroRow (cellsL z) 0).toArray = #[] := rfl
      rw [e0, ← hparts] at hrun
      rw [if_pos h0]
      simp only [Sem.run_bind, Sem.run_pure, Result.andThen_ok, h0]
      rw [show (Array.range 0).map (fun x => (#[] : Array Value)[x % (#[] : Array Value).size]!) = #[] by simp, hrun]
      simp [newRow]
    · have hrow : ((Array.range (len * te.size)).map (fun x => z.cells[x % z.cells.size]!)) = (zeroRow (cellsL z) (len * te.size)).toArray := by
        apply Array.ext'
        unfold zeroRow
        rw [cellsL_eq]
        simp
      rw [if_neg h0]
      simp only [Sem.run_bind, Sem.run_pure, Result.andThen_ok, run_zero hte hz, hrow]
      rw [hparts, hrun]
      simp [newRow]
  · exact .atom (.slice (b := w.heap.size) (d := 0) (t := cs'.length) (z := te.size) (by simp) (Nat.le_refl _) (.inr ⟨rfl, by rw [← hcs.length]; omega⟩))

theorem str_beq (s u : ByteArray) : (s.toList == u.toList) = decide (s = u) := by
  rw [ByteArray.toList_eq, ByteArray.toList_eq]
  by_cases e : s = u
  · subst e; simp
  · have : ¬ s.data = u.data := fun h => e (ByteArray.ext h)
    simp [e, this]

/-- Sums and comparisons. -/
theorem runs_bin (h : MR base r m w) {K : Value → Mem → Prop} {op : BinOp} {T : Nat} {x y : Operand} {a b a' b' v : Value} (ha : VR r a a') (hb : VR r b b') (hv : binV op a b = some v) (hk : K v m) :
    Runs P (do eqGuard op T x y a' b'; binOp op T a' b') w base r m K := by
  unfold binV at hv
  split at hv
  · rename_i k i k' j
    obtain rfl := ha.int_inv; obtain rfl := hb.int_inv
    split at hv
    · simp at hv
    · rename_i hj
      simp at hv; subst hv
      refine .of_pure h (.atom (.int _ _)) hk ?_
      simp [eqGuard, binOp, Op.shift, hj]
  · rename_i k i k' j
    obtain rfl := ha.int_inv; obtain rfl := hb.int_inv
    split at hv
    · simp at hv
    · rename_i hj
      simp at hv; subst hv
      refine .of_pure h (.atom (.int _ _)) hk ?_
      simp [eqGuard, binOp, Op.shift, hj]
  · rename_i k i k' j _ _
    obtain rfl := ha.int_inv; obtain rfl := hb.int_inv
    split at hv
    · rename_i hkk
      subst hkk
      unfold binInt at hv
      cases op <;> simp only [Option.some.injEq, reduceCtorEq] at hv <;> (try (split at hv; · simp at hv)) <;> (try simp only [Option.some.injEq] at hv) <;> (try subst hv) <;>
        first
          | (refine .of_pure h (.atom (.int _ _)) hk ?_; simp_all [eqGuard, binOp, Op.intArith, Op.intDiv, Op.intBits]; done)
          | (refine .of_pure h (.atom (.bool _)) hk ?_; simp [eqGuard, binOp, Op.intCmp, bne, BEq.beq]; done)
          | skip
    · simp at hv
  · rename_i s u
    obtain rfl := ha.string_inv; obtain rfl := hb.string_inv
    split at hv
    · rename_i hle
      simp at hv; subst hv
      refine .of_pure h (.atom (.string _)) hk ?_
      have : ¬ (((s.size + u.size : Nat) : Int) > IntKind.i64.max) := by
        unfold maxI64 at hle
        rw [show IntKind.i64.max = 9223372036854775807 from by decide]; omega
      simp only [eqGuard, binOp, Op.stringOp]
      simp only [Sem.run_bind]
      rw [if_neg this]
      simp
    · simp at hv
  · rename_i s u
    obtain rfl := ha.string_inv; obtain rfl := hb.string_inv
    simp at hv; subst hv
    refine .of_pure h (.atom (.bool _)) hk ?_
    simp [eqGuard, binOp, Op.stringOp, str_beq]
  · rename_i s u
    obtain rfl := ha.string_inv; obtain rfl := hb.string_inv
    simp at hv; subst hv
    refine .of_pure h (.atom (.bool _)) hk ?_
    simp [eqGuard, binOp, Op.stringOp, str_beq]
  · simp at hv

/-- One operand. -/
theorem runs_un (h : MR base r m w) {K : Value → Mem → Prop} {op : UnOp} {a a' v : Value} (ha : VR r a a') (hv : unV op a = some v) (hk : K v m) : Runs P (Op.unary op a') w base r m K := by
  unfold unV at hv
  split at hv
  · obtain rfl := ha.bool_inv
    simp at hv; subst hv
    exact .of_pure h (.atom (.bool _)) hk (by simp [Op.unary])
  · obtain rfl := ha.int_inv
    simp at hv; subst hv
    exact .of_pure h (.atom (.int _ _)) hk (by simp [Op.unary, Op.intArith])
  · obtain rfl := ha.int_inv
    simp [binInt] at hv; subst hv
    exact .of_pure h (.atom (.int _ _)) hk (by simp [Op.unary, Op.intBits])
  · simp at hv

/-- Conversions. -/
theorem runs_conv (h : MR base r m w) {K : Value → Mem → Prop} {S D : Nat} {sd : TypeDesc} {k : IntKind} {a a' : Value} (hS : P.underlying S = some sd) (hD : P.underlying D = some (.int k)) (ha : VR r a a') {k' : IntKind} {n : Int} (hae : a = .int k' n) (hk : K (.int k (k.wrap n)) m) : Runs P (convert S D a') w base r m K := by
  subst hae
  obtain rfl := ha.int_inv
  refine .of_pure h (.atom (.int _ _)) hk ?_
  simp [convert, run_und hS, run_und hD, Conv.intToInt]
theorem runs_convStr (h : MR base r m w) {K : Value → Mem → Prop} {S D : Nat} {sd : TypeDesc} {a a' : Value} (hS : P.underlying S = some sd) (hD : P.underlying D = some .string) (ha : VR r a a') {s : ByteArray} (hae : a = .string s) (hk : K (.string s) m) : Runs P (convert S D a') w base r m K := by
  subst hae
  obtain rfl := ha.string_inv
  refine .of_pure h (.atom (.string _)) hk ?_
  cases sd <;> simp [convert, run_und hS, run_und hD]

theorem bytesL_map {l : List Value} : ∀ {bs : List UInt8}, bytesL l = some bs → ∃ ns : List Int, l = ns.map (Value.int .u8) ∧ bs = ns.map fun n => UInt8.ofNat n.toNat := by
  induction l with
  | nil => intro bs hb; simp [bytesL] at hb; subst hb; exact ⟨[], rfl, rfl⟩
  | cons v l ih =>
    intro bs hb
    unfold bytesL at hb
    split at hb
    · simp_all
    · rename_i n r' he
      simp at he
      obtain ⟨rfl, rfl⟩ := he
      simp at hb
      obtain ⟨bs', hb', rfl⟩ := hb
      obtain ⟨ns, rfl, rfl⟩ := ih hb'
      exact ⟨n :: ns, rfl, rfl⟩
    · simp at hb

theorem F2.ints {k : IntKind} {ns : List Int} {ys : List Value} (h : F2 (CR r) (ns.map (Value.int k)) ys) : ys = ns.map (Value.int k) := by
  induction ns generalizing ys with
  | nil => exact h.nil_inv
  | cons n ns ih =>
    obtain ⟨b, bs, rfl, h1, h2⟩ := F2.cons_inv (by simpa using h)
    rw [ih h2]
    cases h1 with | atom h1 => cases h1; rfl

/-- The cells of a slice. -/
theorem slice_cells (h : MR base r m w) {i o n c k : Nat} {A : Addr} {b d t z : Nat} {cs : List Value} (hri : r i = some (b, d, t, z)) (hA : c = 0 ∨ A = ⟨b, d + o, none⟩ ∧ d + o + c * z ≤ t) (hnc : n ≤ c) (hk : k ≠ 0 → n ≠ 0) (hc : cells? m i o k = some cs) :
    ∃ cs', (loadCells A k).run P w = .ok cs'.toArray w ∧ F2 (CR r) cs cs' ∧ cs.length = k := by
  unfold cells? at hc
  split at hc
  · rename_i kb hm
    split at hc
    · rename_i hl
      simp at hc
      subst hc
      by_cases hk0 : k = 0
      · subst hk0
        exact ⟨[], by simp [loadCells, loadCellsFrom], by simp; exact .nil, by simp⟩
      · have := hk hk0
        rcases hA with h0 | ⟨rfl, _⟩
        · omega
        · obtain ⟨vs', hrun, hf⟩ := read_list h (P := P) hri hm (Kind.live_of hl.1) ⟨b, d + o, none⟩ rfl k 0 #[] rfl (by omega)
          exact ⟨vs', by simpa [loadCells] using hrun, by simpa using hf, by simp; omega⟩
    · simp at hc
  · simp at hc

theorem runs_b2s_nil (h : MR base r m w) {K : Value → Mem → Prop} {S D e : Nat} (hS : P.underlying S = some (.slice e)) (he : P.underlying e = some (.int .u8)) (hD : P.underlying D = some .string) {a a' : Value} (ha : VR r a a') {n n' : Nat} (hae : a = .slice none n n') (hk : K (.string .empty) m) : Runs P (convert S D a') w base r m K := by
  subst hae
  have : a' = .slice none 0 0 := by rcases ha with ⟨⟨⟨ha⟩⟩⟩; cases ha; rfl
  subst this
  refine .of_pure h (.atom (.string _)) hk ?_
  simp [convert, run_und hS, run_und hD, run_und he, Conv.bytesToString]

theorem runs_b2s (h : MR base r m w) {K : Value → Mem → Prop} {S D e : Nat} (hS : P.underlying S = some (.slice e)) (he : P.underlying e = some (.int .u8)) (hD : P.underlying D = some .string) {a a' : Value} (ha : VR r a a') {i o n n' : Nat} {l : List UInt8} (hae : a = .slice (some ⟨i, o, none⟩) n n') (hl : (cells? m i o n).bind bytesL = some l) (hk : K (.string ⟨l.toArray⟩) m) : Runs P (convert S D a') w base r m K := by
  subst hae
  obtain ⟨rfl, b, d, top, z, c, A, hri, hnc, hA, rfl⟩ := ha.slice_inv
  cases hcs : cells? m i o n' with
  | none => simp [hcs] at hl
  | some cs =>
    simp [hcs] at hl
    obtain ⟨ns, rfl, rfl⟩ := bytesL_map hl
    obtain ⟨cs', hrun, hf, _⟩ := slice_cells (P := P) h hri hA hnc (fun h => h) hcs
    have := hf.ints
    subst this
    refine .of_pure h (.atom (.string _)) hk ?_
    rw [run_convert_bytes_string w S D e _ _ c hS he hD, run_bytesToString w _ _ c ns hrun, foldl_push_bytes]
    simp [ByteArray.empty, ByteArray.emptyWithCapacity]
    rfl

theorem freeze_heap {b : Nat} {c : Array Value} {T : TypeId} (hb : w.heap[b]? = some (.cells c T (0, 0))) : (w.freeze ⟨b, c.size, none⟩ 1).heap = w.heap.setIfInBounds b (.cells c T (c.size, c.size + 1)) := by
  have hlt : b < w.heap.size := by
    rcases Nat.lt_or_ge b w.heap.size with h | h
    · exact h
    · simp [Array.getElem?_eq_none h] at hb
  simp only [World.freeze, if_neg (by decide : ¬ (1 : Nat) = 0)]
  apply Array.ext_getElem?
  intro i
  rw [Array.getElem?_modify, Array.getElem?_setIfInBounds]
  split
  · rename_i e; subst e
    have h2 := (Array.getElem?_eq_some_iff.1 hb).2
    simp [hlt, h2]
  · rfl

/-- The frozen range of an owned block is set anew. -/
theorem Stp.refz (h : MR base r m w) {w' : World} {i b d t z : Nat} {k : Blk} (hi : r i = some (b, d, t, z)) (hk : m[i]? = some k) (ho : k.kind = .own) {c : Array Value} {T : TypeId} {fz fz' : Nat × Nat} (hb : w.heap[b]? = some (.cells c T fz))
    (hheap : w'.heap = w.heap.setIfInBounds b (.cells c T fz')) (hos : w'.os = w.os) (htape : w'.tape = w.tape) (hout : w'.output = w.output)
    (hfz : ∀ x, d + k.frz ≤ x → x < c.size → inFz fz' x = false) (hz1 : z ≤ 1) : Stp base r m w r m w' := by
  have hlt := (h.own_lt hi hk ho).2
  have hsz : w'.heap.size = w.heap.size := by rw [hheap]; simp
  have hne : ∀ {q : Nat}, q ≠ b → w'.heap[q]? = w.heap[q]? := by
    intro q hq
    rw [hheap, Array.getElem?_setIfInBounds_ne (by omega)]
  have heq : w'.heap[b]? = some (.cells c T fz') := by rw [hheap]; simp [hlt]
  refine ⟨⟨h.dom, ?_, h.inj, by rw [hsz]; exact h.base⟩, fun _ _ => rfl, Nat.le_refl _, ?_, fun _ _ h => h, by omega, hos, htape, hout⟩
  · intro j l q e t' z' hl hj
    have hbl := h.blk j l q e t' z' hl hj
    by_cases hq : q = b
    · subst hq
      unfold Bears at hbl ⊢
      split at hbl
      · trivial
      · rename_i hlo
        have hji := h.inj j i l k q _ _ hl hk hlo ho hj hi
        subst hji
        rw [hi] at hj; simp at hj; obtain ⟨rfl, rfl, rfl⟩ := hj
        rw [hk] at hl; simp at hl; subst hl
        obtain ⟨h0, hz, c', fz0, h1, ht, h2, h3, _, hvv⟩ := hbl
        rw [hb] at h1
        simp at h1
        obtain ⟨rfl, rfl, rfl⟩ := h1
        exact ⟨h0, hz, c, fz', heq, ht, h2, h3, hfz, hvv.1, fun h => by omega⟩
      · obtain ⟨h0, hz, c', T', fz0, h1, h3⟩ := hbl
        rw [hb] at h1
        simp at h1
        obtain ⟨rfl, rfl, rfl⟩ := h1
        exact ⟨h0, hz, c, T, fz', heq, h3⟩
    · exact hbl.congr fun _ => hne hq
  · intro q hq hn
    refine hne ?_
    intro e; subst e
    exact hn ⟨i, k, _, hk, ho, hi⟩

theorem repl_rel (n : Nat) (v : Value) (hv : CR r v v) : F2 (CR r) (List.replicate n v) (List.replicate n v) := .refl fun x hx => by
  rw [List.eq_of_mem_replicate hx]; exact hv

/-- A new block with room behind it. -/
theorem Stp.allocRoom (h : MR base r m w) {cs cs' : List Value} (T z f : Nat) (hc : F2 (CR r) cs cs') (rest : List Value) (hz0 : z = 0 → cs.length = 0) :
    Stp base r m w (fun i => if i = m.length then some (w.heap.size, 0, (cs' ++ rest).length, z) else r i) (m ++ [⟨cs, T, z, f, .own⟩]) (w.alloc (.cells (cs' ++ rest).toArray T)) := by
  have hs := Stp.alloc h T z f hc
  have hle : r.le (fun i => if i = m.length then some (w.heap.size, 0, (cs' ++ rest).length, z) else r i) := by
    intro i x hx
    have := h.dom i x hx
    show (if i = m.length then some (w.heap.size, 0, (cs' ++ rest).length, z) else r i) = some x
    rw [if_neg (by omega)]
    exact hx
  refine ⟨⟨?_, ?_, ?_, by simpa using hs.mr.base⟩, ?_, hs.len, ?_, ?_, by simp, rfl, rfl, rfl⟩
  · intro i x hx
    split at hx
    · simp; omega
    · have := h.dom i x hx; simp; omega
  · intro i k b d t z' hk hi
    split at hi
    · rename_i e
      subst e
      simp at hk hi
      obtain ⟨rfl, rfl, rfl, rfl⟩ := hi
      subst hk
      refine ⟨h.base, rfl, (cs' ++ rest).toArray, (0, 0), heap_alloc_new, by simp, by simp [hc.length], ?_, fun x _ _ => by simp [inFz], fun e0 h0 => (by have := hz0 e0; simp at h0; omega), fun _ => rfl⟩
      intro j v hv
      obtain ⟨v', e, q⟩ := hc.get hv
      refine ⟨v', ?_, q.mono hle⟩
      simp
      rw [List.getElem?_append_left (List.getElem?_eq_some_iff.1 e).1]; exact e
    · have hlt := h.dom i _ hi
      rw [List.getElem?_append_left hlt] at hk
      have hb := h.blk i k b d t z' hk hi
      refine (hb.mono hle).congr fun hl => ?_
      have := hb.some_of_live hl
      rcases Nat.lt_or_ge b w.heap.size with h' | h'
      · exact heap_alloc_old h'
      · simp [Array.getElem?_eq_none h'] at this
  · intro i j k l b x y hi hj hki hlj hri hrj
    have key : ∀ {i k x}, (m ++ [(⟨cs, T, z, f, .own⟩ : Blk)])[i]? = some k → (if i = m.length then some (w.heap.size, 0, (cs' ++ rest).length, z) else r i) = some (b, x) → ∃ x', (if i = m.length then some (w.heap.size, 0, cs'.length, z) else r i) = some (b, x') := by
      intro i k x _ hx
      split at hx
      · rename_i e; simp at hx; exact ⟨_, by rw [if_pos e, hx.1]⟩
      · rename_i e; exact ⟨x, by rw [if_neg e]; exact hx⟩
    obtain ⟨x', hx'⟩ := key hi hri
    obtain ⟨y', hy'⟩ := key hj hrj
    exact hs.mr.inj i j k l b x' y' hi hj hki hlj hx' hy'
  · intro i hi; rw [if_neg (by omega)]
  · intro b hb _; exact heap_alloc_old hb
  · rintro b hb ⟨i, k, x, hk, hl, hi⟩
    replace hi : (if i = m.length then some (w.heap.size, 0, (cs' ++ rest).length, z) else r i) = some (b, x) := hi
    split at hi
    · simp at hi; omega
    · rw [List.getElem?_append_left (h.dom i _ hi)] at hk
      exact ⟨i, k, x, hk, hl, hi⟩

theorem byteCells_rel (l : List UInt8) : F2 (CR r) (byteCells l) (byteCells l) := F2.map_same fun _ _ => .atom (.int _ _)
theorem byteCells_length (l : List UInt8) : (byteCells l).length = l.length := by simp [byteCells]

/-- A text's bytes, a slice of its own. -/
theorem runs_s2b (h : MR base r m w) {K : Value → Mem → Prop} {S D e : Nat} (hS : P.underlying S = some .string) (he : P.underlying e = some (.int .u8)) (hD : P.underlying D = some (.slice e)) {a a' : Value} (ha : VR r a a') {s : ByteArray} (hae : a = .string s)
    (hk : K (.slice (some ⟨m.length, 0, none⟩) s.size s.size) (m ++ [⟨byteCells s.data.toList, e, 1, 0, .own⟩])) : Runs P (convert S D a') w base r m K := by
  subst hae
  obtain rfl := ha.string_inv
  have hcs := byteCells_rel (r := r) s.data.toList
  have hd := Stp.drew h
  generalize hcap : (Question.appendCap s.size 0 e).cut (w.tape w.drawn (.appendCap s.size 0 e)) = cap
  have hcap' : s.size ≤ cap := by rw [← hcap]; simp [Question.cut]
  have h1 := Stp.allocRoom hd.mr e 1 0 hcs (List.replicate (cap - s.size) (.int .u8 0)) (fun h => absurd h (by decide))
  generalize hw1 : World.alloc { w with drawn := w.drawn + 1 } (.cells (byteCells s.data.toList ++ List.replicate (cap - s.size) (Value.int .u8 0)).toArray e) = w1 at h1
  have hb1 : w1.heap[w.heap.size]? = some (.cells (byteCells s.data.toList ++ List.replicate (cap - s.size) (Value.int .u8 0)).toArray e (0, 0)) := by
    rw [← hw1]; exact heap_alloc_new (w := { w with drawn := w.drawn + 1 })
  have h2 := Stp.refz h1.mr (i := m.length) (b := w.heap.size) (d := 0) (t := (byteCells s.data.toList ++ List.replicate (cap - s.size) (Value.int .u8 0)).length) (z := 1) (k := ⟨byteCells s.data.toList, e, 1, 0, .own⟩) (by simp) (by simp) rfl hb1 (freeze_heap hb1) (by simp [World.freeze]) (by simp [World.freeze]) (by simp [World.freeze])
    (fun x _ hx => by simp only [inFz]; simp at hx ⊢; omega) (Nat.le_refl _)
  refine ⟨.slice (some ⟨w.heap.size, 0, none⟩) s.size cap, w1.freeze ⟨w.heap.size, (byteCells s.data.toList ++ List.replicate (cap - s.size) (Value.int .u8 0)).toArray.size, none⟩ 1, ?_, _, _, _, hk, ?_, (hd.trans h1).trans h2⟩
  · have hsh : w1.shape? w.heap.size = some (e, (byteCells s.data.toList ++ List.replicate (cap - s.size) (Value.int .u8 0)).toArray.size) := by
      simp only [World.shape?, hb1]
    have hcell : (s.data.map (fun b => Value.int .u8 b.toNat) ++ Array.replicate (cap - s.size) (Value.int .u8 0)) = (byteCells s.data.toList ++ List.replicate (cap - s.size) (Value.int .u8 0)).toArray := by
      apply Array.ext'; simp [byteCells]
    have hforced : (Question.appendCap s.size 0 e).forced = false := rfl
    simp only [convert, Sem.run_bind, run_und hS, run_und hD, run_und he, Result.andThen_ok, Conv.stringToBytes, run_choose, hforced, Bool.false_eq_true, if_false, hcap, newRow, hcell, run_newObj]
    have hw1' : ({ w with drawn := w.drawn + 1, heap := w.heap.push (.cells (byteCells s.data.toList ++ List.replicate (cap - s.size) (Value.int .u8 0)).toArray e) } : World) = w1 := hw1
    simp only [Sem.run_pure, Result.andThen_ok]
    rw [hw1']
    simp only [markStringish, Sem.run_bind, run_shape, hsh, Result.andThen_ok, run_freeze]
  · exact .atom (.slice (b := w.heap.size) (d := 0) (t := (byteCells s.data.toList ++ List.replicate (cap - s.size) (Value.int .u8 0)).length) (z := 1) (by simp) hcap' (.inr ⟨rfl, by simp [byteCells_length]; omega⟩))

end Go.Lg
