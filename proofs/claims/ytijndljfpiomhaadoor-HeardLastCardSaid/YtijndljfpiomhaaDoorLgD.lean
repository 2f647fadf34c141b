/- What the program's own operations do to a world that bears the memory: one law an operation. -/
import Derived.Test.YtijndljfpiomhaaDoorLgC
import Derived.Laws.Append
import Derived.Laws.Strings
namespace Go.Lg

variable {P : Program} {base : Nat} {r : Rho} {m : Mem} {w : World}

/-- A world behind an operation, as the memory behind it says. -/
def Sim (base : Nat) (r : Rho) (m : Mem) (w : World) (K : Value → Mem → Prop) (v' : Value) (w' : World) : Prop :=
  ∃ v m' r', K v m' ∧ VR r' v v' ∧ Stp base r m w r' m' w'

/-- The run of an operation comes to a value. -/
def Runs (P : Program) (s : Sem Value) (w : World) (base : Nat) (r : Rho) (m : Mem) (K : Value → Mem → Prop) : Prop :=
  ∃ v' w', s.run P w = .ok v' w' ∧ Sim base r m w K v' w'

theorem Runs.of_pure (h : MR base r m w) {K : Value → Mem → Prop} {v v' : Value} {s : Sem Value} (hv : VR r v v') (hk : K v m) (hs : s.run P w = .ok v' w) : Runs P s w base r m K :=
  ⟨v', w, hs, v, m, r, hk, hv, .refl h⟩

def isAggD : TypeDesc → Bool
  | .struct _ | .array _ _ => true
  | _ => false

theorem run_isAgg {t : TypeId} {d : TypeDesc} (h : P.underlying t = some d) : (isAgg t).run P w = .ok (isAggD d) w := by
  have : (underlying t).run P w = .ok d w := by simp [underlying, h]
  simp only [isAgg, Sem.run_bind, this, Result.andThen_ok]
  cases d <;> rfl

theorem run_und {t : TypeId} {d : TypeDesc} (h : P.underlying t = some d) : (underlying t).run P w = .ok d w := by
  simp [underlying, h]
theorem run_info {t : TypeId} {i : TypeInfo} (h : P.info? t = some i) : (typeInfo t).run P w = .ok i w := by
  simp [typeInfo, h]
theorem run_size {t : TypeId} {i : TypeInfo} (h : P.info? t = some i) : (sizeOf t).run P w = .ok i.size w := by
  simp [sizeOf, run_info h]
theorem run_zero {t : TypeId} {i : TypeInfo} {v : Value} (h : P.info? t = some i) (hz : i.zero = some v) : (zeroValue t).run P w = .ok v w := by
  simp [zeroValue, run_info h, hz]

theorem cellsL_eq (v : Value) : cellsL v = v.cells.toList := by cases v <;> rfl

theorem VR.basic_inv {v v' : Value} (h : VR r v v') (hb : basic v = true) : BR r v v' := by
  cases h with
  | base h => exact h
  | tuple _ => simp [basic] at hb

theorem BR.cellsL {v v' : Value} (h : BR r v v') : F2 (CR r) (cellsL v) (cellsL v') := by
  rw [cellsL_eq, cellsL_eq]; exact h.cells

/-- New blocks. -/
theorem runs_newVar (h : MR base r m w) {K : Value → Mem → Prop} {T : TypeId} {v v' : Value} (hv : BR r v v')
    (hk : K (.pointer (some ⟨m.length, 0, none⟩)) (m ++ [⟨cellsL v, T, 1, 0, .own⟩])) : Runs P (Instr.box T v') w base r m K := by
  have hs := Stp.alloc h T 1 0 hv.cellsL
  refine ⟨.pointer (some ⟨w.heap.size, 0, none⟩), w.alloc (.cells v'.cells T), ?_, _, _, (fun i => if i = m.length then some (w.heap.size, 0, (cellsL v').length, 1) else r i), hk, ?_, ?_⟩
  · simp [Instr.box, newVar, newRow]
  · exact .atom (.ptr (b := w.heap.size) (d := 0) (t := (cellsL v').length) (z := 1) (o := 0) (by simp))
  · have e : (cellsL v').toArray = v'.cells := by rw [cellsL_eq]
    rw [← e]; exact hs

theorem runs_newVarV (h : MR base r m w) {K : Value → Mem → Prop} {T : TypeId} {v v' : Value} (hv : BR r v v')
    (hk : K (.pointer (some ⟨m.length, 0, none⟩)) (m ++ [⟨cellsL v, T, 0, 0, .own⟩])) : Runs P (Instr.box T v') w base r m K := by
  have hs := Stp.alloc h T 0 0 hv.cellsL
  refine ⟨.pointer (some ⟨w.heap.size, 0, none⟩), w.alloc (.cells v'.cells T), ?_, _, _, (fun i => if i = m.length then some (w.heap.size, 0, (cellsL v').length, 0) else r i), hk, ?_, ?_⟩
  · simp [Instr.box, newVar, newRow]
  · exact .atom (.ptr (b := w.heap.size) (d := 0) (t := (cellsL v').length) (z := 0) (o := 0) (by simp))
  · have e : (cellsL v').toArray = v'.cells := by rw [cellsL_eq]
    rw [← e]; exact hs

theorem runs_allocV (h : MR base r m w) {K : Value → Mem → Prop} {T : TypeId} {z : Value} {i : TypeInfo} (hi : P.info? T = some i) (hz : i.zero = some z) (hv : BR r z z)
    (hk : K (.pointer (some ⟨m.length, 0, none⟩)) (m ++ [⟨cellsL z, T, 0, 0, .own⟩])) : Runs P (Instr.alloc T true (.tuple #[])) w base r m K := by
  obtain ⟨v', w', hr, hs⟩ := runs_newVarV (P := P) h hv hk
  refine ⟨v', w', ?_, hs⟩
  simp only [Instr.alloc, Sem.run_bind, run_zero hi hz, Result.andThen_ok]
  exact hr

theorem runs_alloc (h : MR base r m w) {K : Value → Mem → Prop} {T : TypeId} {z : Value} {i : TypeInfo} (hi : P.info? T = some i) (hz : i.zero = some z) (hv : BR r z z)
    (hk : K (.pointer (some ⟨m.length, 0, none⟩)) (m ++ [⟨cellsL z, T, 1, 0, .own⟩])) : Runs P (Instr.alloc T true (.tuple #[])) w base r m K := by
  obtain ⟨v', w', hr, hs⟩ := runs_newVar (P := P) h hv hk
  refine ⟨v', w', ?_, hs⟩
  simp only [Instr.alloc, Sem.run_bind, run_zero hi hz, Result.andThen_ok]
  exact hr

/-- Loads. -/
theorem runs_load (h : MR base r m w) {K : Value → Mem → Prop} {T : TypeId} {d : TypeDesc} {x x' : Value} (hT : P.underlying T = some d) (hd : isAggD d = false)
    (hx : VR r x x') {i o : Nat} {v : Value} (hxe : x = .pointer (some ⟨i, o, none⟩)) (hc : cell? m i o = some v) (hk : K v m) : Runs P (Instr.loadAt T x') w base r m K := by
  subst hxe
  obtain ⟨b, e, _, _, hri, rfl⟩ := hx.ptr_inv
  unfold cell? at hc
  split at hc
  · rename_i k hm
    split at hc
    · rename_i hl
      obtain ⟨v', hw, hv⟩ := h.read hri hm (Kind.live_of hl) hc
      refine .of_pure h (.base (.cell hv)) hk ?_
      have hagg : (isAgg T).run P w = .ok false w := by rw [run_isAgg hT, hd]
      simp [Instr.loadAt, Instr.sureAddr, loadVar, hagg, hw]
    · simp at hc
  · simp at hc

theorem runs_loadN (h : MR base r m w) {K : Value → Mem → Prop} {T : TypeId} {d : TypeDesc} {ti : TypeInfo} {x x' : Value} (hT : P.underlying T = some d) (hd : isAggD d = true)
    (hti : P.info? T = some ti) (hx : VR r x x') {i o : Nat} {cs : List Value} (hxe : x = .pointer (some ⟨i, o, none⟩)) (hc : cells? m i o ti.size = some cs) (hk : K (.agg cs.toArray) m) : Runs P (Instr.loadAt T x') w base r m K := by
  subst hxe
  obtain ⟨b, e, _, _, hri, rfl⟩ := hx.ptr_inv
  unfold cells? at hc
  split at hc
  · rename_i k hm
    split at hc
    · rename_i hl
      simp at hc
      obtain ⟨vs', hrun, hf⟩ := read_list h (P := P) hri hm (Kind.live_of hl.1) ⟨b, e + o, none⟩ rfl ti.size 0 #[] rfl (by omega)
      subst hc
      refine .of_pure h (v := .agg ((k.cells.drop o).take ti.size).toArray) (v' := .agg vs'.toArray) (.base (.agg (by simpa using hf))) hk ?_
      have hagg : (isAgg T).run P w = .ok true w := by rw [run_isAgg hT, hd]
      have hsz := run_size (w := w) hti
      simp [Instr.loadAt, Instr.sureAddr, loadVar, hagg, hsz, loadCells, hrun]
    · simp at hc
  · simp at hc

/-- A store. -/
theorem runs_store (h : MR base r m w) {K : Value → Mem → Prop} {T : TypeId} {ti : TypeInfo} {a a' x x' : Value} (hti : P.info? T = some ti) (ha : VR r a a') (hx : VR r x x') {i o : Nat} {k : Blk}
    (hae : a = .pointer (some ⟨i, o, none⟩)) (hm : m[i]? = some k) (hc : k.kind.isOwn = true ∧ basic x = true ∧ (cellsL x).length = ti.size ∧ k.frz ≤ o ∧ o + ti.size ≤ k.cells.length)
    (hk : K undef (m.set i { k with cells := setAt k.cells o (cellsL x) })) : ∃ w', (Instr.storeAt T a' x').run P w = .ok () w' ∧ Sim base r m w K undef w' := by
  subst hae
  obtain ⟨b, e, _, _, hri, rfl⟩ := ha.ptr_inv
  obtain ⟨h1, h2, h3, h4, h5⟩ := hc
  have hb := hx.basic_inv h2
  obtain ⟨w', hrun, hs⟩ := Stp.sets (P := P) hri ⟨b, e + o, none⟩ rfl (cellsL x) (cellsL x') o 0 k m w h hm (Kind.own_of h1) rfl h4 (by omega) hb.cellsL
  refine ⟨w', ?_, _, _, _, hk, .undef, hs⟩
  have hsz : x'.cells.size = ti.size := by
    have := hb.cellsL.length
    rw [h3, cellsL_eq] at this
    simpa using this.symm
  rw [cellsL_eq] at hrun
  simp [Instr.storeAt, Instr.sureAddr, storeVar, run_size hti, hsz, hrun]

/-- Addresses of parts. -/
theorem runs_fieldAddr (h : MR base r m w) {K : Value → Mem → Prop} {S f : Nat} {fs : Array Field} {fl : Field} {ti : TypeInfo} {x x' : Value} (hS : P.underlying S = some (.struct fs)) (hf : fs[f]? = some fl) (hti : P.info? fl.type = some ti) (hz : ti.size ≠ 0)
    (hx : VR r x x') {i o : Nat} (hxe : x = .pointer (some ⟨i, o, none⟩)) (hk : K (.pointer (some ⟨i, o + fl.offset, none⟩)) m) : Runs P (Instr.fieldAt S x' f) w base r m K := by
  subst hxe
  obtain ⟨b, e, _, _, hri, rfl⟩ := hx.ptr_inv
  refine .of_pure h (.atom (.ptr hri)) hk ?_
  simp [Instr.fieldAt, run_und hS, hf, Instr.sureAddr, fieldPlace, run_size hti, hz, add_none, Nat.add_assoc]

theorem runs_idxAddrA (h : MR base r m w) {K : Value → Mem → Prop} {T e len : Nat} {ti : TypeInfo} {x x' y y' : Value} (hT : P.underlying T = some (.array len e)) (hti : P.info? e = some ti)
    (hx : VR r x x') (hy : VR r y y') {i o : Nat} {k : IntKind} {j : Int} (hxe : x = .pointer (some ⟨i, o, none⟩)) (hye : y = .int k j) (hj : 0 ≤ j ∧ j < len) (hk : K (.pointer (some ⟨i, o + j.toNat * ti.size, none⟩)) m) : Runs P (Instr.indexAt T x' y') w base r m K := by
  subst hxe hye
  obtain ⟨b, d, _, _, hri, rfl⟩ := hx.ptr_inv
  obtain rfl := hy.int_inv
  refine .of_pure h (.atom (.ptr hri)) hk ?_
  simp [Instr.indexAt, asIntOf, run_und hT, Instr.sureAddr, hj, run_size hti, add_none, Nat.add_assoc]

theorem runs_idxAddrS (h : MR base r m w) {K : Value → Mem → Prop} {T e : Nat} {ti : TypeInfo} {x x' y y' : Value} (hT : P.underlying T = some (.slice e)) (hti : P.info? e = some ti)
    (hx : VR r x x') (hy : VR r y y') {i o n n' : Nat} {k : IntKind} {j : Int} (hxe : x = .slice (some ⟨i, o, none⟩) n n') (hye : y = .int k j) (hj : 0 ≤ j ∧ j < n) (hk : K (.pointer (some ⟨i, o + j.toNat * ti.size, none⟩)) m) : Runs P (Instr.indexAt T x' y') w base r m K := by
  subst hxe hye
  obtain ⟨rfl, b, d, _, _, c, a, hri, hn, ha, rfl⟩ := hx.slice_inv
  obtain rfl := hy.int_inv
  have : a = ⟨b, d + o, none⟩ := by rcases ha with h0 | h0; (exfalso; omega); exact h0.1
  subst this
  refine .of_pure h (.atom (.ptr hri)) hk ?_
  simp [Instr.indexAt, asIntOf, run_und hT, hj, run_size hti, add_none, Nat.add_assoc]

theorem runs_idxStr (h : MR base r m w) {K : Value → Mem → Prop} {T : Nat} {x x' y y' : Value} (hT : P.underlying T = some .string)
    (hx : VR r x x') (hy : VR r y y') {s : ByteArray} {k : IntKind} {j : Int} {b : UInt8} (hxe : x = .string s) (hye : y = .int k j) (hj : 0 ≤ j) (hb : s.data.toList[j.toNat]? = some b) (hk : K (.int .u8 b.toNat) m) : Runs P (Instr.index T x' y') w base r m K := by
  subst hxe hye
  obtain rfl := hx.string_inv
  obtain rfl := hy.int_inv
  refine .of_pure h (.atom (.int .u8 b.toNat)) hk ?_
  have hlt : j.toNat < s.size := by
    have := (List.getElem?_eq_some_iff.1 hb).1
    simpa using this
  have e : s[j.toNat]? = some b := by
    rw [ByteArray.getElem?_lt' s _ hlt]
    obtain ⟨h1, h2⟩ := List.getElem?_eq_some_iff.1 hb
    rw [← h2]
    rfl
  simp [Instr.index, asIntOf, run_und hT, hj, e]

theorem part_cell {T : TypeId} {d : TypeDesc} {cs : Array Value} {o : Nat} {v : Value} (hT : P.underlying T = some d) (hd : isAggD d = false) (hv : cs[o]? = some v) : (part T cs o).run P w = .ok v w := by
  have hagg : (isAgg T).run P w = .ok false w := by rw [run_isAgg hT, hd]
  simp [part, hagg, hv]
theorem part_agg {T : TypeId} {d : TypeDesc} {ti : TypeInfo} {cs : Array Value} {o : Nat} (hT : P.underlying T = some d) (hd : isAggD d = true) (hti : P.info? T = some ti) : (part T cs o).run P w = .ok (.agg (cs.extract o (o + ti.size))) w := by
  have hagg : (isAgg T).run P w = .ok true w := by rw [run_isAgg hT, hd]
  simp [part, hagg, run_size hti]
theorem runs_idx (h : MR base r m w) {K : Value → Mem → Prop} {T e len : Nat} {d : TypeDesc} {ti : TypeInfo} {x x' y y' : Value} (hT : P.underlying T = some (.array len e)) (he : P.underlying e = some d) (hd : isAggD d = false) (hti : P.info? e = some ti) (hsz : ti.size = 1)
    (hx : VR r x x') (hy : VR r y y') {cs : List Value} {k : IntKind} {j : Int} {v : Value} (hxe : x = .agg cs.toArray) (hye : y = .int k j) (hj : 0 ≤ j ∧ j < len) (hv : cs[j.toNat]? = some v) (hk : K v m) : Runs P (Instr.index T x' y') w base r m K := by
  subst hxe hye
  obtain ⟨ys, rfl, hf⟩ := hx.agg_inv
  obtain rfl := hy.int_inv
  obtain ⟨v', hv', hr⟩ := hf.get hv
  refine .of_pure h (.base (.cell hr)) hk ?_
  simp [Instr.index, asIntOf, run_und hT, hj, run_size hti, hsz, part_cell he hd (cs := ys.toArray) (by simpa using hv')]

theorem runs_idxN (h : MR base r m w) {K : Value → Mem → Prop} {T e len : Nat} {d : TypeDesc} {ti : TypeInfo} {x x' y y' : Value} (hT : P.underlying T = some (.array len e)) (he : P.underlying e = some d) (hd : isAggD d = true) (hti : P.info? e = some ti)
    (hx : VR r x x') (hy : VR r y y') {cs : List Value} {k : IntKind} {j : Int} (hxe : x = .agg cs.toArray) (hye : y = .int k j) (hj : 0 ≤ j ∧ j < len) (hk : K (.agg ((cs.drop (j.toNat * ti.size)).take ti.size).toArray) m) : Runs P (Instr.index T x' y') w base r m K := by
  subst hxe hye
  obtain ⟨ys, rfl, hf⟩ := hx.agg_inv
  obtain rfl := hy.int_inv
  refine .of_pure h (v' := .agg ((ys.drop (j.toNat * ti.size)).take ti.size).toArray) (.base (.agg ((hf.drop _).take _))) hk ?_
  simp [Instr.index, asIntOf, run_und hT, hj, run_size hti, part_agg he hd hti]

theorem runs_field (h : MR base r m w) {K : Value → Mem → Prop} {T f : Nat} {fs : Array Field} {fl : Field} {d : TypeDesc} {x x' : Value} (hT : P.underlying T = some (.struct fs)) (hfl : fs[f]? = some fl) (he : P.underlying fl.type = some d) (hd : isAggD d = false)
    (hx : VR r x x') {cs : List Value} {v : Value} (hxe : x = .agg cs.toArray) (hv : cs[fl.offset]? = some v) (hk : K v m) : Runs P (Instr.field T x' f) w base r m K := by
  subst hxe
  obtain ⟨ys, rfl, hf⟩ := hx.agg_inv
  obtain ⟨v', hv', hr⟩ := hf.get hv
  refine .of_pure h (.base (.cell hr)) hk ?_
  simp [Instr.field, run_und hT, hfl, asAgg, part_cell he hd (cs := ys.toArray) (by simpa using hv')]
theorem runs_fieldN (h : MR base r m w) {K : Value → Mem → Prop} {T f : Nat} {fs : Array Field} {fl : Field} {d : TypeDesc} {ti : TypeInfo} {x x' : Value} (hT : P.underlying T = some (.struct fs)) (hfl : fs[f]? = some fl) (he : P.underlying fl.type = some d) (hd : isAggD d = true) (hti : P.info? fl.type = some ti)
    (hx : VR r x x') {cs : List Value} (hxe : x = .agg cs.toArray) (hk : K (.agg ((cs.drop fl.offset).take ti.size).toArray) m) : Runs P (Instr.field T x' f) w base r m K := by
  subst hxe
  obtain ⟨ys, rfl, hf⟩ := hx.agg_inv
  refine .of_pure h (v' := .agg ((ys.drop fl.offset).take ti.size).toArray) (.base (.agg ((hf.drop _).take _))) hk ?_
  simp [Instr.field, run_und hT, hfl, asAgg, part_agg he hd hti]

end Go.Lg
