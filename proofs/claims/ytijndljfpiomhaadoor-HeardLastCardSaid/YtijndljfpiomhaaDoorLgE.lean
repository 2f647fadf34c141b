/- What the program's own operations do to a world that bears the memory, continued: slices, parts put together, appends, sums, comparisons, conversions. -/
import Derived.Test.YtijndljfpiomhaaDoorLgD
namespace Go.Lg

variable {P : Program} {base : Nat} {r : Rho} {m : Mem} {w : World}

theorem bound_run {ev ev' : Operand → Value} {x : Option Operand} {absent most n most' : Nat} {c : BoundsCode} (hev : ∀ y, x = some y → VR r (ev y) (ev' y)) (hb : boundL ev x absent most = some n) (hle : most ≤ most') :
    (x = none ∧ n = absent) ∨ ∃ y, x = some y ∧ (Instr.sliceBound (ev' y) most' c).run P w = .ok n w ∧ n ≤ most := by
  cases x with
  | none => simp [boundL] at hb; exact .inl ⟨rfl, hb.symm⟩
  | some y =>
    right
    refine ⟨y, rfl, ?_⟩
    have hv := hev y rfl
    simp only [boundL] at hb
    split at hb
    · rename_i k j e
      rw [e] at hv
      obtain e' := hv.int_inv
      split at hb
      · rename_i hj
        simp at hb
        subst hb
        refine ⟨?_, by omega⟩
        have h1 : 0 ≤ j ∧ j ≤ (most' : Int) := ⟨hj.1, by omega⟩
        simp [Instr.sliceBound, e', asIntOf, h1]
      · simp at hb
    · simp at hb

theorem runs_sliceStr (h : MR base r m w) {K : Value → Mem → Prop} {T : Nat} (hT : P.underlying T = some .string) {ev ev' : Operand → Value} {x : Operand} {lo hi : Option Operand}
    (hx : VR r (ev x) (ev' x)) (hlo : ∀ y, lo = some y → VR r (ev y) (ev' y)) (hhi : ∀ y, hi = some y → VR r (ev y) (ev' y)) {s : ByteArray} {a b : Nat} (hxe : ev x = .string s) (hb : boundL ev hi s.size s.size = some b) (ha : boundL ev lo 0 b = some a)
    (hk : K (.string (s.extract a b)) m) : Runs P (Instr.sliceAt T (ev' x) (lo.map ev') (hi.map ev') none) w base r m K := by
  rw [hxe] at hx
  have hx' := hx.string_inv
  refine .of_pure h (.atom (.string _)) hk ?_
  have e1 : (match hi.map ev' with | some v => Instr.sliceBound v s.size .sliceAlen | none => pure s.size).run P w = .ok b w := by
    rcases bound_run (P := P) (w := w) (c := .sliceAlen) hhi hb (Nat.le_refl _) with ⟨rfl, rfl⟩ | ⟨y, rfl, h1, _⟩
    · rfl
    · exact h1
  have e2 : (match lo.map ev' with | some v => Instr.sliceBound v b .sliceB | none => pure 0).run P w = .ok a w := by
    rcases bound_run (P := P) (w := w) (c := .sliceB) hlo ha (Nat.le_refl _) with ⟨rfl, rfl⟩ | ⟨y, rfl, h1, _⟩
    · rfl
    · exact h1
  rw [hx']
  simp only [Instr.sliceAt, Sem.run_bind, run_und hT, Result.andThen_ok, Instr.slice, Option.isSome_none, Bool.false_eq_true, if_false, Instr.sliceBounds, Sem.run_pure]
  cases hi <;> cases lo <;> simp_all

theorem runs_sliceArr (h : MR base r m w) {K : Value → Mem → Prop} {T e n : Nat} {ti : TypeInfo} (hT : P.underlying T = some (.array n e)) (hti : P.info? e = some ti) {ev ev' : Operand → Value} {x : Operand} {lo hi : Option Operand}
    (hx : VR r (ev x) (ev' x)) (hlo : ∀ y, lo = some y → VR r (ev y) (ev' y)) (hhi : ∀ y, hi = some y → VR r (ev y) (ev' y)) {i o : Nat} {a b : Nat} (hxe : ev x = .pointer (some ⟨i, o, none⟩)) (hb : boundL ev hi n n = some b) (ha : boundL ev lo 0 b = some a)
    {kb : Blk} (hm : m[i]? = some kb) (hkb : kb.kind.isOwn = true ∧ kb.esz = 1 ∧ 1 ≤ ti.size ∧ o + n * ti.size ≤ kb.cells.length) (hk : K (.slice (some ⟨i, o + a * ti.size, none⟩) (b - a) (b - a)) m) : Runs P (Instr.sliceAt T (ev' x) (lo.map ev') (hi.map ev') none) w base r m K := by
  rw [hxe] at hx
  obtain ⟨q, d, top, z, hri, hx'⟩ := hx.ptr_inv
  have e1 : (match hi.map ev' with | some v => Instr.sliceBound v n .sliceAlen | none => pure n).run P w = .ok b w := by
    rcases bound_run (P := P) (w := w) (c := .sliceAlen) hhi hb (Nat.le_refl _) with ⟨rfl, rfl⟩ | ⟨y, rfl, h1, _⟩
    · rfl
    · exact h1
  have e2 : (match lo.map ev' with | some v => Instr.sliceBound v b .sliceB | none => pure 0).run P w = .ok a w := by
    rcases bound_run (P := P) (w := w) (c := .sliceB) hlo ha (Nat.le_refl _) with ⟨rfl, rfl⟩ | ⟨y, rfl, h1, _⟩
    · rfl
    · exact h1
  have hbn : b ≤ n := by
    rcases bound_run (P := P) (w := w) (c := .sliceAlen) hhi hb (Nat.le_refl _) with ⟨rfl, rfl⟩ | ⟨y, rfl, _, h1⟩
    · omega
    · exact h1
  refine .of_pure h (v' := .slice (some (if n = a then ⟨q, d + o, none⟩ else ⟨q, d + o + a * ti.size, none⟩)) (b - a) (n - a)) ?_ hk ?_
  · refine .atom (.slice (b := q) (d := d) hri (by omega) ?_)
    by_cases hna : n = a
    · left; omega
    · right
      rw [if_neg hna, Nat.add_assoc]
      refine ⟨rfl, ?_⟩
      have hbl := h.blk i kb q d top z hm hri
      unfold Bears at hbl
      rw [Kind.own_of hkb.1] at hbl
      obtain ⟨_, hz, cc, fz, _, ht, hlen, _, _⟩ := hbl
      obtain ⟨_, h1, h2, h3⟩ := hkb
      obtain rfl : z = 1 := by omega
      have hab : a ≤ b := by
        rcases bound_run (P := P) (w := w) (c := .sliceB) hlo ha (Nat.le_refl _) with ⟨rfl, rfl⟩ | ⟨y, rfl, _, h1⟩
        · omega
        · exact h1
      have e1 : (n - a) * 1 ≤ (n - a) * ti.size := Nat.mul_le_mul_left _ h2
      have e2 : a * ti.size + (n - a) * ti.size = n * ti.size := by
        rw [← Nat.add_mul]; congr 1; omega
      omega
  · rw [hx']
    simp only [Instr.sliceAt, Sem.run_bind, run_und hT, Result.andThen_ok, Instr.sureAddr, Instr.sliceBounds, Sem.run_pure]
    cases hi <;> cases lo <;> simp_all [run_size hti, add_none]

theorem runs_sliceSl (h : MR base r m w) {K : Value → Mem → Prop} {T e : Nat} {ti : TypeInfo} (hT : P.underlying T = some (.slice e)) (hti : P.info? e = some ti) {ev ev' : Operand → Value} {x : Operand} {lo hi : Option Operand}
    (hx : VR r (ev x) (ev' x)) (hlo : ∀ y, lo = some y → VR r (ev y) (ev' y)) (hhi : ∀ y, hi = some y → VR r (ev y) (ev' y)) {q : Option Addr} {n n' a b : Nat} (hxe : ev x = .slice q n n') (hb : boundL ev hi n n = some b) (ha : boundL ev lo 0 b = some a)
    (hk : slK m K ti.size a b q) : Runs P (Instr.sliceAt T (ev' x) (lo.map ev') (hi.map ev') none) w base r m K := by
  rw [hxe] at hx
  have hbn : b ≤ n := by
    rcases bound_run (P := P) (w := w) (c := .sliceAcap) hhi hb (Nat.le_refl _) with ⟨rfl, rfl⟩ | ⟨y, rfl, _, h1⟩
    · omega
    · exact h1
  have hab : a ≤ b := by
    rcases bound_run (P := P) (w := w) (c := .sliceB) hlo ha (Nat.le_refl _) with ⟨rfl, rfl⟩ | ⟨y, rfl, _, h1⟩
    · omega
    · exact h1
  have key : ∀ (A : Option Addr) (c : Nat), n ≤ c → ev' x = .slice A n c → (Instr.sliceAt T (ev' x) (lo.map ev') (hi.map ev') none).run P w = .ok (.slice (if c = a then A else A.map (·.add (a * ti.size))) (b - a) (c - a)) w := by
    intro A c hc hx'
    have e1 : (match hi.map ev' with | some v => Instr.sliceBound v c .sliceAcap | none => pure n).run P w = .ok b w := by
      rcases bound_run (P := P) (w := w) (c := .sliceAcap) hhi hb hc with ⟨rfl, rfl⟩ | ⟨y, rfl, h1, _⟩
      · rfl
      · exact h1
    have e2 : (match lo.map ev' with | some v => Instr.sliceBound v b .sliceB | none => pure 0).run P w = .ok a w := by
      rcases bound_run (P := P) (w := w) (c := .sliceB) hlo ha (Nat.le_refl _) with ⟨rfl, rfl⟩ | ⟨y, rfl, h1, _⟩
      · rfl
      · exact h1
    rw [hx']
    simp only [Instr.sliceAt, Sem.run_bind, run_und hT, Result.andThen_ok, Instr.slice, Instr.sliceBounds, Sem.run_pure]
    cases hi <;> cases lo <;> simp_all [run_size hti]
  cases q with
  | none =>
    have hnil : ev' x = .slice none 0 0 ∧ n = 0 ∧ n' = 0 := by
      generalize ev' x = v' at hx
      rcases hx with ⟨⟨⟨hx⟩⟩⟩; cases hx; exact ⟨rfl, rfl, rfl⟩
    obtain ⟨hx', rfl, rfl⟩ := hnil
    refine .of_pure h (.atom .nilSlice) hk ?_
    rw [key none 0 (by omega) hx']
    have : a = 0 := by omega
    have : b = 0 := by omega
    simp_all
  | some q =>
    have hq : ∃ i o, q = ⟨i, o, none⟩ := by
      generalize ev' x = v' at hx
      rcases hx with ⟨⟨⟨hx⟩⟩⟩; cases hx; exact ⟨_, _, rfl⟩
    obtain ⟨i, o, rfl⟩ := hq
    obtain ⟨rfl, p, d, top, z, c, A, hri, hnc, hA, hx'⟩ := hx.slice_inv
    obtain ⟨kb, hm, ⟨hlv, hez⟩, hk⟩ := hk
    refine .of_pure h (v' := .slice (some (if c = a then A else A.add (a * ti.size))) (b - a) (c - a)) ?_ hk ?_
    · refine .atom (.slice (b := p) (d := d) hri (by omega) ?_)
      by_cases hca : c = a
      · left; omega
      · right
        rcases hA with h0 | ⟨rfl, hbd⟩
        · omega
        · rw [if_neg hca, add_none, Nat.add_assoc]
          refine ⟨rfl, ?_⟩
          by_cases ha0 : a = 0
          · subst ha0; simpa using hbd
          · have hz : z = ti.size := by
              have hbl := h.blk _ kb _ _ _ _ hm hri
              unfold Bears at hbl
              split at hbl
              · rename_i e; rw [e] at hlv; cases hlv
              · exact hbl.2.1.symm.trans hez
              · exact hbl.2.1.symm.trans hez
            subst hz
            have e2 : a * ti.size + (c - a) * ti.size = c * ti.size := by
              rw [← Nat.add_mul]; congr 1; omega
            omega
    · rw [key (some A) c hnc hx']
      split <;> simp_all

/-- Parts put together. -/
theorem foldl_set (cs : List Value) : ∀ (z : List Value) (off k : Nat), off + k + cs.length ≤ z.length →
    ((cs.zipIdx k).foldl (fun (a : Array Value) (p : Value × Nat) => a.setIfInBounds (off + p.2) p.1) z.toArray).toList = z.take (off + k) ++ cs ++ z.drop (off + k + cs.length) := by
  induction cs with
  | nil => intro z off k _; simp
  | cons c cs ih =>
    intro z off k hl
    simp at hl
    simp only [List.zipIdx_cons, List.foldl_cons]
    have := ih (z.set (off + k) c) off (k + 1) (by simp; omega)
    rw [show (z.toArray.setIfInBounds (off + k) c) = (z.set (off + k) c).toArray by simp]
    rw [this]
    have e1 : z.set (off + k) c = (z.take (off + k) ++ [c]) ++ z.drop (off + k + 1) := by
      rw [List.set_eq_take_append_cons_drop, if_pos (by omega)]; simp
    have hl1 : (z.take (off + k) ++ [c]).length = off + k + 1 := by simp; omega
    have e2 : (z.set (off + k) c).take (off + (k + 1)) = z.take (off + k) ++ [c] := by
      rw [e1, show off + (k + 1) = (z.take (off + k) ++ [c]).length by rw [hl1]; omega, List.take_left]
    have e3 : (z.set (off + k) c).drop (off + (k + 1) + cs.length) = z.drop (off + k + (cs.length + 1)) := by
      rw [e1, show off + (k + 1) + cs.length = (z.take (off + k) ++ [c]).length + cs.length by rw [hl1]; omega, ← List.drop_drop, List.drop_left, List.drop_drop]
      congr 1; omega
    rw [e2, e3]
    simp

theorem F2.splice {zs zs' cs cs' : List Value} {R : Value → Value → Prop} (hz : F2 R zs zs') (hc : F2 R cs cs') (off : Nat) : F2 R (splice zs off cs) (splice zs' off cs') := by
  unfold Lg.splice
  rw [hc.length]
  exact ((hz.take _).append hc).append (hz.drop _)

theorem fill_run {ev ev' : Operand → Value} {place : Nat → Option (Nat × Nat)} :
    ∀ (ps : List (Nat × Nat × Operand)) (qs : List (Nat × Operand)) (z z' cs : List Value), F2 (CR r) z z' →
      F2 (fun (p : Nat × Nat × Operand) (q : Nat × Operand) => p.2.2 = q.2 ∧ place q.1 = some (p.1, p.2.1)) ps qs → (∀ q ∈ qs, VR r (ev q.2) (ev' q.2)) → fillL ev z ps = some cs →
      ∃ cs', Instr.fill place z'.toArray (qs.map fun q => (q.1, ev' q.2)) = some cs'.toArray ∧ F2 (CR r) cs cs' := by
  intro ps
  induction ps with
  | nil =>
    intro qs z z' cs hz hq _ hf
    obtain rfl := hq.nil_inv
    simp [fillL] at hf
    subst hf
    exact ⟨z', by simp [Instr.fill], hz⟩
  | cons p ps ih =>
    intro qs z z' cs hz hq hv hf
    obtain ⟨off, size, x⟩ := p
    obtain ⟨⟨i, y⟩, qs, rfl, ⟨hxy, hpl⟩, hq'⟩ := hq.cons_inv
    simp only at hxy hpl
    subst hxy
    simp only [fillL] at hf
    split at hf
    · rename_i hc
      obtain ⟨h1, h2, h3⟩ := hc
      have hx : VR r (ev x) (ev' x) := hv (i, x) (by simp)
      have hb := hx.basic_inv h1
      have hcl := hb.cellsL
      have hlen : (cellsL (ev' x)).length = size := by rw [← hcl.length]; exact h2
      have hsz : (ev' x).cells.size = size := by rw [cellsL_eq] at hlen; simpa using hlen
      have hzl : z'.length = z.length := hz.length.symm
      obtain ⟨cs', hrun, hcs⟩ := ih qs (splice z off (cellsL (ev x))) (splice z' off (cellsL (ev' x))) cs (hz.splice hcl off) hq' (fun q hq => hv q (by simp [hq])) hf
      refine ⟨cs', ?_, hcs⟩
      simp only [List.map_cons, Instr.fill, hpl]
      have hsz' : ¬ ((ev' x).cells.size ≠ size ∨ off + (ev' x).cells.size > z'.toArray.size) := by
        simp [hsz]; omega
      rw [if_neg (by simpa using hsz')]
      rw [← hrun]
      congr 1
      apply Array.ext'
      have := foldl_set (cellsL (ev' x)) z' off 0 (by rw [hlen]; omega)
      simp only [Nat.add_zero] at this
      rw [cellsL_eq] at this
      rw [← Array.foldl_toList]
      simp only [Lg.splice]
      rw [cellsL_eq, ← this]
      simp [Array.toList_zipIdx]
    · simp at hf

end Go.Lg
