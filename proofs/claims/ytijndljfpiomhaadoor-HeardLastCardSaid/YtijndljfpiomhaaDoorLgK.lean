/- Every operation in short does in the logical memory what the program's own does in the world. -/
import Derived.Test.YtijndljfpiomhaaDoorLgJ
namespace Go.Lg

variable {P : Program} {base : Nat} {r : Rho} {m : Mem} {w : World}

set_option maxHeartbeats 4000000 in
theorem cop_sound {o : Oper} {lo : LOp} {t : List Value} {a : Act} {K : Value → Mem → Prop} (hc : cop P o.op = some lo) (h : MR base r m w)
    (hv : ∀ x ∈ o.op.operands.toList, VR r (evL t x) (a.eval x)) (hl : LExec P lo (evL t) m K) : Gives P o a.eval w (Sim base r m w K) := by
  obtain ⟨dst, op, type, pos, after, guard⟩ := o
  cases op <;> simp only [cop] at hc <;> (try (simp at hc; done)) <;> (try (simp only [Option.some.injEq] at hc; subst hc; exact (show False from hl).elim))
  case move x =>
    simp at hc; subst hc
    exact .inl ⟨a.eval x, w, by simp [execOp], _, _, _, hl, hv x (by simp [Op.operands]), .refl h⟩
  case assign x =>
    simp at hc; subst hc
    exact .inl ⟨a.eval x, w, by simp [execOp], _, _, _, hl, hv x (by simp [Op.operands]), .refl h⟩
  case pick c x y =>
    simp at hc; subst hc
    simp only [LExec, lrun] at hl
    have h1 := hv c (by simp [Op.operands])
    split at hl
    · rename_i b hb
      rw [hb] at h1
      have e := h1.bool_inv
      cases b with
      | true => exact .inl ⟨a.eval x, w, by simp [execOp, e, asBool], _, _, _, hl.1 rfl, hv x (by simp [Op.operands]), .refl h⟩
      | false => exact .inl ⟨a.eval y, w, by simp [execOp, e, asBool], _, _, _, hl.2 rfl, hv y (by simp [Op.operands]), .refl h⟩
    · exact hl.elim
  case alloc T =>
    cases hz : zeroOf P T with
    | none => simp [hz] at hc
    | some z =>
      simp [hz] at hc; subst hc
      obtain ⟨ti, v, h1, h2, h3, rfl⟩ := zeroOf_some hz
      split at hl
      · exact .of_runs (s := Instr.alloc T true (.tuple #[])) (fun w => by simp [execOp]) (runs_allocV h h1 h2 (flatB_rel h3) hl)
      · exact .of_runs (s := Instr.alloc T true (.tuple #[])) (fun w => by simp [execOp]) (runs_alloc h h1 h2 (flatB_rel h3) hl)
  case box T x =>
    simp at hc; subst hc
    simp only [LExec, lrun] at hl
    exact .of_runs (s := Instr.box T (a.eval x)) (fun w => by simp [execOp]) (runs_newVar h ((hv x (by simp [Op.operands])).basic_inv hl.1) hl.2)
  case build T parts =>
    split at hc
    · rename_i z fs hz hT
      split at hc
      · rename_i hall
        cases hp : structParts P fs parts.toList with
        | none => simp [hp] at hc
        | some ps =>
          simp [hp] at hc; subst hc
          simp only [LExec, lrun] at hl
          obtain ⟨cs, hf, hk⟩ := hl
          obtain ⟨ti, v, h1, h2, h3, rfl⟩ := zeroOf_some hz
          refine .of_runs (s := Instr.build T (parts.map fun (i, x) => (i, a.eval x))) (fun w => by simp [execOp]) (runs_build h h1 h2 (flatB_rel h3) (.inl ⟨fs, hT, ?_, structParts_rel hp⟩) ?_ hf hk)
          · intro f hf
            exact Option.isSome_iff_exists.1 (List.all_eq_true.1 hall f hf)
          · intro q hq
            exact hv q.2 (by simp only [Op.operands, List.mem_map]; exact ⟨q, hq, rfl⟩)
      · simp at hc
    · rename_i z n e hz hT
      split at hc
      · rename_i te hte
        simp at hc; subst hc
        simp only [LExec, lrun] at hl
        obtain ⟨cs, hf, hk⟩ := hl
        obtain ⟨ti, v, h1, h2, h3, rfl⟩ := zeroOf_some hz
        refine .of_runs (s := Instr.build T (parts.map fun (i, x) => (i, a.eval x))) (fun w => by simp [execOp]) (runs_build h h1 h2 (flatB_rel h3) (.inr ⟨n, e, te, hT, hte, arrayParts_rel _ _⟩) ?_ hf hk)
        intro q hq
        exact hv q.2 (by simp only [Op.operands, List.mem_map]; exact ⟨q, hq, rfl⟩)
      · simp at hc
    · simp at hc
  case buildSlice T n parts =>
    split at hc
    · rename_i e hT
      split at hc
      · rename_i te z hte hz
        split at hc
        · rename_i hcond
          simp at hc; subst hc
          simp only [LExec, lrun] at hl
          obtain ⟨cs, hf, hk⟩ := hl
          obtain ⟨ti, v, h1, h2, h3, rfl⟩ := zeroOf_some hz
          rw [hte] at h1
          simp at h1; subst h1
          refine .of_runs (s := Instr.buildSlice T n (parts.map fun (i, x) => (i, a.eval x))) (fun w => by simp [execOp]) (runs_buildSlice h hT hte h2 ?_ hcond.1 (arrayParts_rel _ _) ?_ hf hk ?_)
          · exact .refl fun x hx => .atom (flatA_rel (List.all_eq_true.1 hcond.2 x hx))
          · intro q hq
            exact hv q.2 (by simp only [Op.operands, List.mem_map]; exact ⟨q, hq, rfl⟩)
          · have : ∀ (ps : List (Nat × Nat × Operand)) (z cs : List Value), fillL (evL t) z ps = some cs → cs.length = z.length := by
              intro ps
              induction ps with
              | nil => intro z cs hf; simp [fillL] at hf; subst hf; rfl
              | cons p ps ih =>
                intro z cs hf
                obtain ⟨off, size, x⟩ := p
                simp only [fillL] at hf
                split at hf
                · rename_i hc'
                  rw [ih _ _ hf]
                  simp [splice]; omega
                · simp at hf
            rw [this _ _ _ hf]
            simp [zeroRow]
        · simp at hc
      · simp at hc
    · simp at hc
  case load T x =>
    split at hc
    · rename_i d ti hT hti
      split at hc
      · rename_i hag
        simp at hc; subst hc
        simp only [LExec, lrun] at hl
        split at hl
        · rename_i i o he
          obtain ⟨cs, h1, hk⟩ := hl
          exact .of_runs (s := Instr.loadAt T (a.eval x)) (fun w => by simp [execOp]) (runs_loadN h hT hag hti (hv x (by simp [Op.operands])) he h1 hk)
        · exact hl.elim
      · rename_i hag
        simp at hc; subst hc
        simp only [LExec, lrun] at hl
        split at hl
        · rename_i i o he
          obtain ⟨v, h1, hk⟩ := hl
          exact .of_runs (s := Instr.loadAt T (a.eval x)) (fun w => by simp [execOp]) (runs_load h hT (by simpa using hag) (hv x (by simp [Op.operands])) he h1 hk)
        · exact hl.elim
    · simp at hc
  case store T p x =>
    cases hti : P.info? T with
    | none => simp [hti] at hc
    | some ti =>
      simp [hti] at hc; subst hc
      simp only [LExec, lrun] at hl
      split at hl
      · rename_i i o he
        obtain ⟨k, hm, h1, hk⟩ := hl
        obtain ⟨w', hrun, hs⟩ := runs_store (P := P) h hti (hv p (by simp [Op.operands])) (hv x (by simp [Op.operands])) he hm h1 hk
        exact .inr (.inl ⟨w', by simp [execOp, hrun], hs⟩)
      · exact hl.elim
  case nilCheck x =>
    simp at hc; subst hc
    simp only [LExec, lrun] at hl
    have h1 := hv x (by simp [Op.operands])
    split at hl
    · rename_i p hp
      rw [hp] at h1
      have : ∃ p', a.eval x = .pointer (some p') := by
        generalize a.eval x = v' at h1
        rcases h1 with ⟨⟨⟨h1⟩⟩⟩; cases h1; exact ⟨_, rfl⟩
      obtain ⟨p', e⟩ := this
      rw [e] at h1
      exact .inl ⟨.pointer (some p'), w, by simp [execOp, e], _, _, _, hl, h1, .refl h⟩
    · exact hl.elim
  case binOp op T x y yT =>
    have hx := hv x (by simp [Op.operands])
    have hy := hv y (by simp [Op.operands])
    split at hc
    · rename_i hop
      have hop' : op = .eql ∨ op = .neq := by cases op <;> simp_all [isEqOp]
      split at hc
      · rename_i c hcl
        split at hc
        · rename_i hodd
          simp at hc; subst hc
          simp only [LExec, lrun] at hl
          obtain ⟨v, h1, hk⟩ := hl
          exact gives_bin (runs_eq1 h hop' hodd (leafC_ok hcl).1 hx hy h1 hk)
        · simp at hc; subst hc
          simp only [LExec, lrun] at hl
          obtain ⟨v, h1, hk⟩ := hl
          exact gives_bin (runs_bin h hx hy h1 hk)
      · rename_i hcl
        split at hc
        · rename_i hg
          cases hls : leavesOf P 20 T 0 with
          | none => simp [hls] at hc
          | some ls =>
            simp [hls] at hc; subst hc
            simp only [LExec, lrun] at hl
            obtain ⟨v, h1, hk⟩ := hl
            exact gives_bin (runs_eqN h hop' hls hcl hg hx hy h1 hk)
        · simp at hc
    · simp at hc; subst hc
      simp only [LExec, lrun] at hl
      obtain ⟨v, h1, hk⟩ := hl
      exact gives_bin (runs_bin h hx hy h1 hk)
  case unOp op T x =>
    simp at hc; subst hc
    simp only [LExec, lrun] at hl
    obtain ⟨v, h1, hk⟩ := hl
    exact .of_runs (s := Op.unary op (a.eval x)) (fun w => by simp [execOp]) (runs_un h (hv x (by simp [Op.operands])) h1 hk)
  case convert S D x =>
    have hx := hv x (by simp [Op.operands])
    split at hc
    · rename_i k1 k hS hD
      simp at hc; subst hc
      simp only [LExec, lrun] at hl
      split at hl
      · rename_i k' n he
        exact .of_runs (s := convert S D (a.eval x)) (fun w => by simp [execOp]) (runs_conv h hS hD hx he hl)
      · exact hl.elim
    · rename_i hS hD
      simp at hc; subst hc
      simp only [LExec, lrun] at hl
      split at hl
      · rename_i s he
        exact .of_runs (s := convert S D (a.eval x)) (fun w => by simp [execOp]) (runs_convStr h hS hD hx he hl)
      · exact hl.elim
    · rename_i e hS hD
      split at hc
      · rename_i h8
        simp at hc; subst hc
        simp only [LExec, lrun] at hl
        split at hl
        · rename_i s he
          exact .of_runs (s := convert S D (a.eval x)) (fun w => by simp [execOp]) (runs_s2b h hS (isU8_some h8) hD hx he hl)
        · exact hl.elim
      · simp at hc
    · rename_i e hS hD
      split at hc
      · rename_i h8
        simp at hc; subst hc
        simp only [LExec, lrun] at hl
        split at hl
        · rename_i n n' he
          exact .of_runs (s := convert S D (a.eval x)) (fun w => by simp [execOp]) (runs_b2s_nil h hS (isU8_some h8) hD hx he hl)
        · rename_i i o n n' he
          obtain ⟨l, h1, hk⟩ := hl
          exact .of_runs (s := convert S D (a.eval x)) (fun w => by simp [execOp]) (runs_b2s h hS (isU8_some h8) hD hx he h1 hk)
        · exact hl.elim
      · simp at hc
    · rename_i t hS hD
      split at hc
      · rename_i j ht
        split at hc
        · rename_i hj
          simp at hc; subst hc
          simp only [LExec, lrun] at hl
          exact .of_runs (s := convert S D (a.eval x)) (fun w => by simp [execOp]) (runs_toU h hS hD ht hj hx hl)
        · simp at hc
      · simp at hc
    · rename_i u hS hD
      split at hc
      · rename_i j hu
        split at hc
        · rename_i hlies
          simp at hc; subst hc
          simp only [LExec, lrun] at hl
          exact .of_runs (s := convert S D (a.eval x)) (fun w => by simp [execOp]) (runs_ofU h hS hD hu hlies hx hl)
        · simp at hc
      · simp at hc
    · simp at hc
  case makeFunc fn first captured =>
    simp at hc; subst hc
    simp only [LExec, lrun] at hl
    obtain ⟨⟨h1, h2⟩, hk⟩ := hl
    have a1 := atoms_of (r := r) (ev := evL t) (ev' := a.eval) (fun x hx => hv x (by simp [Op.operands]; exact .inl (by simpa using hx))) h1
    have a2 := atoms_of (r := r) (ev := evL t) (ev' := a.eval) (fun x hx => hv x (by simp [Op.operands]; exact .inr (by simpa using hx))) h2
    refine .inl ⟨.func fn (first.map a.eval) (captured.map a.eval), w, by simp [execOp, Instr.makeFunc], _, _, _, hk, ?_, .refl h⟩
    have := CR.func (fn := fn) a1 a2
    have e : ∀ (xs : Array Operand) (f : Operand → Value), Array.map f xs = (List.map f xs.toList).toArray := fun xs f => by apply Array.ext'; simp
    rw [e first, e captured]
    exact VR.base (.cell this)
  case slice T x lo hi mx =>
    cases mx with
    | some _ => simp at hc
    | none =>
      simp only at hc
      have hx := hv x (by simp [Op.operands])
      have hlo : ∀ y, lo = some y → VR r (evL t y) (a.eval y) := fun y hy => hv y (by simp [Op.operands, hy])
      have hhi : ∀ y, hi = some y → VR r (evL t y) (a.eval y) := fun y hy => hv y (by simp [Op.operands, hy])
      split at hc
      · rename_i hT
        simp at hc; subst hc
        simp only [LExec, lrun] at hl
        split at hl
        · rename_i s he
          obtain ⟨b, h1, c, h2, hk⟩ := hl
          exact .of_runs (s := Instr.sliceAt T (a.eval x) (lo.map a.eval) (hi.map a.eval) none) (fun w => by simp [execOp]) (runs_sliceStr h hT hx hlo hhi he h1 h2 hk)
        · exact hl.elim
      · rename_i e hT
        split at hc
        · rename_i te hte
          simp at hc; subst hc
          simp only [LExec, lrun] at hl
          split at hl
          · rename_i p n n' he
            obtain ⟨b, h1, c, h2, hk⟩ := hl
            exact .of_runs (s := Instr.sliceAt T (a.eval x) (lo.map a.eval) (hi.map a.eval) none) (fun w => by simp [execOp]) (runs_sliceSl h hT hte hx hlo hhi he h1 h2 hk)
          · exact hl.elim
        · simp at hc
      · rename_i n e hT
        split at hc
        · rename_i te hte
          simp at hc; subst hc
          simp only [LExec, lrun] at hl
          split at hl
          · rename_i i o he
            obtain ⟨b, h1, c, h2, k, hm, h3, hk⟩ := hl
            exact .of_runs (s := Instr.sliceAt T (a.eval x) (lo.map a.eval) (hi.map a.eval) none) (fun w => by simp [execOp]) (runs_sliceArr h hT hte hx hlo hhi he h1 h2 hm h3 hk)
          · exact hl.elim
        · simp at hc
      · simp at hc
  case fieldAddr S x f =>
    have hx := hv x (by simp [Op.operands])
    split at hc
    · rename_i fs hS
      split at hc
      · rename_i fl hfl
        split at hc
        · rename_i ti hti
          split at hc
          · rename_i hz
            simp at hc; subst hc
            simp only [LExec, lrun] at hl
            split at hl
            · rename_i i o he
              exact .of_runs (s := Instr.fieldAt S (a.eval x) f) (fun w => by simp [execOp]) (runs_fieldAddr h hS hfl hti hz hx he hl)
            · exact hl.elim
          · simp at hc
        · simp at hc
      · simp at hc
    · simp at hc
  case field T x f =>
    have hx := hv x (by simp [Op.operands])
    split at hc
    · rename_i fs hT
      split at hc
      · rename_i fl hfl
        split at hc
        · rename_i d ti hd hti
          split at hc
          · rename_i hag
            simp at hc; subst hc
            simp only [LExec, lrun] at hl
            split at hl
            · rename_i cs he
              exact .of_runs (s := Instr.field T (a.eval x) f) (fun w => by simp [execOp]) (runs_fieldN h hT hfl hd hag hti hx (cs := cs.toList) (by simpa using he) hl)
            · exact hl.elim
          · rename_i hag
            simp at hc; subst hc
            simp only [LExec, lrun] at hl
            split at hl
            · rename_i cs he
              obtain ⟨v, h1, hk⟩ := hl
              exact .of_runs (s := Instr.field T (a.eval x) f) (fun w => by simp [execOp]) (runs_field h hT hfl hd (by simpa using hag) hx (cs := cs.toList) (by simpa using he) h1 hk)
            · exact hl.elim
        · simp at hc
      · simp at hc
    · simp at hc
  case indexAddr T x i =>
    have hx := hv x (by simp [Op.operands])
    have hi := hv i (by simp [Op.operands])
    split at hc
    · rename_i n e hT
      split at hc
      · rename_i te hte
        simp at hc; subst hc
        simp only [LExec, lrun] at hl
        split at hl
        · rename_i b o k j he hj
          exact .of_runs (s := Instr.indexAt T (a.eval x) (a.eval i)) (fun w => by simp [execOp]) (runs_idxAddrA h hT hte hx hi he hj hl.1 hl.2)
        · exact hl.elim
      · simp at hc
    · rename_i e hT
      split at hc
      · rename_i te hte
        simp at hc; subst hc
        simp only [LExec, lrun] at hl
        split at hl
        · rename_i b o n n' k j he hj
          exact .of_runs (s := Instr.indexAt T (a.eval x) (a.eval i)) (fun w => by simp [execOp]) (runs_idxAddrS h hT hte hx hi he hj hl.1 hl.2)
        · exact hl.elim
      · simp at hc
    · simp at hc
  case index T x i =>
    have hx := hv x (by simp [Op.operands])
    have hi := hv i (by simp [Op.operands])
    split at hc
    · rename_i hT
      simp at hc; subst hc
      simp only [LExec, lrun] at hl
      split at hl
      · rename_i s k j he hj
        obtain ⟨h0, b, h1, hk⟩ := hl
        exact .of_runs (s := Instr.index T (a.eval x) (a.eval i)) (fun w => by simp [execOp]) (runs_idxStr h hT hx hi he hj h0 h1 hk)
      · exact hl.elim
    · rename_i n e hT
      split at hc
      · rename_i d te hd hte
        split at hc
        · rename_i hag
          simp at hc; subst hc
          simp only [LExec, lrun] at hl
          split at hl
          · rename_i cs k j he hj
            exact .of_runs (s := Instr.index T (a.eval x) (a.eval i)) (fun w => by simp [execOp]) (runs_idxN h hT hd hag hte hx hi (cs := cs.toList) (by simpa using he) hj hl.1 hl.2)
          · exact hl.elim
        · rename_i hag
          split at hc
          · rename_i hsz
            simp at hc; subst hc
            simp only [LExec, lrun] at hl
            split at hl
            · rename_i cs k j he hj
              obtain ⟨h0, v, h1, hk⟩ := hl
              exact .of_runs (s := Instr.index T (a.eval x) (a.eval i)) (fun w => by simp [execOp]) (runs_idx h hT hd (by simpa using hag) hte hsz hx hi (cs := cs.toList) (by simpa using he) hj h0 h1 hk)
            · exact hl.elim
          · simp at hc
      · simp at hc
    · simp at hc
  case extract x i =>
    simp at hc; subst hc
    simp only [LExec, lrun] at hl
    split at hl
    · rename_i vs he
      obtain ⟨v, h1, hk⟩ := hl
      exact .of_runs (s := Instr.extract (a.eval x) i) (fun w => by simp [execOp]) (runs_extract h (hv x (by simp [Op.operands])) he h1 hk)
    · exact hl.elim
  case makeSlice T x y =>
    split at hc
    · rename_i e hT
      split at hc
      · rename_i te z hte hz
        split at hc
        · rename_i hcond
          simp at hc; subst hc
          simp only [LExec, lrun] at hl
          obtain ⟨ti, v, h1, h2, h3, rfl⟩ := zeroOf_some hz
          rw [hte] at h1
          simp at h1; subst h1
          exact .of_runs (s := Instr.makeSlice T (a.eval x) (a.eval y)) (fun w => by simp [execOp]) (runs_makeSlice h hT hte h2 hcond.1 (zeroRow_rel hcond.2) (hv x (by simp [Op.operands])) (hv y (by simp [Op.operands])) hl)
        · simp at hc
      · simp at hc
    · simp at hc
  case call c =>
    obtain ⟨callee, args, ts⟩ := c
    have hargs : ∀ x ∈ args.toList, VR r (evL t x) (a.eval x) := fun x hx => hv x (by simp [Op.operands, Call.operands]; exact .inr (by simpa using hx))
    have hmap : (args.map a.eval) = (args.toList.map a.eval).toArray := by apply Array.ext'; simp
    cases callee with
    | builtin b => exact cbuiltin_sound hc h hargs hl
    | invoke q n => simp only [Option.some.injEq] at hc; subst hc; exact (show False from hl).elim
    | value x =>
      cases x with
      | func f =>
        simp only at hc
        split at hc
        · rename_i hcall
          simp at hc; subst hc
          simp only [LExec] at hl
          have hcl := hl base r w (args.toList.map a.eval) h (F2.map_same hargs)
          refine .inr (.inr ⟨f, (args.toList.map a.eval).toArray, w, ?_, hcl⟩)
          simp only [execOp, resolve, Sem.run_bind, Act.eval, Deferred.ofValue, Sem.run_pure, Result.andThen_ok, invoke]
          rw [show (#[] ++ Array.map a.eval args ++ #[]) = (args.toList.map a.eval).toArray by rw [hmap]; simp, callFunc_run hcall]
        · split at hc
          · rename_i o hp
            simp only [Option.some.injEq] at hc; subst hc
            exact plainFn_sound hp h hargs hl
          · simp only [Option.some.injEq] at hc; subst hc; exact (show False from hl).elim
      | tmp i =>
        simp at hc; subst hc
        exact callv_sound (x := .tmp i) h (hv _ (by simp [Op.operands, Call.operands])) hargs hl
      | const v =>
        simp at hc; subst hc
        exact callv_sound (x := .const v) h (hv _ (by simp [Op.operands, Call.operands])) hargs hl
      | global g =>
        simp at hc; subst hc
        exact callv_sound (x := .global g) h (hv _ (by simp [Op.operands, Call.operands])) hargs hl

end Go.Lg
