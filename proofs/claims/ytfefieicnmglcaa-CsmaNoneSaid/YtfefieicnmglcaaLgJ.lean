/- The operations in short do in the logical memory what the program's own do in the world. -/
import Derived.Test.YtfefieicnmglcaaLgI
namespace Go.Lg

variable {P : Program} {base : Nat} {r : Rho} {m : Mem} {w : World}

theorem zeroOf_some {T : TypeId} {z : List Value} (h : zeroOf P T = some z) : ∃ ti v, P.info? T = some ti ∧ ti.zero = some v ∧ flatB v = true ∧ z = cellsL v := by
  unfold zeroOf at h
  split at h
  · rename_i ti hti
    split at h
    · rename_i v hv
      split at h
      · rename_i hf; simp at h; exact ⟨ti, v, hti, hv, hf, h.symm⟩
      · simp at h
    · simp at h
  · simp at h

theorem isU8_some {d : Option TypeDesc} (h : isU8 d = true) : d = some (.int .u8) := by
  unfold isU8 at h; split at h
  · rfl
  · cases h

theorem atom_of {v v' : Value} (h : VR r v v') (ha : isAtom v = true) : AR r v v' := by
  cases h with
  | base h =>
    cases h with
    | cell h => cases h with | atom h => exact h | func _ _ => simp [isAtom] at ha
    | agg _ => simp [isAtom] at ha
  | tuple _ => simp [isAtom] at ha

theorem atoms_of {ev ev' : Operand → Value} : ∀ {xs : List Operand}, (∀ x ∈ xs, VR r (ev x) (ev' x)) → (xs.map ev).all isAtom = true → F2 (AR r) (xs.map ev) (xs.map ev')
  | [], _, _ => .nil
  | x :: xs, h, ha => by
    simp at ha
    exact .cons (atom_of (h x (by simp)) ha.1) (atoms_of (fun y hy => h y (by simp [hy])) (by simpa using ha.2))

theorem AR.toVR {v v' : Value} (h : AR r v v') : VR r v v' := .atom h

theorem callFunc_run {f : FuncId} (hc : callable P f = true) (args : Array Value) : (callFunc f args).run P w = .ok (.enter f args) w := by
  unfold callable at hc
  split at hc
  · rename_i fn hf
    simp at hc
    have hn : (fn.name == "runtime.NumGoroutine") = false := by simpa using hc.2
    have hb : fn.body.isNone = false := by cases h : fn.body <;> simp_all
    simp only [callFunc, Sem.run_bind, run_program, Result.andThen_ok, hf, hn, hb, Bool.false_eq_true, if_false, Sem.run_pure]
  · simp at hc

theorem gives_bin {dst type pos after guard T yT} {op : BinOp} {x y : Operand} {a : Act} {K : Value → Mem → Prop} (hr : Runs P (do eqGuard op T x y (a.eval x) (a.eval y); binOp op T (a.eval x) (a.eval y)) w base r m K) :
    Gives P ⟨dst, .binOp op T x y yT, type, pos, after, guard⟩ a.eval w (Sim base r m w K) :=
  .of_runs (fun w => by simp only [execOp, Sem.run_bind, Sem.run_pure]) hr

theorem callv_sound {dst type pos after guard ts} {x : Operand} {args : Array Operand} {t : List Value} {a : Act} {K : Value → Mem → Prop} (h : MR base r m w)
    (h1 : VR r (evL t x) (a.eval x)) (hargs : ∀ x ∈ args.toList, VR r (evL t x) (a.eval x)) (hl : LExec P (.callv x args.toList) (evL t) m K) :
    Gives P ⟨dst, .call ⟨.value x, args, ts⟩, type, pos, after, guard⟩ a.eval w (Sim base r m w K) := by
  have hmap : (args.map a.eval) = (args.toList.map a.eval).toArray := by apply Array.ext'; simp
  simp only [LExec] at hl
  split at hl
  · rename_i f first cap he
    obtain ⟨hcall, hl⟩ := hl
    rw [he] at h1
    obtain ⟨f', c', e, hf, hcp⟩ := VR.func_inv (f := first.toList) (c := cap.toList) (by simpa using h1)
    have hcl := hl base r w (f' ++ args.toList.map a.eval ++ c') h (((hf.mono fun _ _ => AR.toVR).append (F2.map_same hargs)).append (hcp.mono fun _ _ => AR.toVR))
    refine .inr (.inr ⟨f, (f' ++ args.toList.map a.eval ++ c').toArray, w, ?_, hcl⟩)
    simp only [execOp, resolve, Sem.run_bind, e, Deferred.ofValue, Sem.run_pure, Result.andThen_ok, invoke]
    rw [show (f'.toArray ++ Array.map a.eval args ++ c'.toArray) = (f' ++ args.toList.map a.eval ++ c').toArray by rw [hmap]; simp, callFunc_run hcall]
  · exact hl.elim

theorem cbuiltin_sound {dst type pos after guard ts} {b : Builtin} {args : Array Operand} {lo : LOp} {t : List Value} {a : Act} {K : Value → Mem → Prop} (hc : cbuiltin P b ts args = some lo) (h : MR base r m w)
    (hargs : ∀ x ∈ args.toList, VR r (evL t x) (a.eval x)) (hl : LExec P lo (evL t) m K) :
    Gives P ⟨dst, .call ⟨.builtin b, args, ts⟩, type, pos, after, guard⟩ a.eval w (Sim base r m w K) := by
  have hmap : (args.map a.eval) = (args.toList.map a.eval).toArray := by apply Array.ext'; simp
  unfold cbuiltin at hc
  split at hc
  · split at hc
    · rename_i T x hts hxs
      have hx := hargs x (by rw [hxs]; simp)
      have e1 : ts = #[T] := by apply Array.ext'; simpa using hts
      have e2 : args = #[x] := by apply Array.ext'; simpa using hxs
      subst e1 e2
      have hrun : ∀ w, (execOp a.eval ⟨dst, .call ⟨.builtin .len, #[x], #[T]⟩, type, pos, after, guard⟩).run P w = ((Builtin.len_ #[T] type #[a.eval x]).run P w).andThen fun v w' => .ok (.value v) w' := fun w => by
        simp [execOp, resolve, invoke, builtin]
      split at hc
      · rename_i hT
        simp at hc; subst hc
        simp only [LExec, lrun] at hl
        split at hl
        · rename_i s he; exact .of_runs hrun (runs_lenStr h hT hx he hl)
        · exact hl.elim
      · rename_i e hT
        simp at hc; subst hc
        simp only [LExec, lrun] at hl
        split at hl
        · rename_i p n c he; exact .of_runs hrun (runs_lenSl h hT hx he hl)
        · exact hl.elim
      · rename_i n e hT
        simp at hc; subst hc
        exact .of_runs hrun (runs_lenC h (.inl hT) hl)
      · rename_i q hT
        split at hc
        · rename_i n e hq
          simp at hc; subst hc
          exact .of_runs hrun (runs_lenC h (.inr ⟨q, hT, hq⟩) hl)
        · simp at hc
      · simp at hc
    · simp at hc
  · split at hc
    · rename_i S X x y hts hxs
      have hx := hargs x (by rw [hxs]; simp)
      have hy := hargs y (by rw [hxs]; simp)
      have e1 : ts = #[S, X] := by apply Array.ext'; simpa using hts
      have e2 : args = #[x, y] := by apply Array.ext'; simpa using hxs
      subst e1 e2
      split at hc
      · rename_i e dX hS hX
        split at hc
        · rename_i te hte
          split at hc
          · rename_i z hz
            split at hc
            · rename_i hcond
              simp at hc; subst hc
              simp only [LExec, lrun] at hl
              obtain ⟨k, h1, new, h2, hk⟩ := hl
              refine .of_runs (s := Builtin.append_ #[S, X] type #[a.eval x, a.eval y]) (fun w => by simp [execOp, resolve, invoke, builtin]) (runs_append h hS hX hcond.1 hte hz hcond.2 hx hy h1 h2 hk)
            · simp at hc
          · simp at hc
        · simp at hc
      · simp at hc
    · simp at hc
  · simp at hc; subst hc
    simp only [LExec, lrun] at hl
    split at hl
    · rename_i v r' he
      obtain ⟨u, h1, hk⟩ := hl
      refine .of_runs (s := Builtin.min_ ts type (args.toList.map a.eval).toArray) (fun w => by simp only [← hmap]; simp [execOp, resolve, invoke, builtin]) (runs_min h (v := v) (vs := r') (by rw [← he]; exact F2.map_same hargs) h1 hk)
    · exact hl.elim
  · simp at hc; subst hc
    simp only [LExec, lrun] at hl
    split at hl
    · rename_i v r' he
      obtain ⟨u, h1, hk⟩ := hl
      refine .of_runs (s := Builtin.max_ ts type (args.toList.map a.eval).toArray) (fun w => by simp only [← hmap]; simp [execOp, resolve, invoke, builtin]) (runs_max h (v := v) (vs := r') (by rw [← he]; exact F2.map_same hargs) h1 hk)
    · exact hl.elim
  · simp at hc

end Go.Lg
