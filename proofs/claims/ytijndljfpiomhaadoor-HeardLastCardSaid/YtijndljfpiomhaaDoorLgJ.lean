/- The operations in short do in the logical memory what the program's own do in the world. -/
import Derived.Test.YtijndljfpiomhaaDoorLgI
set_option linter.unusedVariables false
set_option linter.unusedSimpArgs false
namespace Go.Lg

variable {P : Program} {base : Nat} {r : Rho} {m : Mem} {w : World}

theorem zeroOf_some {T : TypeId} {z : List Value} (h : zeroOf P T = some z) : ∃ ti v, P.info? T = some ti ∧ ti.zero = some v ∧ flatB v = true ∧ z = cellsL v := by
  unfold zeroOf at h
  split at h
  · rename_i ti hti
    split at h
    · rename_i v hv
      split at h
      · rename_i hf; simp at h; exact ⟨ti, v, hti, hv, hf, h.symm⟩
      · simp at h
    · simp at h
  · simp at h

theorem isU8_some {d : Option TypeDesc} (h : isU8 d = true) : d = some (.int .u8) := by
  unfold isU8 at h; split at h
  · rfl
  · cases h

theorem atom_of {v v' : Value} (h : VR r v v') (ha : isAtom v = true) : AR r v v' := by
  cases h with
  | base h =>
    cases h with
    | cell h => cases h with | atom h => exact h | func _ _ => simp [isAtom] at ha
    | agg _ => simp [isAtom] at ha
  | tuple _ => simp [isAtom] at ha

theorem atoms_of {ev ev' : Operand → Value} : ∀ {xs : List Operand}, (∀ x ∈ xs, VR r (ev x) (ev' x)) → (xs.map ev).all isAtom = true → F2 (AR r) (xs.map ev) (xs.map ev')
  | [], _, _ => .nil
  | x :: xs, h, ha => by
    simp at ha
    exact .cons (atom_of (h x (by simp)) ha.1) (atoms_of (fun y hy => h y (by simp [hy])) (by simpa using ha.2))

theorem AR.toVR {v v' : Value} (h : AR r v v') : VR r v v' := .atom h

theorem zeroRow_rel {z : List Value} (hz : z.all flatA = true) (n : Nat) : F2 (CR r) (zeroRow z n) (zeroRow z n) := by
  by_cases h0 : z = []
  · subst h0
    refine .refl fun x hx => ?_
    unfold zeroRow at hx
    obtain ⟨i, _, rfl⟩ := List.mem_map.1 hx
    exact .atom (by simp [default, instInhabitedValue, instInhabitedValue.default]; exact .bool _)
  · refine .refl fun x hx => .atom (flatA_rel ?_)
    unfold zeroRow at hx
    obtain ⟨i, _, rfl⟩ := List.mem_map.1 hx
    have hl : 0 < z.length := List.length_pos_iff.2 h0
    have hlt : i % z.length < z.length := Nat.mod_lt _ hl
    have : z.toArray[i % z.length]! = z[i % z.length] := by simp [hlt]
    rw [this]
    exact List.all_eq_true.1 hz _ (List.getElem_mem hlt)

theorem callFunc_run {f : FuncId} (hc : callable P f = true) (args : Array Value) : (callFunc f args).run P w = .ok (.enter f args) w := by
  unfold callable at hc
  split at hc
  · rename_i fn hf
    simp at hc
    have hn : (fn.name == "runtime.NumGoroutine") = false := by simpa using hc.2
    have hb : fn.body.isNone = false := by cases h : fn.body <;> simp_all
    simp only [callFunc, Sem.run_bind, run_program, Result.andThen_ok, hf, hn, hb, Bool.false_eq_true, if_false, Sem.run_pure]
  · simp at hc

theorem gives_bin {dst type pos after guard T yT} {op : BinOp} {x y : Operand} {a : Act} {K : Value → Mem → Prop} (hr : Runs P (do eqGuard op T x y (a.eval x) (a.eval y); binOp op T (a.eval x) (a.eval y)) w base r m K) :
    Gives P ⟨dst, .binOp op T x y yT, type, pos, after, guard⟩ a.eval w (Sim base r m w K) :=
  .of_runs (fun w => by simp only [execOp, Sem.run_bind, Sem.run_pure]) hr

theorem callv_sound {dst type pos after guard ts} {x : Operand} {args : Array Operand} {t : List Value} {a : Act} {K : Value → Mem → Prop} (h : MR base r m w)
    (h1 : VR r (evL t x) (a.eval x)) (hargs : ∀ x ∈ args.toList, VR r (evL t x) (a.eval x)) (hl : LExec P (.callv x args.toList) (evL t) m K) :
    Gives P ⟨dst, .call ⟨.value x, args, ts⟩, type, pos, after, guard⟩ a.eval w (Sim base r m w K) := by
  have hmap : (args.map a.eval) = (args.toList.map a.eval).toArray := by apply Array.ext'; simp
  simp only [LExec] at hl
  split at hl
  · rename_i f first cap he
    obtain ⟨hcall, hl⟩ := hl
    rw [he] at h1
    obtain ⟨f', c', e, hf, hcp⟩ := VR.func_inv (f := first.toList) (c := cap.toList) (by simpa using h1)
    have hcl := hl base r w (f' ++ args.toList.map a.eval ++ c') h (((hf.mono fun _ _ => AR.toVR).append (F2.map_same hargs)).append (hcp.mono fun _ _ => AR.toVR))
    refine .inr (.inr ⟨f, (f' ++ args.toList.map a.eval ++ c').toArray, w, ?_, hcl⟩)
    simp only [execOp, resolve, Sem.run_bind, e, Deferred.ofValue, Sem.run_pure, Result.andThen_ok, invoke]
    rw [show (f'.toArray ++ Array.map a.eval args ++ c'.toArray) = (f' ++ args.toList.map a.eval ++ c').toArray by rw [hmap]; simp, callFunc_run hcall]
  · exact hl.elim

theorem cbuiltin_sound {dst type pos after guard ts} {b : Builtin} {args : Array Operand} {lo : LOp} {t : List Value} {a : Act} {K : Value → Mem → Prop} (hc : cbuiltin P b ts args = some lo) (h : MR base r m w)
    (hargs : ∀ x ∈ args.toList, VR r (evL t x) (a.eval x)) (hl : LExec P lo (evL t) m K) :
    Gives P ⟨dst, .call ⟨.builtin b, args, ts⟩, type, pos, after, guard⟩ a.eval w (Sim base r m w K) := by
  have hmap : (args.map a.eval) = (args.toList.map a.eval).toArray := by apply Array.ext'; simp
  unfold cbuiltin at hc
  split at hc
  · split at hc
    · rename_i T x hts hxs
      have hx := hargs x (by rw [hxs]; simp)
      have e1 : ts = #[T] := by apply Array.ext'; simpa using hts
      have e2 : args = #[x] := by apply Array.ext'; simpa using hxs
      subst e1 e2
      have hrun : ∀ w, (execOp a.eval ⟨dst, .call ⟨.builtin .len, #[x], #[T]⟩, type, pos, after, guard⟩).run P w = ((Builtin.len_ #[T] type #[a.eval x]).run P w).andThen fun v w' => .ok (.value v) w' := fun w => by
        simp [execOp, resolve, invoke, builtin]
      split at hc
      · rename_i hT
        simp at hc; subst hc
        simp only [LExec, lrun] at hl
        split at hl
        · rename_i s he; exact .of_runs hrun (runs_lenStr h hT hx he hl)
        · exact hl.elim
      · rename_i e hT
        simp at hc; subst hc
        simp only [LExec, lrun] at hl
        split at hl
        · rename_i p n c he; exact .of_runs hrun (runs_lenSl h hT hx he hl)
        · exact hl.elim
      · rename_i n e hT
        simp at hc; subst hc
        exact .of_runs hrun (runs_lenC h (.inl hT) hl)
      · rename_i q hT
        split at hc
        · rename_i n e hq
          simp at hc; subst hc
          exact .of_runs hrun (runs_lenC h (.inr ⟨q, hT, hq⟩) hl)
        · simp at hc
      · simp at hc
    · simp at hc
  · split at hc
    · rename_i S X x y hts hxs
      have hx := hargs x (by rw [hxs]; simp)
      have hy := hargs y (by rw [hxs]; simp)
      have e1 : ts = #[S, X] := by apply Array.ext'; simpa using hts
      have e2 : args = #[x, y] := by apply Array.ext'; simpa using hxs
      subst e1 e2
      split at hc
      · rename_i e dX hS hX
        split at hc
        · rename_i te hte
          split at hc
          · rename_i z hz
            split at hc
            · rename_i hcond
              simp at hc; subst hc
              simp only [LExec, lrun] at hl
              obtain ⟨k, h1, new, h2, hk⟩ := hl
              refine .of_runs (s := Builtin.append_ #[S, X] type #[a.eval x, a.eval y]) (fun w => by simp [execOp, resolve, invoke, builtin]) (runs_append h hS hX hcond.1 hte hz hcond.2 hx hy h1 h2 hk)
            · simp at hc
          · simp at hc
        · simp at hc
      · simp at hc
    · simp at hc
  · simp at hc; subst hc
    simp only [LExec, lrun] at hl
    split at hl
    · rename_i v r' he
      obtain ⟨u, h1, hk⟩ := hl
      refine .of_runs (s := Builtin.min_ ts type (args.toList.map a.eval).toArray) (fun w => by simp only [← hmap]; simp [execOp, resolve, invoke, builtin]) (runs_min h (v := v) (vs := r') (by rw [← he]; exact F2.map_same hargs) h1 hk)
    · exact hl.elim
  · simp at hc; subst hc
    simp only [LExec, lrun] at hl
    split at hl
    · rename_i v r' he
      obtain ⟨u, h1, hk⟩ := hl
      refine .of_runs (s := Builtin.max_ ts type (args.toList.map a.eval).toArray) (fun w => by simp only [← hmap]; simp [execOp, resolve, invoke, builtin]) (runs_max h (v := v) (vs := r') (by rw [← he]; exact F2.map_same hargs) h1 hk)
    · exact hl.elim
  · -- copy
    split at hc
    · rename_i S X x y hts hxs
      have hx := hargs x (by rw [hxs]; simp)
      have hy := hargs y (by rw [hxs]; simp)
      have e1 : ts = #[S, X] := by apply Array.ext'; simpa using hts
      have e2 : args = #[x, y] := by apply Array.ext'; simpa using hxs
      subst e1 e2
      split at hc
      · rename_i e hS
        split at hc
        · rename_i te hte
          simp at hc; subst hc
          simp only [LExec, lrun] at hl
          exact .of_runs (s := Builtin.copy_ #[S, X] type #[a.eval x, a.eval y]) (fun w => by simp [execOp, resolve, invoke, builtin]) (runs_copy h hS hte hx hy hl)
        · simp at hc
      · simp at hc
    · simp at hc
  · -- clear
    split at hc
    · rename_i S x hts hxs
      have hx := hargs x (by rw [hxs]; simp)
      have e1 : ts = #[S] := by apply Array.ext'; simpa using hts
      have e2 : args = #[x] := by apply Array.ext'; simpa using hxs
      subst e1 e2
      split at hc
      · rename_i e hS
        split at hc
        · rename_i z hz
          split at hc
          · rename_i hfl
            simp at hc; subst hc
            simp only [LExec, lrun] at hl
            obtain ⟨ti, v, h1, h2, h3, rfl⟩ := zeroOf_some hz
            exact .of_runs (s := Builtin.clear_ #[S] type #[a.eval x]) (fun w => by simp [execOp, resolve, invoke, builtin]) (runs_clear h hS h1 h2 hx (zeroRow_rel hfl) hl)
          · simp at hc
        · simp at hc
      · simp at hc
    · simp at hc
  · -- cap
    split at hc
    · rename_i S x hts hxs
      have hx := hargs x (by rw [hxs]; simp)
      have e1 : ts = #[S] := by apply Array.ext'; simpa using hts
      have e2 : args = #[x] := by apply Array.ext'; simpa using hxs
      subst e1 e2
      split at hc
      · rename_i e hS
        simp at hc; subst hc
        simp only [LExec, lrun] at hl
        exact .of_runs (s := Builtin.cap_ #[S] type #[a.eval x]) (fun w => by simp [execOp, resolve, invoke, builtin]) (runs_capNil h rfl hS hx hl)
      · simp at hc
    · simp at hc
  · -- unsafe.SliceData
    split at hc
    · rename_i x hxs
      have hx := hargs x (by rw [hxs]; simp)
      have e2 : args = #[x] := by apply Array.ext'; simpa using hxs
      subst e2
      simp at hc; subst hc
      simp only [LExec, lrun] at hl
      exact .of_runs (s := Builtin.unsafeSliceData_ ts type #[a.eval x]) (fun w => by simp [execOp, resolve, invoke, builtin]) (runs_sliceData h hx hl)
    · simp at hc
  · -- unsafe.String
    split at hc
    · rename_i pt X x y hts hxs
      have hx := hargs x (by rw [hxs]; simp)
      have hy := hargs y (by rw [hxs]; simp)
      have e1 : ts = #[pt, X] := by apply Array.ext'; simpa using hts
      have e2 : args = #[x, y] := by apply Array.ext'; simpa using hxs
      subst e1 e2
      split at hc
      · rename_i T hp
        split at hc
        · rename_i hcT
          simp at hc; subst hc
          simp only [LExec, lrun] at hl
          exact .of_runs (s := Builtin.unsafeString_ #[pt, X] type #[a.eval x, a.eval y]) (fun w => by simp [execOp, resolve, invoke, builtin]) (runs_unsafeStr h hp hcT hx hy hl)
        · simp at hc
      · simp at hc
    · simp at hc
  · simp at hc

theorem plainFn_sound {dst type pos after guard ts} {f : FuncId} {args : Array Operand} {lo : LOp} {t : List Value} {a : Act} {K : Value → Mem → Prop} (hc : plainFn P f args.toList = some lo) (h : MR base r m w)
    (hargs : ∀ x ∈ args.toList, VR r (evL t x) (a.eval x)) (hl : LExec P lo (evL t) m K) :
    Gives P ⟨dst, .call ⟨.value (.func f), args, ts⟩, type, pos, after, guard⟩ a.eval w (Sim base r m w K) := by
  unfold plainFn at hc
  split at hc
  · rename_i fn x hf hxs
    have hx := hargs x (by rw [hxs]; simp)
    have e2 : args = #[x] := by apply Array.ext'; simpa using hxs
    subst e2
    split at hc
    · rename_i hb
      simp only [Bool.and_eq_true, beq_iff_eq] at hb
      obtain ⟨hb, ho⟩ := hb
      have hcall : ∀ (nm : String) (e : Array Value → Sem Value), fn.name = nm → (nm == "runtime.NumGoroutine") = false → Extern.findNext fn = none → Extern.find fn = some e → ∀ w, (callFunc f #[a.eval x]).run P w = ((e #[a.eval x]).run P w).andThen fun v w' => .ok (.value v) w' := by
        intro nm e hn hne h1 h2 w
        have hn' : (fn.name == "runtime.NumGoroutine") = false := by rw [hn]; exact hne
        simp only [callFunc, Sem.run_bind, run_program, Result.andThen_ok, hf, hn', hb, Bool.false_eq_true, if_false, if_true, run_mark, h1, h2, Sem.run_pure]
      split at hc
      · rename_i hn
        have hn := beq_iff_eq.1 hn
        simp at hc; subst hc
        simp only [LExec, lrun] at hl
        have h1 : Extern.findNext fn = none := by unfold Extern.findNext; simp only [hn, ho]; rfl
        have h2 : Extern.find fn = some Extern.AbiNoEscape.same := by unfold Extern.find; simp only [hn, ho]; rfl
        refine .of_runs (s := Extern.AbiNoEscape.same #[a.eval x]) (fun w => ?_) (.of_pure h hx hl rfl)
        have := hcall _ _ hn (by decide) h1 h2 w
        have ef : a.eval (.func f) = .func (.func f) #[] #[] := rfl
        simp only [execOp, resolve, Sem.run_bind, ef, Deferred.ofValue, Sem.run_pure, Result.andThen_ok, invoke]
        simpa using this
      · split at hc
        · rename_i hn
          have hn := beq_iff_eq.1 hn
          split at hc
          · rename_i T hrT
            split at hc
            · rename_i e hT
              simp at hc; subst hc
              simp only [LExec, lrun] at hl
              have hr : fn.resultTypes = #[T] := by apply Array.ext'; simpa using hrT
              have h1 : Extern.findNext fn = none := by unfold Extern.findNext; simp only [hn, ho]; rfl
              have h2 : Extern.find fn = some (Extern.BytealgMakeNoZero.makeNoZero fn.params #[T]) := by unfold Extern.find; simp only [hn, ho, hr]; rfl
              refine .of_runs (s := Extern.BytealgMakeNoZero.makeNoZero fn.params #[T] #[a.eval x]) (fun w => ?_) (runs_noZero h hT hx hl)
              have := hcall _ _ hn (by decide) h1 h2 w
              have ef : a.eval (.func f) = .func (.func f) #[] #[] := rfl
              simp only [execOp, resolve, Sem.run_bind, ef, Deferred.ofValue, Sem.run_pure, Result.andThen_ok, invoke]
              simpa using this
            · simp at hc
          · simp at hc
        · simp at hc
    · simp at hc
  · simp at hc

end Go.Lg
