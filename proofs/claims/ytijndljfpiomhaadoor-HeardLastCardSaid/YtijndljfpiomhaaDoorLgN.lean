/- Calls in short. -/
import Derived.Test.YtijndljfpiomhaaDoorLgT
namespace Go.Lg

variable {P : Program}

theorem load_run {base : Nat} {r : Rho} {m : Mem} {w : World} (h : MR base r m w) {T : TypeId} {d : TypeDesc} {x' : Value} (hT : P.underlying T = some d) (hd : isAggD d = false) {i o : Nat} {v : Value} (hx : VR r (.pointer (some ⟨i, o, none⟩)) x') (hc : cell? m i o = some v) :
    ∃ v', (do loadVar T (← asAddr x')).run P w = .ok v' w ∧ BR r v v' := by
  obtain ⟨b, e, _, _, hri, rfl⟩ := hx.ptr_inv
  unfold cell? at hc
  split at hc
  · rename_i k hm
    split at hc
    · rename_i hl
      obtain ⟨v', hw, hv⟩ := h.read hri hm (Kind.live_of hl) hc
      have hagg : (isAgg T).run P w = .ok false w := by rw [run_isAgg hT, hd]
      exact ⟨v', by simp [asAddr, loadVar, hagg, hw], .cell hv⟩
    · simp at hc
  · simp at hc
theorem loadN_run {base : Nat} {r : Rho} {m : Mem} {w : World} (h : MR base r m w) {T : TypeId} {d : TypeDesc} {ti : TypeInfo} {x' : Value} (hT : P.underlying T = some d) (hd : isAggD d = true) (hti : P.info? T = some ti) {i o : Nat} {cs : List Value} (hx : VR r (.pointer (some ⟨i, o, none⟩)) x') (hc : cells? m i o ti.size = some cs) :
    ∃ v', (do loadVar T (← asAddr x')).run P w = .ok v' w ∧ BR r (.agg cs.toArray) v' := by
  obtain ⟨b, e, _, _, hri, rfl⟩ := hx.ptr_inv
  unfold cells? at hc
  split at hc
  · rename_i k hm
    split at hc
    · rename_i hl
      simp at hc
      obtain ⟨vs', hrun, hf⟩ := read_list h (P := P) hri hm (Kind.live_of hl.1) ⟨b, e + o, none⟩ rfl ti.size 0 #[] rfl (by omega)
      subst hc
      have hagg : (isAgg T).run P w = .ok true w := by rw [run_isAgg hT, hd]
      exact ⟨.agg vs'.toArray, by simp [asAddr, loadVar, hagg, run_size hti, loadCells, hrun], .agg (by simpa using hf)⟩
    · simp at hc
  · simp at hc

def resSem (a : Act) : ResultVar → Sem Value
  | .tmp t => pure (a.tmps.getD t undef)
  | .cell p T => do loadVar T (← asAddr (a.tmps.getD p undef))

theorem resV_run {base : Nat} {r : Rho} {m : Mem} {w : World} {t : List Value} {a : Act} (hm : MR base r m w) (ht : F2 (VR r) t a.tmps.toList) : ∀ {rv : List ResultVar} {rs : List LRes} {vs : List Value}, cRes P rv = some rs → resVs t m rs = some vs →
    ∃ vs', (rv.mapM (resSem a)).run P w = .ok vs' w ∧ F2 (BR r) vs vs'
  | [], rs, vs, hc, hv => by
    simp [cRes] at hc; subst hc
    simp [resVs] at hv; subst hv
    exact ⟨[], rfl, .nil⟩
  | .tmp i :: rv, rs, vs, hc, hv => by
    simp only [cRes] at hc
    cases hr : cRes P rv with
    | none => simp [hr] at hc
    | some rs' =>
      simp [hr] at hc; subst hc
      simp only [resVs] at hv
      split at hv
      · rename_i v vs0 h1 h2
        simp at hv; subst hv
        obtain ⟨vs', hrun, hf⟩ := resV_run hm ht hr h2
        have hx : VR r (t.getD i undef) (a.tmps.getD i undef) := ev_rel ht (.tmp i) rfl
        simp only [resV] at h1
        have hb : t.getD i undef = v ∧ basic v = true := by
          split at h1
          · simp at h1
          · rename_i hnt
            simp only [Option.some.injEq] at h1
            refine ⟨h1, ?_⟩
            rw [← h1]
            unfold basic
            split
            · rename_i x hx; exact absurd hx (hnt x)
            · rfl
        obtain ⟨rfl, hb⟩ := hb
        refine ⟨a.tmps.getD i undef :: vs', ?_, .cons (hx.basic_inv hb) hf⟩
        simp only [List.mapM_cons, resSem, Sem.run_bind, Sem.run_pure, Result.andThen_ok, hrun]
      · simp at hv
  | .cell i T :: rv, rs, vs, hc, hv => by
    simp only [cRes] at hc
    split at hc
    · rename_i d ti rs' hT hti hr
      simp at hc; subst hc
      simp only [resVs] at hv
      split at hv
      · rename_i v vs0 h1 h2
        simp at hv; subst hv
        obtain ⟨vs', hrun, hf⟩ := resV_run hm ht hr h2
        have hx : VR r (t.getD i undef) (a.tmps.getD i undef) := ev_rel ht (.tmp i) rfl
        have key : ∃ v', (do loadVar T (← asAddr (a.tmps.getD i undef))).run P w = .ok v' w ∧ BR r v v' := by
          split at h1
          · rename_i hag
            simp only [resV] at h1
            split at h1
            · rename_i b o he
              cases hcs : cells? m b o ti.size with
              | none => simp [hcs] at h1
              | some cs =>
                simp [hcs] at h1; subst h1
                rw [he] at hx
                exact loadN_run hm hT hag hti hx hcs
            · simp at h1
          · rename_i hag
            simp only [resV] at h1
            split at h1
            · rename_i b o he
              rw [he] at hx
              exact load_run hm hT (by simpa using hag) hx h1
            · simp at h1
        obtain ⟨v', hload, hb⟩ := key
        refine ⟨v' :: vs', ?_, .cons hb hf⟩
        simp only [List.mapM_cons, Sem.run_bind] at hload ⊢
        simp only [resSem, Sem.run_bind, hload, Result.andThen_ok, hrun, Sem.run_pure]
      · simp at hv
    · simp at hc

theorem results_run {base : Nat} {r : Rho} {m : Mem} {w : World} {t : List Value} {a : Act} (hm : MR base r m w) (ht : F2 (VR r) t a.tmps.toList) {fn : Func} {rs : List LRes} {vs : List Value} (hc : cRes P fn.results.toList = some rs) (hv : resVs t m rs = some vs) :
    ∃ v', (results fn a.tmps).run P w = .ok v' w ∧ VR r (resOf vs) v' := by
  obtain ⟨vs', hrun, hf⟩ := resV_run hm ht hc hv
  have e : (fn.results.mapM (resSem a)).run P w = .ok vs'.toArray w := by
    rw [Array.mapM_eq_mapM_toList, Sem.run_map, hrun]; rfl
  have hres : results fn a.tmps = (do let vs ← fn.results.mapM (resSem a); pure (if h : vs.size = 1 then vs[0] else .tuple vs)) := by
    unfold results
    congr 2
  refine ⟨if h : vs'.toArray.size = 1 then vs'.toArray[0] else .tuple vs'.toArray, by rw [hres, Sem.run_bind, e]; rfl, ?_⟩
  have hl := hf.length
  match vs, vs', hf with
  | [], _, hf =>
    obtain rfl := hf.nil_inv
    simpa [resOf] using VR.tuple (r := r) .nil
  | [v], _, hf =>
    obtain ⟨v', vs'', rfl, h1, h2⟩ := hf.cons_inv
    obtain rfl := h2.nil_inv
    simpa [resOf] using VR.base h1
  | v1 :: v2 :: vs, vs', hf =>
    have : ¬ vs'.toArray.size = 1 := by simp at hl ⊢; omega
    rw [dif_neg this]
    exact VR.tuple hf

/-- A function is entered. -/
theorem LCall_enter {f : FuncId} {fn : Func} {lf : LFunc} {args : List Value} {m : Mem} {K : Value → Mem → Prop} (hf : P.funcs[f]? = some fn) (hc : cFunc P fn = some lf)
    (h : LC P lf.code (endL lf.res K) (args ++ List.replicate (lf.nt - args.length) undef) m) : LCall P f args m K := by
  intro base r w args' hm ha
  unfold cFunc at hc
  split at hc
  · rename_i c hb
    split at hc
    · rename_i l rs hl hr
      simp at hc; subst hc
      refine calls_of_wp hf hb (wp_mono (LC_sound hl h base r w _ hm ?_ rfl) ?_)
      · have hlen := ha.length
        have : F2 (VR r) (List.replicate (fn.ntmps - args.length) undef) (List.replicate (fn.ntmps - args.length) undef) := .refl fun x hx => by
          rw [List.eq_of_mem_replicate hx]; exact .undef
        simpa [hlen] using ha.append this
      · rintro e a' w' ⟨t', m', r', h1, h2, h3, h4⟩
        have key : optP (resVs t' m' rs) (fun vs => K (resOf vs) m') → a'.defers = [] ∧ ∃ v, (results fn a'.tmps).run P w' = .ok v w' ∧ ∃ v', Ending.returned v = .returned v' ∧ Sim base r m w K v' w' := by
          rintro ⟨vs, hv, hk⟩
          obtain ⟨v', hrun, hvr⟩ := results_run h4.mr h2 hr hv
          exact ⟨h3, v', hrun, v', rfl, _, _, _, hk, hvr, h4⟩
        cases e with
        | normal => exact key h1
        | ret => exact key h1
        | _ => exact h1.elim
    · simp at hc
  · simp at hc

end Go.Lg
