/- What came in, argument by argument: a law true over the logical memory is true of the world. -/
import Derived.Test.YtijndljfpiomhaaDoorLgAB
namespace Go.Lg
open Go.RowKit

variable {P : Program} {H : Type} {enc : TypeId × Value → H}

def aggT (P : Program) (t : TypeId) : Bool := match P.underlying t with
  | some (.struct _) | some (.array _ _) => true
  | _ => false

/-- A value of a type. -/
def TyV (P : Program) (m : Mem) (n : Nat) (t : TypeId) (v : Value) : Prop := ∃ xs, TyL P m n t xs ∧ v = if aggT P t = true then .agg xs.toArray else xs.headD undef

theorem TyV.grow {m g : Mem} {n : Nat} {t : TypeId} {v : Value} (h : TyV P m n t v) : TyV P (m ++ g) n t v := by
  obtain ⟨xs, h, e⟩ := h; exact ⟨xs, h.grow, e⟩

theorem open_args {W : World} {r0 : Reach} {b0 n : Nat} : ∀ (ts : List TypeId) (args : List Value), F2 (fun t v => isTrod (H := H) enc P W true n t v.cells.toList ∧ Value.okWide P W r0 b0 t v) ts args →
    ∀ r m, MR W.heap.size r m W → ∃ r' g vs, MR W.heap.size r' (m ++ g) W ∧ (∀ k ∈ g, k.kind ≠ .own) ∧ (∀ i, i < m.length → r' i = r i) ∧ F2 (VR r') vs args ∧ F2 (TyV P (m ++ g) n) ts vs
  | _, _, .nil, r, m, hm => ⟨r, [], [], by simpa using hm, by simp, fun _ _ => rfl, .nil, .nil⟩
  | _, _, .cons (a := t) (b := v) (as := ts) (bs := args) ⟨h1, hw⟩ h2, r, m, hm => by
    obtain ⟨r1, g1, xs, a1, a2, a3, a4, a5⟩ := opener n t _ h1 r m hm
    obtain ⟨r2, g2, vs, b1, b2, b3, b4, b5⟩ := open_args ts args h2 r1 (m ++ g1) a1
    have hle : r1.le r2 := MR.le_of_ext a1 b3
    have hty : TyL P (m ++ g1 ++ g2) n t xs := a5.grow
    have key : VR r2 (if aggT P t = true then .agg xs.toArray else xs.headD undef) v := by
      refine VR.mono hle ?_
      obtain ⟨hok, _⟩ := h1
      cases n with
      | zero => simp [okTy] at hok
      | succ n =>
      unfold okTy at hok
      unfold Value.okWide at hw
      unfold aggT
      have agg : (∃ cs, v = .agg cs) → VR r1 (.agg xs.toArray) v := by
        rintro ⟨cs, rfl⟩; exact VR.ofAgg a4
      have one : (∃ x, xs = [x]) → (∀ t : Array Value, v ≠ .agg t) → (∀ t : Array Value, v ≠ .tuple t) → VR r1 (xs.headD undef) v := by
        rintro ⟨x, rfl⟩ h1 h2; exact VR.ofCells h1 h2 a4
      split at hok <;> rename_i e <;> simp only [e] at hw ⊢
      · refine one ?_ ?_ ?_
        · unfold TyL at a5; rw [e] at a5; obtain ⟨b, rfl⟩ := a5; exact ⟨_, rfl⟩
        · rintro t rfl; simp [Cell.okWide, Cell.ok, e] at hw
        · rintro t rfl; simp [Cell.okWide, Cell.ok, e] at hw
      · refine one ?_ ?_ ?_
        · unfold TyL at a5; rw [e] at a5; obtain ⟨b, rfl, _⟩ := a5; exact ⟨_, rfl⟩
        · rintro t rfl; simp [Cell.okWide, Cell.ok, e] at hw
        · rintro t rfl; simp [Cell.okWide, Cell.ok, e] at hw
      · refine one ?_ ?_ ?_
        · unfold TyL at a5; rw [e] at a5; obtain ⟨b, rfl, _⟩ := a5; exact ⟨_, rfl⟩
        · rintro t rfl; simp [Cell.okWide, Cell.ok, e] at hw
        · rintro t rfl; simp [Cell.okWide, Cell.ok, e] at hw
      · refine one ?_ ?_ ?_
        · unfold TyL at a5; rw [e] at a5
          rcases a5 with rfl | ⟨_, _, _, rfl, _⟩ <;> exact ⟨_, rfl⟩
        · rintro t rfl; simp [Cell.okWide, Cell.ok, e] at hw
        · rintro t rfl; simp [Cell.okWide, Cell.ok, e] at hw
      · obtain ⟨cs, h, _⟩ := hw; exact agg ⟨cs, h⟩
      · obtain ⟨cs, h, _⟩ := hw; exact agg ⟨cs, h⟩
      · cases hok
    refine ⟨r2, g1 ++ g2, _ :: vs, by simpa using b1, ?_, ?_, .cons key b4, ?_⟩
    · intro k hk
      rcases List.mem_append.mp hk with h | h
      · exact a2 k h
      · exact b2 k h
    · intro i hi
      rw [b3 i (by simp; omega), a3 i hi]
    · refine .cons ⟨xs, by simpa using hty, rfl⟩ (by simpa using b5)

theorem trods {W : World} {n : Nat} {r0 : Reach} {b0 : Nat} : ∀ (ts : List TypeId) (args : List Value) (ds : List (DataW H)) (p : List MemPlace), DataW.TrodAll enc P W 0 (fun _ => true) true ts args ds p → (DataW.weightsEach P ts ds).all (· ≤ reachBytes) = true → (ts.all (okTy P n)) = true →
    (∀ (j : Nat) t v, ts[j]? = some t → args[j]? = some v → Value.okWide P W r0 b0 t v) → F2 (fun t v => isTrod (H := H) enc P W true n t v.cells.toList ∧ Value.okWide P W r0 b0 t v) ts args
  | [], [], _, _, _, _, _, _ => .nil
  | [], _ :: _, ds, _, h, _, _, _ => by cases ds <;> simp [DataW.TrodAll] at h
  | _ :: _, [], ds, _, h, _, _, _ => by cases ds <;> simp [DataW.TrodAll] at h
  | t :: ts, v :: args, ds, p, h, hwt, hok, hw => by
    obtain ⟨v', vs', d', ds', p', q', e, rfl, rfl, hd, hr⟩ := ChangeShapes.trodAll_cons h
    simp at e
    obtain ⟨rfl, rfl⟩ := e
    simp only [List.all_cons, Bool.and_eq_true] at hok
    obtain ⟨F, hF⟩ := hd
    simp only [DataW.weightsEach, List.all_append, Bool.and_eq_true] at hwt
    exact .cons ⟨⟨hok.1, F, _, hF, hwt.1⟩, hw 0 t v rfl rfl⟩ (trods ts args ds' q' hr hwt.2 hok.2 fun j t v h1 h2 => hw (j + 1) t v (by simpa using h1) (by simpa using h2))

/-- A law that is true over the logical memory, of a world. -/
theorem law_calls {W : World} {n : Nat} {r0 : Reach} {b0 : Nat} {f : FuncId} {ts : List TypeId} {args : Array Value} {ds : List (DataW H)} {p : List MemPlace} (hA : DataW.TrodAll enc P W 0 (fun _ => true) true ts args.toList ds p) (hwt : (DataW.weightsEach P ts ds).all (· ≤ reachBytes) = true) (hok : ts.all (okTy P n) = true)
    (hw : ∀ (j : Nat) t v, ts[j]? = some t → args.toList[j]? = some v → Value.okWide P W r0 b0 t v) (law : ∀ m vs, F2 (TyV P m n) ts vs → LCall P f vs m fun v _ => v = .bool true) :
    Calls P f args W fun e w' => e = .returned (.bool true) ∧ Below W.heap.size W w' := by
  obtain ⟨r, g, vs, h1, h2, _, h3, h4⟩ := open_args ts args.toList (trods ts args.toList ds p hA hwt hok hw) _ _ (MR.nil W)
  have := law_below (law _ vs h4) h1 (by simpa using h2) h3
  simpa using this
end Go.Lg
