/- What came in, as a logical memory, second half: the opening of a whole input, and what a true law gives of the world behind it. -/
import Derived.Test.YtijndljfpiomhaaDoorLgZ
namespace Go.Lg
open Go.RowKit

variable {P : Program} {H : Type} {enc : TypeId × Value → H}

theorem add_plain {b o i : Nat} : (⟨b, o, none⟩ : Addr).add i = ⟨b, o + i, none⟩ := by
  unfold Addr.add
  split <;> simp_all

def isTrod (enc : TypeId × Value → H) (P : Program) (W : World) (held : Bool) (n : Nat) (t : TypeId) (cs : List Value) : Prop :=
  okTy P n t = true ∧ ∃ F x, DataW.trod enc P W 0 (fun _ => true) held F t cs = some x ∧ (x.1.weights P t).all (· ≤ reachBytes) = true

theorem weights_all {e : TypeId} : ∀ {ds : List (DataW H)}, (DataW.weightsAll P e ds).all (· ≤ reachBytes) = true → ∀ d ∈ ds, (d.weights P e).all (· ≤ reachBytes) = true
  | [], _, _, h => by simp at h
  | d0 :: ds, h, d, hd => by
    simp only [DataW.weightsAll, List.all_append, Bool.and_eq_true] at h
    rcases List.mem_cons.mp hd with rfl | hd
    · exact h.1
    · exact weights_all h.2 d hd
theorem weights_each {ts : List TypeId} {ds : List (DataW H)} (h : (DataW.weightsEach P ts ds).all (· ≤ reachBytes) = true) {j : Nat} {t : TypeId} {d : DataW H} (ht : ts[j]? = some t) (hd : ds[j]? = some d) : (d.weights P t).all (· ≤ reachBytes) = true :=
  List.all_eq_true.2 fun n hn => List.all_eq_true.1 h n (DataW.weights_mem_each ht hd n hn)

theorem opened_same {W : World} {base : Nat} {r : Rho} {m : Mem} (hm : MR base r m W) {xs cs : List Value} {Q : Mem → List Value → Prop} (h : F2 (CR r) xs cs) (hq : Q m xs) : Opened P base r m W cs Q :=
  ⟨r, [], xs, by simpa using hm, by simp, fun _ _ => rfl, h, by simpa using hq⟩

theorem opener {W : World} {held : Bool} : ∀ (n : Nat) (t : TypeId) (cs : List Value), isTrod enc P W held n t cs → ∀ r m, MR W.heap.size r m W → Opened P W.heap.size r m W cs fun m xs => TyL P m n t xs
  | 0, _, _, h => by simp [isTrod, okTy] at h
  | n + 1, t, cs, ⟨hok, F, x, hx, hwt⟩ => by
    intro r m hm
    have ih := opener (W := W) (held := held) n
    have hQ : ∀ (m g : Mem) t xs, TyL P m n t xs → TyL P (m ++ g) n t xs := fun _ _ _ _ => TyL.grow
    unfold okTy at hok
    split at hok <;> rename_i e
    · obtain ⟨b, rfl⟩ : ∃ b, cs = [.bool b] := by
        cases F with
        | zero => simp [DataW.trod] at hx
        | succ F =>
          unfold DataW.trod at hx
          rw [e] at hx
          split at hx <;> simp_all
      exact opened_same hm (.cons (.atom (.bool b)) .nil) (by unfold TyL; rw [e]; exact ⟨b, rfl⟩)
    · obtain ⟨k, rfl, _, hw⟩ := DataW.trod_int e hx
      exact opened_same hm (.cons (.atom (.int _ k)) .nil) (by unfold TyL; rw [e]; exact ⟨k, rfl, hw⟩)
    · obtain ⟨s, rfl, rfl, _⟩ := DataW.trod_string e hx
      have hw : s.size ≤ reachBytes := by
        have h1 := List.all_eq_true.1 hwt s.data.toList.length (by simp only [DataW.weights, List.mem_singleton])
        have h2 : s.data.toList.length ≤ reachBytes := of_decide_eq_true h1
        have h3 : s.data.toList.length = s.size := by rw [Array.length_toList]; rfl
        rw [← h3]; exact h2
      exact opened_same hm (.cons (.atom (.string s)) .nil) (by unfold TyL; rw [e]; exact ⟨s, rfl, hw⟩)
    · rename_i el
      simp only [Bool.and_eq_true, decide_eq_true_eq] at hok
      obtain ⟨hz, hok⟩ := hok
      rcases DataW.trod_slice e hx with ⟨rfl, _⟩ | ⟨a, len, cap, elems, rest, F', rfl, rfl, rfl, _, hlc, hcm, hel, he, hr, _⟩
      · exact opened_same hm (.cons (.atom .nilSlice) .nil) (by unfold TyL; rw [e]; exact .inl rfl)
      · obtain ⟨hr1, hr2⟩ := hr rfl
        by_cases hc0 : cap = 0
        · obtain rfl : len = 0 := by omega
          subst hc0
          obtain ⟨r', h1, h2, h3⟩ := hm.addRo ⟨[], 0, P.cellsOf el, 0, .dead⟩ 0 0 0 (P.cellsOf el) (by simp) fun r' _ => by simp [Bears]
          refine ⟨r', [⟨[], 0, P.cellsOf el, 0, .dead⟩], [.slice (some ⟨m.length, 0, none⟩) 0 0], h1, by simp, h2, .cons (.atom (.slice h3 (Nat.le_refl _) (.inl rfl))) .nil, ?_⟩
          unfold TyL
          rw [e]
          exact .inr ⟨m.length, 0, ⟨[], 0, P.cellsOf el, 0, .dead⟩, rfl, Nat.zero_le _, by simp, rfl, rfl, .inr ⟨rfl, rfl⟩⟩
        · -- each element's cells
          have hpc : ∀ i, i < cap → ∃ l, W.cells? 0 (a.add (i * P.cellsOf el)) (P.cellsOf el) = some l ∧ ∃ y, DataW.trod enc P W 0 (fun _ => true) held F' el l = some y := by
            intro i hi
            by_cases hil : i < len
            · have h := he i hil
              have : elems[i]? = some (elems[i]'(by omega)) := List.getElem?_eq_getElem (by omega)
              rw [this, Option.bind_eq_some_iff] at h
              obtain ⟨l, h1, h2⟩ := h
              exact ⟨l, h1, _, h2⟩
            · have h := hr2 (i - len) (by omega)
              have : rest[i - len]? = some (rest[i - len]'(by omega)) := List.getElem?_eq_getElem (by omega)
              rw [this, Option.bind_eq_some_iff, show len + (i - len) = i by omega] at h
              obtain ⟨l, h1, h2⟩ := h
              exact ⟨l, h1, _, h2⟩
          -- the block
          obtain ⟨l0, hl0, _⟩ := hpc 0 (by omega)
          obtain ⟨hn0, hg0⟩ := cells_at hl0
          obtain ⟨v0, hv0⟩ : ∃ v, l0[0]? = some v := ⟨l0[0]'(by omega), List.getElem?_eq_getElem (by omega)⟩
          have hc := hg0 0 v0 hv0
          rw [Nat.zero_mul] at hc
          have hsp : a.spot = none := by
            have := World.cell?_spot hc
            obtain ⟨ab, ao, as⟩ := a
            cases as with
            | none => rfl
            | some q => simp [Addr.add] at this
          obtain ⟨ab, ao, as⟩ := a
          simp only at hsp
          subst hsp
          obtain ⟨c, T, fz, hblk⟩ : ∃ c T fz, W.heap[ab]? = some (.cells c T fz) := by
            simp only [World.cell?, Addr.add] at hc
            split at hc
            · rename_i c T fz h; exact ⟨c, T, fz, h⟩
            · cases hc
          have hcell : ∀ o v, W.cell? ⟨ab, o, none⟩ = some v → c[o]? = some v := by
            intro o v h
            simpa [World.cell?, hblk] using h
          let f : Nat → List Value := fun i => (W.cells? 0 (Addr.add ⟨ab, ao, none⟩ (i * P.cellsOf el)) (P.cellsOf el)).getD []
          have hf : ∀ i, i < cap → W.cells? 0 (Addr.add ⟨ab, ao, none⟩ (i * P.cellsOf el)) (P.cellsOf el) = some (f i) := by
            intro i hi
            obtain ⟨l, h, _⟩ := hpc i hi
            show _ = some ((W.cells? 0 _ _).getD [])
            rw [h]; rfl
          have hF : F2 (isTrod enc P W held n) (List.replicate len el) ((List.range len).map f) := F2.rep len fun i hi => by
            obtain ⟨l, h, y, hy⟩ := hpc i (by omega)
            have this' := hf i (by omega)
            rw [this'] at h
            cases h
            refine ⟨hok, F', elems[i], ?_, ?_⟩
            · have h' := he i hi
              rw [this', Option.bind_some, List.getElem?_eq_getElem (by omega)] at h'
              exact h'
            · simp only [DataW.weights, e, List.all_cons, List.all_append, Bool.and_eq_true] at hwt
              exact weights_all hwt.2.1 _ (List.mem_map.2 ⟨elems[i], List.getElem_mem _, rfl⟩)
          obtain ⟨r1, g1, xs, a1, a2, a3, a4, a5⟩ := open_all (P := P) (Q := fun m => TyL P m n) hQ ih _ _ hF r m hm
          obtain ⟨hfl, hfg⟩ := flat_rep (f := f) len fun i hi => (cells_at (hf i (by omega))).1
          have hlt : ab < W.heap.size := by
            rcases Nat.lt_or_ge ab W.heap.size with h | h
            · exact h
            · simp [Array.getElem?_eq_none h] at hblk
          obtain ⟨r2, b1, b2, b3⟩ := a1.addRo ⟨xs, 0, P.cellsOf el, 0, .ro⟩ ab ao (ao + cap * P.cellsOf el) (P.cellsOf el) (by simp) fun r' hr' => by
            refine ⟨hlt, rfl, c, T, fz, hblk, fun j v hv => ?_⟩
            obtain ⟨u, hu, hvu⟩ := a4.get hv
            obtain ⟨i, k, hi, hk, rfl, hik⟩ := hfg j u hu
            refine ⟨u, ?_, CR.mono hr' hvu⟩
            have := (cells_at (hf i (by omega))).2 k u hik
            rw [add_plain, add_plain] at this
            have := hcell _ _ this
            rw [show ao + (i * P.cellsOf el + k) = ao + i * P.cellsOf el + k by omega]
            exact this
          refine ⟨r2, g1 ++ [⟨xs, 0, P.cellsOf el, 0, .ro⟩], [.slice (some ⟨(m ++ g1).length, 0, none⟩) len len], by simpa using b1, ?_, ?_, ?_, ?_⟩
          · intro k hk
            rcases List.mem_append.mp hk with h | h
            · exact a2 k h
            · simp at h; subst h; simp
          · intro i hi
            rw [b2 i (by simp; omega), a3 i hi]
          · exact .cons (.atom (.slice b3 hlc (.inr ⟨by simp, by simp⟩))) .nil
          · unfold TyL
            rw [e]
            refine .inr ⟨(m ++ g1).length, len, ⟨xs, 0, P.cellsOf el, 0, .ro⟩, rfl, by omega, ?_, rfl, rfl, .inl ⟨rfl, ?_⟩⟩
            · rw [← List.append_assoc, List.getElem?_append_right (Nat.le_refl _)]; simp
            · have := TyAll.mono (fun t ys h => hQ (m ++ g1) [⟨xs, 0, P.cellsOf el, 0, .ro⟩] t ys h) a5
              rw [List.append_assoc] at this
              exact this
    · rename_i fs
      simp only [Bool.and_eq_true] at hok
      obtain ⟨ys, F', rfl, rfl, hl, hn, hg⟩ := DataW.trod_struct e hx
      have hF : F2 (isTrod enc P W held n) (fs.toList.map (·.type)) (fs.toList.map fun f => (cs.drop f.offset).take (P.cellsOf f.type)) := F2.ofFields fun f hf => by
        obtain ⟨i, hi⟩ := List.mem_iff_getElem?.mp hf
        have hi' : fs[i]? = some f := by simpa using hi
        have h := hg i f hi'
        have hlt : i < fs.size := (Array.getElem?_eq_some_iff.mp hi').1
        rw [List.getElem?_eq_getElem (by omega)] at h
        refine ⟨List.all_eq_true.mp hok.2 f hf, F', _, h, ?_⟩
        simp only [DataW.weights, e] at hwt
        exact weights_each hwt (j := i) (by rw [List.getElem?_map, Array.getElem?_toList, hi']; rfl) (by rw [List.getElem?_map, List.getElem?_eq_getElem (show i < ys.length by omega)]; rfl)
      have := open_all (P := P) (Q := fun m => TyL P m n) hQ ih _ _ hF r m hm
      rw [flat_fields fs.toList 0 hok.1 hl (Nat.zero_le _), List.drop_zero] at this
      obtain ⟨r1, g1, xs, a1, a2, a3, a4, a5⟩ := this
      exact ⟨r1, g1, xs, a1, a2, a3, a4, by unfold TyL; rw [e]; exact a5⟩
    · rename_i k el
      simp only [Bool.and_eq_true, beq_iff_eq] at hok
      obtain ⟨ys, F', rfl, rfl, hl, hn, hg⟩ := DataW.trod_array e hx
      have hF : F2 (isTrod enc P W held n) (List.replicate k el) ((List.range k).map fun i => (cs.drop (i * P.cellsOf el)).take (P.cellsOf el)) := F2.rep k fun i hi => by
        have h := hg i hi
        rw [List.getElem?_eq_getElem (by omega)] at h
        refine ⟨hok.2, F', _, h, ?_⟩
        simp only [DataW.weights, e] at hwt
        exact weights_all hwt _ (List.mem_map.2 ⟨ys[i], List.getElem_mem _, rfl⟩)
      have := open_all (P := P) (Q := fun m => TyL P m n) hQ ih _ _ hF r m hm
      rw [flat_at k (by omega)] at this
      obtain ⟨r1, g1, xs, a1, a2, a3, a4, a5⟩ := this
      exact ⟨r1, g1, xs, a1, a2, a3, a4, by unfold TyL; rw [e]; exact a5⟩
    · cases hok

/-- A memory of which nothing is owned: what a call writes was not there. -/
theorem Stp.below {base : Nat} {r r2 : Rho} {m m2 : Mem} {w w' : World} (h : Stp base r m w r2 m2 w') (ho : ∀ k ∈ m, k.kind ≠ .own) : Below w.heap.size w w' := by
  refine ⟨h.os, h.tape, h.output, h.size, fun k hk => h.fr k hk ?_⟩
  rintro ⟨i, k', x, h1, h2, _⟩
  exact ho k' (List.mem_of_getElem? h1) h2

theorem MR.nil (w : World) : MR w.heap.size (fun _ => none) [] w :=
  ⟨fun _ _ h => (nomatch h), fun _ _ _ _ _ _ _ h => (nomatch h), fun _ _ _ _ _ _ _ _ _ _ _ h => (nomatch h), Nat.le_refl _⟩

/-- A true law, at a memory of which nothing is owned. -/
theorem law_below {f : FuncId} {args args' : List Value} {m : Mem} {r : Rho} {w : World} {b : Bool} (h : LCall P f args m fun v _ => v = .bool b) (hm : MR w.heap.size r m w) (ho : ∀ k ∈ m, k.kind ≠ .own) (ha : F2 (VR r) args args') :
    Calls P f args'.toArray w fun e w' => e = .returned (.bool b) ∧ Below w.heap.size w w' := by
  refine (h _ r w args' hm ha).mono ?_
  rintro e w' ⟨v', rfl, v, m2, r2, hk, hv, hs⟩
  subst hk
  rw [hv.bool_inv]
  exact ⟨rfl, hs.below ho⟩

/-- A value of one cell, or of several, off its cells. -/
theorem VR.ofCells {r : Rho} {x : Value} {v' : Value} (hx : ∀ t : Array Value, v' ≠ .agg t) (hb : ∀ t : Array Value, v' ≠ .tuple t) (h : F2 (CR r) [x] v'.cells.toList) : VR r x v' := by
  have : v'.cells.toList = [v'] := by
    cases v' <;> first | rfl | exact absurd rfl (hx _) | exact absurd rfl (hb _)
  rw [this] at h
  cases h with
  | cons h _ => exact .base (.cell h)
theorem VR.ofAgg {r : Rho} {xs : List Value} {cs : Array Value} (h : F2 (CR r) xs (Value.agg cs).cells.toList) : VR r (.agg xs.toArray) (.agg cs) := by
  have e : (Value.agg cs).cells.toList = cs.toList := rfl
  rw [e] at h
  have := BR.agg h
  simpa using VR.base this
end Go.Lg
