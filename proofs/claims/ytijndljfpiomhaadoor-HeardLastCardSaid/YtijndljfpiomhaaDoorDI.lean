/- slices.Insert at the entries of the list: walked in the world. -/
import Derived.Test.YtijndljfpiomhaaDoorDD
import Derived.Lib.JoinLaws
import Derived.Lib.AppendZeros
import Derived.Lib.AppendZerosOnto
import Derived.Lib.Overlaps
import Derived.Laws.Externs
namespace Go.Proofs.YtijndljfpiomhaaDoor
open Go.Shelf Go.RowKit Go.Lib
set_option linter.unusedSimpArgs false
set_option linter.unusedVariables false

theorem wpList_copy_runJ {P : Program} (w : World) {ops : Array Oper} {rest : List Oper} {o : Oper} {a : Act} {Q : Exit → Act → World → Prop} (hgd : o.guard = none) (d s : Operand) (t t' : TypeId)
    (ho : o.op = .call { callee := .builtin .copy, args := #[d, s], argTypes := #[t, t'] }) (v u : Value) (hd : a.eval d = v) (hs : a.eval s = u) {v' : Value} {w' : World}
    (hr : (Builtin.copy_ #[t, t'] o.type #[v, u]).run P w = .ok v' w') (h : wpList P ops Q rest (a.put o.dst v') w') : wpList P ops Q (o :: rest) a w := by
  refine wpList_plain hgd fun K hK => ?_
  unfold Oper.wp execOp
  simp only [ho, resolve, invoke, builtin, Sem.run_bind, Sem.run_pure, Result.andThen_ok, List.map_toArray, List.map_cons, List.map_nil, hd, hs, hr]
  exact hK _ _ h
theorem step_copy_runJ {P : Program} {ops : Array Oper} {o : Oper} {a : Act} {w : World} {K : Act → World → Prop} {Q : Exit → Act → World → Prop} {E : Prop}
    (hg : o.guard = none) (d x : Operand) (dT sT : TypeId) (hop : o.op = Op.call { callee := Callee.builtin Builtin.copy, args := #[d, x], argTypes := #[dT, sT] })
    (v u : Value) (hd : a.eval d = v) (hx : a.eval x = u) {v' : Value} {w' : World} (hr : (Builtin.copy_ #[dT, sT] o.type #[v, u]).run P w = .ok v' w') (hK : K (a.put o.dst v') w') :
    if Region.wanted o (yielded ops a.tmps) = true then Oper.wp P o a w K Q else E := by
  have hw : Region.wanted o (yielded ops a.tmps) = true := by simp [Region.wanted, hg]
  rw [if_pos hw]
  unfold Oper.wp
  simp [execOp, hop, resolve, invoke, builtin, hd, hx, hr, Result.andThen]
  exact hK
theorem isSome_setCellsJ (b : Nat) (vs : List Value) (o : Nat) (w : World) (h : ∀ j, j < vs.length → (w.cell? ⟨b, o + j, none⟩).isSome = true) (k : Nat) (hk : (w.cell? ⟨b, k, none⟩).isSome = true) : ((w.setCells b o vs).cell? ⟨b, k, none⟩).isSome = true := by
  by_cases hin : o ≤ k ∧ k < o + vs.length
  · have := World.cell?_setCells_in b vs o w h (k - o) (by omega)
    rw [show o + (k - o) = k by omega] at this
    rw [this]; rfl
  · rw [World.cell?_setCells_out b vs o w ⟨b, k, none⟩ (fun _ _ => by show k < o ∨ o + vs.length ≤ k; omega)]
    exact hk
/-- Entries are copied. -/
theorem copy_he (w : World) (ty : TypeId) (b o dLen dCap : Nat) (a : Addr) (sLen sCap : Nat) (cs : List Value) (k : Nat) (hk : k = Nat.min sLen dLen) (hn : cs.length = k * 6)
    (hsrc : ∀ j v, cs[j]? = some v → w.cell? (a.add j) = some v) (hc : ∀ j, j < cs.length → (w.cell? ⟨b, o + j, none⟩).isSome = true) (hf : ∀ j, j < cs.length → w.frozen? ⟨b, o + j, none⟩ = false) (h1 : ∀ v ∈ cs, v.oneCell' = true) :
    (Builtin.copy_ #[43, 43] ty #[.slice (some ⟨b, o, none⟩) dLen dCap, .slice (some a) sLen sCap]).run Tryd.prog w = .ok (goInt k) (w.setCells b o cs) := by
  have hl := run_loadCells_list (P := Tryd.prog) w a cs hsrc
  have hst := run_storeCells_cells (P := Tryd.prog) b o cs 0 w (by simpa using hc) (by simpa using hf) h1
  obtain ⟨i, hq, hi, _⟩ := he_info
  simp [Builtin.copy_, run_underlying Tryd.underlying43, Builtin.lenOf, Builtin.firstCells, sizeOf, typeInfo, hq, hi, ← hk, ← hn, hl, hst]

set_option maxHeartbeats 4000000 in
set_option maxRecDepth 1000000 in
/-- There is room. -/
theorem ins_shift (p off n cap i vb voff m vc : Nat) (cs vs : List Value) (w : World) (hi : i < n) (hm : 0 < m) (hroom : n + m ≤ cap) (hnm : n + m ≤ 1000000) (hvb : vb ≠ p)
    (hcl : cs.length = (n - i) * 6) (hvl : vs.length = m * 6)
    (hcs : ∀ j v, cs[j]? = some v → w.cell? ⟨p, off + i * 6 + j, none⟩ = some v) (hsp : ∀ j, j < (n + m) * 6 → (w.cell? ⟨p, off + j, none⟩).isSome = true) (hfz : ∀ j, j < (n + m) * 6 → w.frozen? ⟨p, off + j, none⟩ = false)
    (hvs : ∀ j v, vs[j]? = some v → w.cell? ⟨vb, voff + j, none⟩ = some v) (h1c : ∀ v ∈ cs, v.oneCell' = true) (h1v : ∀ v ∈ vs, v.oneCell' = true)
    (hov : ∀ a lb cb, (callFunc 42 #[.slice (some ⟨vb, voff, none⟩) m vc, .slice (some ⟨p, a, none⟩) lb cb]).run Tryd.prog w = .ok (.value (.bool false)) w) :
    Calls Tryd.prog 25 #[.slice (some ⟨p, off, none⟩) n cap, .int .i64 i, .slice (some ⟨vb, voff, none⟩) m vc] w fun e w' =>
      e = .returned (.slice (some ⟨p, off, none⟩) (n + m) cap) ∧ w' = (w.drew.setCells p (off + (i + m) * 6) cs).setCells p (off + i * 6) vs := by
  have mixed : Tryd.prog.follows .mixedOrders = true := by kernel_rfl
  have hz1 : ¬ ((m : Int) = 0) := by omega
  have hz2 : ¬ ((i : Int) = (n : Int)) := by omega
  have hw1 : IntKind.i64.wrap ((i : Int) + (m : Int)) = (i : Int) + (m : Int) := by rw [IntKind.wrap_i64]; omega
  have hb1 : (0 : Int) ≤ (i : Int) + (m : Int) := by omega
  have hin : i ≤ n := by omega
  have htn : ((i : Int) + (m : Int)).toNat = i + m := by omega
  have hb2 : ¬ (cap = i + m) := by omega
  have hb3 : (i : Int) ≤ (n : Int) + (m : Int) := by omega
  have hb4 : ¬ (cap = i) := by omega
  have hcp1 : ∀ ty dc sc, (Builtin.copy_ #[43, 43] ty #[.slice (some ⟨p, off + (i + m) * 6, none⟩) (n + m - (i + m)) dc, .slice (some ⟨p, off + i * 6, none⟩) (n + m - i) sc]).run Tryd.prog w.drew = .ok (goInt ((n - i : Nat) : Int)) (w.drew.setCells p (off + (i + m) * 6) cs) := fun ty dc sc =>
    copy_he w.drew ty p (off + (i + m) * 6) (n + m - (i + m)) dc ⟨p, off + i * 6, none⟩ (n + m - i) sc cs (n - i) (by simp only [Nat.min_def]; split <;> omega) hcl
      (fun j v hj => by rw [Addr.add_lit]; exact hcs j v hj)
      (fun j hj => by rw [Nat.add_assoc]; exact hsp _ (by rw [hcl] at hj; omega)) (fun j hj => by rw [Nat.add_assoc]; exact hfz _ (by rw [hcl] at hj; omega)) h1c
  obtain ⟨W1, hW1⟩ : ∃ W1, W1 = w.drew.setCells p (off + (i + m) * 6) cs := ⟨_, rfl⟩
  have hsp1 : ∀ k, k < (n + m) * 6 → (W1.cell? ⟨p, off + k, none⟩).isSome = true := fun k hk => by
    rw [hW1]
    exact isSome_setCellsJ p _ _ _ (fun j hj => by rw [Nat.add_assoc]; exact hsp _ (by rw [hcl] at hj; omega)) _ (hsp k hk)
  have hcp2 : ∀ (W : World), (∀ x, W.cell? x = W1.cell? x) → (∀ x, W.frozen? x = W1.frozen? x) → ∀ ty dc, (Builtin.copy_ #[43, 43] ty #[.slice (some ⟨p, off + i * 6, none⟩) (n + m - i) dc, .slice (some ⟨vb, voff, none⟩) m vc]).run Tryd.prog W = .ok (goInt m) (W.setCells p (off + i * 6) vs) := fun W hWc hWf ty dc =>
    copy_he W ty p (off + i * 6) (n + m - i) dc ⟨vb, voff, none⟩ m vc vs m (by simp only [Nat.min_def]; split <;> omega) hvl
      (fun j v hj => by
        rw [Addr.add_lit, hWc, hW1, World.cell?_setCells_out p _ _ _ _ (fun h _ => absurd h hvb)]
        exact hvs j v hj)
      (fun j hj => by rw [hWc, Nat.add_assoc]; exact hsp1 _ (by rw [hvl] at hj; omega)) (fun j hj => by rw [hWf, hW1, World.frozen?_setCells, Nat.add_assoc]; exact hfz _ (by rw [hvl] at hj; omega)) h1v
  rw [← hW1] at hcp1
  clear hcs hsp hfz hvs hsp1 hcl hvl
  go_enter Tryd.func25, Tryd.ntmps25
  go_wp2_with (simp only [hov])
  go_region_law_o (refine step_copy_runJ rfl _ _ 43 43 rfl _ _ (by simp [Act.eval, Act.put]) (by simp [Act.eval, Act.put]) (hcp1 _ _ _) ?_)
  go_wp2_with (at_builtin; refine wpList_copy_runJ _ rfl _ _ 43 43 rfl _ _ rfl rfl (hcp2 _ (fun _ => rfl) (fun _ => rfl) _ _) ?_)
  go_ret
  first | exact ⟨rfl, rfl⟩ | exact ⟨rfl, by rw [hW1]⟩
theorem he_bytes {i : TypeInfo} (h : Tryd.prog.info? 42 = some i) : i.bytes = 64 := by
  have h2 : ((Tryd.prog.info? 42).map fun i => i.bytes) = some 64 := by kernel_rfl
  rw [h] at h2; simpa using h2

set_option maxHeartbeats 4000000 in
set_option maxRecDepth 1000000 in
/-- There is no room. -/
theorem ins_grow (p off n c i vb voff m vc : Nat) (cs0 cs vs : List Value) (w : World) (hi : i < n) (hm : 0 < m) (hnc : n ≤ c) (hroom : c < n + m) (hnm : n + m ≤ 1000000)
    (hcl0 : cs0.length = i * 6) (hcl : cs.length = (n - i) * 6) (hvl : vs.length = m * 6)
    (hcs0 : ∀ j v, cs0[j]? = some v → w.cell? ⟨p, off + j, none⟩ = some v) (hcs : ∀ j v, cs[j]? = some v → w.cell? ⟨p, off + i * 6 + j, none⟩ = some v)
    (hvs : ∀ j v, vs[j]? = some v → w.cell? ⟨vb, voff + j, none⟩ = some v) (h1c : ∀ v ∈ cs, v.oneCell' = true) (h1v : ∀ v ∈ vs, v.oneCell' = true) (hbw : p < w.heap.size) (hvw : vb < w.heap.size) :
    ∃ G ROW, n + m ≤ G ∧ ROW = cs0.toArray ++ Builtin.zeroCells heZ.toArray (n + m - i) ++ Builtin.zeroCells heZ.toArray (G - (n + m)) ∧
    Calls Tryd.prog 25 #[.slice (some ⟨p, off, none⟩) n c, .int .i64 i, .slice (some ⟨vb, voff, none⟩) m vc] w fun e w' =>
      e = .returned (.slice (some ⟨w.heap.size, 0, none⟩) (n + m) G) ∧
      w' = (((w.alloc (.cells ROW 42)).drew.setCells w.heap.size (i * 6) vs).drew).setCells w.heap.size ((i + m) * 6) cs := by
  have mixed : Tryd.prog.follows .mixedOrders = true := by kernel_rfl
  obtain ⟨i0, hi0, hzs, hz0⟩ := he_info
  have hzb := he_bytes hi0
  have hz1 : ¬ ((m : Int) = 0) := by omega
  have hz2 : ¬ ((i : Int) = (n : Int)) := by omega
  have hz3 : (c : Int) < (n : Int) + (m : Int) := by omega
  have hkk : (n : Int) + (m : Int) - (i : Int) = ((n + m - i : Nat) : Int) := by omega
  have hik : i + (n + m - i) = n + m := by omega
  have hold : (Builtin.firstCells i0.size i (.slice (some ⟨p, off, none⟩) i c)).run Tryd.prog w.drew = .ok cs0.toArray w.drew := by
    rw [hzs]
    exact run_firstCells_some w.drew 6 i ⟨p, off, none⟩ i c cs0 hcl0 (fun j v hj => by rw [Addr.add_lit]; exact hcs0 j v hj)
  have hrz : ∀ ty, (Builtin.append_ #[43, 3] ty #[.slice (some ⟨p, off, none⟩) i c, .int .i64 ((n : Int) + (m : Int) - (i : Int))]).run Tryd.prog w =
      .ok (.slice (some ⟨w.heap.size, 0, none⟩) (n + m) (grownCap w (n + m) c 42)) (w.drew.alloc (.cells (cs0.toArray ++ Builtin.zeroCells heZ.toArray (n + m - i) ++ Builtin.zeroCells heZ.toArray (grownCap w (n + m) c 42 - (n + m))) 42)) := fun ty => by
    have h := Lib.run_append_grow_zeros w 43 3 ty 42 i0 _ .i64 .i64 Tryd.underlying43 Tryd.underlying3 hi0 hz0 (some ⟨p, off, none⟩) i c cs0 hold (n + m - i) (by omega) (by omega) (by omega) (by omega) (by rw [hzb]; omega) (by rw [hzb, hik]; exact growslice_fits hroom (by omega))
    rw [hik] at h
    rw [hkk]
    exact h
  obtain ⟨G, hG⟩ : ∃ G, G = grownCap w (n + m) c 42 := ⟨_, rfl⟩
  obtain ⟨ROW, hROW⟩ : ∃ ROW : Array Value, ROW = cs0.toArray ++ Builtin.zeroCells heZ.toArray (n + m - i) ++ Builtin.zeroCells heZ.toArray (G - (n + m)) := ⟨_, rfl⟩
  have hGn : n + m ≤ G := by rw [hG]; exact grownCap_ge w _ _ _
  refine ⟨G, ROW, hGn, hROW, ?_⟩
  rw [← hG, ← hROW] at hrz
  have hez : heZ.toArray.size = 6 := rfl
  have hRl : (n + m) * 6 ≤ ROW.size := by
    have hzc : ∀ k, (Builtin.zeroCells heZ.toArray k).size = k * 6 := fun k => by simp [Builtin.zeroCells, heZ]
    rw [hROW]
    simp only [Array.size_append, List.size_toArray, hcl0, hzc]
    omega
  obtain ⟨W1, hW1⟩ : ∃ W1, W1 = w.drew.alloc (.cells ROW 42) := ⟨_, rfl⟩
  rw [← hW1] at hrz
  have hN : ∀ j, j < (n + m) * 6 → (W1.cell? ⟨w.heap.size, j, none⟩).isSome = true := fun j hj => by
    rw [hW1, World.cell?_alloc_at (w := w.drew) ROW _ w.heap.size j rfl, Array.getElem?_eq_getElem (by omega)]; rfl
  have hNf : ∀ j, W1.frozen? ⟨w.heap.size, j, none⟩ = false := fun j => by rw [hW1]; exact World.frozen?_alloc_at (w := w.drew) ROW _ w.heap.size j rfl
  have hOb : ∀ j v, w.cell? ⟨p, j, none⟩ = some v → W1.cell? ⟨p, j, none⟩ = some v := fun j v h => by rw [hW1, World.cell?_alloc_past (w := w.drew) _ p j hbw]; exact h
  have hOv : ∀ j v, w.cell? ⟨vb, j, none⟩ = some v → W1.cell? ⟨vb, j, none⟩ = some v := fun j v h => by rw [hW1, World.cell?_alloc_past (w := w.drew) _ vb j hvw]; exact h
  have hcpA : ∀ (W : World), (∀ x, W.cell? x = W1.cell? x) → (∀ x, W.frozen? x = W1.frozen? x) → ∀ ty dc, (Builtin.copy_ #[43, 43] ty #[.slice (some ⟨w.heap.size, i * 6, none⟩) (n + m - i) dc, .slice (some ⟨vb, voff, none⟩) m vc]).run Tryd.prog W = .ok (goInt m) (W.setCells w.heap.size (i * 6) vs) := fun W hWc hWf ty dc =>
    copy_he W ty w.heap.size (i * 6) (n + m - i) dc ⟨vb, voff, none⟩ m vc vs m (by simp only [Nat.min_def]; split <;> omega) hvl
      (fun j v hj => by rw [Addr.add_lit, hWc]; exact hOv _ v (hvs j v hj))
      (fun j hj => by rw [hWc]; exact hN _ (by rw [hvl] at hj; omega)) (fun j hj => by rw [hWf]; exact hNf _) h1v
  have hGi : ¬ (G = i) := by omega
  have hGim : ¬ (G = i + m) := by omega
  have hci : ¬ (c = i) := by omega
  have hbN : p ≠ w.heap.size := by omega
  have hcpB : ∀ (W : World), (∀ x, W.cell? x = (W1.setCells w.heap.size (i * 6) vs).cell? x) → (∀ x, W.frozen? x = (W1.setCells w.heap.size (i * 6) vs).frozen? x) → ∀ ty dc sc, (Builtin.copy_ #[43, 43] ty #[.slice (some ⟨w.heap.size, (i + m) * 6, none⟩) (n + m - (i + m)) dc, .slice (some ⟨p, off + i * 6, none⟩) (n - i) sc]).run Tryd.prog W = .ok (goInt ((n - i : Nat) : Int)) (W.setCells w.heap.size ((i + m) * 6) cs) := fun W hWc hWf ty dc sc =>
    copy_he W ty w.heap.size ((i + m) * 6) (n + m - (i + m)) dc ⟨p, off + i * 6, none⟩ (n - i) sc cs (n - i) (by simp only [Nat.min_def]; split <;> omega) hcl
      (fun j v hj => by
        rw [Addr.add_lit, hWc, World.cell?_setCells_out _ _ _ _ _ (fun h _ => absurd h hbN)]
        exact hOb _ v (hcs j v hj))
      (fun j hj => by rw [hWc]; exact isSome_setCellsJ _ _ _ _ (fun t ht => hN _ (by rw [hvl] at ht; omega)) _ (hN _ (by rw [hcl] at hj; omega)))
      (fun j hj => by rw [hWf, World.frozen?_setCells]; exact hNf _) h1c
  subst hW1
  have hE1 : ∀ x, ((w.alloc (.cells ROW 42)).drew).cell? x = (w.drew.alloc (.cells ROW 42)).cell? x := fun x => rfl
  have hE2 : ∀ x, ((w.alloc (.cells ROW 42)).drew).frozen? x = (w.drew.alloc (.cells ROW 42)).frozen? x := fun x => rfl
  have hF1 : ∀ x, (((w.alloc (.cells ROW 42)).drew.setCells w.heap.size (i * 6) vs).drew).cell? x = ((w.drew.alloc (.cells ROW 42)).setCells w.heap.size (i * 6) vs).cell? x := fun x => rfl
  have hF2 : ∀ x, (((w.alloc (.cells ROW 42)).drew.setCells w.heap.size (i * 6) vs).drew).frozen? x = ((w.drew.alloc (.cells ROW 42)).setCells w.heap.size (i * 6) vs).frozen? x := fun x => rfl
  have hw1 : IntKind.i64.wrap ((i : Int) + (m : Int)) = (i : Int) + (m : Int) := by rw [IntKind.wrap_i64]; omega
  have hb1 : (0 : Int) ≤ (i : Int) + (m : Int) := by omega
  have hin : i ≤ n := by omega
  have htn : ((i : Int) + (m : Int)).toNat = i + m := by omega
  have hb3 : (i : Int) ≤ (n : Int) := by omega
  clear hkk hik hold hROW hG hRl hcl0 hcl hvl hcs0 hcs hvs hN hNf hOb hOv
  go_enter Tryd.func25, Tryd.ntmps25
  go_wp2_with (first
    | (at_builtin; refine Lib.wpList_append_run _ rfl _ _ _ _ rfl _ _ rfl rfl _ _ (hrz _) ?_)
    | (at_builtin; refine wpList_copy_runJ _ rfl _ _ 43 43 rfl _ _ rfl rfl (hcpA _ hE1 hE2 _ _) ?_)
    | (at_builtin; refine wpList_copy_runJ _ rfl _ _ 43 43 rfl _ _ rfl rfl (hcpB _ (fun _ => rfl) (fun _ => rfl) _ _ _) ?_))
  go_region_law_o (refine step_copy_runJ rfl _ _ 43 43 rfl (.slice (some ⟨w.heap.size, (i + m) * 6, none⟩) (n + m - (i + m)) (G - (i + m))) (.slice (some ⟨p, off + i * 6, none⟩) (n - i) (c - i)) (by simp [Act.eval, Act.put]) (by simp [Act.eval, Act.put]) (hcpB _ hF1 hF2 3 (G - (i + m)) (c - i)) ?_)
  go_wp2
  go_ret
  exact ⟨rfl, rfl⟩
end Go.Proofs.YtijndljfpiomhaaDoor
