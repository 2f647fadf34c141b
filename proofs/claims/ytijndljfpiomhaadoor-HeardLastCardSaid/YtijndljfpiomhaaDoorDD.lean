/- slices.Delete at the entries of the list: walked in the world. -/
import Derived.Test.YtijndljfpiomhaaDoorProg
import Derived.Shelf.RegionOpenPlain
import Derived.WalkKit
import Derived.Deep.RegionLaw
import Derived.Lib.Walk
import Derived.Lib.SliceRun
import Derived.Laws.IdiomCopy
import Derived.KernelRfl
namespace Go.Proofs.YtijndljfpiomhaaDoor
open Go.Shelf Go.RowKit Go.Lib
set_option linter.unusedSimpArgs false
set_option linter.unusedVariables false

/-- An entry that is nobody's. -/
def heZ : List Value := [.string ⟨#[]⟩, .int .i64 0, .string ⟨#[]⟩, .int .i64 0, .int .i64 0, .int .i64 0]
theorem he_info : ∃ i, Tryd.prog.info? 42 = some i ∧ i.size = 6 ∧ i.zero = some (.agg heZ.toArray) := by
  have h : ((Tryd.prog.info? 42).map fun i => i.size) = some 6 := by kernel_rfl
  have h2 : ((Tryd.prog.info? 42).bind fun i => i.zero) = some (.agg heZ.toArray) := by kernel_rfl
  cases hi : Tryd.prog.info? 42 with
  | none => rw [hi] at h; cases h
  | some i =>
    rw [hi] at h h2
    exact ⟨i, rfl, by simpa using h, by simpa using h2⟩
theorem he_zero (w : World) : (zeroValue 42).run Tryd.prog w = .ok (.agg heZ.toArray) w := by
  obtain ⟨i, hi, _, hz⟩ := he_info
  simp [zeroValue, typeInfo, hi, hz, Sem.run]

/-- A row of entries is cleared: one. -/
theorem clear_one (w : World) (ty : TypeId) (p o c : Nat) (hc : ∀ j, j < 6 → (w.cell? ⟨p, o + j, none⟩).isSome = true) (hf : ∀ j, j < 6 → w.frozen? ⟨p, o + j, none⟩ = false) :
    (Builtin.clear_ #[43] ty #[.slice (some ⟨p, o, none⟩) 1 c]).run Tryd.prog w = .ok (.tuple #[]) (w.setCells p o heZ) := by
  have hst := run_storeCells_cells (P := Tryd.prog) p o heZ 0 w (by simpa [heZ] using hc) (by simpa [heZ] using hf) (by intro v hv; simp [heZ] at hv; rcases hv with rfl | rfl | rfl | rfl <;> rfl)
  simp only [Nat.add_zero] at hst
  have hzc : (Builtin.zeroCells (Value.agg heZ.toArray).cells 1).toList = heZ := by kernel_rfl
  simp only [Builtin.clear_, List.getElem?_toArray, List.getElem?_cons_zero, Sem.run_bind, run_underlying Tryd.underlying43, he_zero, hzc, hst, Result.andThen_ok, Sem.run_pure]

set_option maxHeartbeats 4000000 in
set_option maxRecDepth 1000000 in
theorem del_any (p off cap n i j : Nat) (w : World) (news : List Value) (hij1 : Hid (j = i + 1)) (hij : i ≤ j) (hj : j ≤ n) (hnc : n ≤ cap) (hnl : news.length = (n - j) * 6)
    (hnews : ∀ t u, news[t]? = some u → w.cell? ⟨p, off + j * 6 + t, none⟩ = some u) (h1 : ∀ u ∈ news, u.oneCell' = true)
    (hc : ∀ t, t < n * 6 → (w.cell? ⟨p, off + t, none⟩).isSome = true) (hf : ∀ t, t < n * 6 → w.frozen? ⟨p, off + t, none⟩ = false) :
    Calls Tryd.prog 23 #[.slice (some ⟨p, off, none⟩) n cap, .int .i64 i, .int .i64 j] w fun e w' =>
      e = .returned (.slice (some ⟨p, off, none⟩) (n - 1) cap) ∧ w' = (w.drew.setCells p (off + i * 6) news).setCells p (off + (n - 1) * 6) heZ := by
  obtain ⟨i0, hi0, hz1, _⟩ := he_info
  have mixed : Tryd.prog.follows .mixedOrders = true := by kernel_rfl
  have hjv := hij1.out
  obtain ⟨A, hA, hsrc⟩ : ∃ A : Addr, (if cap = j then some (⟨p, off, none⟩ : Addr) else some ⟨p, off + j * 6, none⟩) = some A ∧ Hid (∀ t u, news[t]? = some u → w.drew.cell? (A.add t) = some u) := by
    by_cases h : cap = j
    · refine ⟨⟨p, off, none⟩, by simp [h], fun t u hu => ?_⟩
      have h0 : news.length = 0 := by rw [hnl]; omega
      rw [List.length_eq_zero_iff.1 h0] at hu
      simp at hu
    · refine ⟨⟨p, off + j * 6, none⟩, by simp [h], fun t u hu => ?_⟩
      rw [Addr.add_lit]
      exact hnews t u hu
  have s1 : Hid (news.length = (n - j) * 6) := hnl
  have s2 : Hid (∀ u ∈ news, u.oneCell' = true) := h1
  have s3 : Hid (∀ t, t < news.length → (w.drew.cell? ⟨p, off + i * 6 + t, none⟩).isSome = true ∧ w.drew.frozen? ⟨p, off + i * 6 + t, none⟩ = false) := by
    intro t ht
    rw [hnl] at ht
    rw [Nat.add_assoc]
    exact ⟨hc (i * 6 + t) (by omega), hf (i * 6 + t) (by omega)⟩
  obtain ⟨W1, hW1⟩ : ∃ W1, W1 = w.drew.setCells p (off + i * 6) news := ⟨_, rfl⟩
  have hW1c : ∀ k, k < n * 6 → (W1.cell? ⟨p, off + k, none⟩).isSome = true := fun k hk => by
    rw [hW1]
    by_cases hin : off + i * 6 ≤ off + k ∧ off + k < off + i * 6 + news.length
    · have := World.cell?_setCells_in p news (off + i * 6) w.drew (fun j hj => by rw [Nat.add_assoc]; exact hc _ (by omega)) (off + k - (off + i * 6)) (by omega)
      rw [show off + i * 6 + (off + k - (off + i * 6)) = off + k by omega] at this
      rw [this]; rfl
    · rw [World.cell?_setCells_out p news (off + i * 6) w.drew ⟨p, off + k, none⟩ (fun _ _ => by show off + k < off + i * 6 ∨ off + i * 6 + news.length ≤ off + k; omega)]
      exact hc k hk
  have en : i + (n - j) = n - 1 := by omega
  have en1 : n - (n - 1) = 1 := by omega
  have hcl : Hid (∀ ty, (Builtin.clear_ #[43] ty #[.slice (some ⟨p, off + (i + (n - j)) * 6, none⟩) (n - (i + (n - j))) (cap - (i + (n - j)))]).run Tryd.prog W1 = .ok (.tuple #[]) (W1.setCells p (off + (n - 1) * 6) heZ)) := fun ty => by
    rw [en, en1]
    exact clear_one W1 ty p (off + (n - 1) * 6) _ (fun j hj => by rw [Nat.add_assoc]; exact hW1c _ (by omega)) (fun j hj => by rw [hW1, World.frozen?_setCells, Nat.add_assoc]; exact hf _ (by omega))
  have hW : Hid (W1 = w.drew.setCells p (off + i * 6) news) := hW1
  have hic : i ≤ cap := by omega
  have hjc : j ≤ cap := by omega
  have hne : ¬ i = j := by omega
  have hen : Hid (i + (n - j) = n - 1) := en
  clear hjv en en1
  clear hW1 hW1c hc hf hnews hnl h1
  go_enter Tryd.func23, Tryd.ntmps23
  go_wp2_with fail
  go_region_law_o (refine step_append_room rfl (.tmp 22) (.tmp 25) 43 rfl 42 i0 6 Tryd.underlying43 hi0 hz1 p off i cap (by simp [Act.eval, Act.put]) A (n - j) (cap - j) news (by simp [Act.eval, Act.put]) s1.out hsrc.out s2.out (by omega) s3.out ?_; rw [← hW.out])
  go_wp2
  rw [hcl.out]
  go_wp2
  go_ret
  rw [hen.out, hW.out]
  exact ⟨rfl, rfl⟩

end Go.Proofs.YtijndljfpiomhaaDoor
