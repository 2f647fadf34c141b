/- Messages that go through a box: how the pieces stand; the taking of one, walked. -/
import Derived.Test.YtfpnnaalbjmnlaaV
import Derived.Test.YtfpnnaalbjmnlaaG
namespace Go.Proofs.Ytfpnnaalbjmnlaa
open Go.Lg
set_option maxRecDepth 8000
set_option maxHeartbeats 16000000
set_option linter.unusedSimpArgs false
set_option linter.unnecessarySimpa false
set_option linter.unusedVariables false

/-- A message's pieces. -/
def mcut (n1 : Int) (w : PP) : List PP := (splitL w.1 n1 w.2).1
def lstT (n1 : Int) (k : Nat) : List PP → List (List PP)
  | [] => []
  | w :: ws => (mcut n1 w).drop k :: ws.map (mcut n1)
structure Th (n1 : Int) (want : List PP) (got k : Nat) (Ls : List (List PP)) (g : GS) : Prop where
  le : got ≤ want.length
  ok : ∀ w ∈ want, (splitL w.1 n1 w.2).2 = 0
  ls : Ls = lstT n1 k (want.drop got)
  hd : ∀ w, want[got]? = some w → k < (mcut n1 w).length ∧ (k = 0 ∨ g = stG w.1.toNat (n1.toNat - 1) (mcut n1 w).length w.2 k)
  n8 : Ls.length ≤ 8
  gk : g.Ok
namespace Th
variable {n1 : Int} {want : List PP} {got k : Nat} {Ls : List (List PP)} {g : GS}
theorem cut (h : Th n1 want got k Ls g) {w : PP} (hw : w ∈ want) : Cut w.1 w.2 (mcut n1 w) (n1.toNat - 1) := split_cut _ _ _ (h.ok w hw)
theorem dropw {w : PP} (h : want[got]? = some w) : want.drop got = w :: want.drop (got + 1) := by
  obtain ⟨h1, h2⟩ := List.getElem?_eq_some_iff.mp h
  rw [List.drop_eq_getElem_cons h1, h2]
theorem mem (h : Th n1 want got k Ls g) : ∀ l ∈ Ls, l ≠ [] ∧ l.length ≤ 41 := by
  intro l hl
  rw [h.ls] at hl
  cases hw : want[got]? with
  | none =>
    rw [List.drop_of_length_le (List.getElem?_eq_none_iff.mp hw)] at hl
    simp [lstT] at hl
  | some w =>
    rw [dropw hw] at hl
    simp only [lstT, List.mem_cons, List.mem_map] at hl
    rcases hl with rfl | ⟨w', hw', rfl⟩
    · have h1 := (h.hd w hw).1
      have h2 := (h.cut (List.mem_of_getElem? hw)).le
      refine ⟨fun e => ?_, by rw [List.length_drop]; omega⟩
      have := congrArg List.length e
      simp at this; omega
    · have hc := h.cut (List.mem_of_mem_drop hw')
      have h1 := hc.pos
      exact ⟨fun e => by rw [e] at h1; simp at h1, hc.le⟩
theorem none_left (h : Th n1 want got k Ls g) (hL : Ls = []) : got = want.length := by
  cases hw : want[got]? with
  | none => have := List.getElem?_eq_none_iff.mp hw; have := h.le; omega
  | some w =>
    have := h.ls
    rw [dropw hw, hL] at this
    cases this
/-- A message is put. -/
theorem put (h : Th n1 want got k Ls g) (w : PP) (hw : (splitL w.1 n1 w.2).2 = 0) (h8 : Ls.length < 8) : ∃ k', Th n1 (want ++ [w]) got k' (Ls ++ [mcut n1 w]) g := by
  have hle := h.le
  have hpos : 0 < (mcut n1 w).length := (split_cut _ _ _ hw).pos
  cases hg : want[got]? with
  | none =>
    have hgl := List.getElem?_eq_none_iff.mp hg
    have hL : Ls = [] := by
      rw [h.ls, List.drop_of_length_le hgl]; rfl
    refine ⟨0, by simp; omega, fun x hx => ?_, ?_, fun x hx => ?_, by simp; omega, h.gk⟩
    · rcases List.mem_append.mp hx with h1 | h1
      · exact h.ok x h1
      · simp at h1; subst h1; exact hw
    · rw [hL, List.drop_append, List.drop_of_length_le hgl, show got - want.length = 0 by omega]; rfl
    · rw [List.getElem?_append_right (by omega), show got - want.length = 0 by omega] at hx
      simp at hx; subst hx
      exact ⟨hpos, .inl rfl⟩
  | some w0 =>
    have hgl := (List.getElem?_eq_some_iff.mp hg).1
    refine ⟨k, by simp; omega, fun x hx => ?_, ?_, fun x hx => ?_, by simp; omega, h.gk⟩
    · rcases List.mem_append.mp hx with h1 | h1
      · exact h.ok x h1
      · simp at h1; subst h1; exact hw
    · rw [List.drop_append_of_le_length (by omega), h.ls, dropw hg]
      simp [lstT]
    · rw [List.getElem?_append_left hgl] at hx
      exact h.hd x hx
/-- A piece is taken. -/
theorem take {x : PP} {r : List PP} {rest : List (List PP)} (h : Th n1 want got k ((x :: r) :: rest) g) : x.2.length ≤ 700 ∧ ∃ w, want[got]? = some w ∧
    ((r ≠ [] ∧ takeT g x.1 x.2 = ⟨(takeT g x.1 x.2).g, 0, [], false, 0⟩ ∧ Th n1 want got (k + 1) (r :: rest) (takeT g x.1 x.2).g) ∨
     (r = [] ∧ takeT g x.1 x.2 = ⟨(takeT g x.1 x.2).g, w.1, w.2, true, 0⟩ ∧ Th n1 want (got + 1) 0 rest (takeT g x.1 x.2).g)) := by
  have hls := h.ls
  cases hg : want[got]? with
  | none =>
    rw [List.drop_of_length_le (List.getElem?_eq_none_iff.mp hg)] at hls
    cases hls
  | some w =>
    have hgl := (List.getElem?_eq_some_iff.mp hg).1
    rw [dropw hg, lstT] at hls
    obtain ⟨e1, e2⟩ := List.cons.inj hls
    obtain ⟨hk, hgs⟩ := h.hd w hg
    have hc := h.cut (List.mem_of_getElem? hg)
    have hx : (mcut n1 w)[k]? = some x := by
      have := congrArg (fun l => l[0]?) e1
      simpa using this.symm
    have hr : r = (mcut n1 w).drop (k + 1) := by
      have := congrArg (List.drop 1) e1
      simpa [List.drop_drop, Nat.add_comm] using this
    obtain ⟨g', hgo⟩ := hc.go k x hx g hgs
    have hok' := take_ok (p := x.1) (i := x.2) h.gk
    refine ⟨hc.info k x hx, w, rfl, ?_⟩
    have h8 := h.n8
    by_cases hend : k + 1 < (mcut n1 w).length
    · rw [if_pos hend] at hgo
      refine .inl ⟨fun e => ?_, by rw [hgo], ⟨h.le, h.ok, ?_, fun w' hw' => ?_, h8, hok'⟩⟩
      · rw [e] at hr
        have := congrArg List.length hr
        simp at this; omega
      · rw [dropw hg, lstT, ← hr, ← e2]
      · rw [hg] at hw'; cases hw'
        exact ⟨hend, .inr (by rw [hgo])⟩
    · rw [if_neg hend] at hgo
      refine .inr ⟨by rw [hr, List.drop_of_length_le (by omega)], by rw [hgo], ⟨by omega, h.ok, ?_, fun w' hw' => ?_, by simp at h8; omega, hok'⟩⟩
      · rw [e2]
        cases hd : want.drop (got + 1) with
        | nil => rfl
        | cons a l => simp [lstT]
      · have hc' := h.cut (List.mem_of_getElem? hw')
        exact ⟨hc'.pos, .inl rfl⟩
end Th

/-- What lies in memory: box, gatherer, what was put, how many came. -/
structure Tb (m M : Mem) (bi a : Nat) (n1 put : Int) (Ls : List (List PP)) (g : GS) (want : List PP) (got : Nat) (sv : Value) (Fc Hw : List Nat) : Prop where
  c : Bx M bi Fc n1 put Ls
  q5 : M[a]? = some ⟨[.pointer (some ⟨bi, 0, none⟩)], 25, 1, 0, .own⟩
  gc : M[a + 1]? = some ⟨g.cells, 65, 1, 0, .own⟩
  q7 : M[a + 2]? = some ⟨[.pointer (some ⟨a + 1, 0, none⟩)], 48, 1, 0, .own⟩
  q8 : M[a + 3]? = some ⟨[sv], 50, 1, 0, .own⟩
  q9 : M[a + 4]? = some ⟨[.int .i64 (got : Int)], 3, 1, 0, .own⟩
  sl : Sl M 36 2 sv Hw (want.map prow)
  ha : m.length ≤ a
  nc : ∀ x ∈ Fc, m.length ≤ x ∧ (x < a ∨ a + 4 < x) ∧ x ∉ Hw
  nh : ∀ x ∈ Hw, a + 4 < x
  f : Frm [] m M
namespace Tb
variable {m M M' : Mem} {bi a : Nat} {n1 put put' : Int} {Ls Ls' : List (List PP)} {g g' : GS} {want want' : List PP} {got got' : Nat} {sv sv' : Value} {Fc Hw F' : List Nat}
theorem pure (h : Tb m M bi a n1 put Ls g want got sv Fc Hw) (k : Frm [] M M') : Tb m M' bi a n1 put Ls g want got sv Fc Hw :=
  ⟨h.c.frm k (by simp), k.get0 h.q5, k.get0 h.gc, k.get0 h.q7, k.get0 h.q8, k.get0 h.q9, h.sl.frm0 k, h.ha, h.nc, h.nh, h.f.nil_trans k⟩
theorem stepC (h : Tb m M bi a n1 put Ls g want got sv Fc Hw) (k : Frm Fc M M') (hc : Bx M' bi F' n1 put' Ls') (hn : NwF M Fc F') : Tb m M' bi a n1 put' Ls' g want got sv F' Hw := by
  have hl := h.f.len
  have h9 := lt_of_some h.q9
  have nf : ∀ y, a ≤ y → y ≤ a + 4 → y ∉ Fc := fun y h1 h2 hy => by have := (h.nc y hy).2.1; omega
  refine ⟨hc, k.get h.q5 (nf _ (by omega) (by omega)), k.get h.gc (nf _ (by omega) (by omega)), k.get h.q7 (nf _ (by omega) (by omega)), k.get h.q8 (nf _ (by omega) (by omega)), k.get h.q9 (nf _ (by omega) (by omega)), h.sl.frm k fun x hx hx' => (h.nc x hx').2.2 hx, h.ha, fun x hx => ?_, h.nh, h.f.trans k fun x hx => .inr (h.nc x hx).1⟩
  rcases hn x hx with h1 | h1
  · exact h.nc x h1
  · exact ⟨by omega, by omega, fun h2 => by have := h.sl.lt x h2; omega⟩
/-- One of the five is written. -/
theorem stepX (h : Tb m M bi a n1 put Ls g want got sv Fc Hw) {y : Nat} {B : Blk} (hy : a ≤ y ∧ y ≤ a + 4) : Frm [] m (M.set y B) ∧ Bx (M.set y B) bi Fc n1 put Ls ∧ Sl (M.set y B) 36 2 sv Hw (want.map prow) ∧ (∀ z b, z ≠ y → M[z]? = some b → (M.set y B)[z]? = some b) := by
  have hset : Frm [y] M (M.set y B) := Frm.refl.set (by simp)
  have ha := h.ha
  refine ⟨h.f.trans hset fun x hx => .inr (by simp at hx; omega), h.c.frm hset fun x hx hx' => ?_, h.sl.frm hset fun x hx hx' => ?_, fun z b hz hb => hset.get hb (by simpa using hz)⟩
  · have h1 := (h.nc x hx).2.1
    have e : x = y := by simpa using hx'
    omega
  · have h1 := h.nh x hx
    have e : x = y := by simpa using hx'
    omega
theorem stepG (h : Tb m M bi a n1 put Ls g want got sv Fc Hw) : Tb m (M.set (a + 1) ⟨g'.cells, 65, 1, 0, .own⟩) bi a n1 put Ls g' want got sv Fc Hw := by
  obtain ⟨h1, h2, h3, h4⟩ := h.stepX (y := a + 1) (B := ⟨g'.cells, 65, 1, 0, .own⟩) (by omega)
  exact ⟨h2, h4 _ _ (by omega) h.q5, by rw [List.getElem?_set_self (lt_of_some h.gc)], h4 _ _ (by omega) h.q7, h4 _ _ (by omega) h.q8, h4 _ _ (by omega) h.q9, h3, h.ha, h.nc, h.nh, h1⟩
theorem step9 (h : Tb m M bi a n1 put Ls g want got sv Fc Hw) : Tb m (M.set (a + 4) ⟨[.int .i64 (got' : Int)], 3, 1, 0, .own⟩) bi a n1 put Ls g want got' sv Fc Hw := by
  obtain ⟨h1, h2, h3, h4⟩ := h.stepX (y := a + 4) (B := ⟨[.int .i64 (got' : Int)], 3, 1, 0, .own⟩) (by omega)
  exact ⟨h2, h4 _ _ (by omega) h.q5, h4 _ _ (by omega) h.gc, h4 _ _ (by omega) h.q7, h4 _ _ (by omega) h.q8, by rw [List.getElem?_set_self (lt_of_some h.q9)], h3, h.ha, h.nc, h.nh, h1⟩
theorem step8 (h : Tb m M bi a n1 put Ls g want got sv Fc Hw) {H' : List Nat} (k : Frm Hw M M') (hs : Sl M' 36 2 sv' H' (want'.map prow)) (hH : ∀ x ∈ H', M.length ≤ x) : Tb m (M'.set (a + 3) ⟨[sv'], 50, 1, 0, .own⟩) bi a n1 put Ls g want' got sv' Fc H' := by
  have hl := h.f.len
  have h9 := lt_of_some h.q9
  have ha := h.ha
  have hFl := h.c.lt
  have nf : ∀ y, y ≤ a + 4 → y ∉ Hw := fun y h2 hy => by have := h.nh y hy; omega
  have hset : Frm [a + 3] M' (M'.set (a + 3) ⟨[sv'], 50, 1, 0, .own⟩) := Frm.refl.set (by simp)
  have q8' := k.get h.q8 (nf _ (by omega))
  refine ⟨(h.c.frm k fun x hx hx' => (h.nc x hx).2.2 hx').frm hset fun x hx hx' => ?_, hset.get (k.get h.q5 (nf _ (by omega))) (by simp), hset.get (k.get h.gc (nf _ (by omega))) (by simp), hset.get (k.get h.q7 (nf _ (by omega))) (by simp), by rw [List.getElem?_set_self (lt_of_some q8')], hset.get (k.get h.q9 (nf _ (by omega))) (by simp), hs.frm hset fun x hx hx' => ?_, h.ha, fun x hx => ⟨(h.nc x hx).1, (h.nc x hx).2.1, fun hx' => ?_⟩, fun x hx => ?_, (h.f.trans k fun x hx => .inr ?_).trans hset fun x hx => .inr ?_⟩
  · have h1 := (h.nc x hx).2.1
    have e : x = a + 3 := by simpa using hx'
    omega
  · have h1 := hH x hx
    have e : x = a + 3 := by simpa using hx'
    omega
  · have h1 := hH x hx'; have h2 := hFl x hx; omega
  · have h1 := hH x hx; omega
  · have h1 := h.nh x hx; omega
  · have e : x = a + 3 := by simpa using hx
    omega
end Tb
end Go.Proofs.Ytfpnnaalbjmnlaa
