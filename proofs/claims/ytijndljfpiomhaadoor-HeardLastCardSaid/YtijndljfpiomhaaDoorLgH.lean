/- Comparisons of pointers, structs and the like; parts of tuples; lengths; the least and the greatest. -/
import Derived.Test.YtijndljfpiomhaaDoorLgG
import Derived.Laws.StructEq
namespace Go.Lg

variable {P : Program} {base : Nat} {r : Rho} {m : Mem} {w : World}

/-- The types that a class of leaves is of. -/
def leafOK (P : Program) (T : TypeId) : EqC → Bool
  | .bool => match P.underlying T with | some .bool => true | _ => false
  | .int => match P.underlying T with | some (.int _) => true | _ => false
  | .string => match P.underlying T with | some .string => true | _ => false
  | .ptr => match P.underlying T with
    | some (.pointer e) => (match P.info? e with | some i => i.size != 0 | none => false)
    | some .unsafePointer => true
    | _ => false
  | .slice => match P.underlying T with | some (.slice _) => true | _ => false
  | .func => match P.underlying T with | some (.func _ _ _) => true | _ => false

theorem sameAddr_same (b x y : Nat) : (sameAddr ⟨b, x, none⟩ ⟨b, y, none⟩).run P w = .ok ((⟨b, x, none⟩ : Addr) == ⟨b, y, none⟩) w := by
  simp [sameAddr]

theorem eqLeaf_run {T : TypeId} {c : EqC} (hT : leafOK P T c = true) {x y x' y' : Value} (hx0 : CR r x x') (hy0 : CR r y y') {b : Bool} (he : eqLeaf c x y = some b) (d : Nat) :
    (Op.equalIn (d + 1) T x' y').run P w = .ok b w := by
  have hx := VR.base (.cell hx0)
  have hy := VR.base (.cell hy0)
  clear hx0 hy0
  unfold eqLeaf at he
  split at he
  · obtain rfl := hx.bool_inv; obtain rfl := hy.bool_inv
    simp at he; subst he
    unfold leafOK at hT; simp only at hT
    split at hT
    · rename_i hu
      simp [Op.equalIn, run_und hu]
      rename_i a b; cases a <;> cases b <;> rfl
    · simp at hT
  · obtain rfl := hx.int_inv; obtain rfl := hy.int_inv
    unfold leafOK at hT; simp only at hT
    split at he
    · rename_i hk; subst hk
      simp at he; subst he
      split at hT
      · rename_i hu
        simp [Op.equalIn, run_und hu]
        rfl
      · simp at hT
    · simp at he
  · obtain rfl := hx.string_inv; obtain rfl := hy.string_inv
    simp at he; subst he
    unfold leafOK at hT; simp only at hT
    split at hT
    · rename_i hu
      simp [Op.equalIn, run_und hu]
      rw [beq_toListBytes, str_beq]
    · simp at hT
  · obtain rfl := hx.nilPtr_inv; obtain rfl := hy.nilPtr_inv
    simp at he; subst he
    unfold leafOK at hT; simp only at hT
    split at hT
    · rename_i e hu; simp [Op.equalIn, run_und hu]
    · rename_i hu; simp [Op.equalIn, run_und hu, samePointer]
    · simp at hT
  · rename_i a
    obtain rfl := hx.nilPtr_inv
    have : ∃ a', y' = .pointer (some a') := by
      rcases hy with ⟨⟨⟨hy⟩⟩⟩; cases hy; exact ⟨_, rfl⟩
    obtain ⟨a', rfl⟩ := this
    simp at he; subst he
    unfold leafOK at hT; simp only at hT
    split at hT
    · rename_i e hu; simp [Op.equalIn, run_und hu]
    · rename_i hu; simp [Op.equalIn, run_und hu, samePointer]
    · simp at hT
  · rename_i a
    obtain rfl := hy.nilPtr_inv
    have : ∃ a', x' = .pointer (some a') := by
      rcases hx with ⟨⟨⟨hx⟩⟩⟩; cases hx; exact ⟨_, rfl⟩
    obtain ⟨a', rfl⟩ := this
    simp at he; subst he
    unfold leafOK at hT; simp only at hT
    split at hT
    · rename_i e hu; simp [Op.equalIn, run_und hu]
    · rename_i hu; simp [Op.equalIn, run_und hu, samePointer]
    · simp at hT
  · rename_i i o j p
    split at he
    · rename_i hij
      subst hij
      simp at he; subst he
      obtain ⟨b1, d1, t1, z1, h1, rfl⟩ := hx.ptr_inv
      obtain ⟨b2, d2, t2, z2, h2, rfl⟩ := hy.ptr_inv
      rw [h1] at h2
      simp at h2
      obtain ⟨rfl, rfl, rfl, rfl⟩ := h2
      have hbeq : (({ block := b1, off := d1 + o, spot := none } : Addr) == { block := b1, off := d1 + p, spot := none }) = decide (o = p) := by
        by_cases e : o = p
        · subst e; simp
        · have : ({ block := b1, off := d1 + o, spot := none } : Addr) ≠ { block := b1, off := d1 + p, spot := none } := by
            intro h; simp at h; exact e h
          simp [e]
      unfold leafOK at hT; simp only at hT
      split at hT
      · rename_i e hu
        split at hT
        · rename_i ti hti
          have hsz : ti.size ≠ 0 := by simpa using hT
          simp only [Op.equalIn, Sem.run_bind, run_und hu, Result.andThen_ok, run_size hti]
          rw [if_pos hsz, sameAddr_same, hbeq]
        · simp at hT
      · rename_i hu
        simp only [Op.equalIn, Sem.run_bind, run_und hu, Result.andThen_ok, samePointer]
        rw [sameAddr_same, hbeq]
      · simp at hT
    · simp at he
  · have h1 : x' = .slice none 0 0 := by rcases hx with ⟨⟨⟨hx⟩⟩⟩; cases hx; rfl
    have h2 : y' = .slice none 0 0 := by rcases hy with ⟨⟨⟨hy⟩⟩⟩; cases hy; rfl
    subst h1 h2
    simp at he; subst he
    unfold leafOK at hT; simp only at hT
    split at hT
    · rename_i hu; simp [Op.equalIn, run_und hu]
    · simp at hT
  · have h1 : x' = .slice none 0 0 := by rcases hx with ⟨⟨⟨hx⟩⟩⟩; cases hx; rfl
    have h2 : ∃ a n c, y' = .slice (some a) n c := by rcases hy with ⟨⟨⟨hy⟩⟩⟩; cases hy; exact ⟨_, _, _, rfl⟩
    obtain ⟨a, n, c, rfl⟩ := h2
    subst h1
    simp at he; subst he
    unfold leafOK at hT; simp only at hT
    split at hT
    · rename_i hu; simp [Op.equalIn, run_und hu]
    · simp at hT
  · have h1 : y' = .slice none 0 0 := by rcases hy with ⟨⟨⟨hy⟩⟩⟩; cases hy; rfl
    have h2 : ∃ a n c, x' = .slice (some a) n c := by rcases hx with ⟨⟨⟨hx⟩⟩⟩; cases hx; exact ⟨_, _, _, rfl⟩
    obtain ⟨a, n, c, rfl⟩ := h2
    subst h1
    simp at he; subst he
    unfold leafOK at hT; simp only at hT
    split at hT
    · rename_i hu; simp [Op.equalIn, run_und hu]
    · simp at hT
  · obtain rfl := hx.nilFunc_inv; obtain rfl := hy.nilFunc_inv
    simp at he; subst he
    unfold leafOK at hT; simp only at hT
    split at hT
    · rename_i hu; simp [Op.equalIn, run_und hu]
    · simp at hT
  · obtain rfl := hx.nilFunc_inv
    have h2 : ∃ f a c, y' = .func f a c := by
      rcases hy with ⟨⟨hy⟩⟩; cases hy with
      | atom h => cases h
      | func => exact ⟨_, _, _, rfl⟩
    obtain ⟨f, a, c, rfl⟩ := h2
    simp at he; subst he
    unfold leafOK at hT; simp only at hT
    split at hT
    · rename_i hu; simp [Op.equalIn, run_und hu]
    · simp at hT
  · obtain rfl := hy.nilFunc_inv
    have h2 : ∃ f a c, x' = .func f a c := by
      rcases hx with ⟨⟨hx⟩⟩; cases hx with
      | atom h => cases h
      | func => exact ⟨_, _, _, rfl⟩
    obtain ⟨f, a, c, rfl⟩ := h2
    simp at he; subst he
    unfold leafOK at hT; simp only at hT
    split at hT
    · rename_i hu; simp [Op.equalIn, run_und hu]
    · simp at hT
  · simp at he

def sizeP (P : Program) (T : TypeId) : Nat := ((P.info? T).map (·.size)).getD 0
def leafC (P : Program) (T : TypeId) : Option EqC :=
  match P.underlying T with
  | some .bool => some .bool
  | some (.int _) => some .int
  | some .string => some .string
  | some (.pointer _) => if leafOK P T .ptr then some .ptr else none
  | some (.slice _) => some .slice
  | some (.func _ _ _) => some .func
  | _ => none
theorem leafC_ok {T : TypeId} {c : EqC} (h : leafC P T = some c) : leafOK P T c = true ∧ ∃ d, P.underlying T = some d ∧ isAggD d = false := by
  unfold leafC at h
  split at h <;> (try (simp at h; done)) <;> rename_i hu
  · simp at h; subst h; exact ⟨by simp [leafOK, hu], _, hu, rfl⟩
  · simp at h; subst h; exact ⟨by simp [leafOK, hu], _, hu, rfl⟩
  · simp at h; subst h; exact ⟨by simp [leafOK, hu], _, hu, rfl⟩
  · split at h
    · rename_i hl; simp at h; subst h; exact ⟨hl, _, hu, rfl⟩
    · simp at h
  · simp at h; subst h; exact ⟨by simp [leafOK, hu], _, hu, rfl⟩
  · simp at h; subst h; exact ⟨by simp [leafOK, hu], _, hu, rfl⟩

def leavesF (P : Program) (rec : TypeId → Nat → Option (List (Nat × EqC))) (sz off : Nat) : List Field → Option (List (Nat × EqC))
  | [] => some []
  | f :: fs =>
    if f.name = "_" ∨ ¬ (P.info? f.type).isSome ∨ ¬ f.offset + sizeP P f.type ≤ sz then none else
    match rec f.type (off + f.offset), leavesF P rec sz off fs with
    | some a, some b => some (a ++ b)
    | _, _ => none
def leavesA (rec : TypeId → Nat → Option (List (Nat × EqC))) (e esz off : Nat) : Nat → Nat → Option (List (Nat × EqC))
  | 0, _ => some []
  | n + 1, i => match rec e (off + i * esz), leavesA rec e esz off n (i + 1) with
    | some a, some b => some (a ++ b)
    | _, _ => none

/-- The leaves of a type, in order, from a place on. -/
def leavesOf (P : Program) : Nat → TypeId → Nat → Option (List (Nat × EqC))
  | 0, _, _ => none
  | n + 1, T, off =>
    match leafC P T with
    | some c => if sizeP P T = 1 then some [(off, c)] else none
    | none => match P.underlying T with
      | some (.struct fs) => if P.stoodInHeld T then none else leavesF P (leavesOf P n) (sizeP P T) off fs.toList
      | some (.array len e) => if (P.info? e).isSome ∧ len * sizeP P e ≤ sizeP P T then leavesA (leavesOf P n) e (sizeP P e) off len 0 else none
      | _ => none

theorem eqLeaves_append {xs ys : List Value} {l1 l2 : List (Nat × EqC)} {b : Bool} (h : eqLeaves xs ys (l1 ++ l2) = some b) : ∃ b1 b2, eqLeaves xs ys l1 = some b1 ∧ eqLeaves xs ys l2 = some b2 ∧ b = (b1 && b2) := by
  induction l1 generalizing b with
  | nil => exact ⟨true, b, rfl, h, by simp⟩
  | cons p l1 ih =>
    obtain ⟨o, c⟩ := p
    simp only [List.cons_append, eqLeaves] at h ⊢
    split at h
    · rename_i x y hx hy
      split at h
      · rename_i a b' h1 h2
        simp at h; subst h
        obtain ⟨b1, b2, e1, e2, rfl⟩ := ih h2
        exact ⟨a && b1, b2, by simp [h1, e1], e2, by simp [Bool.and_assoc]⟩
      · simp at h
    · simp at h

/-- A window of a row of cells. -/
def Win (W xs : List Value) (off sz : Nat) : Prop := ∀ j, j < sz → W[j]? = xs[off + j]?

theorem Win.sub {W xs : List Value} {off sz o n : Nat} (h : Win W xs off sz) (hle : o + n ≤ sz) : Win ((W.drop o).take n) xs (off + o) n := by
  intro j hj
  rw [List.getElem?_take, if_pos hj, List.getElem?_drop, h (o + j) (by omega), Nat.add_assoc]

/-- What is compared: a part, at a place. -/
theorem part_run {T : TypeId} {d : TypeDesc} {ti : TypeInfo} {W : List Value} {o : Nat} (hT : P.underlying T = some d) (hti : P.info? T = some ti) (hag : isAggD d = true) :
    (part T W.toArray o).run P w = .ok (.agg ((W.drop o).take ti.size).toArray) w := by
  rw [part_agg hT hag hti]
  simp

theorem leaf_at {T : TypeId} {c : EqC} (hc : leafC P T = some c) {W V xs ys xs' ys' : List Value} {off sz o : Nat} (hW : Win W xs' off sz) (hV : Win V ys' off sz) (ho : o < sz) (hx : F2 (CR r) xs xs') (hy : F2 (CR r) ys ys') {b : Bool} (he : eqLeaves xs ys [(off + o, c)] = some b) (d : Nat) :
    ∃ a a', (part T W.toArray o).run P w = .ok a w ∧ (part T V.toArray o).run P w = .ok a' w ∧ (Op.equalIn (d + 1) T a a').run P w = .ok b w := by
  obtain ⟨h1, dd, hu, hd⟩ := leafC_ok hc
  simp only [eqLeaves] at he
  split at he
  · rename_i x y hxx hyy
    split at he
    · rename_i a b' ha hb
      simp at he hb
      subst hb he
      obtain ⟨x', hx', hrx⟩ := hx.get hxx
      obtain ⟨y', hy', hry⟩ := hy.get hyy
      refine ⟨x', y', part_cell hu hd ?_, part_cell hu hd ?_, ?_⟩
      · simpa using (hW o ho).trans hx'
      · simpa using (hV o ho).trans hy'
      · simpa using eqLeaf_run h1 hrx hry ha d
    · simp at he
  · simp at he

def eqElems (d e sz : Nat) (X Y : Array Value) : Nat → Nat → Sem Bool
  | 0, _ => pure true
  | n + 1, i => do
    let a ← part e X (i * sz)
    let b ← part e Y (i * sz)
    let q ← Op.equalIn d e a b
    if (!q) = true then pure false else eqElems d e sz X Y n (i + 1)

theorem run_equalIn_array (d t len e : Nat) (ti : TypeInfo) (X Y : Array Value) (ht : P.underlying t = some (.array len e)) (hti : P.info? e = some ti) :
    (Op.equalIn (d + 1) t (.agg X) (.agg Y)).run P w = (eqElems d e ti.size X Y len 0).run P w := by
  simp only [Op.equalIn, Sem.run_bind, run_und ht, Result.andThen_ok, run_size hti]
  rw [Std.Legacy.Range.forIn_eq_forIn_range']
  simp only [Std.Legacy.Range.size, Nat.sub_zero, Nat.add_sub_cancel, Nat.div_one]
  generalize 0 = k
  clear ht
  induction len generalizing w k with
  | zero => simp [eqElems]
  | succ n ih =>
    simp only [List.range'_succ, List.forIn_cons, eqElems, Sem.run_bind]
    generalize (part e X (k * ti.size)).run P w = r1
    cases r1 with
    | ok a w1 =>
      simp only [Result.andThen_ok]
      generalize (part e Y (k * ti.size)).run P w1 = r2
      cases r2 with
      | ok b w2 =>
        simp only [Result.andThen_ok]
        generalize (Op.equalIn d e a b).run P w2 = r3
        cases r3 with
        | ok q w3 =>
          cases q
          · simp only [Result.andThen_ok, Bool.not_false, if_true, Sem.run_pure]
          · simp only [Result.andThen_ok, Bool.not_true, Bool.false_eq_true, if_false, Sem.run_pure]
            exact ih (k + 1)
        | halt x w3 => simp [Result.andThen]
      | halt x w2 => simp [Result.andThen]
    | halt x w1 => simp [Result.andThen]

def AggEq (P : Program) (w : World) (r : Rho) (n : Nat) : Prop :=
  ∀ T off ls, leavesOf P n T off = some ls → leafC P T = none → ∀ (W V xs ys xs' ys' : List Value) (b : Bool) (d : Nat), n ≤ d → Win W xs' off (sizeP P T) → Win V ys' off (sizeP P T) → F2 (CR r) xs xs' → F2 (CR r) ys ys' → eqLeaves xs ys ls = some b →
    (Op.equalIn d T (.agg W.toArray) (.agg V.toArray)).run P w = .ok b w

theorem part_eq {n : Nat} (hA : AggEq P w r n) {T off ls : _} (hl : leavesOf P n T off = some ls) (hi : (P.info? T).isSome = true) {W V xs ys xs' ys' : List Value} {off0 sz o : Nat} (he : off = off0 + o) (hle : o + sizeP P T ≤ sz) {b : Bool} {d : Nat} (hd : n ≤ d)
    (hW : Win W xs' off0 sz) (hV : Win V ys' off0 sz) (hx : F2 (CR r) xs xs') (hy : F2 (CR r) ys ys') (hb : eqLeaves xs ys ls = some b) :
    ∃ a a', (part T W.toArray o).run P w = .ok a w ∧ (part T V.toArray o).run P w = .ok a' w ∧ (Op.equalIn d T a a').run P w = .ok b w := by
  cases n with
  | zero => simp [leavesOf] at hl
  | succ n =>
    obtain ⟨d, rfl⟩ : ∃ d', d = d' + 1 := ⟨d - 1, by omega⟩
    cases hc : leafC P T with
    | some c =>
      simp only [leavesOf, hc] at hl
      split at hl
      · rename_i h1
        simp at hl; subst hl; subst he
        exact leaf_at hc hW hV (by omega) hx hy hb d
      · simp at hl
    | none =>
      obtain ⟨ti, hti⟩ := Option.isSome_iff_exists.1 hi
      have hsz : sizeP P T = ti.size := by simp [sizeP, hti]
      have hag : ∃ dd, P.underlying T = some dd ∧ isAggD dd = true := by
        simp only [leavesOf, hc] at hl
        split at hl
        · rename_i fs hu; exact ⟨_, hu, rfl⟩
        · rename_i len e hu; exact ⟨_, hu, rfl⟩
        · simp at hl
      obtain ⟨dd, hu, hag⟩ := hag
      refine ⟨_, _, part_run hu hti hag, part_run hu hti hag, ?_⟩
      subst he
      rw [hsz] at hle
      exact hA T _ ls hl hc _ _ xs ys xs' ys' b (d + 1) hd (by rw [hsz]; exact hW.sub hle) (by rw [hsz]; exact hV.sub hle) hx hy hb

theorem aggEq (n : Nat) : AggEq P w r n := by
  induction n with
  | zero => intro T off ls hl; simp [leavesOf] at hl
  | succ n ih =>
    intro T off ls hl hc W V xs ys xs' ys' b d hd hW hV hx hy hb
    obtain ⟨d, rfl⟩ : ∃ d', d = d' + 1 := ⟨d - 1, by omega⟩
    simp only [leavesOf, hc] at hl
    split at hl
    · rename_i fs hu
      split at hl
      · simp at hl
      · rename_i hst
        have hfs : P.fieldsOf T = fs := by simp [Program.fieldsOf, hu]
        rw [run_equalIn_struct w d T _ _ (by rw [hfs]; exact hu) (by simpa using hst), hfs]
        generalize fs.toList = l at hl
        clear hu hfs
        induction l generalizing ls b with
        | nil =>
          simp [leavesF] at hl; subst hl
          simp [eqLeaves] at hb; subst hb
          simp [Op.eqFields]
        | cons f l ihl =>
          simp only [leavesF] at hl
          split at hl
          · simp at hl
          · rename_i hcond
            split at hl
            · rename_i a b' ha hb'
              simp at hl; subst hl
              obtain ⟨b1, b2, e1, e2, rfl⟩ := eqLeaves_append hb
              have hn : f.name ≠ "_" := fun h => hcond (.inl h)
              have hi : (P.info? f.type).isSome = true := by
                cases h : (P.info? f.type).isSome with
                | true => rfl
                | false => exact absurd (.inr (.inl (by simp [h]))) hcond
              have hle : f.offset + sizeP P f.type ≤ sizeP P T := by
                rcases Nat.lt_or_ge (sizeP P T) (f.offset + sizeP P f.type) with h | h
                · exact absurd (.inr (.inr (by omega))) hcond
                · exact h
              obtain ⟨a1, a2, p1, p2, p3⟩ := part_eq ih ha hi rfl hle (by omega : n ≤ d) hW hV hx hy e1
              simp only [Op.eqFields, if_pos hn, Sem.run_bind, p1, p2, p3, Result.andThen_ok]
              cases b1 with
              | false => simp
              | true => simpa using ihl b' b2 e2 hb'
            · simp at hl
    · rename_i len e hu
      split at hl
      · rename_i hcond
        obtain ⟨hi, hle⟩ := hcond
        obtain ⟨ti, hti⟩ := Option.isSome_iff_exists.1 hi
        have hsz : sizeP P e = ti.size := by simp [sizeP, hti]
        rw [run_equalIn_array d T len e ti _ _ hu hti]
        have key : ∀ k i ls b, i + k = len → leavesA (leavesOf P n) e (sizeP P e) off k i = some ls → eqLeaves xs ys ls = some b → (eqElems d e ti.size W.toArray V.toArray k i).run P w = .ok b w := by
          intro k
          induction k with
          | zero =>
            intro i ls b _ hl hb
            simp [leavesA] at hl; subst hl
            simp [eqLeaves] at hb; subst hb
            simp [eqElems]
          | succ k ihk =>
            intro i ls b hik hl hb
            simp only [leavesA] at hl
            split at hl
            · rename_i a b' ha hb'
              simp at hl; subst hl
              obtain ⟨b1, b2, e1, e2, rfl⟩ := eqLeaves_append hb
              have hmul : i * sizeP P e + sizeP P e ≤ sizeP P T := by
                have : (i + 1) * sizeP P e ≤ len * sizeP P e := Nat.mul_le_mul_right _ (by omega)
                rw [Nat.add_mul] at this; omega
              obtain ⟨a1, a2, p1, p2, p3⟩ := part_eq ih ha hi rfl hmul (by omega : n ≤ d) hW hV hx hy e1
              rw [hsz] at p1 p2
              simp only [eqElems, Sem.run_bind, p1, p2, p3, Result.andThen_ok]
              cases b1 with
              | false => simp
              | true => simpa using ihk (i + 1) b' b2 (by omega) hb' e2
            · simp at hl
        exact key len 0 ls b (by omega) hl hb
      · simp at hl
    · simp at hl

def isNeq : BinOp → Bool
  | .neq => true
  | _ => false

def EqC.odd : EqC → Bool
  | .int | .string => false
  | _ => true

theorem eq_run {op : BinOp} (hop : op = .eql ∨ op = .neq) {T : Nat} {x y : Operand} {a' b' : Value}
    (hs : (∃ p q, a' = .bool p ∧ b' = .bool q) ∨ (∃ p q, a' = .pointer p ∧ b' = .pointer q) ∨ (∃ p n c q l d, a' = .slice p n c ∧ b' = .slice q l d) ∨ ((a' = .nilFunc ∨ ∃ f s c, a' = .func f s c) ∧ (b' = .nilFunc ∨ ∃ f s c, b' = .func f s c)))
    {v : Bool} (hv : (Op.equal T a' b').run P w = .ok v w) : (do eqGuard op T x y a' b'; binOp op T a' b' : Sem Value).run P w = .ok (.bool ((isNeq op) != v)) w := by
  rcases hop with rfl | rfl <;> rcases hs with ⟨p, q, rfl, rfl⟩ | ⟨p, q, rfl, rfl⟩ | ⟨p, n, c, q, l, d, rfl, rfl⟩ | ⟨rfl | ⟨f, s, c, rfl⟩, rfl | ⟨f2, s2, c2, rfl⟩⟩ <;> simp [eqGuard, binOp, hv, isNeq]

theorem CR.nilFunc_inv {v' : Value} (h : CR r .nilFunc v') : v' = .nilFunc := by
  cases h with | atom h => cases h; rfl
theorem CR.func_inv' {f : Fn} {a c : Array Value} {v' : Value} (h : CR r (.func f a c) v') : ∃ f s c, v' = .func f s c := by
  generalize hx : Value.func f a c = v at h
  cases h with
  | atom h => cases h <;> simp at hx
  | func => exact ⟨_, _, _, rfl⟩

/-- Comparisons of other than numbers and texts. -/
theorem runs_eq1 (h : MR base r m w) {K : Value → Mem → Prop} {op : BinOp} (hop : op = .eql ∨ op = .neq) {T : Nat} {c : EqC} (ho : c.odd = true) (hT : leafOK P T c = true) {x y : Operand} {a b a' b' : Value} (ha : VR r a a') (hb : VR r b b') {v : Bool} (hv : eqLeaf c a b = some v) (hk : K (.bool ((isNeq op) != v)) m) :
    Runs P (do eqGuard op T x y a' b'; binOp op T a' b') w base r m K := by
  have hcr : CR r a a' ∧ CR r b b' := by
    unfold eqLeaf at hv
    split at hv <;> first | (simp at hv; done) | (rcases ha with ⟨⟨ha⟩⟩; rcases hb with ⟨⟨hb⟩⟩; exact ⟨ha, hb⟩)
  have hrun : (Op.equal T a' b').run P w = .ok v w := eqLeaf_run hT hcr.1 hcr.2 hv 9999
  refine .of_pure h (.atom (.bool _)) hk (eq_run hop ?_ hrun)
  obtain ⟨ha, hb⟩ := hcr
  unfold eqLeaf at hv
  split at hv <;> first
    | (simp at hv; done)
    | (simp [EqC.odd] at ho; done)
    | (left; cases ha with | atom ha => cases hb with | atom hb => cases ha; cases hb; exact ⟨_, _, rfl, rfl⟩)
    | (right; left; cases ha with | atom ha => cases hb with | atom hb => cases ha <;> cases hb <;> exact ⟨_, _, rfl, rfl⟩)
    | (right; right; left; cases ha with | atom ha => cases hb with | atom hb => cases ha <;> cases hb <;> exact ⟨_, _, _, _, _, _, rfl, rfl⟩)
    | (refine .inr (.inr (.inr ⟨?_, ?_⟩)) <;> first | (left; exact CR.nilFunc_inv (by assumption)) | (right; exact CR.func_inv' (by assumption)))

theorem runs_eqN (h : MR base r m w) {K : Value → Mem → Prop} {op : BinOp} (hop : op = .eql ∨ op = .neq) {T : Nat} {ls : List (Nat × EqC)} (hl : leavesOf P 20 T 0 = some ls) (hc : leafC P T = none) (hg : P.eqGuardType P.depth T = false) {x y : Operand} {a b a' b' : Value} (ha : VR r a a') (hb : VR r b b') {v : Bool} (hv : eqN ls a b = some v) (hk : K (.bool ((isNeq op) != v)) m) :
    Runs P (do eqGuard op T x y a' b'; binOp op T a' b') w base r m K := by
  unfold eqN at hv
  split at hv
  · rename_i xs ys
    obtain ⟨xs', rfl, hx⟩ := VR.agg_inv (xs := xs.toList) (by simpa using ha)
    obtain ⟨ys', rfl, hy⟩ := VR.agg_inv (xs := ys.toList) (by simpa using hb)
    have hrun : (Op.equalIn 10000 T (.agg xs'.toArray) (.agg ys'.toArray)).run P w = .ok v w :=
      aggEq 20 T 0 ls hl hc xs' ys' xs.toList ys.toList xs' ys' v 10000 (by decide) (fun j _ => by simp) (fun j _ => by simp) hx hy hv
    refine .of_pure h (.atom (.bool _)) hk ?_
    rw [Sem.run_bind, run_eqGuard_agg w op T x y _ _ hg]
    simp only [Result.andThen_ok]
    rcases hop with rfl | rfl
    · rw [run_eql_struct, hrun]; simp [isNeq]
    · rw [run_neq_struct, hrun]; simp [isNeq]
  · simp at hv

/-- Parts of tuples, lengths, the least and the greatest, functions made. -/
theorem runs_extract (h : MR base r m w) {K : Value → Mem → Prop} {i : Nat} {a a' : Value} (ha : VR r a a') {vs : Array Value} (hae : a = .tuple vs) {v : Value} (hv : vs.toList[i]? = some v) (hk : K v m) : Runs P (Instr.extract a' i) w base r m K := by
  subst hae
  obtain ⟨ys, rfl, hf⟩ := VR.tuple_inv (xs := vs.toList) (by simpa using ha)
  obtain ⟨v', hv', hr⟩ := hf.get hv
  refine .of_pure h (.base hr) hk ?_
  simp [Instr.extract, hv']

theorem runs_lenStr (h : MR base r m w) {K : Value → Mem → Prop} {T ty : Nat} (hT : P.underlying T = some .string) {a a' : Value} (ha : VR r a a') {s : ByteArray} (hae : a = .string s) (hk : K (.int .i64 s.size) m) : Runs P (Builtin.len_ #[T] ty #[a']) w base r m K := by
  subst hae
  obtain rfl := ha.string_inv
  refine .of_pure h (.atom (.int _ _)) hk ?_
  simp [Builtin.len_, run_und hT, goInt]
theorem runs_lenSl (h : MR base r m w) {K : Value → Mem → Prop} {T ty e : Nat} (hT : P.underlying T = some (.slice e)) {a a' : Value} (ha : VR r a a') {p : Option Addr} {n c : Nat} (hae : a = .slice p n c) (hk : K (.int .i64 n) m) : Runs P (Builtin.len_ #[T] ty #[a']) w base r m K := by
  have : ∃ p' c', a' = .slice p' n c' := by
    subst hae
    rcases ha with ⟨⟨⟨ha⟩⟩⟩; cases ha <;> exact ⟨_, _, rfl⟩
  obtain ⟨p', c', rfl⟩ := this
  refine .of_pure h (.atom (.int _ _)) hk ?_
  simp [Builtin.len_, run_und hT, goInt]
theorem runs_lenC (h : MR base r m w) {K : Value → Mem → Prop} {T ty e n : Nat} (hT : P.underlying T = some (.array n e) ∨ ∃ q, P.underlying T = some (.pointer q) ∧ P.underlying q = some (.array n e)) {a' : Value} (hk : K (.int .i64 n) m) : Runs P (Builtin.len_ #[T] ty #[a']) w base r m K := by
  refine .of_pure h (.atom (.int _ _)) hk ?_
  rcases hT with hT | ⟨q, hT, hq⟩
  · simp [Builtin.len_, run_und hT, goInt]
  · simp [Builtin.len_, run_und hT, run_und hq, goInt]

theorem minL_run {vs : List Value} : ∀ {v u v' : Value} {vs' : List Value}, VR r v v' → F2 (VR r) vs vs' → minL v vs = some u → (vs'.foldlM Builtin.min2 v').run P w = .ok u w ∧ (∃ k n, u = .int k n) ∨ (vs = [] ∧ u = v ∧ vs' = []) := by
  induction vs with
  | nil =>
    intro v u v' vs' hv hs hm
    obtain rfl := hs.nil_inv
    simp [minL] at hm
    exact .inr ⟨rfl, hm.symm, rfl⟩
  | cons y vs ih =>
    intro v u v' vs' hv hs hm
    obtain ⟨y', vs', rfl, hy, hs'⟩ := hs.cons_inv
    unfold minL at hm
    split at hm
    · rename_i he; cases he
    · rename_i k a k' b q he
      simp at he
      obtain ⟨rfl, rfl⟩ := he
      obtain rfl := hv.int_inv
      obtain rfl := hy.int_inv
      left
      rcases ih (.atom (.int k _)) hs' hm with ⟨h1, h2⟩ | ⟨rfl, rfl, rfl⟩
      · exact ⟨by simp only [List.foldlM_cons, Sem.run_bind, Builtin.min2, Sem.run_pure, Result.andThen_ok]; exact h1, h2⟩
      · exact ⟨by simp [Builtin.min2], _, _, rfl⟩
    · simp at hm

theorem maxL_run {vs : List Value} : ∀ {v u v' : Value} {vs' : List Value}, VR r v v' → F2 (VR r) vs vs' → maxL v vs = some u → (vs'.foldlM Builtin.max2 v').run P w = .ok u w ∧ (∃ k n, u = .int k n) ∨ (vs = [] ∧ u = v ∧ vs' = []) := by
  induction vs with
  | nil =>
    intro v u v' vs' hv hs hm
    obtain rfl := hs.nil_inv
    simp [maxL] at hm
    exact .inr ⟨rfl, hm.symm, rfl⟩
  | cons y vs ih =>
    intro v u v' vs' hv hs hm
    obtain ⟨y', vs', rfl, hy, hs'⟩ := hs.cons_inv
    unfold maxL at hm
    split at hm
    · rename_i he; cases he
    · rename_i k a k' b q he
      simp at he
      obtain ⟨rfl, rfl⟩ := he
      obtain rfl := hv.int_inv
      obtain rfl := hy.int_inv
      left
      rcases ih (.atom (.int k _)) hs' hm with ⟨h1, h2⟩ | ⟨rfl, rfl, rfl⟩
      · exact ⟨by simp only [List.foldlM_cons, Sem.run_bind, Builtin.max2, Sem.run_pure, Result.andThen_ok]; exact h1, h2⟩
      · exact ⟨by simp [Builtin.max2], _, _, rfl⟩
    · simp at hm

theorem runs_min (h : MR base r m w) {K : Value → Mem → Prop} {ts : Array TypeId} {ty : Nat} {v u : Value} {vs : List Value} {as' : List Value} (has : F2 (VR r) (v :: vs) as') (hm : minL v vs = some u) (hk : K u m) : Runs P (Builtin.min_ ts ty as'.toArray) w base r m K := by
  obtain ⟨v', vs', rfl, hv, hvs⟩ := has.cons_inv
  rcases minL_run (P := P) (w := w) hv hvs hm with ⟨h1, k, n, rfl⟩ | ⟨rfl, rfl, rfl⟩
  · exact .of_pure h (.atom (.int k n)) hk (by simp only [Builtin.min_]; exact h1)
  · exact .of_pure h hv hk (by simp [Builtin.min_])
theorem runs_max (h : MR base r m w) {K : Value → Mem → Prop} {ts : Array TypeId} {ty : Nat} {v u : Value} {vs : List Value} {as' : List Value} (has : F2 (VR r) (v :: vs) as') (hm : maxL v vs = some u) (hk : K u m) : Runs P (Builtin.max_ ts ty as'.toArray) w base r m K := by
  obtain ⟨v', vs', rfl, hv, hvs⟩ := has.cons_inv
  rcases maxL_run (P := P) (w := w) hv hvs hm with ⟨h1, k, n, rfl⟩ | ⟨rfl, rfl, rfl⟩
  · exact .of_pure h (.atom (.int k n)) hk (by simp only [Builtin.max_]; exact h1)
  · exact .of_pure h hv hk (by simp [Builtin.max_])

end Go.Lg
