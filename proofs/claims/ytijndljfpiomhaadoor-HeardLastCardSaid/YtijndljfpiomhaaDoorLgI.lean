/- The program's operations read off in short, and what this is worth. -/
import Derived.Test.YtijndljfpiomhaaDoorLgHA
namespace Go.Lg

/-- A value that speaks of no memory. -/
def flatA : Value → Bool
  | .bool _ | .int _ _ | .string _ | .pointer none | .slice none 0 0 | .nilFunc | .nilIface => true
  | _ => false
def flatB : Value → Bool
  | .agg cs => cs.toList.all flatA
  | v => flatA v
theorem flatA_rel {r : Rho} {v : Value} (h : flatA v = true) : AR r v v := by
  unfold flatA at h
  split at h <;> first | exact .bool _ | exact .int _ _ | exact .string _ | exact .nilPtr | exact .nilSlice | exact .nilFunc | exact .nilIface | cases h
theorem flatB_rel {r : Rho} {v : Value} (h : flatB v = true) : BR r v v := by
  unfold flatB at h
  split at h
  · rename_i cs
    have : F2 (CR r) cs.toList cs.toList := .refl fun x hx => .atom (flatA_rel (List.all_eq_true.1 h x hx))
    simpa using BR.agg this
  · exact .cell (.atom (flatA_rel h))

def okO : Operand → Bool
  | .const v => flatB v
  | .global _ => false
  | _ => true

def callable (P : Program) (f : FuncId) : Bool := match P.funcs[f]? with
  | some fn => fn.body.isSome && fn.name != "runtime.NumGoroutine"
  | none => false

def isU8 : Option TypeDesc → Bool
  | some (.int .u8) => true
  | _ => false

def zeroOf (P : Program) (T : TypeId) : Option (List Value) := match P.info? T with
  | some i => match i.zero with
    | some z => if flatB z then some (cellsL z) else none
    | none => none
  | none => none

def structParts (P : Program) (fs : Array Field) : List (Nat × Operand) → Option (List (Nat × Nat × Operand))
  | [] => some []
  | (i, x) :: qs => match (fs.map fun (f : Field) => (f.offset, ((P.info? f.type).map (·.size)).getD 0))[i]?, structParts P fs qs with
    | some (o, s), some ps => some ((o, s, x) :: ps)
    | _, _ => none
def arrayParts (sz : Nat) (qs : List (Nat × Operand)) : List (Nat × Nat × Operand) := qs.map fun q => (q.1 * sz, sz, q.2)

theorem structParts_rel {P : Program} {fs : Array Field} : ∀ {qs : List (Nat × Operand)} {ps : List (Nat × Nat × Operand)}, structParts P fs qs = some ps →
    F2 (fun (p : Nat × Nat × Operand) (q : Nat × Operand) => p.2.2 = q.2 ∧ (fs.map fun (f : Field) => (f.offset, ((P.info? f.type).map (·.size)).getD 0))[q.1]? = some (p.1, p.2.1)) ps qs
  | [], ps, h => by simp [structParts] at h; subst h; exact .nil
  | (i, x) :: qs, ps, h => by
    simp only [structParts] at h
    split at h
    · rename_i o s ps' h1 h2
      simp at h; subst h
      exact .cons ⟨rfl, h1⟩ (structParts_rel h2)
    · simp at h
theorem arrayParts_rel (sz : Nat) : ∀ (qs : List (Nat × Operand)),
    F2 (fun (p : Nat × Nat × Operand) (q : Nat × Operand) => p.2.2 = q.2 ∧ some (q.1 * sz, sz) = some (p.1, p.2.1)) (arrayParts sz qs) qs
  | [] => .nil
  | _ :: qs => .cons ⟨rfl, rfl⟩ (arrayParts_rel sz qs)

def cbuiltin (P : Program) (b : Builtin) (ts : Array TypeId) (args : Array Operand) : Option LOp :=
  match b with
  | .len => match ts.toList, args.toList with
    | [T], [x] => match P.underlying T with
      | some .string => some (.lenStr x)
      | some (.slice _) => some (.lenSl x)
      | some (.array n _) => some (.lenC n)
      | some (.pointer q) => match P.underlying q with
        | some (.array n _) => some (.lenC n)
        | _ => none
      | _ => none
    | _, _ => none
  | .append => match ts.toList, args.toList with
    | [S, X], [x, y] => match P.underlying S, P.underlying X with
      | some (.slice e), some dX => match P.info? e with
        | some te => match te.zero with
          | some z => if isIntD dX = false ∧ z.cells.size = te.size then some (.append e te.size te.bytes x y) else none
          | none => none
        | none => none
      | _, _ => none
    | _, _ => none
  | .min => some (.min args.toList)
  | .max => some (.max args.toList)
  | .copy => match ts.toList, args.toList with
    | [S, _], [x, y] => match P.underlying S with
      | some (.slice e) => match P.info? e with
        | some te => some (.copy te.size x y)
        | none => none
      | _ => none
    | _, _ => none
  | .clear => match ts.toList, args.toList with
    | [S], [x] => match P.underlying S with
      | some (.slice e) => match zeroOf P e with
        | some z => if z.all flatA = true then some (.clear z x) else none
        | none => none
      | _ => none
    | _, _ => none
  | .cap => match ts.toList, args.toList with
    | [S], [x] => match P.underlying S with
      | some (.slice _) => some (.capNil x)
      | _ => none
    | _, _ => none
  | .unsafeSliceData => match args.toList with
    | [x] => some (.sliceData x)
    | _ => none
  | .unsafeString => match ts.toList, args.toList with
    | [pt, _], [x, n] => match P.underlying pt with
      | some (.pointer T) => if P.cellsOf T = 1 then some (.unsafeStr T x n) else none
      | _ => none
    | _, _ => none
  | _ => none

/-- Functions of the library without a text, that are taken as operations. -/
def plainFn (P : Program) (f : FuncId) (args : List Operand) : Option LOp :=
  match P.funcs[f]?, args with
  | some fn, [x] =>
    if fn.body.isNone && fn.origin == "" then
      if fn.name == "internal/abi.NoEscape" then some (.move x)
      else if fn.name == "internal/bytealg.MakeNoZero" then
        match fn.resultTypes.toList with
        | [T] => match P.underlying T with
          | some (.slice e) => some (.noZero e x)
          | _ => none
        | _ => none
      else none
    else none
  | _, _ => none

def isEqOp : BinOp → Bool
  | .eql | .neq => true
  | _ => false

/-- A variable that a library's builder could be. -/
def isBz : List Value → Bool
  | [.pointer none, .slice none 0 0] => true
  | _ => false

/-- An operation that makes no call of a function. -/
def cop (P : Program) (op : Op) : Option LOp :=
  match op with
  | .move x | .assign x => some (.move x)
  | .pick c a b => some (.pick c a b)
  | .alloc T => (zeroOf P T).map fun z => if isBz z = true then .zeroV T z else .zero T z
  | .box T x => some (.box T x)
  | .build T parts => match zeroOf P T, P.underlying T with
    | some z, some (.struct fs) => if fs.toList.all (fun f => (P.info? f.type).isSome) then (structParts P fs parts.toList).map (.build z) else none
    | some z, some (.array _ e) => match P.info? e with
      | some te => some (.build z (arrayParts te.size parts.toList))
      | none => none
    | _, _ => none
  | .buildSlice T n parts => match P.underlying T with
    | some (.slice e) => match P.info? e, zeroOf P e with
      | some te, some z => if n * te.size ≤ 16777216 ∧ (zeroRow z (n * te.size)).all flatA = true then some (.buildSlice e te.size n (zeroRow z (n * te.size)) (arrayParts te.size parts.toList)) else none
      | _, _ => none
    | _ => none
  | .load T x => match P.underlying T, P.info? T with
    | some d, some ti => if isAggD d then some (.loadN ti.size x) else some (.load x)
    | _, _ => none
  | .store T a x => (P.info? T).map fun ti => .store ti.size a x
  | .nilCheck x => some (.nilCheck x)
  | .binOp op T x y _ =>
    if isEqOp op then
      match leafC P T with
      | some c => if c.odd then some (.eq1 (isNeq op) c x y) else some (.bin op x y)
      | none => if P.eqGuardType P.depth T = false then (leavesOf P 20 T 0).map fun ls => .eqN (isNeq op) ls x y else none
    else some (.bin op x y)
  | .unOp op _ x => some (.un op x)
  | .convert S D x => match P.underlying S, P.underlying D with
    | some (.int _), some (.int k) => some (.conv k x)
    | some .string, some .string => some (.str x)
    | some .string, some (.slice e) => if isU8 (P.underlying e) then some (.s2b e x) else none
    | some (.slice e), some .string => if isU8 (P.underlying e) then some (.b2s x) else none
    | some (.pointer t), some .unsafePointer => match P.info? t with
      | some j => if j.size ≠ 0 then some (.toU x) else none
      | none => none
    | some .unsafePointer, some (.pointer u) => match P.info? u with
      | some _ => if liesAt P P.depth u (P.cellsOf u / P.cellsOf u) 0 u 1 = true then some (.ofU u (P.cellsOf u) x) else none
      | none => none
    | _, _ => none
  | .makeFunc fn first captured => some (.mkFunc fn first.toList captured.toList)
  | .slice T x lo hi mx => match mx with
    | some _ => none
    | none => match P.underlying T with
      | some .string => some (.sliceStr x lo hi)
      | some (.slice e) => match P.info? e with
        | some te => some (.sliceSl te.size x lo hi)
        | none => none
      | some (.array n e) => match P.info? e with
        | some te => some (.sliceArr n te.size x lo hi)
        | none => none
      | _ => none
  | .fieldAddr S x f => match P.underlying S with
    | some (.struct fs) => match fs[f]? with
      | some fl => match P.info? fl.type with
        | some ti => if ti.size ≠ 0 then some (.fieldAddr fl.offset x) else none
        | none => none
      | none => none
    | _ => none
  | .field T x f => match P.underlying T with
    | some (.struct fs) => match fs[f]? with
      | some fl => match P.underlying fl.type, P.info? fl.type with
        | some d, some ti => if isAggD d then some (.fieldN fl.offset ti.size x) else some (.field fl.offset x)
        | _, _ => none
      | none => none
    | _ => none
  | .indexAddr T x i => match P.underlying T with
    | some (.array n e) => match P.info? e with
      | some te => some (.idxAddrA n te.size x i)
      | none => none
    | some (.slice e) => match P.info? e with
      | some te => some (.idxAddrS te.size x i)
      | none => none
    | _ => none
  | .index T x i => match P.underlying T with
    | some .string => some (.idxStr x i)
    | some (.array n e) => match P.underlying e, P.info? e with
      | some d, some te => if isAggD d then some (.idxN n te.size x i) else if te.size = 1 then some (.idx n x i) else none
      | _, _ => none
    | _ => none
  | .extract x i => some (.extract x i)
  | .call c => match c.callee with
    | .builtin b => cbuiltin P b c.argTypes c.args
    | .value (.func f) => if callable P f then some (.call f c.args.toList) else match plainFn P f c.args.toList with
      | some o => some o
      | none => some .bad
    | .value x => some (.callv x c.args.toList)
    | .invoke _ _ => some .bad
  | .makeSlice T l c => match P.underlying T with
    | some (.slice e) => match P.info? e, zeroOf P e with
      | some te, some z => if z.length = te.size ∧ z.all flatA = true then some (.makeSlice e te.size te.bytes z l c) else none
      | _, _ => none
    | _ => none
  | _ => some .bad

/-- A call, said of the memory: whatever world bears it, it returns, and the world behind it bears what the memory is then. -/
def LCall (P : Program) (f : FuncId) (args : List Value) (m : Mem) (K : Value → Mem → Prop) : Prop :=
  ∀ (base : Nat) (r : Rho) (w : World) (args' : List Value), MR base r m w → F2 (VR r) args args' →
    Calls P f args'.toArray w fun e w' => ∃ v', e = .returned v' ∧ Sim base r m w K v' w'

theorem LCall.mono {P : Program} {f : FuncId} {args : List Value} {m : Mem} {K K' : Value → Mem → Prop} (h : LCall P f args m K) (hk : ∀ v m', K v m' → K' v m') : LCall P f args m K' := by
  intro base r w args' hm ha
  refine (h base r w args' hm ha).mono ?_
  rintro e w' ⟨v', rfl, v, m', r', hK, hv, hs⟩
  exact ⟨v', rfl, v, m', r', hk _ _ hK, hv, hs⟩

def LExec (P : Program) (op : LOp) (ev : Operand → Value) (m : Mem) (K : Value → Mem → Prop) : Prop :=
  match op with
  | .call f args => LCall P f (args.map ev) m K
  | .callv x args => match ev x with
    | .func (.func f) first cap => callable P f = true ∧ LCall P f (first.toList ++ args.map ev ++ cap.toList) m K
    | _ => False
  | op => lrun op ev m K

/-- An operation's step in the world. -/
def Gives (P : Program) (o : Oper) (ev' : Operand → Value) (w : World) (R : Value → World → Prop) : Prop :=
  (∃ v' w', (execOp ev' o).run P w = .ok (.value v') w' ∧ R v' w') ∨
  (∃ w', (execOp ev' o).run P w = .ok .skip w' ∧ R undef w') ∨
  (∃ f args w', (execOp ev' o).run P w = .ok (.enter f args) w' ∧ Calls P f args w' fun e w'' => ∃ v', e = .returned v' ∧ R v' w'')

theorem Gives.of_runs {P : Program} {o : Oper} {ev' : Operand → Value} {w : World} {base : Nat} {r : Rho} {m : Mem} {K : Value → Mem → Prop} {s : Sem Value}
    (hs : ∀ w, (execOp ev' o).run P w = (s.run P w).andThen fun v w' => .ok (.value v) w') (h : Runs P s w base r m K) : Gives P o ev' w (Sim base r m w K) := by
  obtain ⟨v', w', hr, hsim⟩ := h
  exact .inl ⟨v', w', by rw [hs, hr]; rfl, hsim⟩

end Go.Lg
