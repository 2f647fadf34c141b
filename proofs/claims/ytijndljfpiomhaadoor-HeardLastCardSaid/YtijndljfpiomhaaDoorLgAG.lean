/- Scopes with jumps, walked. -/
import Derived.Test.YtijndljfpiomhaaDoorLgAF
namespace Go.Lg
variable {P : Program} {Q : Exit → List Value → Mem → Prop} {t : List Value} {m : Mem}

theorem LF_mono {c : LCode} {l : Nat} {Q' : Exit → List Value → Mem → Prop} (hq : ∀ e t m, Q e t m → Q' e t m) (h : LF P c l Q t m) : LF P c l Q' t m := LC_LF_mono.2 hq h

/-- A scope: what holds at each jump to a label, with a count that falls. -/
theorem scope_inv {c : LCode} (I : Nat → Nat → List Value → Mem → Prop) (first : LC P c (jumpL (fun l t m => ∃ n, I n l t m) Q) t m)
    (pass : ∀ n l t m, I n l t m → LF P c l (jumpL (fun l' t' m' => ∃ n', n' < n ∧ I n' l' t' m') Q) t m) : LC P (.scope c) Q t m := by
  intro X hX
  have key : ∀ n l t m, I n l t m → X l t m := by
    intro n
    induction n using Nat.strongRecOn with
    | _ n ih => exact fun l t m h => hX l t m (LF_mono (jumpL_mono (fun l t m ⟨n', h1, h2⟩ => ih n' h1 l t m h2) fun _ _ _ h => h) (pass n l t m h))
  exact LC_mono (jumpL_mono (fun l t m ⟨n, h⟩ => key n l t m h) fun _ _ _ h => h) first

theorem lc_label {l : Nat} : LC P (.label l) Q t m = Q .normal t m := rfl
theorem lc_goto {l : Nat} : LC P (.goto l) Q t m = Q (.goto l) t m := rfl
theorem then_g {N : List Value → Mem → Prop} {l : Nat} : thenL N Q (.goto l) t m = Q (.goto l) t m := rfl
theorem block_g {id l : Nat} : blockL id Q (.goto l) t m = Q (.goto l) t m := rfl
theorem jump_g {X : Nat → List Value → Mem → Prop} {l : Nat} : jumpL X Q (.goto l) t m = X l t m := rfl
theorem jump_n {X : Nat → List Value → Mem → Prop} : jumpL X Q .normal t m = Q .normal t m := rfl
theorem jump_r {X : Nat → List Value → Mem → Prop} : jumpL X Q .ret t m = Q .ret t m := rfl
theorem jump_e {X : Nat → List Value → Mem → Prop} {id : Nat} : jumpL X Q (.exit id) t m = Q (.exit id) t m := rfl
theorem lf_seq {a b : LCode} {l : Nat} : LF P (.seq a b) l Q t m = if hasL a l = true then LF P a l (thenL (LC P b Q) Q) t m else LF P b l Q t m := rfl
theorem lf_label {l' l : Nat} : LF P (.label l') l Q t m = (l' = l ∧ Q .normal t m) := rfl
end Go.Lg
