/- strings.Repeat: the library's contract laid at this program, and what it says of the logical memory. -/
import Derived.Shelf.Strings.Repeat
import Derived.Test.YtfajlnpkickknaaF
import Derived.Test.YtfajlnpkickknaaLgAJ
namespace Go.Proofs
open Go.Shelf Go.RowKit

def Ytfajlnpkickknaa.laysRepeat_ren : Go.Shelf.Ren := ⟨fun | 105 => 41 | 212 => 50 | 99 => 51 | 165 => 52 | 166 => 37 | 170 => 53 | 169 => 38 | 263 => 55 | 264 => 56 | 206 => 57 | 240 => 45 | 241 => 58 | 276 => 54 | 277 => 59 | n => n, fun | 9 => 9 | 3 => 3 | 4 => 4 | 20 => 20 | 0 => 0 | 46 => 102 | 109 => 103 | 5 => 5 | 72 => 81 | 76 => 85 | 51 => 109 | 146 => 110 | 53 => 112 | 148 => 113 | 70 => 79 | 37 => 39 | 75 => 83 | 127 => 99 | 164 => 107 | 80 => 87 | n => n, fun | n => n⟩
theorem Ytfajlnpkickknaa.laysRepeat : Go.Proofs.Lays.n105 Try.prog Ytfajlnpkickknaa.laysRepeat_ren where
  mixed := by kernel_rfl
  f99 := Try.func51.trans (congrArg some (by kernel_rfl))
  f105 := Try.func41.trans (congrArg some (by kernel_rfl))
  f165 := Try.func52.trans (congrArg some (by kernel_rfl))
  f166 := Try.func37.trans (congrArg some (by kernel_rfl))
  f169 := Try.func38.trans (congrArg some (by kernel_rfl))
  f170 := Try.func53.trans (congrArg some (by kernel_rfl))
  f206 := Try.func57.trans (congrArg some (by kernel_rfl))
  f212 := Try.func50.trans (congrArg some (by kernel_rfl))
  f240 := Try.func45.trans (congrArg some (by kernel_rfl))
  f241 := Try.func58.trans (congrArg some (by kernel_rfl))
  f263 := Try.func55.trans (congrArg some (by kernel_rfl))
  f264 := Try.func56.trans (congrArg some (by kernel_rfl))
  f276 := Try.func54.trans (congrArg some (by kernel_rfl))
  f277 := Try.func59.trans (congrArg some (by kernel_rfl))
  t0 := Try.underlying0
  a0 := Try.isAgg0
  z0 := Try.sizeOf0
  v0 := Try.zeroValue0
  t3 := Try.underlying3
  a3 := Try.isAgg3
  z3 := Try.sizeOf3
  v3 := Try.zeroValue3
  t4 := Try.underlying4
  a4 := Try.isAgg4
  z4 := Try.sizeOf4
  v4 := Try.zeroValue4
  t5 := Try.underlying5
  a5 := Try.isAgg5
  z5 := Try.sizeOf5
  v5 := Try.zeroValue5
  t9 := Try.underlying9
  a9 := Try.isAgg9
  z9 := Try.sizeOf9
  v9 := Try.zeroValue9
  t20 := Try.underlying20
  a20 := Try.isAgg20
  z20 := Try.sizeOf20
  v20 := Try.zeroValue20
  t37 := Try.underlying39
  a37 := Try.isAgg39
  z37 := Try.sizeOf39
  v37 := Try.zeroValue39
  t46 := Try.underlying102
  a46 := Try.isAgg102
  z46 := Try.sizeOf102
  v46 := Try.zeroValue102
  t51 := Try.underlying109
  a51 := Try.isAgg109
  z51 := Try.sizeOf109
  v51 := Try.zeroValue109
  t53 := Try.underlying112
  a53 := Try.isAgg112
  z53 := Try.sizeOf112
  v53 := Try.zeroValue112
  t70 := Try.underlying79
  a70 := Try.isAgg79
  z70 := Try.sizeOf79
  v70 := Try.zeroValue79
  t72 := Try.underlying81
  a72 := Try.isAgg81
  z72 := Try.sizeOf81
  v72 := Try.zeroValue81
  t75 := Try.underlying83
  a75 := Try.isAgg83
  z75 := Try.sizeOf83
  v75 := Try.zeroValue83
  t76 := Try.underlying85
  a76 := Try.isAgg85
  z76 := Try.sizeOf85
  v76 := Try.zeroValue85
  t109 := Try.underlying103
  a109 := Try.isAgg103
  z109 := Try.sizeOf103
  v109 := Try.zeroValue103
  t127 := Try.underlying99
  a127 := Try.isAgg99
  z127 := Try.sizeOf99
  v127 := Try.zeroValue99
  t146 := Try.underlying110
  a146 := Try.isAgg110
  z146 := Try.sizeOf110
  v146 := Try.zeroValue110
  t148 := Try.underlying113
  a148 := Try.isAgg113
  z148 := Try.sizeOf113
  v148 := Try.zeroValue113
  t164 := Try.underlying107
  a164 := Try.isAgg107
  z164 := Try.sizeOf107
  v164 := Try.zeroValue107


theorem Ytfajlnpkickknaa.repExtra : Builder.Extra Try.prog Ytfajlnpkickknaa.laysRepeat_ren where
  sizeBuilder := by kernel_rfl
  liesBuilder := by kernel_rfl
  t5 := Ytfajlnpkickknaa.laysRepeat.t5
  a5 := Ytfajlnpkickknaa.laysRepeat.a5
  z5 := Ytfajlnpkickknaa.laysRepeat.z5
  v5 := Ytfajlnpkickknaa.laysRepeat.v5
  infoByte := by kernel_rfl
  cellsByte := by kernel_rfl
  sizeByte := by kernel_rfl
  neB5 := by decide
end Go.Proofs
namespace Go.Proofs.Ytfajlnpkickknaa
open Go.Lg Go.RowKit
set_option linter.unusedSimpArgs false
set_option linter.unnecessarySimpa false
set_option linter.unusedVariables false

theorem stp_below {base : Nat} {r : Rho} {m : Mem} {w w' : World} (h : MR base r m w) (hb : Below w.heap.size w w') : Stp base r m w r m w' := by
  obtain ⟨h1, h2, h3, h4, h5⟩ := hb
  refine ⟨⟨h.dom, ?_, h.inj, Nat.le_trans h.base h4⟩, fun _ _ => rfl, Nat.le_refl _, fun b hb _ => h5 b hb, fun _ _ h => h, h4, h1, h2, h3⟩
  intro i k b d t z hk hi
  refine (h.blk i k b d t z hk hi).congr fun hl => ?_
  have := (h.blk i k b d t z hk hi).some_of_live hl
  refine h5 b ?_
  rcases Nat.lt_or_ge b w.heap.size with h' | h'
  · exact h'
  · simp [Array.getElem?_eq_none h'] at this

theorem repeat_spec (s : ByteArray) (c : Nat) (hc : c ≤ 9223372036854775807) (hlen : s.size * c ≤ 140737488355328) (m : Mem) : Ret Try.prog 41 [.string s, .int .i64 (c : Int)] m (.string ⟨(Lib.repeatL s.data.toList c).toArray⟩) m := by
  intro base r w args' hm ha
  obtain ⟨x, y, rfl, h1, h2⟩ := ha.two_inv
  obtain rfl := h1.string_inv
  obtain rfl := h2.int_inv
  refine (Any.strings_Repeat Ytfajlnpkickknaa.laysRepeat Ytfajlnpkickknaa.repExtra s c w hc hlen).mono ?_
  rintro e w' ⟨rfl, hb⟩
  exact ⟨_, rfl, _, m, r, ⟨rfl, rfl⟩, .atom (.string _), stp_below hm hb⟩
theorem repeat_x40 (m : Mem) : Ret Try.prog 41 [.string ⟨#[120]⟩, .int .i64 40] m (.string ⟨(List.replicate 40 120).toArray⟩) m := by
  have := repeat_spec ⟨#[120]⟩ 40 (by decide) (by decide) m
  have e : (Lib.repeatL (⟨#[120]⟩ : ByteArray).data.toList 40) = List.replicate 40 120 := by decide
  rw [e] at this
  exact this
end Go.Proofs.Ytfajlnpkickknaa
