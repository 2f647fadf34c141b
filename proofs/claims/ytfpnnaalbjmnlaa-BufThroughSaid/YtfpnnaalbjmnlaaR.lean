/- strings.Repeat: the library's contract laid at this program, and what it says of the logical memory. -/
import Derived.Shelf.Strings.Repeat
import Derived.Test.YtfpnnaalbjmnlaaF
import Derived.Test.YtfpnnaalbjmnlaaLgAJ
namespace Go.Proofs
open Go.Shelf Go.RowKit

def Ytfpnnaalbjmnlaa.laysRepeat_ren : Go.Shelf.Ren := ⟨fun | 105 => 22 | 212 => 29 | 99 => 30 | 165 => 31 | 166 => 32 | 170 => 33 | 169 => 34 | 263 => 35 | 264 => 36 | 206 => 37 | 240 => 38 | 241 => 39 | 276 => 40 | 277 => 41 | n => n, fun | 9 => 9 | 3 => 3 | 4 => 4 | 20 => 20 | 0 => 0 | 46 => 69 | 109 => 70 | 5 => 5 | 72 => 76 | 76 => 80 | 51 => 84 | 146 => 85 | 53 => 87 | 148 => 88 | 70 => 73 | 37 => 74 | 75 => 79 | 127 => 90 | 164 => 91 | 80 => 82 | n => n, fun | n => n⟩
theorem Ytfpnnaalbjmnlaa.laysRepeat : Go.Proofs.Lays.n105 Try.prog Ytfpnnaalbjmnlaa.laysRepeat_ren where
  mixed := by kernel_rfl
  f99 := Try.func30.trans (congrArg some (by kernel_rfl))
  f105 := Try.func22.trans (congrArg some (by kernel_rfl))
  f165 := Try.func31.trans (congrArg some (by kernel_rfl))
  f166 := Try.func32.trans (congrArg some (by kernel_rfl))
  f169 := Try.func34.trans (congrArg some (by kernel_rfl))
  f170 := Try.func33.trans (congrArg some (by kernel_rfl))
  f206 := Try.func37.trans (congrArg some (by kernel_rfl))
  f212 := Try.func29.trans (congrArg some (by kernel_rfl))
  f240 := Try.func38.trans (congrArg some (by kernel_rfl))
  f241 := Try.func39.trans (congrArg some (by kernel_rfl))
  f263 := Try.func35.trans (congrArg some (by kernel_rfl))
  f264 := Try.func36.trans (congrArg some (by kernel_rfl))
  f276 := Try.func40.trans (congrArg some (by kernel_rfl))
  f277 := Try.func41.trans (congrArg some (by kernel_rfl))
  t0 := Try.underlying0
  a0 := Try.isAgg0
  z0 := Try.sizeOf0
  v0 := Try.zeroValue0
  t3 := Try.underlying3
  a3 := Try.isAgg3
  z3 := Try.sizeOf3
  v3 := Try.zeroValue3
  t4 := Try.underlying4
  a4 := Try.isAgg4
  z4 := Try.sizeOf4
  v4 := Try.zeroValue4
  t5 := Try.underlying5
  a5 := Try.isAgg5
  z5 := Try.sizeOf5
  v5 := Try.zeroValue5
  t9 := Try.underlying9
  a9 := Try.isAgg9
  z9 := Try.sizeOf9
  v9 := Try.zeroValue9
  t20 := Try.underlying20
  a20 := Try.isAgg20
  z20 := Try.sizeOf20
  v20 := Try.zeroValue20
  t37 := Try.underlying74
  a37 := Try.isAgg74
  z37 := Try.sizeOf74
  v37 := Try.zeroValue74
  t46 := Try.underlying69
  a46 := Try.isAgg69
  z46 := Try.sizeOf69
  v46 := Try.zeroValue69
  t51 := Try.underlying84
  a51 := Try.isAgg84
  z51 := Try.sizeOf84
  v51 := Try.zeroValue84
  t53 := Try.underlying87
  a53 := Try.isAgg87
  z53 := Try.sizeOf87
  v53 := Try.zeroValue87
  t70 := Try.underlying73
  a70 := Try.isAgg73
  z70 := Try.sizeOf73
  v70 := Try.zeroValue73
  t72 := Try.underlying76
  a72 := Try.isAgg76
  z72 := Try.sizeOf76
  v72 := Try.zeroValue76
  t75 := Try.underlying79
  a75 := Try.isAgg79
  z75 := Try.sizeOf79
  v75 := Try.zeroValue79
  t76 := Try.underlying80
  a76 := Try.isAgg80
  z76 := Try.sizeOf80
  v76 := Try.zeroValue80
  t109 := Try.underlying70
  a109 := Try.isAgg70
  z109 := Try.sizeOf70
  v109 := Try.zeroValue70
  t127 := Try.underlying90
  a127 := Try.isAgg90
  z127 := Try.sizeOf90
  v127 := Try.zeroValue90
  t146 := Try.underlying85
  a146 := Try.isAgg85
  z146 := Try.sizeOf85
  v146 := Try.zeroValue85
  t148 := Try.underlying88
  a148 := Try.isAgg88
  z148 := Try.sizeOf88
  v148 := Try.zeroValue88
  t164 := Try.underlying91
  a164 := Try.isAgg91
  z164 := Try.sizeOf91
  v164 := Try.zeroValue91


theorem Ytfpnnaalbjmnlaa.repExtra : Builder.Extra Try.prog Ytfpnnaalbjmnlaa.laysRepeat_ren where
  sizeBuilder := by kernel_rfl
  liesBuilder := by kernel_rfl
  t5 := Ytfpnnaalbjmnlaa.laysRepeat.t5
  a5 := Ytfpnnaalbjmnlaa.laysRepeat.a5
  z5 := Ytfpnnaalbjmnlaa.laysRepeat.z5
  v5 := Ytfpnnaalbjmnlaa.laysRepeat.v5
  infoByte := by kernel_rfl
  cellsByte := by kernel_rfl
  sizeByte := by kernel_rfl
  neB5 := by decide
end Go.Proofs
namespace Go.Proofs.Ytfpnnaalbjmnlaa
open Go.Lg Go.RowKit
set_option linter.unusedSimpArgs false
set_option linter.unnecessarySimpa false
set_option linter.unusedVariables false

theorem stp_below {base : Nat} {r : Rho} {m : Mem} {w w' : World} (h : MR base r m w) (hb : Below w.heap.size w w') : Stp base r m w r m w' := by
  obtain ⟨h1, h2, h3, h4, h5⟩ := hb
  refine ⟨⟨h.dom, ?_, h.inj, Nat.le_trans h.base h4⟩, fun _ _ => rfl, Nat.le_refl _, fun b hb _ => h5 b hb, fun _ _ h => h, h4, h1, h2, h3⟩
  intro i k b d t z hk hi
  refine (h.blk i k b d t z hk hi).congr fun hl => ?_
  have := (h.blk i k b d t z hk hi).some_of_live hl
  refine h5 b ?_
  rcases Nat.lt_or_ge b w.heap.size with h' | h'
  · exact h'
  · simp [Array.getElem?_eq_none h'] at this

theorem repeat_spec (s : ByteArray) (c : Nat) (hc : c ≤ 9223372036854775807) (hlen : s.size * c ≤ 140737488355328) (m : Mem) : Ret Try.prog 22 [.string s, .int .i64 (c : Int)] m (.string ⟨(Lib.repeatL s.data.toList c).toArray⟩) m := by
  intro base r w args' hm ha
  obtain ⟨x, y, rfl, h1, h2⟩ := ha.two_inv
  obtain rfl := h1.string_inv
  obtain rfl := h2.int_inv
  refine (Any.strings_Repeat Ytfpnnaalbjmnlaa.laysRepeat Ytfpnnaalbjmnlaa.repExtra s c w hc hlen).mono ?_
  rintro e w' ⟨rfl, hb⟩
  exact ⟨_, rfl, _, m, r, ⟨rfl, rfl⟩, .atom (.string _), stp_below hm hb⟩
theorem repeat_x40 (m : Mem) : Ret Try.prog 22 [.string ⟨#[120]⟩, .int .i64 40] m (.string ⟨(List.replicate 40 120).toArray⟩) m := by
  have := repeat_spec ⟨#[120]⟩ 40 (by decide) (by decide) m
  have e : (Lib.repeatL (⟨#[120]⟩ : ByteArray).data.toList 40) = List.replicate 40 120 := by decide
  rw [e] at this
  exact this
end Go.Proofs.Ytfpnnaalbjmnlaa
