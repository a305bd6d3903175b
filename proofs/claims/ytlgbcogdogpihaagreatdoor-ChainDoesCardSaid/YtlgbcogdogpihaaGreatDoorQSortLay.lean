/-
  DERIVED: THE SHELF's CONTRACTS AT THIS DUMP, IN PLAIN WORDS (tools/lay-plain.mjs out of 'YtlgbcogdogpihaaGreatDoorSortLay.lean', which tools/lay-shelf.mjs wrote): THE SAME DECLARATIONS UNDER THE SAME NAMES: 'import', 'namespace', 'open', 'def', 'theorem' AND NOTHING ELSE: no command of the shelf's: FOR A HAND-IN. Each laying: the table of numbers ('.._ren') and one theorem, a field a fact of the dump's own or the kernel's comparison; each contract: ONE APPLICATION.
-/
import Derived.Shelf.SlSortCmp.WholeK
import Derived.Shelf.SlicesG.Cmp
import Derived.Ground.SlsfProg
import Derived.Ground.SlgcProg
import Derived.Ground.NamesProg
import Derived.Test.YtlgbcogdogpihaaGreatDoorProg
namespace Go.Proofs
open Go.Shelf
def Tryz.sortRun_ren : Go.Shelf.Ren := ⟨fun | 6 => 45 | 15 => 89 | 14 => 88 | 28 => 134 | 29 => 135 | 20 => 126 | 21 => 127 | 22 => 128 | 23 => 129 | 24 => 130 | 25 => 131 | 26 => 132 | 27 => 133 | 46 => 162 | 47 => 163 | 48 => 164 | 49 => 165 | 50 => 166 | 57 => 175 | n => n, fun | 22 => 22 | 24 => 62 | 25 => 97 | 3 => 3 | 39 => 133 | 0 => 0 | 53 => 178 | 55 => 181 | 4 => 4 | 46 => 189 | 45 => 188 | 50 => 118 | 5 => 5 | 9 => 9 | 66 => 216 | 70 => 220 | 76 => 230 | 77 => 231 | n => n, fun | n => n⟩
theorem Tryz.sortRun : Go.Proofs.SlLaysF0.n6 Tryz.prog Tryz.sortRun_ren := {
  mixed := by kernel_rfl
  f6 := ⟨Tryz.f45.name, by decide, Tryz.func45.trans (congrArg some (by kernel_rfl))⟩
  f14 := ⟨Tryz.f88.name, by decide, Tryz.func88.trans (congrArg some (by kernel_rfl))⟩
  f15 := Tryz.func89.trans (congrArg some (by kernel_rfl))
  f20 := ⟨Tryz.f126.name, by decide, Tryz.func126.trans (congrArg some (by kernel_rfl))⟩
  f21 := ⟨Tryz.f127.name, by decide, Tryz.func127.trans (congrArg some (by kernel_rfl))⟩
  f22 := ⟨Tryz.f128.name, by decide, Tryz.func128.trans (congrArg some (by kernel_rfl))⟩
  f23 := ⟨Tryz.f129.name, by decide, Tryz.func129.trans (congrArg some (by kernel_rfl))⟩
  f24 := ⟨Tryz.f130.name, by decide, Tryz.func130.trans (congrArg some (by kernel_rfl))⟩
  f25 := ⟨Tryz.f131.name, by decide, Tryz.func131.trans (congrArg some (by kernel_rfl))⟩
  f26 := ⟨Tryz.f132.name, by decide, Tryz.func132.trans (congrArg some (by kernel_rfl))⟩
  f27 := ⟨Tryz.f133.name, by decide, Tryz.func133.trans (congrArg some (by kernel_rfl))⟩
  f28 := Tryz.func134.trans (congrArg some (by kernel_rfl))
  f29 := Tryz.func135.trans (congrArg some (by kernel_rfl))
  f46 := ⟨Tryz.f162.name, by decide, Tryz.func162.trans (congrArg some (by kernel_rfl))⟩
  f47 := Tryz.func163.trans (congrArg some (by kernel_rfl))
  f48 := Tryz.func164.trans (congrArg some (by kernel_rfl))
  f49 := ⟨Tryz.f165.name, by decide, Tryz.func165.trans (congrArg some (by kernel_rfl))⟩
  f50 := ⟨Tryz.f166.name, by decide, Tryz.func166.trans (congrArg some (by kernel_rfl))⟩
  f57 := ⟨Tryz.f175.name, by decide, Tryz.func175.trans (congrArg some (by kernel_rfl))⟩
  t0 := Tryz.underlying0
  a0 := Tryz.isAgg0
  z0 := Tryz.sizeOf0
  v0 := Tryz.zeroValue0
  t3 := Tryz.underlying3
  a3 := Tryz.isAgg3
  z3 := Tryz.sizeOf3
  v3 := Tryz.zeroValue3
  t4 := Tryz.underlying4
  a4 := Tryz.isAgg4
  z4 := Tryz.sizeOf4
  v4 := Tryz.zeroValue4
  t5 := Tryz.underlying5
  a5 := Tryz.isAgg5
  z5 := Tryz.sizeOf5
  v5 := Tryz.zeroValue5
  t9 := Tryz.underlying9
  a9 := Tryz.isAgg9
  z9 := Tryz.sizeOf9
  v9 := Tryz.zeroValue9
  t22 := Tryz.underlying22
  a22 := Tryz.isAgg22
  z22 := Tryz.sizeOf22
  v22 := Tryz.zeroValue22
  t25 := Tryz.underlying97
  a25 := Tryz.isAgg97
  z25 := Tryz.sizeOf97
  v25 := Tryz.zeroValue97
  t39 := Tryz.underlying133
  a39 := Tryz.isAgg133
  z39 := Tryz.sizeOf133
  v39 := Tryz.zeroValue133
  t45 := Tryz.underlying188
  a45 := Tryz.isAgg188
  z45 := Tryz.sizeOf188
  v45 := Tryz.zeroValue188
  t46 := Tryz.underlying189
  a46 := Tryz.isAgg189
  z46 := Tryz.sizeOf189
  v46 := Tryz.zeroValue189
  t50 := Tryz.underlying118
  a50 := Tryz.isAgg118
  z50 := Tryz.sizeOf118
  v50 := Tryz.zeroValue118
  t53 := Tryz.underlying178
  a53 := Tryz.isAgg178
  z53 := Tryz.sizeOf178
  v53 := Tryz.zeroValue178
  t55 := Tryz.underlying181
  a55 := Tryz.isAgg181
  z55 := Tryz.sizeOf181
  v55 := Tryz.zeroValue181
  t66 := Tryz.underlying216
  a66 := Tryz.isAgg216
  z66 := Tryz.sizeOf216
  v66 := Tryz.zeroValue216
  t70 := Tryz.underlying220
  a70 := Tryz.isAgg220
  z70 := Tryz.sizeOf220
  v70 := Tryz.zeroValue220
  t76 := Tryz.underlying230
  a76 := Tryz.isAgg230
  z76 := Tryz.sizeOf230
  v76 := Tryz.zeroValue230
  t77 := Tryz.underlying231
  a77 := Tryz.isAgg231
  z77 := Tryz.sizeOf231
  v77 := Tryz.zeroValue231 }
def Tryz.cmpInt_ren : Go.Shelf.Ren := ⟨fun | 5 => 47 | 7 => 90 | n => n, fun | 22 => 3 | 3 => 3 | 4 => 4 | n => n, fun | n => n⟩
theorem Tryz.cmpInt : Go.Proofs.SlLaysC2.n5 Tryz.prog Tryz.cmpInt_ren := {
  mixed := by kernel_rfl
  f5 := ⟨Tryz.f47.name, by decide, Tryz.func47.trans (congrArg some (by kernel_rfl))⟩
  f7 := ⟨Tryz.f90.name, by decide, Tryz.func90.trans (congrArg some (by kernel_rfl))⟩
  t3 := Tryz.underlying3
  a3 := Tryz.isAgg3
  z3 := Tryz.sizeOf3
  v3 := Tryz.zeroValue3
  t4 := Tryz.underlying4
  a4 := Tryz.isAgg4
  z4 := Tryz.sizeOf4
  v4 := Tryz.zeroValue4
  t22 := Tryz.underlying3
  a22 := Tryz.isAgg3
  z22 := Tryz.sizeOf3
  v22 := Tryz.zeroValue3 }
end Go.Proofs
