/-
  DERIVED: THE SHELF's CONTRACTS AT THIS DUMP, IN PLAIN WORDS (tools/lay-plain.mjs out of 'YtpfplojkiloldaaGreatDoorKeysLay.lean', which tools/lay-shelf.mjs wrote): THE SAME DECLARATIONS UNDER THE SAME NAMES: 'import', 'namespace', 'open', 'def', 'theorem' AND NOTHING ELSE: no command of the shelf's: FOR A HAND-IN. Each laying: the table of numbers ('.._ren') and one theorem, a field a fact of the dump's own or the kernel's comparison; each contract: ONE APPLICATION.
-/
import Derived.Shelf.SlIterI.Nil
import Derived.Shelf.SortM.Plain
import Derived.Shelf.SortM.SortNone
import Derived.Ground.GgzProg
import Derived.Ground.SlgmProg
import Derived.Test.YtpfplojkiloldaaGreatDoorProg
set_option maxRecDepth 100000
namespace Go.Proofs
open Go.Shelf
def Tryz.keysC_ren : Go.Shelf.Ren := ⟨fun | 7 => 67 | 10 => 105 | n => n, fun | 23 => 122 | 26 => 3 | 3 => 130 | 28 => 127 | 0 => 0 | 27 => 126 | 33 => 76 | 4 => 4 | n => n, fun | n => n⟩
theorem Tryz.keysC : Go.Proofs.SlLaysZI.n7 Tryz.prog Tryz.keysC_ren := {
  mixed := by kernel_rfl
  f7 := ⟨Tryz.f67.name, by decide, Tryz.func67.trans (congrArg some (by kernel_rfl))⟩
  f10 := ⟨Tryz.f105.name, by decide, Tryz.func105.trans (congrArg some (by kernel_rfl))⟩
  t0 := Tryz.underlying0
  a0 := Tryz.isAgg0
  z0 := Tryz.sizeOf0
  v0 := Tryz.zeroValue0
  t4 := Tryz.underlying4
  a4 := Tryz.isAgg4
  z4 := Tryz.sizeOf4
  v4 := Tryz.zeroValue4
  t23 := Tryz.underlying122
  a23 := Tryz.isAgg122
  z23 := Tryz.sizeOf122
  v23 := Tryz.zeroValue122
  t26 := Tryz.underlying3
  a26 := Tryz.isAgg3
  z26 := Tryz.sizeOf3
  v26 := Tryz.zeroValue3
  t27 := Tryz.underlying126
  a27 := Tryz.isAgg126
  z27 := Tryz.sizeOf126
  v27 := Tryz.zeroValue126
  t28 := Tryz.underlying127
  a28 := Tryz.isAgg127
  z28 := Tryz.sizeOf127
  v28 := Tryz.zeroValue127
  t33 := Tryz.underlying76
  a33 := Tryz.isAgg76
  z33 := Tryz.sizeOf76
  v33 := Tryz.zeroValue76 }
def Tryz.sortedC_ren : Go.Shelf.Ren := ⟨fun | 6 => 66 | 8 => 103 | 9 => 104 | 11 => 142 | 13 => 144 | 12 => 143 | 23 => 177 | 24 => 178 | 14 => 168 | 15 => 169 | 16 => 170 | 17 => 171 | 18 => 172 | 19 => 173 | 20 => 174 | 21 => 175 | 22 => 176 | 25 => 189 | 26 => 190 | 27 => 191 | 28 => 192 | 29 => 193 | 30 => 188 | 31 => 213 | n => n, fun | 26 => 3 | 28 => 127 | 24 => 55 | 0 => 0 | 3 => 3 | 37 => 152 | 48 => 192 | 50 => 195 | 4 => 4 | 40 => 236 | 39 => 235 | 45 => 141 | 5 => 5 | 9 => 9 | 51 => 251 | 55 => 255 | 57 => 271 | 58 => 272 | 33 => 76 | n => n, fun | n => n⟩
theorem Tryz.sortedC : Go.Proofs.SlLaysZI.n6 Tryz.prog Tryz.sortedC_ren := {
  mixed := by kernel_rfl
  f6 := ⟨Tryz.f66.name, by decide, Tryz.func66.trans (congrArg some (by kernel_rfl))⟩
  f8 := ⟨Tryz.f103.name, by decide, Tryz.func103.trans (congrArg some (by kernel_rfl))⟩
  f11 := ⟨Tryz.f142.name, by decide, Tryz.func142.trans (congrArg some (by kernel_rfl))⟩
  t0 := Tryz.underlying0
  a0 := Tryz.isAgg0
  z0 := Tryz.sizeOf0
  v0 := Tryz.zeroValue0
  t24 := Tryz.underlying55
  a24 := Tryz.isAgg55
  z24 := Tryz.sizeOf55
  v24 := Tryz.zeroValue55
  t26 := Tryz.underlying3
  a26 := Tryz.isAgg3
  z26 := Tryz.sizeOf3
  v26 := Tryz.zeroValue3
  t28 := Tryz.underlying127
  a28 := Tryz.isAgg127
  z28 := Tryz.sizeOf127
  v28 := Tryz.zeroValue127
  i26 := by kernel_rfl }
def Tryz.sortC_ren : Go.Shelf.Ren := ⟨fun | 5 => 104 | 8 => 144 | 7 => 143 | 19 => 177 | 20 => 178 | 10 => 168 | 11 => 169 | 12 => 170 | 13 => 171 | 14 => 172 | 15 => 173 | 16 => 174 | 17 => 175 | 18 => 176 | 30 => 189 | 31 => 190 | 32 => 191 | 33 => 192 | 34 => 193 | 35 => 188 | 40 => 213 | n => n, fun | 23 => 55 | 25 => 3 | 3 => 3 | 32 => 152 | 22 => 55 | 0 => 0 | 44 => 192 | 46 => 195 | 4 => 4 | 36 => 236 | 35 => 235 | 41 => 141 | 5 => 5 | 9 => 9 | 53 => 251 | 57 => 255 | 63 => 271 | 64 => 272 | n => n, fun | n => n⟩
theorem Tryz.sortC : Go.Proofs.SlLaysM.n5 Tryz.prog Tryz.sortC_ren := {
  mixed := by kernel_rfl
  f5 := ⟨Tryz.f104.name, by decide, Tryz.func104.trans (congrArg some (by kernel_rfl))⟩
  f7 := ⟨Tryz.f143.name, by decide, Tryz.func143.trans (congrArg some (by kernel_rfl))⟩
  f8 := Tryz.func144.trans (congrArg some (by kernel_rfl))
  f10 := ⟨Tryz.f168.name, by decide, Tryz.func168.trans (congrArg some (by kernel_rfl))⟩
  f11 := ⟨Tryz.f169.name, by decide, Tryz.func169.trans (congrArg some (by kernel_rfl))⟩
  f12 := ⟨Tryz.f170.name, by decide, Tryz.func170.trans (congrArg some (by kernel_rfl))⟩
  f13 := ⟨Tryz.f171.name, by decide, Tryz.func171.trans (congrArg some (by kernel_rfl))⟩
  f14 := ⟨Tryz.f172.name, by decide, Tryz.func172.trans (congrArg some (by kernel_rfl))⟩
  f15 := ⟨Tryz.f173.name, by decide, Tryz.func173.trans (congrArg some (by kernel_rfl))⟩
  f16 := ⟨Tryz.f174.name, by decide, Tryz.func174.trans (congrArg some (by kernel_rfl))⟩
  f17 := ⟨Tryz.f175.name, by decide, Tryz.func175.trans (congrArg some (by kernel_rfl))⟩
  f18 := ⟨Tryz.f176.name, by decide, Tryz.func176.trans (congrArg some (by kernel_rfl))⟩
  f19 := Tryz.func177.trans (congrArg some (by kernel_rfl))
  f20 := Tryz.func178.trans (congrArg some (by kernel_rfl))
  f30 := ⟨Tryz.f189.name, by decide, Tryz.func189.trans (congrArg some (by kernel_rfl))⟩
  f31 := Tryz.func190.trans (congrArg some (by kernel_rfl))
  f32 := Tryz.func191.trans (congrArg some (by kernel_rfl))
  f33 := ⟨Tryz.f192.name, by decide, Tryz.func192.trans (congrArg some (by kernel_rfl))⟩
  f34 := ⟨Tryz.f193.name, by decide, Tryz.func193.trans (congrArg some (by kernel_rfl))⟩
  f35 := ⟨Tryz.f188.name, by decide, Tryz.func188.trans (congrArg some (by kernel_rfl))⟩
  f40 := ⟨Tryz.f213.name, by decide, Tryz.func213.trans (congrArg some (by kernel_rfl))⟩
  t0 := Tryz.underlying0
  a0 := Tryz.isAgg0
  z0 := Tryz.sizeOf0
  v0 := Tryz.zeroValue0
  t3 := Tryz.underlying3
  a3 := Tryz.isAgg3
  z3 := Tryz.sizeOf3
  v3 := Tryz.zeroValue3
  t4 := Tryz.underlying4
  a4 := Tryz.isAgg4
  z4 := Tryz.sizeOf4
  v4 := Tryz.zeroValue4
  t5 := Tryz.underlying5
  a5 := Tryz.isAgg5
  z5 := Tryz.sizeOf5
  v5 := Tryz.zeroValue5
  t9 := Tryz.underlying9
  a9 := Tryz.isAgg9
  z9 := Tryz.sizeOf9
  v9 := Tryz.zeroValue9
  t22 := Tryz.underlying55
  a22 := Tryz.isAgg55
  z22 := Tryz.sizeOf55
  v22 := Tryz.zeroValue55
  t23 := Tryz.underlying55
  a23 := Tryz.isAgg55
  z23 := Tryz.sizeOf55
  v23 := Tryz.zeroValue55
  t25 := Tryz.underlying3
  a25 := Tryz.isAgg3
  z25 := Tryz.sizeOf3
  v25 := Tryz.zeroValue3
  t32 := Tryz.underlying152
  a32 := Tryz.isAgg152
  z32 := Tryz.sizeOf152
  v32 := Tryz.zeroValue152
  t35 := Tryz.underlying235
  a35 := Tryz.isAgg235
  z35 := Tryz.sizeOf235
  v35 := Tryz.zeroValue235
  t36 := Tryz.underlying236
  a36 := Tryz.isAgg236
  z36 := Tryz.sizeOf236
  v36 := Tryz.zeroValue236
  t41 := Tryz.underlying141
  a41 := Tryz.isAgg141
  z41 := Tryz.sizeOf141
  v41 := Tryz.zeroValue141
  t44 := Tryz.underlying192
  a44 := Tryz.isAgg192
  z44 := Tryz.sizeOf192
  v44 := Tryz.zeroValue192
  t46 := Tryz.underlying195
  a46 := Tryz.isAgg195
  z46 := Tryz.sizeOf195
  v46 := Tryz.zeroValue195
  t53 := Tryz.underlying251
  a53 := Tryz.isAgg251
  z53 := Tryz.sizeOf251
  v53 := Tryz.zeroValue251
  t57 := Tryz.underlying255
  a57 := Tryz.isAgg255
  z57 := Tryz.sizeOf255
  v57 := Tryz.zeroValue255
  t63 := Tryz.underlying271
  a63 := Tryz.isAgg271
  z63 := Tryz.sizeOf271
  v63 := Tryz.zeroValue271
  t64 := Tryz.underlying272
  a64 := Tryz.isAgg272
  z64 := Tryz.sizeOf272
  v64 := Tryz.zeroValue272 }
end Go.Proofs
