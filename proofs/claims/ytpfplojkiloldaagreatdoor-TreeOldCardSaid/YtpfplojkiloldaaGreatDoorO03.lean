/- Part of this proof. -/
import Derived.Shelf.SlSortCmp.WholeK
import Derived.Shelf.SlicesG.Cmp
import Derived.Ground.SlsfProg
import Derived.Ground.SlgcProg
import Derived.Ground.NamesProg
import Derived.Test.YtpfplojkiloldaaGreatDoorProg
set_option maxRecDepth 100000
set_option maxHeartbeats 8000000
namespace Go.Proofs
open Go.Shelf
def Tryz.sortRun_ren : Go.Shelf.Ren := ⟨fun | 6 => 164 | 15 => 144 | 14 => 187 | 28 => 177 | 29 => 178 | 20 => 205 | 21 => 206 | 22 => 207 | 23 => 208 | 24 => 209 | 25 => 210 | 26 => 211 | 27 => 212 | 46 => 219 | 47 => 190 | 48 => 191 | 49 => 220 | 50 => 221 | 57 => 225 | n => n, fun | 22 => 79 | 24 => 120 | 25 => 232 | 3 => 3 | 39 => 152 | 0 => 0 | 53 => 192 | 55 => 195 | 4 => 4 | 46 => 236 | 45 => 235 | 50 => 141 | 5 => 5 | 9 => 9 | 66 => 251 | 70 => 255 | 76 => 271 | 77 => 272 | n => n, fun | n => n⟩
theorem Tryz.sortRun : Go.Proofs.SlLaysF0.n6 Tryz.prog Tryz.sortRun_ren := {
 mixed := by kernel_rfl
 f6 := ⟨Tryz.f164.name, by decide, Tryz.func164.trans (congrArg some (by kernel_rfl))⟩
 f14 := ⟨Tryz.f187.name, by decide, Tryz.func187.trans (congrArg some (by kernel_rfl))⟩
 f15 := Tryz.func144.trans (congrArg some (by kernel_rfl))
 f20 := ⟨Tryz.f205.name, by decide, Tryz.func205.trans (congrArg some (by kernel_rfl))⟩
 f21 := ⟨Tryz.f206.name, by decide, Tryz.func206.trans (congrArg some (by kernel_rfl))⟩
 f22 := ⟨Tryz.f207.name, by decide, Tryz.func207.trans (congrArg some (by kernel_rfl))⟩
 f23 := ⟨Tryz.f208.name, by decide, Tryz.func208.trans (congrArg some (by kernel_rfl))⟩
 f24 := ⟨Tryz.f209.name, by decide, Tryz.func209.trans (congrArg some (by kernel_rfl))⟩
 f25 := ⟨Tryz.f210.name, by decide, Tryz.func210.trans (congrArg some (by kernel_rfl))⟩
 f26 := ⟨Tryz.f211.name, by decide, Tryz.func211.trans (congrArg some (by kernel_rfl))⟩
 f27 := ⟨Tryz.f212.name, by decide, Tryz.func212.trans (congrArg some (by kernel_rfl))⟩
 f28 := Tryz.func177.trans (congrArg some (by kernel_rfl))
 f29 := Tryz.func178.trans (congrArg some (by kernel_rfl))
 f46 := ⟨Tryz.f219.name, by decide, Tryz.func219.trans (congrArg some (by kernel_rfl))⟩
 f47 := Tryz.func190.trans (congrArg some (by kernel_rfl))
 f48 := Tryz.func191.trans (congrArg some (by kernel_rfl))
 f49 := ⟨Tryz.f220.name, by decide, Tryz.func220.trans (congrArg some (by kernel_rfl))⟩
 f50 := ⟨Tryz.f221.name, by decide, Tryz.func221.trans (congrArg some (by kernel_rfl))⟩
 f57 := ⟨Tryz.f225.name, by decide, Tryz.func225.trans (congrArg some (by kernel_rfl))⟩
 t0 := Tryz.underlying0
 a0 := Tryz.isAgg0
 z0 := Tryz.sizeOf0
 v0 := Tryz.zeroValue0
 t3 := Tryz.underlying3
 a3 := Tryz.isAgg3
 z3 := Tryz.sizeOf3
 v3 := Tryz.zeroValue3
 t4 := Tryz.underlying4
 a4 := Tryz.isAgg4
 z4 := Tryz.sizeOf4
 v4 := Tryz.zeroValue4
 t5 := Tryz.underlying5
 a5 := Tryz.isAgg5
 z5 := Tryz.sizeOf5
 v5 := Tryz.zeroValue5
 t9 := Tryz.underlying9
 a9 := Tryz.isAgg9
 z9 := Tryz.sizeOf9
 v9 := Tryz.zeroValue9
 t22 := Tryz.underlying79
 a22 := Tryz.isAgg79
 z22 := Tryz.sizeOf79
 v22 := Tryz.zeroValue79
 t25 := Tryz.underlying232
 a25 := Tryz.isAgg232
 z25 := Tryz.sizeOf232
 v25 := Tryz.zeroValue232
 t39 := Tryz.underlying152
 a39 := Tryz.isAgg152
 z39 := Tryz.sizeOf152
 v39 := Tryz.zeroValue152
 t45 := Tryz.underlying235
 a45 := Tryz.isAgg235
 z45 := Tryz.sizeOf235
 v45 := Tryz.zeroValue235
 t46 := Tryz.underlying236
 a46 := Tryz.isAgg236
 z46 := Tryz.sizeOf236
 v46 := Tryz.zeroValue236
 t50 := Tryz.underlying141
 a50 := Tryz.isAgg141
 z50 := Tryz.sizeOf141
 v50 := Tryz.zeroValue141
 t53 := Tryz.underlying192
 a53 := Tryz.isAgg192
 z53 := Tryz.sizeOf192
 v53 := Tryz.zeroValue192
 t55 := Tryz.underlying195
 a55 := Tryz.isAgg195
 z55 := Tryz.sizeOf195
 v55 := Tryz.zeroValue195
 t66 := Tryz.underlying251
 a66 := Tryz.isAgg251
 z66 := Tryz.sizeOf251
 v66 := Tryz.zeroValue251
 t70 := Tryz.underlying255
 a70 := Tryz.isAgg255
 z70 := Tryz.sizeOf255
 v70 := Tryz.zeroValue255
 t76 := Tryz.underlying271
 a76 := Tryz.isAgg271
 z76 := Tryz.sizeOf271
 v76 := Tryz.zeroValue271
 t77 := Tryz.underlying272
 a77 := Tryz.isAgg272
 z77 := Tryz.sizeOf272
 v77 := Tryz.zeroValue272 }
def Tryz.cmpInt_ren : Go.Shelf.Ren := ⟨fun | 5 => 166 | 7 => 188 | n => n, fun | 22 => 3 | 3 => 3 | 4 => 4 | n => n, fun | n => n⟩
theorem Tryz.cmpInt : Go.Proofs.SlLaysC2.n5 Tryz.prog Tryz.cmpInt_ren := {
 mixed := by kernel_rfl
 f5 := ⟨Tryz.f166.name, by decide, Tryz.func166.trans (congrArg some (by kernel_rfl))⟩
 f7 := ⟨Tryz.f188.name, by decide, Tryz.func188.trans (congrArg some (by kernel_rfl))⟩
 t3 := Tryz.underlying3
 a3 := Tryz.isAgg3
 z3 := Tryz.sizeOf3
 v3 := Tryz.zeroValue3
 t4 := Tryz.underlying4
 a4 := Tryz.isAgg4
 z4 := Tryz.sizeOf4
 v4 := Tryz.zeroValue4
 t22 := Tryz.underlying3
 a22 := Tryz.isAgg3
 z22 := Tryz.sizeOf3
 v22 := Tryz.zeroValue3 }
end Go.Proofs
