/- Part of this proof. -/
import Derived.Shelf.SlSortCmp.WholeK
import Derived.Shelf.SlicesG.Cmp
import Derived.Ground.SlsfProg
import Derived.Ground.SlgcProg
import Derived.Ground.NamesProg
import Derived.Test.YtadnmegdbllaoaaGreatDoorProg
set_option maxRecDepth 100000
set_option maxHeartbeats 8000000
namespace Go.Proofs
open Go.Shelf
def Tryz.sortRun_ren:Go.Shelf.Ren:=⟨λ| 6=>151 | 15=>76 | 14=>179 | 28=>112 | 29=>113 | 20=>199 | 21=>200 | 22=>201 | 23=>202 | 24=>203 | 25=>204 | 26=>205 | 27=>206 | 46=>227 | 47=>139 | 48=>140 | 49=>228 | 50=>229 | 57=>245 | n=>n,λ| 22=>100 | 24=>102 | 25=>228 | 3=>3 | 39=>137 | 0=>0 | 53=>184 | 55=>186 | 4=>4 | 46=>176 | 45=>175 | 50=>181 | 5=>5 | 9=>9 | 66=>212 | 70=>216 | 76=>248 | 77=>249 | n=>n,λ| n=>n⟩
theorem Tryz.sortRun:Go.Proofs.SlLaysF0.n6 Tryz.prog Tryz.sortRun_ren:= {
 mixed:=by kernel_rfl
 f6:=⟨Tryz.f151.name,by decide,Tryz.func151.trans (congrArg some (by kernel_rfl))⟩
 f14:=⟨Tryz.f179.name,by decide,Tryz.func179.trans (congrArg some (by kernel_rfl))⟩
 f15:=Tryz.func76.trans (congrArg some (by kernel_rfl))
 f20:=⟨Tryz.f199.name,by decide,Tryz.func199.trans (congrArg some (by kernel_rfl))⟩
 f21:=⟨Tryz.f200.name,by decide,Tryz.func200.trans (congrArg some (by kernel_rfl))⟩
 f22:=⟨Tryz.f201.name,by decide,Tryz.func201.trans (congrArg some (by kernel_rfl))⟩
 f23:=⟨Tryz.f202.name,by decide,Tryz.func202.trans (congrArg some (by kernel_rfl))⟩
 f24:=⟨Tryz.f203.name,by decide,Tryz.func203.trans (congrArg some (by kernel_rfl))⟩
 f25:=⟨Tryz.f204.name,by decide,Tryz.func204.trans (congrArg some (by kernel_rfl))⟩
 f26:=⟨Tryz.f205.name,by decide,Tryz.func205.trans (congrArg some (by kernel_rfl))⟩
 f27:=⟨Tryz.f206.name,by decide,Tryz.func206.trans (congrArg some (by kernel_rfl))⟩
 f28:=Tryz.func112.trans (congrArg some (by kernel_rfl))
 f29:=Tryz.func113.trans (congrArg some (by kernel_rfl))
 f46:=⟨Tryz.f227.name,by decide,Tryz.func227.trans (congrArg some (by kernel_rfl))⟩
 f47:=Tryz.func139.trans (congrArg some (by kernel_rfl))
 f48:=Tryz.func140.trans (congrArg some (by kernel_rfl))
 f49:=⟨Tryz.f228.name,by decide,Tryz.func228.trans (congrArg some (by kernel_rfl))⟩
 f50:=⟨Tryz.f229.name,by decide,Tryz.func229.trans (congrArg some (by kernel_rfl))⟩
 f57:=⟨Tryz.f245.name,by decide,Tryz.func245.trans (congrArg some (by kernel_rfl))⟩
 t0:=Tryz.underlying0
 a0:=Tryz.isAgg0
 z0:=Tryz.sizeOf0
 v0:=Tryz.zeroValue0
 t3:=Tryz.underlying3
 a3:=Tryz.isAgg3
 z3:=Tryz.sizeOf3
 v3:=Tryz.zeroValue3
 t4:=Tryz.underlying4
 a4:=Tryz.isAgg4
 z4:=Tryz.sizeOf4
 v4:=Tryz.zeroValue4
 t5:=Tryz.underlying5
 a5:=Tryz.isAgg5
 z5:=Tryz.sizeOf5
 v5:=Tryz.zeroValue5
 t9:=Tryz.underlying9
 a9:=Tryz.isAgg9
 z9:=Tryz.sizeOf9
 v9:=Tryz.zeroValue9
 t22:=Tryz.underlying100
 a22:=Tryz.isAgg100
 z22:=Tryz.sizeOf100
 v22:=Tryz.zeroValue100
 t25:=Tryz.underlying228
 a25:=Tryz.isAgg228
 z25:=Tryz.sizeOf228
 v25:=Tryz.zeroValue228
 t39:=Tryz.underlying137
 a39:=Tryz.isAgg137
 z39:=Tryz.sizeOf137
 v39:=Tryz.zeroValue137
 t45:=Tryz.underlying175
 a45:=Tryz.isAgg175
 z45:=Tryz.sizeOf175
 v45:=Tryz.zeroValue175
 t46:=Tryz.underlying176
 a46:=Tryz.isAgg176
 z46:=Tryz.sizeOf176
 v46:=Tryz.zeroValue176
 t50:=Tryz.underlying181
 a50:=Tryz.isAgg181
 z50:=Tryz.sizeOf181
 v50:=Tryz.zeroValue181
 t53:=Tryz.underlying184
 a53:=Tryz.isAgg184
 z53:=Tryz.sizeOf184
 v53:=Tryz.zeroValue184
 t55:=Tryz.underlying186
 a55:=Tryz.isAgg186
 z55:=Tryz.sizeOf186
 v55:=Tryz.zeroValue186
 t66:=Tryz.underlying212
 a66:=Tryz.isAgg212
 z66:=Tryz.sizeOf212
 v66:=Tryz.zeroValue212
 t70:=Tryz.underlying216
 a70:=Tryz.isAgg216
 z70:=Tryz.sizeOf216
 v70:=Tryz.zeroValue216
 t76:=Tryz.underlying248
 a76:=Tryz.isAgg248
 z76:=Tryz.sizeOf248
 v76:=Tryz.zeroValue248
 t77:=Tryz.underlying249
 a77:=Tryz.isAgg249
 z77:=Tryz.sizeOf249
 v77:=Tryz.zeroValue249 }
def Tryz.cmpInt_ren:Go.Shelf.Ren:=⟨λ| 5=>153 | 7=>143 | n=>n,λ| 22=>3 | 3=>3 | 4=>4 | n=>n,λ| n=>n⟩
theorem Tryz.cmpInt:Go.Proofs.SlLaysC2.n5 Tryz.prog Tryz.cmpInt_ren:= {
 mixed:=by kernel_rfl
 f5:=⟨Tryz.f153.name,by decide,Tryz.func153.trans (congrArg some (by kernel_rfl))⟩
 f7:=⟨Tryz.f143.name,by decide,Tryz.func143.trans (congrArg some (by kernel_rfl))⟩
 t3:=Tryz.underlying3
 a3:=Tryz.isAgg3
 z3:=Tryz.sizeOf3
 v3:=Tryz.zeroValue3
 t4:=Tryz.underlying4
 a4:=Tryz.isAgg4
 z4:=Tryz.sizeOf4
 v4:=Tryz.zeroValue4
 t22:=Tryz.underlying3
 a22:=Tryz.isAgg3
 z22:=Tryz.sizeOf3
 v22:=Tryz.zeroValue3 }
end Go.Proofs
