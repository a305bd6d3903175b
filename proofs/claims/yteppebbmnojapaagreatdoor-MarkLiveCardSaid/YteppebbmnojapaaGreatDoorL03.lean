/- Part of this proof. -/
import Derived.Shelf.SlSortCmp.WholeK
import Derived.Shelf.SlicesG.Cmp
import Derived.Ground.SlsfProg
import Derived.Ground.SlgcProg
import Derived.Ground.NamesProg
import Derived.Test.YteppebbmnojapaaGreatDoorProg
set_option maxRecDepth 100000
set_option maxHeartbeats 8000000
namespace Go.Proofs
open Go.Shelf
def Tryz.sortRun_ren:Go.Shelf.Ren:=⟨fun | 6=>86 | 15=>162 | 14=>161 | 28=>230 | 29=>231 | 20=>222 | 21=>223 | 22=>224 | 23=>225 | 24=>226 | 25=>227 | 26=>228 | 27=>229 | 46=>280 | 47=>281 | 48=>282 | 49=>283 | 50=>284 | 57=>309 | n=>n,fun | 22=>47 | 24=>64 | 25=>168 | 3=>3 | 39=>209 | 0=>0 | 53=>290 | 55=>293 | 4=>4 | 46=>320 | 45=>319 | 50=>163 | 5=>5 | 9=>9 | 66=>374 | 70=>378 | 76=>399 | 77=>400 | n=>n,fun | n=>n⟩
theorem Tryz.sortRun:Go.Proofs.SlLaysF0.n6 Tryz.prog Tryz.sortRun_ren:= {
 mixed:=by kernel_rfl
 f6:=⟨Tryz.f86.name,by decide,Tryz.func86.trans (congrArg some (by kernel_rfl))⟩
 f14:=⟨Tryz.f161.name,by decide,Tryz.func161.trans (congrArg some (by kernel_rfl))⟩
 f15:=Tryz.func162.trans (congrArg some (by kernel_rfl))
 f20:=⟨Tryz.f222.name,by decide,Tryz.func222.trans (congrArg some (by kernel_rfl))⟩
 f21:=⟨Tryz.f223.name,by decide,Tryz.func223.trans (congrArg some (by kernel_rfl))⟩
 f22:=⟨Tryz.f224.name,by decide,Tryz.func224.trans (congrArg some (by kernel_rfl))⟩
 f23:=⟨Tryz.f225.name,by decide,Tryz.func225.trans (congrArg some (by kernel_rfl))⟩
 f24:=⟨Tryz.f226.name,by decide,Tryz.func226.trans (congrArg some (by kernel_rfl))⟩
 f25:=⟨Tryz.f227.name,by decide,Tryz.func227.trans (congrArg some (by kernel_rfl))⟩
 f26:=⟨Tryz.f228.name,by decide,Tryz.func228.trans (congrArg some (by kernel_rfl))⟩
 f27:=⟨Tryz.f229.name,by decide,Tryz.func229.trans (congrArg some (by kernel_rfl))⟩
 f28:=Tryz.func230.trans (congrArg some (by kernel_rfl))
 f29:=Tryz.func231.trans (congrArg some (by kernel_rfl))
 f46:=⟨Tryz.f280.name,by decide,Tryz.func280.trans (congrArg some (by kernel_rfl))⟩
 f47:=Tryz.func281.trans (congrArg some (by kernel_rfl))
 f48:=Tryz.func282.trans (congrArg some (by kernel_rfl))
 f49:=⟨Tryz.f283.name,by decide,Tryz.func283.trans (congrArg some (by kernel_rfl))⟩
 f50:=⟨Tryz.f284.name,by decide,Tryz.func284.trans (congrArg some (by kernel_rfl))⟩
 f57:=⟨Tryz.f309.name,by decide,Tryz.func309.trans (congrArg some (by kernel_rfl))⟩
 t0:=Tryz.underlying0
 a0:=Tryz.isAgg0
 z0:=Tryz.sizeOf0
 v0:=Tryz.zeroValue0
 t3:=Tryz.underlying3
 a3:=Tryz.isAgg3
 z3:=Tryz.sizeOf3
 v3:=Tryz.zeroValue3
 t4:=Tryz.underlying4
 a4:=Tryz.isAgg4
 z4:=Tryz.sizeOf4
 v4:=Tryz.zeroValue4
 t5:=Tryz.underlying5
 a5:=Tryz.isAgg5
 z5:=Tryz.sizeOf5
 v5:=Tryz.zeroValue5
 t9:=Tryz.underlying9
 a9:=Tryz.isAgg9
 z9:=Tryz.sizeOf9
 v9:=Tryz.zeroValue9
 t22:=Tryz.underlying47
 a22:=Tryz.isAgg47
 z22:=Tryz.sizeOf47
 v22:=Tryz.zeroValue47
 t25:=Tryz.underlying168
 a25:=Tryz.isAgg168
 z25:=Tryz.sizeOf168
 v25:=Tryz.zeroValue168
 t39:=Tryz.underlying209
 a39:=Tryz.isAgg209
 z39:=Tryz.sizeOf209
 v39:=Tryz.zeroValue209
 t45:=Tryz.underlying319
 a45:=Tryz.isAgg319
 z45:=Tryz.sizeOf319
 v45:=Tryz.zeroValue319
 t46:=Tryz.underlying320
 a46:=Tryz.isAgg320
 z46:=Tryz.sizeOf320
 v46:=Tryz.zeroValue320
 t50:=Tryz.underlying163
 a50:=Tryz.isAgg163
 z50:=Tryz.sizeOf163
 v50:=Tryz.zeroValue163
 t53:=Tryz.underlying290
 a53:=Tryz.isAgg290
 z53:=Tryz.sizeOf290
 v53:=Tryz.zeroValue290
 t55:=Tryz.underlying293
 a55:=Tryz.isAgg293
 z55:=Tryz.sizeOf293
 v55:=Tryz.zeroValue293
 t66:=Tryz.underlying374
 a66:=Tryz.isAgg374
 z66:=Tryz.sizeOf374
 v66:=Tryz.zeroValue374
 t70:=Tryz.underlying378
 a70:=Tryz.isAgg378
 z70:=Tryz.sizeOf378
 v70:=Tryz.zeroValue378
 t76:=Tryz.underlying399
 a76:=Tryz.isAgg399
 z76:=Tryz.sizeOf399
 v76:=Tryz.zeroValue399
 t77:=Tryz.underlying400
 a77:=Tryz.isAgg400
 z77:=Tryz.sizeOf400
 v77:=Tryz.zeroValue400 }
def Tryz.cmpInt_ren:Go.Shelf.Ren:=⟨fun | 5=>88 | 7=>163 | n=>n,fun | 22=>3 | 3=>3 | 4=>4 | n=>n,fun | n=>n⟩
theorem Tryz.cmpInt:Go.Proofs.SlLaysC2.n5 Tryz.prog Tryz.cmpInt_ren:= {
 mixed:=by kernel_rfl
 f5:=⟨Tryz.f88.name,by decide,Tryz.func88.trans (congrArg some (by kernel_rfl))⟩
 f7:=⟨Tryz.f163.name,by decide,Tryz.func163.trans (congrArg some (by kernel_rfl))⟩
 t3:=Tryz.underlying3
 a3:=Tryz.isAgg3
 z3:=Tryz.sizeOf3
 v3:=Tryz.zeroValue3
 t4:=Tryz.underlying4
 a4:=Tryz.isAgg4
 z4:=Tryz.sizeOf4
 v4:=Tryz.zeroValue4
 t22:=Tryz.underlying3
 a22:=Tryz.isAgg3
 z22:=Tryz.sizeOf3
 v22:=Tryz.zeroValue3 }
end Go.Proofs
