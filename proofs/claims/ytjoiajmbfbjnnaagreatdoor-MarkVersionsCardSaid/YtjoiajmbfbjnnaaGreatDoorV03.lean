/- Part of this proof. -/
import Derived.Shelf.SlSortCmp.WholeK
import Derived.Shelf.SlicesG.Cmp
import Derived.Ground.SlsfProg
import Derived.Ground.SlgcProg
import Derived.Ground.NamesProg
import Derived.Test.YtjoiajmbfbjnnaaGreatDoorProg
set_option maxRecDepth 100000
set_option maxHeartbeats 8000000
namespace Go.Proofs
open Go.Shelf
def Tryz.sortRun_ren:Go.Shelf.Ren:=⟨fun | 6=>119 | 15=>181 | 14=>180 | 28=>229 | 29=>230 | 20=>221 | 21=>222 | 22=>223 | 23=>224 | 24=>225 | 25=>226 | 26=>227 | 27=>228 | 46=>250 | 47=>251 | 48=>252 | 49=>253 | 50=>254 | 57=>271 | n=>n,fun | 22=>61 | 24=>106 | 25=>203 | 3=>3 | 39=>213 | 0=>0 | 53=>275 | 55=>278 | 4=>4 | 46=>310 | 45=>309 | 50=>199 | 5=>5 | 9=>9 | 66=>338 | 70=>342 | 76=>355 | 77=>356 | n=>n,fun | n=>n⟩
theorem Tryz.sortRun:Go.Proofs.SlLaysF0.n6 Tryz.prog Tryz.sortRun_ren:= {
 mixed:=by kernel_rfl
 f6:=⟨Tryz.f119.name,by decide,Tryz.func119.trans (congrArg some (by kernel_rfl))⟩
 f14:=⟨Tryz.f180.name,by decide,Tryz.func180.trans (congrArg some (by kernel_rfl))⟩
 f15:=Tryz.func181.trans (congrArg some (by kernel_rfl))
 f20:=⟨Tryz.f221.name,by decide,Tryz.func221.trans (congrArg some (by kernel_rfl))⟩
 f21:=⟨Tryz.f222.name,by decide,Tryz.func222.trans (congrArg some (by kernel_rfl))⟩
 f22:=⟨Tryz.f223.name,by decide,Tryz.func223.trans (congrArg some (by kernel_rfl))⟩
 f23:=⟨Tryz.f224.name,by decide,Tryz.func224.trans (congrArg some (by kernel_rfl))⟩
 f24:=⟨Tryz.f225.name,by decide,Tryz.func225.trans (congrArg some (by kernel_rfl))⟩
 f25:=⟨Tryz.f226.name,by decide,Tryz.func226.trans (congrArg some (by kernel_rfl))⟩
 f26:=⟨Tryz.f227.name,by decide,Tryz.func227.trans (congrArg some (by kernel_rfl))⟩
 f27:=⟨Tryz.f228.name,by decide,Tryz.func228.trans (congrArg some (by kernel_rfl))⟩
 f28:=Tryz.func229.trans (congrArg some (by kernel_rfl))
 f29:=Tryz.func230.trans (congrArg some (by kernel_rfl))
 f46:=⟨Tryz.f250.name,by decide,Tryz.func250.trans (congrArg some (by kernel_rfl))⟩
 f47:=Tryz.func251.trans (congrArg some (by kernel_rfl))
 f48:=Tryz.func252.trans (congrArg some (by kernel_rfl))
 f49:=⟨Tryz.f253.name,by decide,Tryz.func253.trans (congrArg some (by kernel_rfl))⟩
 f50:=⟨Tryz.f254.name,by decide,Tryz.func254.trans (congrArg some (by kernel_rfl))⟩
 f57:=⟨Tryz.f271.name,by decide,Tryz.func271.trans (congrArg some (by kernel_rfl))⟩
 t0:=Tryz.underlying0
 a0:=Tryz.isAgg0
 z0:=Tryz.sizeOf0
 v0:=Tryz.zeroValue0
 t3:=Tryz.underlying3
 a3:=Tryz.isAgg3
 z3:=Tryz.sizeOf3
 v3:=Tryz.zeroValue3
 t4:=Tryz.underlying4
 a4:=Tryz.isAgg4
 z4:=Tryz.sizeOf4
 v4:=Tryz.zeroValue4
 t5:=Tryz.underlying5
 a5:=Tryz.isAgg5
 z5:=Tryz.sizeOf5
 v5:=Tryz.zeroValue5
 t9:=Tryz.underlying9
 a9:=Tryz.isAgg9
 z9:=Tryz.sizeOf9
 v9:=Tryz.zeroValue9
 t22:=Tryz.underlying61
 a22:=Tryz.isAgg61
 z22:=Tryz.sizeOf61
 v22:=Tryz.zeroValue61
 t25:=Tryz.underlying203
 a25:=Tryz.isAgg203
 z25:=Tryz.sizeOf203
 v25:=Tryz.zeroValue203
 t39:=Tryz.underlying213
 a39:=Tryz.isAgg213
 z39:=Tryz.sizeOf213
 v39:=Tryz.zeroValue213
 t45:=Tryz.underlying309
 a45:=Tryz.isAgg309
 z45:=Tryz.sizeOf309
 v45:=Tryz.zeroValue309
 t46:=Tryz.underlying310
 a46:=Tryz.isAgg310
 z46:=Tryz.sizeOf310
 v46:=Tryz.zeroValue310
 t50:=Tryz.underlying199
 a50:=Tryz.isAgg199
 z50:=Tryz.sizeOf199
 v50:=Tryz.zeroValue199
 t53:=Tryz.underlying275
 a53:=Tryz.isAgg275
 z53:=Tryz.sizeOf275
 v53:=Tryz.zeroValue275
 t55:=Tryz.underlying278
 a55:=Tryz.isAgg278
 z55:=Tryz.sizeOf278
 v55:=Tryz.zeroValue278
 t66:=Tryz.underlying338
 a66:=Tryz.isAgg338
 z66:=Tryz.sizeOf338
 v66:=Tryz.zeroValue338
 t70:=Tryz.underlying342
 a70:=Tryz.isAgg342
 z70:=Tryz.sizeOf342
 v70:=Tryz.zeroValue342
 t76:=Tryz.underlying355
 a76:=Tryz.isAgg355
 z76:=Tryz.sizeOf355
 v76:=Tryz.zeroValue355
 t77:=Tryz.underlying356
 a77:=Tryz.isAgg356
 z77:=Tryz.sizeOf356
 v77:=Tryz.zeroValue356 }
def Tryz.cmpInt_ren:Go.Shelf.Ren:=⟨fun | 5=>121 | 7=>182 | n=>n,fun | 22=>3 | 3=>3 | 4=>4 | n=>n,fun | n=>n⟩
theorem Tryz.cmpInt:Go.Proofs.SlLaysC2.n5 Tryz.prog Tryz.cmpInt_ren:= {
 mixed:=by kernel_rfl
 f5:=⟨Tryz.f121.name,by decide,Tryz.func121.trans (congrArg some (by kernel_rfl))⟩
 f7:=⟨Tryz.f182.name,by decide,Tryz.func182.trans (congrArg some (by kernel_rfl))⟩
 t3:=Tryz.underlying3
 a3:=Tryz.isAgg3
 z3:=Tryz.sizeOf3
 v3:=Tryz.zeroValue3
 t4:=Tryz.underlying4
 a4:=Tryz.isAgg4
 z4:=Tryz.sizeOf4
 v4:=Tryz.zeroValue4
 t22:=Tryz.underlying3
 a22:=Tryz.isAgg3
 z22:=Tryz.sizeOf3
 v22:=Tryz.zeroValue3 }
end Go.Proofs
