/- Part of this proof. -/
import Derived.Shelf.SlIterI.Nil
import Derived.Shelf.SortM.Plain
import Derived.Shelf.SortM.SortNone
import Derived.Ground.GgzProg
import Derived.Ground.SlgmProg
import Derived.Test.YtadnmegdbllaoaaGreatDoorProg
set_option maxRecDepth 100000
set_option maxHeartbeats 8000000
namespace Go.Proofs
open Go.Shelf
def Tryz.sortC_ren:Go.Shelf.Ren:=⟨λ| 5=>42 | 8=>76 | 7=>75 | 19=>112 | 20=>113 | 10=>103 | 11=>104 | 12=>105 | 13=>106 | 14=>107 | 15=>108 | 16=>109 | 17=>110 | 18=>111 | 30=>138 | 31=>139 | 32=>140 | 33=>141 | 34=>142 | 35=>143 | 40=>170 | n=>n,λ| 23=>32 | 25=>3 | 3=>3 | 32=>137 | 22=>32 | 0=>0 | 44=>184 | 46=>186 | 4=>4 | 36=>176 | 35=>175 | 41=>181 | 5=>5 | 9=>9 | 53=>212 | 57=>216 | 63=>248 | 64=>249 | n=>n,λ| n=>n⟩
theorem Tryz.sortC:Go.Proofs.SlLaysM.n5 Tryz.prog Tryz.sortC_ren:= {
 mixed:=by kernel_rfl
 f5:=⟨Tryz.f42.name,by decide,Tryz.func42.trans (congrArg some (by kernel_rfl))⟩
 f7:=⟨Tryz.f75.name,by decide,Tryz.func75.trans (congrArg some (by kernel_rfl))⟩
 f8:=Tryz.func76.trans (congrArg some (by kernel_rfl))
 f10:=⟨Tryz.f103.name,by decide,Tryz.func103.trans (congrArg some (by kernel_rfl))⟩
 f11:=⟨Tryz.f104.name,by decide,Tryz.func104.trans (congrArg some (by kernel_rfl))⟩
 f12:=⟨Tryz.f105.name,by decide,Tryz.func105.trans (congrArg some (by kernel_rfl))⟩
 f13:=⟨Tryz.f106.name,by decide,Tryz.func106.trans (congrArg some (by kernel_rfl))⟩
 f14:=⟨Tryz.f107.name,by decide,Tryz.func107.trans (congrArg some (by kernel_rfl))⟩
 f15:=⟨Tryz.f108.name,by decide,Tryz.func108.trans (congrArg some (by kernel_rfl))⟩
 f16:=⟨Tryz.f109.name,by decide,Tryz.func109.trans (congrArg some (by kernel_rfl))⟩
 f17:=⟨Tryz.f110.name,by decide,Tryz.func110.trans (congrArg some (by kernel_rfl))⟩
 f18:=⟨Tryz.f111.name,by decide,Tryz.func111.trans (congrArg some (by kernel_rfl))⟩
 f19:=Tryz.func112.trans (congrArg some (by kernel_rfl))
 f20:=Tryz.func113.trans (congrArg some (by kernel_rfl))
 f30:=⟨Tryz.f138.name,by decide,Tryz.func138.trans (congrArg some (by kernel_rfl))⟩
 f31:=Tryz.func139.trans (congrArg some (by kernel_rfl))
 f32:=Tryz.func140.trans (congrArg some (by kernel_rfl))
 f33:=⟨Tryz.f141.name,by decide,Tryz.func141.trans (congrArg some (by kernel_rfl))⟩
 f34:=⟨Tryz.f142.name,by decide,Tryz.func142.trans (congrArg some (by kernel_rfl))⟩
 f35:=⟨Tryz.f143.name,by decide,Tryz.func143.trans (congrArg some (by kernel_rfl))⟩
 f40:=⟨Tryz.f170.name,by decide,Tryz.func170.trans (congrArg some (by kernel_rfl))⟩
 t0:=Tryz.underlying0
 a0:=Tryz.isAgg0
 z0:=Tryz.sizeOf0
 v0:=Tryz.zeroValue0
 t3:=Tryz.underlying3
 a3:=Tryz.isAgg3
 z3:=Tryz.sizeOf3
 v3:=Tryz.zeroValue3
 t4:=Tryz.underlying4
 a4:=Tryz.isAgg4
 z4:=Tryz.sizeOf4
 v4:=Tryz.zeroValue4
 t5:=Tryz.underlying5
 a5:=Tryz.isAgg5
 z5:=Tryz.sizeOf5
 v5:=Tryz.zeroValue5
 t9:=Tryz.underlying9
 a9:=Tryz.isAgg9
 z9:=Tryz.sizeOf9
 v9:=Tryz.zeroValue9
 t22:=Tryz.underlying32
 a22:=Tryz.isAgg32
 z22:=Tryz.sizeOf32
 v22:=Tryz.zeroValue32
 t23:=Tryz.underlying32
 a23:=Tryz.isAgg32
 z23:=Tryz.sizeOf32
 v23:=Tryz.zeroValue32
 t25:=Tryz.underlying3
 a25:=Tryz.isAgg3
 z25:=Tryz.sizeOf3
 v25:=Tryz.zeroValue3
 t32:=Tryz.underlying137
 a32:=Tryz.isAgg137
 z32:=Tryz.sizeOf137
 v32:=Tryz.zeroValue137
 t35:=Tryz.underlying175
 a35:=Tryz.isAgg175
 z35:=Tryz.sizeOf175
 v35:=Tryz.zeroValue175
 t36:=Tryz.underlying176
 a36:=Tryz.isAgg176
 z36:=Tryz.sizeOf176
 v36:=Tryz.zeroValue176
 t41:=Tryz.underlying181
 a41:=Tryz.isAgg181
 z41:=Tryz.sizeOf181
 v41:=Tryz.zeroValue181
 t44:=Tryz.underlying184
 a44:=Tryz.isAgg184
 z44:=Tryz.sizeOf184
 v44:=Tryz.zeroValue184
 t46:=Tryz.underlying186
 a46:=Tryz.isAgg186
 z46:=Tryz.sizeOf186
 v46:=Tryz.zeroValue186
 t53:=Tryz.underlying212
 a53:=Tryz.isAgg212
 z53:=Tryz.sizeOf212
 v53:=Tryz.zeroValue212
 t57:=Tryz.underlying216
 a57:=Tryz.isAgg216
 z57:=Tryz.sizeOf216
 v57:=Tryz.zeroValue216
 t63:=Tryz.underlying248
 a63:=Tryz.isAgg248
 z63:=Tryz.sizeOf248
 v63:=Tryz.zeroValue248
 t64:=Tryz.underlying249
 a64:=Tryz.isAgg249
 z64:=Tryz.sizeOf249
 v64:=Tryz.zeroValue249 }
end Go.Proofs
