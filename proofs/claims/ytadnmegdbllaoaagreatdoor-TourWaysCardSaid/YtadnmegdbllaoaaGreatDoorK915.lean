/- Part of this proof. -/
import Derived.Shelf.Strings.Builder1
import Derived.Shelf.Strings.Builder2
import Derived.Shelf.Strings.BuilderF
import Derived.Shelf.Strings.BuilderK
import Derived.Shelf.Strings.Builder2Cap
import Derived.Shelf.Strings.OnBuilder
import Derived.Shelf.Strings.Trim
import Derived.Test.YtadnmegdbllaoaaGreatDoorProg
set_option maxRecDepth 100000
set_option maxHeartbeats 8000000
namespace Go.Proofs
open Go.Shelf
def Tryz.lays156_ren:Go.Shelf.Ren:=⟨λ| 156=>191 | 165=>88 | 166=>89 | 169=>91 | 240=>123 | 241=>124 | 276=>155 | 277=>156 | n=>n,λ| 31=>110 | 9=>9 | 3=>3 | 4=>4 | 0=>0 | 20=>20 | 72=>152 | 76=>156 | 70=>149 | 37=>150 | 75=>155 | 127=>199 | 164=>231 | 5=>5 | 80=>158 | n=>n,λ| n=>n⟩
theorem Tryz.lays156:Go.Proofs.Lays.n156 Tryz.prog Tryz.lays156_ren:= {
 mixed:=by kernel_rfl
 f156:=Tryz.func191.trans (congrArg some (by kernel_rfl))
 f165:=Tryz.func88.trans (congrArg some (by kernel_rfl))
 f166:=Tryz.func89.trans (congrArg some (by kernel_rfl))
 f169:=Tryz.func91.trans (congrArg some (by kernel_rfl))
 f240:=Tryz.func123.trans (congrArg some (by kernel_rfl))
 f241:=Tryz.func124.trans (congrArg some (by kernel_rfl))
 f276:=Tryz.func155.trans (congrArg some (by kernel_rfl))
 f277:=Tryz.func156.trans (congrArg some (by kernel_rfl))
 t0:=Tryz.underlying0
 a0:=Tryz.isAgg0
 z0:=Tryz.sizeOf0
 v0:=Tryz.zeroValue0
 t3:=Tryz.underlying3
 a3:=Tryz.isAgg3
 z3:=Tryz.sizeOf3
 v3:=Tryz.zeroValue3
 t4:=Tryz.underlying4
 a4:=Tryz.isAgg4
 z4:=Tryz.sizeOf4
 v4:=Tryz.zeroValue4
 t9:=Tryz.underlying9
 a9:=Tryz.isAgg9
 z9:=Tryz.sizeOf9
 v9:=Tryz.zeroValue9
 t20:=Tryz.underlying20
 a20:=Tryz.isAgg20
 z20:=Tryz.sizeOf20
 v20:=Tryz.zeroValue20
 t31:=Tryz.underlying110
 a31:=Tryz.isAgg110
 z31:=Tryz.sizeOf110
 v31:=Tryz.zeroValue110
 t37:=Tryz.underlying150
 a37:=Tryz.isAgg150
 z37:=Tryz.sizeOf150
 v37:=Tryz.zeroValue150
 t70:=Tryz.underlying149
 a70:=Tryz.isAgg149
 z70:=Tryz.sizeOf149
 v70:=Tryz.zeroValue149
 t72:=Tryz.underlying152
 a72:=Tryz.isAgg152
 z72:=Tryz.sizeOf152
 v72:=Tryz.zeroValue152
 t75:=Tryz.underlying155
 a75:=Tryz.isAgg155
 z75:=Tryz.sizeOf155
 v75:=Tryz.zeroValue155
 t76:=Tryz.underlying156
 a76:=Tryz.isAgg156
 z76:=Tryz.sizeOf156
 v76:=Tryz.zeroValue156
 t127:=Tryz.underlying199
 a127:=Tryz.isAgg199
 z127:=Tryz.sizeOf199
 v127:=Tryz.zeroValue199
 t164:=Tryz.underlying231
 a164:=Tryz.isAgg231
 z164:=Tryz.sizeOf231
 v164:=Tryz.zeroValue231 }
end Go.Proofs
