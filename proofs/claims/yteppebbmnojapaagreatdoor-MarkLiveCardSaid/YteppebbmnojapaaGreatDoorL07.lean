/- Part of this proof. -/
import Derived.Shelf.Strings.Builder1
import Derived.Shelf.Strings.Builder2
import Derived.Shelf.Strings.BuilderF
import Derived.Shelf.Strings.BuilderK
import Derived.Shelf.Strings.Builder2Cap
import Derived.Shelf.Strings.Prefix
import Derived.Shelf.Bits.Mul64
import Derived.Shelf.Strings.Repeat
import Derived.Test.YteppebbmnojapaaGreatDoorProg
set_option maxRecDepth 100000
set_option maxHeartbeats 8000000
namespace Go.Proofs
open Go.Shelf
def Tryz.lays212_ren:Go.Shelf.Ren:=⟨fun | 212=>125 | 263=>197 | 264=>198 | n=>n,fun | 46=>209 | 51=>290 | 146=>291 | 53=>293 | 148=>294 | n=>n,fun | n=>n⟩
theorem Tryz.lays212:Go.Proofs.Lays.n212 Tryz.prog Tryz.lays212_ren:= {
 mixed:=by kernel_rfl
 f212:=Tryz.func125.trans (congrArg some (by kernel_rfl))
 f263:=Tryz.func197.trans (congrArg some (by kernel_rfl))
 f264:=Tryz.func198.trans (congrArg some (by kernel_rfl))
 t46:=Tryz.underlying209
 a46:=Tryz.isAgg209
 z46:=Tryz.sizeOf209
 v46:=Tryz.zeroValue209
 t51:=Tryz.underlying290
 a51:=Tryz.isAgg290
 z51:=Tryz.sizeOf290
 v51:=Tryz.zeroValue290
 t53:=Tryz.underlying293
 a53:=Tryz.isAgg293
 z53:=Tryz.sizeOf293
 v53:=Tryz.zeroValue293
 t146:=Tryz.underlying291
 a146:=Tryz.isAgg291
 z146:=Tryz.sizeOf291
 v146:=Tryz.zeroValue291
 t148:=Tryz.underlying294
 a148:=Tryz.isAgg294
 z148:=Tryz.sizeOf294
 v148:=Tryz.zeroValue294 }
def Tryz.lays105_ren:Go.Shelf.Ren:=⟨fun | 105=>58 | 212=>125 | 99=>126 | 165=>127 | 166=>128 | 170=>129 | 169=>130 | 263=>197 | 264=>198 | 206=>199 | 240=>200 | 241=>201 | 276=>259 | 277=>260 | n=>n,fun | 9=>9 | 3=>3 | 4=>4 | 20=>20 | 0=>0 | 46=>209 | 109=>210 | 5=>5 | 72=>215 | 76=>219 | 51=>290 | 146=>291 | 53=>293 | 148=>294 | 70=>212 | 37=>213 | 75=>218 | 127=>296 | 164=>356 | 80=>221 | n=>n,fun | n=>n⟩
theorem Tryz.lays105:Go.Proofs.Lays.n105 Tryz.prog Tryz.lays105_ren:= {
 mixed:=by kernel_rfl
 f99:=Tryz.func126.trans (congrArg some (by kernel_rfl))
 f105:=Tryz.func58.trans (congrArg some (by kernel_rfl))
 f165:=Tryz.func127.trans (congrArg some (by kernel_rfl))
 f166:=Tryz.func128.trans (congrArg some (by kernel_rfl))
 f169:=Tryz.func130.trans (congrArg some (by kernel_rfl))
 f170:=Tryz.func129.trans (congrArg some (by kernel_rfl))
 f206:=Tryz.func199.trans (congrArg some (by kernel_rfl))
 f212:=Tryz.func125.trans (congrArg some (by kernel_rfl))
 f240:=Tryz.func200.trans (congrArg some (by kernel_rfl))
 f241:=Tryz.func201.trans (congrArg some (by kernel_rfl))
 f263:=Tryz.func197.trans (congrArg some (by kernel_rfl))
 f264:=Tryz.func198.trans (congrArg some (by kernel_rfl))
 f276:=Tryz.func259.trans (congrArg some (by kernel_rfl))
 f277:=Tryz.func260.trans (congrArg some (by kernel_rfl))
 t0:=Tryz.underlying0
 a0:=Tryz.isAgg0
 z0:=Tryz.sizeOf0
 v0:=Tryz.zeroValue0
 t3:=Tryz.underlying3
 a3:=Tryz.isAgg3
 z3:=Tryz.sizeOf3
 v3:=Tryz.zeroValue3
 t4:=Tryz.underlying4
 a4:=Tryz.isAgg4
 z4:=Tryz.sizeOf4
 v4:=Tryz.zeroValue4
 t5:=Tryz.underlying5
 a5:=Tryz.isAgg5
 z5:=Tryz.sizeOf5
 v5:=Tryz.zeroValue5
 t9:=Tryz.underlying9
 a9:=Tryz.isAgg9
 z9:=Tryz.sizeOf9
 v9:=Tryz.zeroValue9
 t20:=Tryz.underlying20
 a20:=Tryz.isAgg20
 z20:=Tryz.sizeOf20
 v20:=Tryz.zeroValue20
 t37:=Tryz.underlying213
 a37:=Tryz.isAgg213
 z37:=Tryz.sizeOf213
 v37:=Tryz.zeroValue213
 t46:=Tryz.underlying209
 a46:=Tryz.isAgg209
 z46:=Tryz.sizeOf209
 v46:=Tryz.zeroValue209
 t51:=Tryz.underlying290
 a51:=Tryz.isAgg290
 z51:=Tryz.sizeOf290
 v51:=Tryz.zeroValue290
 t53:=Tryz.underlying293
 a53:=Tryz.isAgg293
 z53:=Tryz.sizeOf293
 v53:=Tryz.zeroValue293
 t70:=Tryz.underlying212
 a70:=Tryz.isAgg212
 z70:=Tryz.sizeOf212
 v70:=Tryz.zeroValue212
 t72:=Tryz.underlying215
 a72:=Tryz.isAgg215
 z72:=Tryz.sizeOf215
 v72:=Tryz.zeroValue215
 t75:=Tryz.underlying218
 a75:=Tryz.isAgg218
 z75:=Tryz.sizeOf218
 v75:=Tryz.zeroValue218
 t76:=Tryz.underlying219
 a76:=Tryz.isAgg219
 z76:=Tryz.sizeOf219
 v76:=Tryz.zeroValue219
 t109:=Tryz.underlying210
 a109:=Tryz.isAgg210
 z109:=Tryz.sizeOf210
 v109:=Tryz.zeroValue210
 t127:=Tryz.underlying296
 a127:=Tryz.isAgg296
 z127:=Tryz.sizeOf296
 v127:=Tryz.zeroValue296
 t146:=Tryz.underlying291
 a146:=Tryz.isAgg291
 z146:=Tryz.sizeOf291
 v146:=Tryz.zeroValue291
 t148:=Tryz.underlying294
 a148:=Tryz.isAgg294
 z148:=Tryz.sizeOf294
 v148:=Tryz.zeroValue294
 t164:=Tryz.underlying356
 a164:=Tryz.isAgg356
 z164:=Tryz.sizeOf356
 v164:=Tryz.zeroValue356 }
end Go.Proofs
