/- Part of this proof. -/
import Derived.Shelf.Strings.Builder1
import Derived.Shelf.Strings.Builder2
import Derived.Shelf.Strings.BuilderF
import Derived.Shelf.Strings.BuilderK
import Derived.Shelf.Strings.Builder2Cap
import Derived.Shelf.Strings.Prefix
import Derived.Shelf.Bits.Mul64
import Derived.Shelf.Strings.Repeat
import Derived.Test.YtjoiajmbfbjnnaaGreatDoorProg
set_option maxRecDepth 100000
set_option maxHeartbeats 8000000
namespace Go.Proofs
open Go.Shelf
def Tryz.lays212_ren:Go.Shelf.Ren:=⟨fun | 212=>132 | 263=>187 | 264=>188 | n=>n,fun | 46=>213 | 51=>275 | 146=>276 | 53=>278 | 148=>279 | n=>n,fun | n=>n⟩
theorem Tryz.lays212:Go.Proofs.Lays.n212 Tryz.prog Tryz.lays212_ren:= {
 mixed:=by kernel_rfl
 f212:=Tryz.func132.trans (congrArg some (by kernel_rfl))
 f263:=Tryz.func187.trans (congrArg some (by kernel_rfl))
 f264:=Tryz.func188.trans (congrArg some (by kernel_rfl))
 t46:=Tryz.underlying213
 a46:=Tryz.isAgg213
 z46:=Tryz.sizeOf213
 v46:=Tryz.zeroValue213
 t51:=Tryz.underlying275
 a51:=Tryz.isAgg275
 z51:=Tryz.sizeOf275
 v51:=Tryz.zeroValue275
 t53:=Tryz.underlying278
 a53:=Tryz.isAgg278
 z53:=Tryz.sizeOf278
 v53:=Tryz.zeroValue278
 t146:=Tryz.underlying276
 a146:=Tryz.isAgg276
 z146:=Tryz.sizeOf276
 v146:=Tryz.zeroValue276
 t148:=Tryz.underlying279
 a148:=Tryz.isAgg279
 z148:=Tryz.sizeOf279
 v148:=Tryz.zeroValue279 }
def Tryz.lays105_ren:Go.Shelf.Ren:=⟨fun | 105=>69 | 212=>132 | 99=>133 | 165=>134 | 166=>135 | 170=>136 | 169=>137 | 263=>187 | 264=>188 | 206=>189 | 240=>190 | 241=>191 | 276=>234 | 277=>235 | n=>n,fun | 9=>9 | 3=>3 | 4=>4 | 20=>20 | 0=>0 | 46=>213 | 109=>214 | 5=>5 | 72=>219 | 76=>223 | 51=>275 | 146=>276 | 53=>278 | 148=>279 | 70=>216 | 37=>217 | 75=>222 | 127=>281 | 164=>323 | 80=>225 | n=>n,fun | n=>n⟩
theorem Tryz.lays105:Go.Proofs.Lays.n105 Tryz.prog Tryz.lays105_ren:= {
 mixed:=by kernel_rfl
 f99:=Tryz.func133.trans (congrArg some (by kernel_rfl))
 f105:=Tryz.func69.trans (congrArg some (by kernel_rfl))
 f165:=Tryz.func134.trans (congrArg some (by kernel_rfl))
 f166:=Tryz.func135.trans (congrArg some (by kernel_rfl))
 f169:=Tryz.func137.trans (congrArg some (by kernel_rfl))
 f170:=Tryz.func136.trans (congrArg some (by kernel_rfl))
 f206:=Tryz.func189.trans (congrArg some (by kernel_rfl))
 f212:=Tryz.func132.trans (congrArg some (by kernel_rfl))
 f240:=Tryz.func190.trans (congrArg some (by kernel_rfl))
 f241:=Tryz.func191.trans (congrArg some (by kernel_rfl))
 f263:=Tryz.func187.trans (congrArg some (by kernel_rfl))
 f264:=Tryz.func188.trans (congrArg some (by kernel_rfl))
 f276:=Tryz.func234.trans (congrArg some (by kernel_rfl))
 f277:=Tryz.func235.trans (congrArg some (by kernel_rfl))
 t0:=Tryz.underlying0
 a0:=Tryz.isAgg0
 z0:=Tryz.sizeOf0
 v0:=Tryz.zeroValue0
 t3:=Tryz.underlying3
 a3:=Tryz.isAgg3
 z3:=Tryz.sizeOf3
 v3:=Tryz.zeroValue3
 t4:=Tryz.underlying4
 a4:=Tryz.isAgg4
 z4:=Tryz.sizeOf4
 v4:=Tryz.zeroValue4
 t5:=Tryz.underlying5
 a5:=Tryz.isAgg5
 z5:=Tryz.sizeOf5
 v5:=Tryz.zeroValue5
 t9:=Tryz.underlying9
 a9:=Tryz.isAgg9
 z9:=Tryz.sizeOf9
 v9:=Tryz.zeroValue9
 t20:=Tryz.underlying20
 a20:=Tryz.isAgg20
 z20:=Tryz.sizeOf20
 v20:=Tryz.zeroValue20
 t37:=Tryz.underlying217
 a37:=Tryz.isAgg217
 z37:=Tryz.sizeOf217
 v37:=Tryz.zeroValue217
 t46:=Tryz.underlying213
 a46:=Tryz.isAgg213
 z46:=Tryz.sizeOf213
 v46:=Tryz.zeroValue213
 t51:=Tryz.underlying275
 a51:=Tryz.isAgg275
 z51:=Tryz.sizeOf275
 v51:=Tryz.zeroValue275
 t53:=Tryz.underlying278
 a53:=Tryz.isAgg278
 z53:=Tryz.sizeOf278
 v53:=Tryz.zeroValue278
 t70:=Tryz.underlying216
 a70:=Tryz.isAgg216
 z70:=Tryz.sizeOf216
 v70:=Tryz.zeroValue216
 t72:=Tryz.underlying219
 a72:=Tryz.isAgg219
 z72:=Tryz.sizeOf219
 v72:=Tryz.zeroValue219
 t75:=Tryz.underlying222
 a75:=Tryz.isAgg222
 z75:=Tryz.sizeOf222
 v75:=Tryz.zeroValue222
 t76:=Tryz.underlying223
 a76:=Tryz.isAgg223
 z76:=Tryz.sizeOf223
 v76:=Tryz.zeroValue223
 t109:=Tryz.underlying214
 a109:=Tryz.isAgg214
 z109:=Tryz.sizeOf214
 v109:=Tryz.zeroValue214
 t127:=Tryz.underlying281
 a127:=Tryz.isAgg281
 z127:=Tryz.sizeOf281
 v127:=Tryz.zeroValue281
 t146:=Tryz.underlying276
 a146:=Tryz.isAgg276
 z146:=Tryz.sizeOf276
 v146:=Tryz.zeroValue276
 t148:=Tryz.underlying279
 a148:=Tryz.isAgg279
 z148:=Tryz.sizeOf279
 v148:=Tryz.zeroValue279
 t164:=Tryz.underlying323
 a164:=Tryz.isAgg323
 z164:=Tryz.sizeOf323
 v164:=Tryz.zeroValue323 }
end Go.Proofs
