/- Part of this proof. -/
import Derived.Shelf.Strings.Builder1
import Derived.Shelf.Strings.Builder2
import Derived.Shelf.Strings.BuilderF
import Derived.Shelf.Strings.BuilderK
import Derived.Shelf.Strings.Builder2Cap
import Derived.Shelf.Strings.OnBuilder
import Derived.Shelf.Strings.Trim
import Derived.Test.YtjoiajmbfbjnnaaGreatDoorProg
set_option maxRecDepth 100000
set_option maxHeartbeats 8000000
namespace Go.Proofs
open Go.Shelf
def Tryz.lays156_ren:Go.Shelf.Ren:=⟨fun | 156=>173 | 165=>134 | 166=>135 | 169=>137 | 240=>190 | 241=>191 | 276=>234 | 277=>235 | n=>n,fun | 31=>30 | 9=>9 | 3=>3 | 4=>4 | 0=>0 | 20=>20 | 72=>219 | 76=>223 | 70=>216 | 37=>217 | 75=>222 | 127=>281 | 164=>323 | 5=>5 | 80=>225 | n=>n,fun | n=>n⟩
theorem Tryz.lays156:Go.Proofs.Lays.n156 Tryz.prog Tryz.lays156_ren:= {
 mixed:=by kernel_rfl
 f156:=Tryz.func173.trans (congrArg some (by kernel_rfl))
 f165:=Tryz.func134.trans (congrArg some (by kernel_rfl))
 f166:=Tryz.func135.trans (congrArg some (by kernel_rfl))
 f169:=Tryz.func137.trans (congrArg some (by kernel_rfl))
 f240:=Tryz.func190.trans (congrArg some (by kernel_rfl))
 f241:=Tryz.func191.trans (congrArg some (by kernel_rfl))
 f276:=Tryz.func234.trans (congrArg some (by kernel_rfl))
 f277:=Tryz.func235.trans (congrArg some (by kernel_rfl))
 t0:=Tryz.underlying0
 a0:=Tryz.isAgg0
 z0:=Tryz.sizeOf0
 v0:=Tryz.zeroValue0
 t3:=Tryz.underlying3
 a3:=Tryz.isAgg3
 z3:=Tryz.sizeOf3
 v3:=Tryz.zeroValue3
 t4:=Tryz.underlying4
 a4:=Tryz.isAgg4
 z4:=Tryz.sizeOf4
 v4:=Tryz.zeroValue4
 t9:=Tryz.underlying9
 a9:=Tryz.isAgg9
 z9:=Tryz.sizeOf9
 v9:=Tryz.zeroValue9
 t20:=Tryz.underlying20
 a20:=Tryz.isAgg20
 z20:=Tryz.sizeOf20
 v20:=Tryz.zeroValue20
 t31:=Tryz.underlying30
 a31:=Tryz.isAgg30
 z31:=Tryz.sizeOf30
 v31:=Tryz.zeroValue30
 t37:=Tryz.underlying217
 a37:=Tryz.isAgg217
 z37:=Tryz.sizeOf217
 v37:=Tryz.zeroValue217
 t70:=Tryz.underlying216
 a70:=Tryz.isAgg216
 z70:=Tryz.sizeOf216
 v70:=Tryz.zeroValue216
 t72:=Tryz.underlying219
 a72:=Tryz.isAgg219
 z72:=Tryz.sizeOf219
 v72:=Tryz.zeroValue219
 t75:=Tryz.underlying222
 a75:=Tryz.isAgg222
 z75:=Tryz.sizeOf222
 v75:=Tryz.zeroValue222
 t76:=Tryz.underlying223
 a76:=Tryz.isAgg223
 z76:=Tryz.sizeOf223
 v76:=Tryz.zeroValue223
 t127:=Tryz.underlying281
 a127:=Tryz.isAgg281
 z127:=Tryz.sizeOf281
 v127:=Tryz.zeroValue281
 t164:=Tryz.underlying323
 a164:=Tryz.isAgg323
 z164:=Tryz.sizeOf323
 v164:=Tryz.zeroValue323 }
def Tryz.lays160_ren:Go.Shelf.Ren:=⟨fun | 160=>267 | 232=>277 | 231=>276 | 227=>278 | 234=>280 | 233=>279 | 236=>282 | 235=>281 | 228=>286 | 271=>289 | 151=>288 | 197=>287 | 120=>292 | 152=>291 | 260=>290 | 137=>293 | 119=>294 | 224=>295 | 225=>296 | 217=>297 | 266=>298 | n=>n,fun | 9=>9 | 4=>4 | 3=>3 | 5=>5 | 117=>365 | 116=>364 | 0=>0 | 124=>368 | 21=>21 | 105=>372 | 46=>213 | 119=>376 | 139=>379 | 138=>378 | n=>n,fun | 3=>2 | 4=>3 | n=>n⟩
theorem Tryz.lays160:Go.Proofs.Lays.n160 Tryz.prog Tryz.lays160_ren:= {
 mixed:=by kernel_rfl
 f119:=Tryz.func294.trans (congrArg some (by kernel_rfl))
 f120:=Tryz.func292.trans (congrArg some (by kernel_rfl))
 f137:=Tryz.func293.trans (congrArg some (by kernel_rfl))
 f151:=Tryz.func288.trans (congrArg some (by kernel_rfl))
 f152:=Tryz.func291.trans (congrArg some (by kernel_rfl))
 f160:=Tryz.func267.trans (congrArg some (by kernel_rfl))
 f197:=Tryz.func287.trans (congrArg some (by kernel_rfl))
 f217:=Tryz.func297.trans (congrArg some (by kernel_rfl))
 f224:=Tryz.func295.trans (congrArg some (by kernel_rfl))
 f225:=Tryz.func296.trans (congrArg some (by kernel_rfl))
 f227:=Tryz.func278.trans (congrArg some (by kernel_rfl))
 f228:=Tryz.func286.trans (congrArg some (by kernel_rfl))
 f231:=Tryz.func276.trans (congrArg some (by kernel_rfl))
 f232:=Tryz.func277.trans (congrArg some (by kernel_rfl))
 f233:=Tryz.func279.trans (congrArg some (by kernel_rfl))
 f234:=Tryz.func280.trans (congrArg some (by kernel_rfl))
 f235:=Tryz.func281.trans (congrArg some (by kernel_rfl))
 f236:=Tryz.func282.trans (congrArg some (by kernel_rfl))
 f260:=Tryz.func290.trans (congrArg some (by kernel_rfl))
 f266:=Tryz.func298.trans (congrArg some (by kernel_rfl))
 f271:=Tryz.func289.trans (congrArg some (by kernel_rfl))
 t0:=Tryz.underlying0
 a0:=Tryz.isAgg0
 z0:=Tryz.sizeOf0
 v0:=Tryz.zeroValue0
 t3:=Tryz.underlying3
 a3:=Tryz.isAgg3
 z3:=Tryz.sizeOf3
 v3:=Tryz.zeroValue3
 t4:=Tryz.underlying4
 a4:=Tryz.isAgg4
 z4:=Tryz.sizeOf4
 v4:=Tryz.zeroValue4
 t5:=Tryz.underlying5
 a5:=Tryz.isAgg5
 z5:=Tryz.sizeOf5
 v5:=Tryz.zeroValue5
 t9:=Tryz.underlying9
 a9:=Tryz.isAgg9
 z9:=Tryz.sizeOf9
 v9:=Tryz.zeroValue9
 t21:=Tryz.underlying21
 a21:=Tryz.isAgg21
 z21:=Tryz.sizeOf21
 v21:=Tryz.zeroValue21
 t46:=Tryz.underlying213
 a46:=Tryz.isAgg213
 z46:=Tryz.sizeOf213
 v46:=Tryz.zeroValue213
 t105:=Tryz.underlying372
 a105:=Tryz.isAgg372
 z105:=Tryz.sizeOf372
 v105:=Tryz.zeroValue372
 t116:=Tryz.underlying364
 a116:=Tryz.isAgg364
 z116:=Tryz.sizeOf364
 t117:=Tryz.underlying365
 a117:=Tryz.isAgg365
 z117:=Tryz.sizeOf365
 v117:=Tryz.zeroValue365
 t119:=Tryz.underlying376
 a119:=Tryz.isAgg376
 z119:=Tryz.sizeOf376
 t124:=Tryz.underlying368
 a124:=Tryz.isAgg368
 z124:=Tryz.sizeOf368
 v124:=Tryz.zeroValue368
 t138:=Tryz.underlying378
 a138:=Tryz.isAgg378
 z138:=Tryz.sizeOf378
 v138:=Tryz.zeroValue378
 t139:=Tryz.underlying379
 a139:=Tryz.isAgg379
 z139:=Tryz.sizeOf379
 v139:=Tryz.zeroValue379
 g3:=by kernel_rfl
 g4:=by kernel_rfl }
end Go.Proofs
