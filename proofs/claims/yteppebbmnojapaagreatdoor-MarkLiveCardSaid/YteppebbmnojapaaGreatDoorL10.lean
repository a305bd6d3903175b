/- Part of this proof. -/
import Derived.Shelf.Strings.Builder1
import Derived.Shelf.Strings.Builder2
import Derived.Shelf.Strings.BuilderF
import Derived.Shelf.Strings.BuilderK
import Derived.Shelf.Strings.Builder2Cap
import Derived.Shelf.Strings.OnBuilder
import Derived.Shelf.Strings.Trim
import Derived.Test.YteppebbmnojapaaGreatDoorProg
set_option maxRecDepth 100000
set_option maxHeartbeats 8000000
namespace Go.Proofs
open Go.Shelf
def Tryz.lays156_ren:Go.Shelf.Ren:=⟨fun | 156=>156 | 165=>127 | 166=>128 | 169=>130 | 240=>200 | 241=>201 | 276=>259 | 277=>260 | n=>n,fun | 31=>107 | 9=>9 | 3=>3 | 4=>4 | 0=>0 | 20=>20 | 72=>215 | 76=>219 | 70=>212 | 37=>213 | 75=>218 | 127=>296 | 164=>356 | 5=>5 | 80=>221 | n=>n,fun | n=>n⟩
theorem Tryz.lays156:Go.Proofs.Lays.n156 Tryz.prog Tryz.lays156_ren:= {
 mixed:=by kernel_rfl
 f156:=Tryz.func156.trans (congrArg some (by kernel_rfl))
 f165:=Tryz.func127.trans (congrArg some (by kernel_rfl))
 f166:=Tryz.func128.trans (congrArg some (by kernel_rfl))
 f169:=Tryz.func130.trans (congrArg some (by kernel_rfl))
 f240:=Tryz.func200.trans (congrArg some (by kernel_rfl))
 f241:=Tryz.func201.trans (congrArg some (by kernel_rfl))
 f276:=Tryz.func259.trans (congrArg some (by kernel_rfl))
 f277:=Tryz.func260.trans (congrArg some (by kernel_rfl))
 t0:=Tryz.underlying0
 a0:=Tryz.isAgg0
 z0:=Tryz.sizeOf0
 v0:=Tryz.zeroValue0
 t3:=Tryz.underlying3
 a3:=Tryz.isAgg3
 z3:=Tryz.sizeOf3
 v3:=Tryz.zeroValue3
 t4:=Tryz.underlying4
 a4:=Tryz.isAgg4
 z4:=Tryz.sizeOf4
 v4:=Tryz.zeroValue4
 t9:=Tryz.underlying9
 a9:=Tryz.isAgg9
 z9:=Tryz.sizeOf9
 v9:=Tryz.zeroValue9
 t20:=Tryz.underlying20
 a20:=Tryz.isAgg20
 z20:=Tryz.sizeOf20
 v20:=Tryz.zeroValue20
 t31:=Tryz.underlying107
 a31:=Tryz.isAgg107
 z31:=Tryz.sizeOf107
 v31:=Tryz.zeroValue107
 t37:=Tryz.underlying213
 a37:=Tryz.isAgg213
 z37:=Tryz.sizeOf213
 v37:=Tryz.zeroValue213
 t70:=Tryz.underlying212
 a70:=Tryz.isAgg212
 z70:=Tryz.sizeOf212
 v70:=Tryz.zeroValue212
 t72:=Tryz.underlying215
 a72:=Tryz.isAgg215
 z72:=Tryz.sizeOf215
 v72:=Tryz.zeroValue215
 t75:=Tryz.underlying218
 a75:=Tryz.isAgg218
 z75:=Tryz.sizeOf218
 v75:=Tryz.zeroValue218
 t76:=Tryz.underlying219
 a76:=Tryz.isAgg219
 z76:=Tryz.sizeOf219
 v76:=Tryz.zeroValue219
 t127:=Tryz.underlying296
 a127:=Tryz.isAgg296
 z127:=Tryz.sizeOf296
 v127:=Tryz.zeroValue296
 t164:=Tryz.underlying356
 a164:=Tryz.isAgg356
 z164:=Tryz.sizeOf356
 v164:=Tryz.zeroValue356 }
def Tryz.lays160_ren:Go.Shelf.Ren:=⟨fun | 160=>319 | 232=>324 | 231=>323 | 227=>325 | 234=>327 | 233=>326 | 236=>329 | 235=>328 | 228=>330 | 271=>333 | 151=>332 | 197=>331 | 120=>336 | 152=>335 | 260=>334 | 137=>337 | 119=>338 | 224=>339 | 225=>340 | 217=>341 | 266=>342 | n=>n,fun | 9=>9 | 4=>4 | 3=>3 | 5=>5 | 117=>414 | 116=>413 | 0=>0 | 124=>417 | 21=>21 | 105=>419 | 46=>209 | 119=>423 | 139=>426 | 138=>425 | n=>n,fun | 3=>2 | 4=>3 | n=>n⟩
theorem Tryz.lays160:Go.Proofs.Lays.n160 Tryz.prog Tryz.lays160_ren:= {
 mixed:=by kernel_rfl
 f119:=Tryz.func338.trans (congrArg some (by kernel_rfl))
 f120:=Tryz.func336.trans (congrArg some (by kernel_rfl))
 f137:=Tryz.func337.trans (congrArg some (by kernel_rfl))
 f151:=Tryz.func332.trans (congrArg some (by kernel_rfl))
 f152:=Tryz.func335.trans (congrArg some (by kernel_rfl))
 f160:=Tryz.func319.trans (congrArg some (by kernel_rfl))
 f197:=Tryz.func331.trans (congrArg some (by kernel_rfl))
 f217:=Tryz.func341.trans (congrArg some (by kernel_rfl))
 f224:=Tryz.func339.trans (congrArg some (by kernel_rfl))
 f225:=Tryz.func340.trans (congrArg some (by kernel_rfl))
 f227:=Tryz.func325.trans (congrArg some (by kernel_rfl))
 f228:=Tryz.func330.trans (congrArg some (by kernel_rfl))
 f231:=Tryz.func323.trans (congrArg some (by kernel_rfl))
 f232:=Tryz.func324.trans (congrArg some (by kernel_rfl))
 f233:=Tryz.func326.trans (congrArg some (by kernel_rfl))
 f234:=Tryz.func327.trans (congrArg some (by kernel_rfl))
 f235:=Tryz.func328.trans (congrArg some (by kernel_rfl))
 f236:=Tryz.func329.trans (congrArg some (by kernel_rfl))
 f260:=Tryz.func334.trans (congrArg some (by kernel_rfl))
 f266:=Tryz.func342.trans (congrArg some (by kernel_rfl))
 f271:=Tryz.func333.trans (congrArg some (by kernel_rfl))
 t0:=Tryz.underlying0
 a0:=Tryz.isAgg0
 z0:=Tryz.sizeOf0
 v0:=Tryz.zeroValue0
 t3:=Tryz.underlying3
 a3:=Tryz.isAgg3
 z3:=Tryz.sizeOf3
 v3:=Tryz.zeroValue3
 t4:=Tryz.underlying4
 a4:=Tryz.isAgg4
 z4:=Tryz.sizeOf4
 v4:=Tryz.zeroValue4
 t5:=Tryz.underlying5
 a5:=Tryz.isAgg5
 z5:=Tryz.sizeOf5
 v5:=Tryz.zeroValue5
 t9:=Tryz.underlying9
 a9:=Tryz.isAgg9
 z9:=Tryz.sizeOf9
 v9:=Tryz.zeroValue9
 t21:=Tryz.underlying21
 a21:=Tryz.isAgg21
 z21:=Tryz.sizeOf21
 v21:=Tryz.zeroValue21
 t46:=Tryz.underlying209
 a46:=Tryz.isAgg209
 z46:=Tryz.sizeOf209
 v46:=Tryz.zeroValue209
 t105:=Tryz.underlying419
 a105:=Tryz.isAgg419
 z105:=Tryz.sizeOf419
 v105:=Tryz.zeroValue419
 t116:=Tryz.underlying413
 a116:=Tryz.isAgg413
 z116:=Tryz.sizeOf413
 t117:=Tryz.underlying414
 a117:=Tryz.isAgg414
 z117:=Tryz.sizeOf414
 v117:=Tryz.zeroValue414
 t119:=Tryz.underlying423
 a119:=Tryz.isAgg423
 z119:=Tryz.sizeOf423
 t124:=Tryz.underlying417
 a124:=Tryz.isAgg417
 z124:=Tryz.sizeOf417
 v124:=Tryz.zeroValue417
 t138:=Tryz.underlying425
 a138:=Tryz.isAgg425
 z138:=Tryz.sizeOf425
 v138:=Tryz.zeroValue425
 t139:=Tryz.underlying426
 a139:=Tryz.isAgg426
 z139:=Tryz.sizeOf426
 v139:=Tryz.zeroValue426
 g3:=by kernel_rfl
 g4:=by kernel_rfl }
end Go.Proofs
