/- Part of this proof. -/
import Derived.Shelf.Strings.Builder1
import Derived.Shelf.Strings.Builder2
import Derived.Shelf.Strings.BuilderF
import Derived.Shelf.Strings.BuilderK
import Derived.Shelf.Strings.Builder2Cap
import Derived.Shelf.Strings.Prefix
import Derived.Shelf.Bits.Mul64
import Derived.Shelf.Strings.Repeat
import Derived.Test.YtadnmegdbllaoaaGreatDoorProg
set_option maxRecDepth 100000
set_option maxHeartbeats 8000000
namespace Go.Proofs
open Go.Shelf
def Tryz.lays212_ren:Go.Shelf.Ren:=⟨λ| 212=>86 | 263=>120 | 264=>121 | n=>n,λ| 46=>137 | 51=>184 | 146=>195 | 53=>186 | 148=>197 | n=>n,λ| n=>n⟩
theorem Tryz.lays212:Go.Proofs.Lays.n212 Tryz.prog Tryz.lays212_ren:= {
 mixed:=by kernel_rfl
 f212:=Tryz.func86.trans (congrArg some (by kernel_rfl))
 f263:=Tryz.func120.trans (congrArg some (by kernel_rfl))
 f264:=Tryz.func121.trans (congrArg some (by kernel_rfl))
 t46:=Tryz.underlying137
 a46:=Tryz.isAgg137
 z46:=Tryz.sizeOf137
 v46:=Tryz.zeroValue137
 t51:=Tryz.underlying184
 a51:=Tryz.isAgg184
 z51:=Tryz.sizeOf184
 v51:=Tryz.zeroValue184
 t53:=Tryz.underlying186
 a53:=Tryz.isAgg186
 z53:=Tryz.sizeOf186
 v53:=Tryz.zeroValue186
 t146:=Tryz.underlying195
 a146:=Tryz.isAgg195
 z146:=Tryz.sizeOf195
 v146:=Tryz.zeroValue195
 t148:=Tryz.underlying197
 a148:=Tryz.isAgg197
 z148:=Tryz.sizeOf197
 v148:=Tryz.zeroValue197 }
def Tryz.lays105_ren:Go.Shelf.Ren:=⟨λ| 105=>59 | 212=>86 | 99=>87 | 165=>88 | 166=>89 | 170=>90 | 169=>91 | 263=>120 | 264=>121 | 206=>122 | 240=>123 | 241=>124 | 276=>155 | 277=>156 | n=>n,λ| 9=>9 | 3=>3 | 4=>4 | 20=>20 | 0=>0 | 46=>137 | 109=>146 | 5=>5 | 72=>152 | 76=>156 | 51=>184 | 146=>195 | 53=>186 | 148=>197 | 70=>149 | 37=>150 | 75=>155 | 127=>199 | 164=>231 | 80=>158 | n=>n,λ| n=>n⟩
theorem Tryz.lays105:Go.Proofs.Lays.n105 Tryz.prog Tryz.lays105_ren:= {
 mixed:=by kernel_rfl
 f99:=Tryz.func87.trans (congrArg some (by kernel_rfl))
 f105:=Tryz.func59.trans (congrArg some (by kernel_rfl))
 f165:=Tryz.func88.trans (congrArg some (by kernel_rfl))
 f166:=Tryz.func89.trans (congrArg some (by kernel_rfl))
 f169:=Tryz.func91.trans (congrArg some (by kernel_rfl))
 f170:=Tryz.func90.trans (congrArg some (by kernel_rfl))
 f206:=Tryz.func122.trans (congrArg some (by kernel_rfl))
 f212:=Tryz.func86.trans (congrArg some (by kernel_rfl))
 f240:=Tryz.func123.trans (congrArg some (by kernel_rfl))
 f241:=Tryz.func124.trans (congrArg some (by kernel_rfl))
 f263:=Tryz.func120.trans (congrArg some (by kernel_rfl))
 f264:=Tryz.func121.trans (congrArg some (by kernel_rfl))
 f276:=Tryz.func155.trans (congrArg some (by kernel_rfl))
 f277:=Tryz.func156.trans (congrArg some (by kernel_rfl))
 t0:=Tryz.underlying0
 a0:=Tryz.isAgg0
 z0:=Tryz.sizeOf0
 v0:=Tryz.zeroValue0
 t3:=Tryz.underlying3
 a3:=Tryz.isAgg3
 z3:=Tryz.sizeOf3
 v3:=Tryz.zeroValue3
 t4:=Tryz.underlying4
 a4:=Tryz.isAgg4
 z4:=Tryz.sizeOf4
 v4:=Tryz.zeroValue4
 t5:=Tryz.underlying5
 a5:=Tryz.isAgg5
 z5:=Tryz.sizeOf5
 v5:=Tryz.zeroValue5
 t9:=Tryz.underlying9
 a9:=Tryz.isAgg9
 z9:=Tryz.sizeOf9
 v9:=Tryz.zeroValue9
 t20:=Tryz.underlying20
 a20:=Tryz.isAgg20
 z20:=Tryz.sizeOf20
 v20:=Tryz.zeroValue20
 t37:=Tryz.underlying150
 a37:=Tryz.isAgg150
 z37:=Tryz.sizeOf150
 v37:=Tryz.zeroValue150
 t46:=Tryz.underlying137
 a46:=Tryz.isAgg137
 z46:=Tryz.sizeOf137
 v46:=Tryz.zeroValue137
 t51:=Tryz.underlying184
 a51:=Tryz.isAgg184
 z51:=Tryz.sizeOf184
 v51:=Tryz.zeroValue184
 t53:=Tryz.underlying186
 a53:=Tryz.isAgg186
 z53:=Tryz.sizeOf186
 v53:=Tryz.zeroValue186
 t70:=Tryz.underlying149
 a70:=Tryz.isAgg149
 z70:=Tryz.sizeOf149
 v70:=Tryz.zeroValue149
 t72:=Tryz.underlying152
 a72:=Tryz.isAgg152
 z72:=Tryz.sizeOf152
 v72:=Tryz.zeroValue152
 t75:=Tryz.underlying155
 a75:=Tryz.isAgg155
 z75:=Tryz.sizeOf155
 v75:=Tryz.zeroValue155
 t76:=Tryz.underlying156
 a76:=Tryz.isAgg156
 z76:=Tryz.sizeOf156
 v76:=Tryz.zeroValue156
 t109:=Tryz.underlying146
 a109:=Tryz.isAgg146
 z109:=Tryz.sizeOf146
 v109:=Tryz.zeroValue146
 t127:=Tryz.underlying199
 a127:=Tryz.isAgg199
 z127:=Tryz.sizeOf199
 v127:=Tryz.zeroValue199
 t146:=Tryz.underlying195
 a146:=Tryz.isAgg195
 z146:=Tryz.sizeOf195
 v146:=Tryz.zeroValue195
 t148:=Tryz.underlying197
 a148:=Tryz.isAgg197
 z148:=Tryz.sizeOf197
 v148:=Tryz.zeroValue197
 t164:=Tryz.underlying231
 a164:=Tryz.isAgg231
 z164:=Tryz.sizeOf231
 v164:=Tryz.zeroValue231 }
end Go.Proofs
