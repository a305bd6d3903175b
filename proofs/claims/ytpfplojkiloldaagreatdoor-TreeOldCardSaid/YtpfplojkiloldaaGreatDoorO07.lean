/- Part of this proof. -/
import Derived.Shelf.Strings.Builder1
import Derived.Shelf.Strings.Builder2
import Derived.Shelf.Strings.BuilderF
import Derived.Shelf.Strings.BuilderK
import Derived.Shelf.Strings.Builder2Cap
import Derived.Shelf.Strings.Prefix
import Derived.Shelf.Bits.Mul64
import Derived.Shelf.Strings.Repeat
import Derived.Test.YtpfplojkiloldaaGreatDoorProg
set_option maxRecDepth 100000
set_option maxHeartbeats 8000000
namespace Go.Proofs
open Go.Shelf
def Tryz.lays212_ren : Go.Shelf.Ren := ⟨fun | 212 => 85 | 263 => 130 | 264 => 131 | n => n, fun | 46 => 152 | 51 => 192 | 146 => 193 | 53 => 195 | 148 => 196 | n => n, fun | n => n⟩
theorem Tryz.lays212 : Go.Proofs.Lays.n212 Tryz.prog Tryz.lays212_ren := {
 mixed := by kernel_rfl
 f212 := Tryz.func85.trans (congrArg some (by kernel_rfl))
 f263 := Tryz.func130.trans (congrArg some (by kernel_rfl))
 f264 := Tryz.func131.trans (congrArg some (by kernel_rfl))
 t46 := Tryz.underlying152
 a46 := Tryz.isAgg152
 z46 := Tryz.sizeOf152
 v46 := Tryz.zeroValue152
 t51 := Tryz.underlying192
 a51 := Tryz.isAgg192
 z51 := Tryz.sizeOf192
 v51 := Tryz.zeroValue192
 t53 := Tryz.underlying195
 a53 := Tryz.isAgg195
 z53 := Tryz.sizeOf195
 v53 := Tryz.zeroValue195
 t146 := Tryz.underlying193
 a146 := Tryz.isAgg193
 z146 := Tryz.sizeOf193
 v146 := Tryz.zeroValue193
 t148 := Tryz.underlying196
 a148 := Tryz.isAgg196
 z148 := Tryz.sizeOf196
 v148 := Tryz.zeroValue196 }
def Tryz.lays105_ren : Go.Shelf.Ren := ⟨fun | 105 => 54 | 212 => 85 | 99 => 86 | 165 => 87 | 166 => 88 | 170 => 89 | 169 => 90 | 263 => 130 | 264 => 131 | 206 => 132 | 240 => 133 | 241 => 134 | 276 => 162 | 277 => 163 | n => n, fun | 9 => 9 | 3 => 3 | 4 => 4 | 20 => 20 | 0 => 0 | 46 => 152 | 109 => 153 | 5 => 5 | 72 => 158 | 76 => 162 | 51 => 192 | 146 => 193 | 53 => 195 | 148 => 196 | 70 => 155 | 37 => 156 | 75 => 161 | 127 => 198 | 164 => 226 | 80 => 164 | n => n, fun | n => n⟩
theorem Tryz.lays105 : Go.Proofs.Lays.n105 Tryz.prog Tryz.lays105_ren := {
 mixed := by kernel_rfl
 f99 := Tryz.func86.trans (congrArg some (by kernel_rfl))
 f105 := Tryz.func54.trans (congrArg some (by kernel_rfl))
 f165 := Tryz.func87.trans (congrArg some (by kernel_rfl))
 f166 := Tryz.func88.trans (congrArg some (by kernel_rfl))
 f169 := Tryz.func90.trans (congrArg some (by kernel_rfl))
 f170 := Tryz.func89.trans (congrArg some (by kernel_rfl))
 f206 := Tryz.func132.trans (congrArg some (by kernel_rfl))
 f212 := Tryz.func85.trans (congrArg some (by kernel_rfl))
 f240 := Tryz.func133.trans (congrArg some (by kernel_rfl))
 f241 := Tryz.func134.trans (congrArg some (by kernel_rfl))
 f263 := Tryz.func130.trans (congrArg some (by kernel_rfl))
 f264 := Tryz.func131.trans (congrArg some (by kernel_rfl))
 f276 := Tryz.func162.trans (congrArg some (by kernel_rfl))
 f277 := Tryz.func163.trans (congrArg some (by kernel_rfl))
 t0 := Tryz.underlying0
 a0 := Tryz.isAgg0
 z0 := Tryz.sizeOf0
 v0 := Tryz.zeroValue0
 t3 := Tryz.underlying3
 a3 := Tryz.isAgg3
 z3 := Tryz.sizeOf3
 v3 := Tryz.zeroValue3
 t4 := Tryz.underlying4
 a4 := Tryz.isAgg4
 z4 := Tryz.sizeOf4
 v4 := Tryz.zeroValue4
 t5 := Tryz.underlying5
 a5 := Tryz.isAgg5
 z5 := Tryz.sizeOf5
 v5 := Tryz.zeroValue5
 t9 := Tryz.underlying9
 a9 := Tryz.isAgg9
 z9 := Tryz.sizeOf9
 v9 := Tryz.zeroValue9
 t20 := Tryz.underlying20
 a20 := Tryz.isAgg20
 z20 := Tryz.sizeOf20
 v20 := Tryz.zeroValue20
 t37 := Tryz.underlying156
 a37 := Tryz.isAgg156
 z37 := Tryz.sizeOf156
 v37 := Tryz.zeroValue156
 t46 := Tryz.underlying152
 a46 := Tryz.isAgg152
 z46 := Tryz.sizeOf152
 v46 := Tryz.zeroValue152
 t51 := Tryz.underlying192
 a51 := Tryz.isAgg192
 z51 := Tryz.sizeOf192
 v51 := Tryz.zeroValue192
 t53 := Tryz.underlying195
 a53 := Tryz.isAgg195
 z53 := Tryz.sizeOf195
 v53 := Tryz.zeroValue195
 t70 := Tryz.underlying155
 a70 := Tryz.isAgg155
 z70 := Tryz.sizeOf155
 v70 := Tryz.zeroValue155
 t72 := Tryz.underlying158
 a72 := Tryz.isAgg158
 z72 := Tryz.sizeOf158
 v72 := Tryz.zeroValue158
 t75 := Tryz.underlying161
 a75 := Tryz.isAgg161
 z75 := Tryz.sizeOf161
 v75 := Tryz.zeroValue161
 t76 := Tryz.underlying162
 a76 := Tryz.isAgg162
 z76 := Tryz.sizeOf162
 v76 := Tryz.zeroValue162
 t109 := Tryz.underlying153
 a109 := Tryz.isAgg153
 z109 := Tryz.sizeOf153
 v109 := Tryz.zeroValue153
 t127 := Tryz.underlying198
 a127 := Tryz.isAgg198
 z127 := Tryz.sizeOf198
 v127 := Tryz.zeroValue198
 t146 := Tryz.underlying193
 a146 := Tryz.isAgg193
 z146 := Tryz.sizeOf193
 v146 := Tryz.zeroValue193
 t148 := Tryz.underlying196
 a148 := Tryz.isAgg196
 z148 := Tryz.sizeOf196
 v148 := Tryz.zeroValue196
 t164 := Tryz.underlying226
 a164 := Tryz.isAgg226
 z164 := Tryz.sizeOf226
 v164 := Tryz.zeroValue226 }
end Go.Proofs
