/- Part of this proof. -/
import Derived.Shelf.Strings.Builder1
import Derived.Shelf.Strings.Builder2
import Derived.Shelf.Strings.BuilderF
import Derived.Shelf.Strings.BuilderK
import Derived.Shelf.Strings.Builder2Cap
import Derived.Shelf.Strings.OnBuilder
import Derived.Shelf.Strings.Trim
import Derived.Test.YtpfplojkiloldaaGreatDoorProg
set_option maxRecDepth 100000
set_option maxHeartbeats 8000000
namespace Go.Proofs
open Go.Shelf
def Tryz.lays156_ren : Go.Shelf.Ren := ⟨fun | 156 => 137 | 165 => 87 | 166 => 88 | 169 => 90 | 240 => 133 | 241 => 134 | 276 => 162 | 277 => 163 | n => n, fun | 31 => 56 | 9 => 9 | 3 => 3 | 4 => 4 | 0 => 0 | 20 => 20 | 72 => 158 | 76 => 162 | 70 => 155 | 37 => 156 | 75 => 161 | 127 => 198 | 164 => 226 | 5 => 5 | 80 => 164 | n => n, fun | n => n⟩
theorem Tryz.lays156 : Go.Proofs.Lays.n156 Tryz.prog Tryz.lays156_ren := {
 mixed := by kernel_rfl
 f156 := Tryz.func137.trans (congrArg some (by kernel_rfl))
 f165 := Tryz.func87.trans (congrArg some (by kernel_rfl))
 f166 := Tryz.func88.trans (congrArg some (by kernel_rfl))
 f169 := Tryz.func90.trans (congrArg some (by kernel_rfl))
 f240 := Tryz.func133.trans (congrArg some (by kernel_rfl))
 f241 := Tryz.func134.trans (congrArg some (by kernel_rfl))
 f276 := Tryz.func162.trans (congrArg some (by kernel_rfl))
 f277 := Tryz.func163.trans (congrArg some (by kernel_rfl))
 t0 := Tryz.underlying0
 a0 := Tryz.isAgg0
 z0 := Tryz.sizeOf0
 v0 := Tryz.zeroValue0
 t3 := Tryz.underlying3
 a3 := Tryz.isAgg3
 z3 := Tryz.sizeOf3
 v3 := Tryz.zeroValue3
 t4 := Tryz.underlying4
 a4 := Tryz.isAgg4
 z4 := Tryz.sizeOf4
 v4 := Tryz.zeroValue4
 t9 := Tryz.underlying9
 a9 := Tryz.isAgg9
 z9 := Tryz.sizeOf9
 v9 := Tryz.zeroValue9
 t20 := Tryz.underlying20
 a20 := Tryz.isAgg20
 z20 := Tryz.sizeOf20
 v20 := Tryz.zeroValue20
 t31 := Tryz.underlying56
 a31 := Tryz.isAgg56
 z31 := Tryz.sizeOf56
 v31 := Tryz.zeroValue56
 t37 := Tryz.underlying156
 a37 := Tryz.isAgg156
 z37 := Tryz.sizeOf156
 v37 := Tryz.zeroValue156
 t70 := Tryz.underlying155
 a70 := Tryz.isAgg155
 z70 := Tryz.sizeOf155
 v70 := Tryz.zeroValue155
 t72 := Tryz.underlying158
 a72 := Tryz.isAgg158
 z72 := Tryz.sizeOf158
 v72 := Tryz.zeroValue158
 t75 := Tryz.underlying161
 a75 := Tryz.isAgg161
 z75 := Tryz.sizeOf161
 v75 := Tryz.zeroValue161
 t76 := Tryz.underlying162
 a76 := Tryz.isAgg162
 z76 := Tryz.sizeOf162
 v76 := Tryz.zeroValue162
 t127 := Tryz.underlying198
 a127 := Tryz.isAgg198
 z127 := Tryz.sizeOf198
 v127 := Tryz.zeroValue198
 t164 := Tryz.underlying226
 a164 := Tryz.isAgg226
 z164 := Tryz.sizeOf226
 v164 := Tryz.zeroValue226 }
def Tryz.lays160_ren : Go.Shelf.Ren := ⟨fun | 160 => 186 | 232 => 199 | 231 => 198 | 227 => 200 | 234 => 202 | 233 => 201 | 236 => 204 | 235 => 203 | 228 => 215 | 271 => 218 | 151 => 217 | 197 => 216 | 120 => 224 | 152 => 223 | 260 => 222 | 137 => 226 | 119 => 227 | 224 => 228 | 225 => 229 | 217 => 230 | 266 => 231 | n => n, fun | 9 => 9 | 4 => 4 | 3 => 3 | 5 => 5 | 117 => 262 | 116 => 261 | 0 => 0 | 124 => 265 | 21 => 21 | 105 => 275 | 46 => 152 | 119 => 282 | 139 => 285 | 138 => 284 | n => n, fun | 3 => 2 | 4 => 3 | n => n⟩
theorem Tryz.lays160 : Go.Proofs.Lays.n160 Tryz.prog Tryz.lays160_ren := {
 mixed := by kernel_rfl
 f119 := Tryz.func227.trans (congrArg some (by kernel_rfl))
 f120 := Tryz.func224.trans (congrArg some (by kernel_rfl))
 f137 := Tryz.func226.trans (congrArg some (by kernel_rfl))
 f151 := Tryz.func217.trans (congrArg some (by kernel_rfl))
 f152 := Tryz.func223.trans (congrArg some (by kernel_rfl))
 f160 := Tryz.func186.trans (congrArg some (by kernel_rfl))
 f197 := Tryz.func216.trans (congrArg some (by kernel_rfl))
 f217 := Tryz.func230.trans (congrArg some (by kernel_rfl))
 f224 := Tryz.func228.trans (congrArg some (by kernel_rfl))
 f225 := Tryz.func229.trans (congrArg some (by kernel_rfl))
 f227 := Tryz.func200.trans (congrArg some (by kernel_rfl))
 f228 := Tryz.func215.trans (congrArg some (by kernel_rfl))
 f231 := Tryz.func198.trans (congrArg some (by kernel_rfl))
 f232 := Tryz.func199.trans (congrArg some (by kernel_rfl))
 f233 := Tryz.func201.trans (congrArg some (by kernel_rfl))
 f234 := Tryz.func202.trans (congrArg some (by kernel_rfl))
 f235 := Tryz.func203.trans (congrArg some (by kernel_rfl))
 f236 := Tryz.func204.trans (congrArg some (by kernel_rfl))
 f260 := Tryz.func222.trans (congrArg some (by kernel_rfl))
 f266 := Tryz.func231.trans (congrArg some (by kernel_rfl))
 f271 := Tryz.func218.trans (congrArg some (by kernel_rfl))
 t0 := Tryz.underlying0
 a0 := Tryz.isAgg0
 z0 := Tryz.sizeOf0
 v0 := Tryz.zeroValue0
 t3 := Tryz.underlying3
 a3 := Tryz.isAgg3
 z3 := Tryz.sizeOf3
 v3 := Tryz.zeroValue3
 t4 := Tryz.underlying4
 a4 := Tryz.isAgg4
 z4 := Tryz.sizeOf4
 v4 := Tryz.zeroValue4
 t5 := Tryz.underlying5
 a5 := Tryz.isAgg5
 z5 := Tryz.sizeOf5
 v5 := Tryz.zeroValue5
 t9 := Tryz.underlying9
 a9 := Tryz.isAgg9
 z9 := Tryz.sizeOf9
 v9 := Tryz.zeroValue9
 t21 := Tryz.underlying21
 a21 := Tryz.isAgg21
 z21 := Tryz.sizeOf21
 v21 := Tryz.zeroValue21
 t46 := Tryz.underlying152
 a46 := Tryz.isAgg152
 z46 := Tryz.sizeOf152
 v46 := Tryz.zeroValue152
 t105 := Tryz.underlying275
 a105 := Tryz.isAgg275
 z105 := Tryz.sizeOf275
 v105 := Tryz.zeroValue275
 t116 := Tryz.underlying261
 a116 := Tryz.isAgg261
 z116 := Tryz.sizeOf261
 t117 := Tryz.underlying262
 a117 := Tryz.isAgg262
 z117 := Tryz.sizeOf262
 v117 := Tryz.zeroValue262
 t119 := Tryz.underlying282
 a119 := Tryz.isAgg282
 z119 := Tryz.sizeOf282
 t124 := Tryz.underlying265
 a124 := Tryz.isAgg265
 z124 := Tryz.sizeOf265
 v124 := Tryz.zeroValue265
 t138 := Tryz.underlying284
 a138 := Tryz.isAgg284
 z138 := Tryz.sizeOf284
 v138 := Tryz.zeroValue284
 t139 := Tryz.underlying285
 a139 := Tryz.isAgg285
 z139 := Tryz.sizeOf285
 v139 := Tryz.zeroValue285
 g3 := by kernel_rfl
 g4 := by kernel_rfl }
end Go.Proofs
