/-
  DERIVED: THE SHELF's CONTRACTS AT THIS DUMP, IN PLAIN WORDS (tools/lay-plain.mjs out of 'YtknlcfiphkbbaaaRepLay.lean', which tools/lay-shelf.mjs wrote): THE SAME DECLARATIONS UNDER THE SAME NAMES: 'import', 'namespace', 'open', 'def', 'theorem' AND NOTHING ELSE: no command of the shelf's: FOR A HAND-IN. Each laying: the table of numbers ('.._ren') and one theorem, a field a fact of the dump's own or the kernel's comparison; each contract: ONE APPLICATION.
-/
import Derived.Shelf.Strings.Builder1
import Derived.Shelf.Strings.Builder2
import Derived.Shelf.Strings.BuilderF
import Derived.Shelf.Strings.BuilderK
import Derived.Shelf.Strings.Builder2Cap
import Derived.Shelf.Strings.Prefix
import Derived.Shelf.Bits.Mul64
import Derived.Shelf.Strings.Repeat
import Derived.Test.YtknlcfiphkbbaaaProg
namespace Go.Proofs
open Go.Shelf
def Try.lays212_ren : Go.Shelf.Ren := ⟨fun | 212 => 59 | 263 => 75 | 264 => 76 | n => n, fun | 46 => 108 | 51 => 128 | 146 => 129 | 53 => 131 | 148 => 132 | n => n, fun | n => n⟩
theorem Try.lays212 : Go.Proofs.Lays.n212 Try.prog Try.lays212_ren := {
  mixed := by kernel_rfl
  f212 := Try.func59.trans (congrArg some (by kernel_rfl))
  f263 := Try.func75.trans (congrArg some (by kernel_rfl))
  f264 := Try.func76.trans (congrArg some (by kernel_rfl))
  t46 := Try.underlying108
  a46 := Try.isAgg108
  z46 := Try.sizeOf108
  v46 := Try.zeroValue108
  t51 := Try.underlying128
  a51 := Try.isAgg128
  z51 := Try.sizeOf128
  v51 := Try.zeroValue128
  t53 := Try.underlying131
  a53 := Try.isAgg131
  z53 := Try.sizeOf131
  v53 := Try.zeroValue131
  t146 := Try.underlying129
  a146 := Try.isAgg129
  z146 := Try.sizeOf129
  v146 := Try.zeroValue129
  t148 := Try.underlying132
  a148 := Try.isAgg132
  z148 := Try.sizeOf132
  v148 := Try.zeroValue132 }
def Try.lays105_ren : Go.Shelf.Ren := ⟨fun | 105 => 39 | 212 => 59 | 99 => 60 | 165 => 61 | 166 => 62 | 170 => 63 | 169 => 64 | 263 => 75 | 264 => 76 | 206 => 77 | 240 => 78 | 241 => 79 | 276 => 92 | 277 => 93 | n => n, fun | 9 => 9 | 3 => 3 | 4 => 4 | 20 => 20 | 0 => 0 | 46 => 108 | 109 => 110 | 5 => 5 | 72 => 115 | 76 => 118 | 51 => 128 | 146 => 129 | 53 => 131 | 148 => 132 | 70 => 113 | 37 => 103 | 75 => 117 | 127 => 134 | 164 => 146 | 80 => 120 | n => n, fun | n => n⟩
theorem Try.lays105 : Go.Proofs.Lays.n105 Try.prog Try.lays105_ren := {
  mixed := by kernel_rfl
  f99 := Try.func60.trans (congrArg some (by kernel_rfl))
  f105 := Try.func39.trans (congrArg some (by kernel_rfl))
  f165 := Try.func61.trans (congrArg some (by kernel_rfl))
  f166 := Try.func62.trans (congrArg some (by kernel_rfl))
  f169 := Try.func64.trans (congrArg some (by kernel_rfl))
  f170 := Try.func63.trans (congrArg some (by kernel_rfl))
  f206 := Try.func77.trans (congrArg some (by kernel_rfl))
  f212 := Try.func59.trans (congrArg some (by kernel_rfl))
  f240 := Try.func78.trans (congrArg some (by kernel_rfl))
  f241 := Try.func79.trans (congrArg some (by kernel_rfl))
  f263 := Try.func75.trans (congrArg some (by kernel_rfl))
  f264 := Try.func76.trans (congrArg some (by kernel_rfl))
  f276 := Try.func92.trans (congrArg some (by kernel_rfl))
  f277 := Try.func93.trans (congrArg some (by kernel_rfl))
  t0 := Try.underlying0
  a0 := Try.isAgg0
  z0 := Try.sizeOf0
  v0 := Try.zeroValue0
  t3 := Try.underlying3
  a3 := Try.isAgg3
  z3 := Try.sizeOf3
  v3 := Try.zeroValue3
  t4 := Try.underlying4
  a4 := Try.isAgg4
  z4 := Try.sizeOf4
  v4 := Try.zeroValue4
  t5 := Try.underlying5
  a5 := Try.isAgg5
  z5 := Try.sizeOf5
  v5 := Try.zeroValue5
  t9 := Try.underlying9
  a9 := Try.isAgg9
  z9 := Try.sizeOf9
  v9 := Try.zeroValue9
  t20 := Try.underlying20
  a20 := Try.isAgg20
  z20 := Try.sizeOf20
  v20 := Try.zeroValue20
  t37 := Try.underlying103
  a37 := Try.isAgg103
  z37 := Try.sizeOf103
  v37 := Try.zeroValue103
  t46 := Try.underlying108
  a46 := Try.isAgg108
  z46 := Try.sizeOf108
  v46 := Try.zeroValue108
  t51 := Try.underlying128
  a51 := Try.isAgg128
  z51 := Try.sizeOf128
  v51 := Try.zeroValue128
  t53 := Try.underlying131
  a53 := Try.isAgg131
  z53 := Try.sizeOf131
  v53 := Try.zeroValue131
  t70 := Try.underlying113
  a70 := Try.isAgg113
  z70 := Try.sizeOf113
  v70 := Try.zeroValue113
  t72 := Try.underlying115
  a72 := Try.isAgg115
  z72 := Try.sizeOf115
  v72 := Try.zeroValue115
  t75 := Try.underlying117
  a75 := Try.isAgg117
  z75 := Try.sizeOf117
  v75 := Try.zeroValue117
  t76 := Try.underlying118
  a76 := Try.isAgg118
  z76 := Try.sizeOf118
  v76 := Try.zeroValue118
  t109 := Try.underlying110
  a109 := Try.isAgg110
  z109 := Try.sizeOf110
  v109 := Try.zeroValue110
  t127 := Try.underlying134
  a127 := Try.isAgg134
  z127 := Try.sizeOf134
  v127 := Try.zeroValue134
  t146 := Try.underlying129
  a146 := Try.isAgg129
  z146 := Try.sizeOf129
  v146 := Try.zeroValue129
  t148 := Try.underlying132
  a148 := Try.isAgg132
  z148 := Try.sizeOf132
  v148 := Try.zeroValue132
  t164 := Try.underlying146
  a164 := Try.isAgg146
  z164 := Try.sizeOf146
  v164 := Try.zeroValue146 }
end Go.Proofs
