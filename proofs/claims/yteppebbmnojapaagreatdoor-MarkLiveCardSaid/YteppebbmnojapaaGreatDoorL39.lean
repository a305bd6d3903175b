/- Part of this proof. -/
import Derived.Shelf.Slices.CompactI
import Derived.Test.YteppebbmnojapaaGreatDoorL17
import Derived.Test.YteppebbmnojapaaGreatDoorProg
set_option maxRecDepth 100000
set_option maxHeartbeats 8000000
namespace Go.Proofs
open Go.Shelf
def Tryz.lays20_ren:Go.Shelf.Ren:=⟨fun | 20=>91 | n=>n,fun | 22=>49 | 3=>3 | 4=>4 | 0=>0 | n=>n,fun | n=>n⟩
theorem Tryz.lays20:Go.Proofs.Lays2.n20 Tryz.prog Tryz.lays20_ren:= {
 mixed:=by kernel_rfl
 f20:=Tryz.func91.trans (congrArg some (by kernel_rfl))
 t0:=Tryz.underlying0
 a0:=Tryz.isAgg0
 z0:=Tryz.sizeOf0
 v0:=Tryz.zeroValue0
 t3:=Tryz.underlying3
 a3:=Tryz.isAgg3
 z3:=Tryz.sizeOf3
 v3:=Tryz.zeroValue3
 t4:=Tryz.underlying4
 a4:=Tryz.isAgg4
 z4:=Tryz.sizeOf4
 v4:=Tryz.zeroValue4
 t22:=Tryz.underlying49
 a22:=Tryz.isAgg49
 z22:=Tryz.sizeOf49
 v22:=Tryz.zeroValue49
 i3:=by kernel_rfl }
end Go.Proofs
