/- Part of this proof. -/
import Derived.Shelf.Spec.SlicesGrow
import Derived.Ground.Names8Prog
import Derived.Test.YtadnmegdbllaoaaGreatDoorProg
set_option maxRecDepth 100000
set_option maxHeartbeats 8000000
open Go.Proofs.Lays8 renaming n4->aj1
namespace Go.Proofs
open Go.Shelf
def Tryz.growRun_ren:Go.Shelf.Ren:=⟨λ| 4=>154 | n=>n,λ| 22=>100 | 25=>102 | 3=>3 | 4=>4 | 9=>9 | 20=>20 | 0=>0 | 2=>3 | n=>n,λ| n=>n⟩
theorem Tryz.growRun:aj1 Tryz.prog Tryz.growRun_ren:= {
 mixed:=by kernel_rfl
 f4:=⟨Tryz.f154.name,by decide,Tryz.func154.trans (congrArg some (by kernel_rfl))⟩
 t0:=Tryz.underlying0
 a0:=Tryz.isAgg0
 z0:=Tryz.sizeOf0
 v0:=Tryz.zeroValue0
 t3:=Tryz.underlying3
 a3:=Tryz.isAgg3
 z3:=Tryz.sizeOf3
 v3:=Tryz.zeroValue3
 t4:=Tryz.underlying4
 a4:=Tryz.isAgg4
 z4:=Tryz.sizeOf4
 v4:=Tryz.zeroValue4
 t9:=Tryz.underlying9
 a9:=Tryz.isAgg9
 z9:=Tryz.sizeOf9
 v9:=Tryz.zeroValue9
 t20:=Tryz.underlying20
 a20:=Tryz.isAgg20
 z20:=Tryz.sizeOf20
 v20:=Tryz.zeroValue20
 t22:=Tryz.underlying100
 a22:=Tryz.isAgg100
 z22:=Tryz.sizeOf100
 v22:=Tryz.zeroValue100 }
end Go.Proofs
