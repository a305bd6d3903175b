/- Part of this proof. -/
import Derived.Test.YtjoiajmbfbjnnaaGreatDoorV01
set_option maxRecDepth 100000
set_option maxHeartbeats 8000000
namespace Go.Proofs.YtjoiajmbfbjnnaaGreatDoor
open Go.RowKit
theorem norm_len(l:List Run):(Rp.norm l).length<=l.length:=by
 have h:=(nAt_ok l l.length).2
 unfold nAt at h
 rwa [List.take_of_length_le (Nat.le_refl _)]at h
def pg(l:List Run):Int:=((((Rp.norm l).length+28) / 29:Nat):Int)
end Go.Proofs.YtjoiajmbfbjnnaaGreatDoor
