/- Part of this proof. -/
import Derived.Test.YtjoiajmbfbjnnaaGreatDoorH33
set_option maxRecDepth 100000
set_option maxHeartbeats 8000000
namespace Go.Proofs.YtjoiajmbfbjnnaaGreatDoor
open Go.RowKit Go.Shelf
end Go.Proofs.YtjoiajmbfbjnnaaGreatDoor
