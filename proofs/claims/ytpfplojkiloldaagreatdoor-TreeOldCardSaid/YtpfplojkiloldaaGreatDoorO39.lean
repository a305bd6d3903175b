/- Part of this proof. -/
import Derived.Test.YtpfplojkiloldaaGreatDoorO38
set_option maxRecDepth 100000
set_option maxHeartbeats 8000000
namespace Go.Proofs.YtpfplojkiloldaaGreatDoor
open Go.RowKit Go.Shelf
end Go.Proofs.YtpfplojkiloldaaGreatDoor
