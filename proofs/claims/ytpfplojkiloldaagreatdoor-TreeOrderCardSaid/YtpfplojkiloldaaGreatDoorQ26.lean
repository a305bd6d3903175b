/- The walks of page.put, codec.Join, page.Seal. The walk of page.Seal. -/
import Derived.Shelf.Strings.OnBuilder
import Derived.Shelf.Strings.Trim
import Derived.Test.YtpfplojkiloldaaGreatDoorQ22
import Derived.Test.YtpfplojkiloldaaGreatDoorQ24
import Derived.Test.YtpfplojkiloldaaGreatDoorQ25
namespace Go.Proofs.YtpfplojkiloldaaGreatDoor
open Go.RowKit Go.Shelf
end Go.Proofs.YtpfplojkiloldaaGreatDoor
namespace Go.Proofs.YtpfplojkiloldaaGreatDoor
open Go.RowKit Go.Shelf
end Go.Proofs.YtpfplojkiloldaaGreatDoor
