/- The walk of rootstocklaw13.TreeScans, where all is looked at. -/
import Derived.Test.YtpfplojkiloldaaGreatDoorP45
set_option maxRecDepth 100000
namespace Go.Proofs.YtpfplojkiloldaaGreatDoor
open Go.RowKit Go.Shelf
theorem overT_no {l : List TAct} (h : overT l = false) : l.length <= 200 := by
  unfold overT at h
  rw [Bool.or_eq_false_iff, decide_eq_false_iff_not] at h
  omega
end Go.Proofs.YtpfplojkiloldaaGreatDoor
