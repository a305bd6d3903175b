/- The walks of chain.Pages and rootstockref09.Pages. -/
import Derived.Test.YtpfplojkiloldaaGreatDoorQ16
namespace Go.Proofs.YtpfplojkiloldaaGreatDoor
open Go.RowKit
theorem norm_len (l : List Run) : (Rp.norm l).length ≤ l.length := by
  have h := (nAt_ok l l.length).2
  unfold nAt at h
  rwa [List.take_of_length_le (Nat.le_refl _)] at h
/-- how many pages a set needs -/
def pg (l : List Run) : Int := ((((Rp.norm l).length + 28) / 29 : Nat) : Int)
/-- how a count of pages ends -/
def PagesEnd (l : List Run) (w : World) (e : Ending) (w' : World) : Prop := e = .returned (.int .i64 (pg l)) ∧ Below w.heap.size w w'
end Go.Proofs.YtpfplojkiloldaaGreatDoor
