/- The walk of disk.Pending. -/
import Derived.Test.YtlgbcogdogpihaaGreatDoorQPeek
namespace Go.Proofs.YtlgbcogdogpihaaGreatDoor
open Go.RowKit Go.Shelf
set_option maxRecDepth 100000 in
theorem pending_any {w : World} {B d k : Nat} {D : Dk} (h : DkAt w B d k D) :
    Calls Tryz.prog 33 #[.pointer (some ⟨d, 0, none⟩)] w fun e w' => e = .returned (.int .i64 D.pend.length) ∧ w' = w := by
  obtain ⟨s, m, pv, Dm, h⟩ := h
  obtain ⟨A, c, rfl⟩ := h.pend.form
  have h2 := h.self.cell 2
  simp only [dkCells] at h2
  have hc : w.cell? ⟨d, 2, none⟩ = some (.slice A D.pend.length c) := h2
  have hlt := h.self.lt
  generalize D.pend.length = n at *
  clear h h2
  go_enter Tryz.func33, Tryz.ntmps33
  go_wp2
  go_ret
  exact ⟨rfl, rfl⟩
end Go.Proofs.YtlgbcogdogpihaaGreatDoor
