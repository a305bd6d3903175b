/- The walks of disk.Writes, disk.Pending. -/
import Derived.Test.YtlgbcogdogpihaaGreatDoorQGg
namespace Go.Proofs.YtlgbcogdogpihaaGreatDoor
open Go.RowKit Go.Shelf
theorem loadE : Extern.find Tryz.f102 = some (Extern.Atomic.loadT (.int .i64)) := rfl
set_option maxRecDepth 100000 in
theorem peek_any (d j : Nat) (x : Int) (w : World) (hc : w.cell? ⟨d, j, none⟩ = some (.int .i64 x)) :
    Calls Tryz.prog 58 #[.pointer (some ⟨d, j, none⟩)] w fun e w' => e = .returned (.int .i64 x) ∧ w' = w := by
  have hrun := run_call_load (P := Tryz.prog) (f := 102) Tryz.func102 (by kernel_rfl) (by kernel_rfl) (by kernel_rfl) .i64 loadE hc
  go_enter Tryz.func58, Tryz.ntmps58
  go_wp2
  go_ret
  exact ⟨rfl, rfl⟩
set_option maxRecDepth 100000 in
theorem writes_any {w : World} {B d k : Nat} {D : Dk} (h : DkAt w B d k D) :
    Calls Tryz.prog 23 #[.pointer (some ⟨d, 0, none⟩)] w fun e w' => e = .returned (.int .i64 D.writes) ∧ w' = w := by
  obtain ⟨s, m, pv, Dm, h⟩ := h
  have h6 := h.self.cell 6
  simp only [dkCells] at h6
  have hc : w.cell? ⟨d, 6, none⟩ = some (.int .i64 D.writes) := h6
  have hp := peek_any d 6 D.writes w hc
  have hlt := h.self.lt
  generalize D.writes = x at *
  clear h h6
  go_enter Tryz.func23, Tryz.ntmps23
  go_wp2_with fail
  refine Calls.mono hp ?_
  rintro e w1 ⟨rfl, rfl⟩
  go_wp2
  go_ret
  exact ⟨rfl, rfl⟩
end Go.Proofs.YtlgbcogdogpihaaGreatDoor
