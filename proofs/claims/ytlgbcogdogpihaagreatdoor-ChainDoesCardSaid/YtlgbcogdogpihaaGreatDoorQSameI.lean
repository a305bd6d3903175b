/- The walk of rootstockref09.SameInts at two slices that read alike. -/
import Derived.BigQuiet
import Derived.Test.YtlgbcogdogpihaaGreatDoorQValues
namespace Go.Proofs.YtlgbcogdogpihaaGreatDoor
open Go.RowKit Go.Shelf
set_option maxRecDepth 100000 in
set_option maxHeartbeats 400000 in
theorem samei_yes (A B : Option Addr) (l : List Int) (c d : Nat) (w : World) (ha : LS intE w w.heap.size A l) (hb : LS intE w w.heap.size B l) (hl : l.length ≤ 1000000) :
    Calls Tryz.prog 14 #[.slice A l.length c, .slice B l.length d] w fun e w' => e = .returned (.bool true) ∧ Below w.heap.size w w' := by
  go_enter Tryz.func14, Tryz.ntmps14
  go_wp2
  go_loopw [5] (fun i wr => ∃ k : Nat, k ≤ l.length ∧ i = .int .i64 k ∧ Below w.heap.size w wr) (fun i _ => l.length - (intOf i).toNat)
  case atStart => exact ⟨0, by omega, rfl, Below.refl _ _⟩
  case round =>
    obtain ⟨k, hk, rfl, hbe⟩ := hrel
    by_cases hlt : k < l.length
    · obtain ⟨b1, o1, rfl, _, g0⟩ := (ha.below hbe).int hlt
      obtain ⟨b2, o2, rfl, _, g2⟩ := (hb.below hbe).int hlt
      go_wp2
      go_quiet (fail)
      go_wp2
      go_roundw
      case rel => exact ⟨k + 1, by omega, by go_num, below_drewN hbe _⟩
      case measure => simp [intOf]; omega
    · go_wp2
      go_ret
      exact ⟨rfl, hbe⟩
end Go.Proofs.YtlgbcogdogpihaaGreatDoor
