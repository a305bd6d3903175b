/- The walk of rootstocklaw09.ChainOver: it returns true at every input. -/
import Derived.Test.YtlgbcogdogpihaaGreatDoorQGn
import Derived.Test.YtlgbcogdogpihaaGreatDoorQSameI
import Derived.Test.YtlgbcogdogpihaaGreatDoorQWorks9
namespace Go.Proofs.YtlgbcogdogpihaaGreatDoor
open Go.RowKit Go.Shelf
def evens (a : Int) (k : Nat) : List Int := (List.range k).map (fun i : Nat => a + 2 * (i : Int))
theorem evens_succ (a : Int) (k : Nat) : evens a (k + 1) = evens a k ++ [a + 2 * (k : Int)] := by simp [evens, List.range_succ]
theorem evens_len (a : Int) (k : Nat) : (evens a k).length = k := by simp [evens]
theorem evens_mem {a x : Int} {k : Nat} (h : x ∈ evens a k) : ∃ i : Nat, i < k ∧ x = a + 2 * (i : Int) := by
  obtain ⟨i, hi, rfl⟩ := List.mem_map.1 h
  exact ⟨i, List.mem_range.1 hi, rfl⟩
theorem evens_nodup (a : Int) (k : Nat) : (evens a k).Nodup := by
  unfold evens List.Nodup
  rw [List.pairwise_map]
  exact List.Pairwise.imp (fun h => by omega) List.pairwise_lt_range
theorem evens_page {a x : Int} {k : Nat} (ha : 2 ≤ a) (hk : a + 2 * (k : Int) ≤ 41) (h : x ∈ evens a k) : noPage 40 x = false := by
  obtain ⟨i, hi, rfl⟩ := evens_mem h
  unfold noPage
  simp
  omega
theorem diskN40 : diskN 40 = 40 := by decide
set_option maxRecDepth 100000 in
set_option maxHeartbeats 1000000 in
theorem over_big (A1 A2 : Option Addr) (n1 c1 n2 c2 : Nat) (n m : Int) (w : World) (h : 100 < n1 ∨ 100 < n2 ∨ n < 0 ∨ m < 0 ∨ 15 < n ∨ 15 < m) :
    Calls Tryz.prog 3 #[.slice A1 n1 c1, .slice A2 n2 c2, .int .i64 n, .int .i64 m] w (TrueEnd w) := by
  by_cases h1 : 100 < n1
  · clear h
    go_enter Tryz.func3, Tryz.ntmps3
    go_wp2_with (go_at_call 7; refine (works_any _).mono ?_; rintro e w1 ⟨rfl, b1⟩)
    go_ret
    exact ⟨rfl, b1⟩
  · by_cases h2 : 100 < n2
    · clear h
      go_enter Tryz.func3, Tryz.ntmps3
      go_wp2_with (go_at_call 7; refine (works_any _).mono ?_; rintro e w1 ⟨rfl, b1⟩)
      go_ret
      exact ⟨rfl, b1⟩
    · by_cases h3 : n < 0
      · clear h
        go_enter Tryz.func3, Tryz.ntmps3
        go_wp2_with (go_at_call 7; refine (works_any _).mono ?_; rintro e w1 ⟨rfl, b1⟩)
        go_ret
        exact ⟨rfl, b1⟩
      · by_cases h4 : m < 0
        · clear h
          go_enter Tryz.func3, Tryz.ntmps3
          go_wp2_with (go_at_call 7; refine (works_any _).mono ?_; rintro e w1 ⟨rfl, b1⟩)
          go_ret
          exact ⟨rfl, b1⟩
        · by_cases h5 : 15 < n
          · clear h
            go_enter Tryz.func3, Tryz.ntmps3
            go_wp2_with (go_at_call 7; refine (works_any _).mono ?_; rintro e w1 ⟨rfl, b1⟩)
            go_ret
            exact ⟨rfl, b1⟩
          · have h6 : 15 < m := by omega
            clear h
            go_enter Tryz.func3, Tryz.ntmps3
            go_wp2_with (go_at_call 7; refine (works_any _).mono ?_; rintro e w1 ⟨rfl, b1⟩)
            go_ret
            exact ⟨rfl, b1⟩
end Go.Proofs.YtlgbcogdogpihaaGreatDoor
