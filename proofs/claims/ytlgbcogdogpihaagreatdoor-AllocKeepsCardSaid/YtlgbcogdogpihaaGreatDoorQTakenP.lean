/- What a change's Taken answers, said; closed facts for the document's example. -/
import Derived.Test.YtlgbcogdogpihaaGreatDoorQTxn3
namespace Go.Proofs.YtlgbcogdogpihaaGreatDoor
open Go.RowKit Go.Shelf
def TakenEnd (D : DataW Value) (w : World) (e : Ending) (w' : World) : Prop := ∃ A c, e = .returned (.slice A (Maps.size D) c) ∧ Below w.heap.size w w'
def TakenSaid : Prop := ∀ (t m f n k : Nat) (free : List Run) (pages : Int) (D : DataW Value) (w : World), k ≤ 1000000 → Txn w t m f n free pages k D →
    Calls Tryz.prog 63 #[.pointer (some ⟨t, 0, none⟩)] w (TakenEnd D w)
theorem has_putI {D : DataW Value} (h : Maps.IsMap D) (id x : Int) (v : DataW Value) : Maps.has (D.put (.int .i64 id) v) (.int .i64 x) = (decide (x = id) || Maps.has D (.int .i64 x)) := by
  by_cases e : x = id
  · subst e
    rw [Maps.has_put_same h (by trivial)]; simp
  · rw [Maps.has_put_other (by intro e2; injection e2 with _ e2; exact e e2)]; simp [e]
theorem has_delI (D : DataW Value) (id x : Int) : Maps.has (D.del (.int .i64 id)) (.int .i64 x) = (!decide (x = id) && Maps.has D (.int .i64 x)) := by
  by_cases e : x = id
  · subst e
    rw [Maps.has_del_same]; simp
  · rw [Maps.has_del_other (by intro e2; injection e2 with _ e2; exact e e2)]; simp [e]
theorem has_nilI (x : Int) : Maps.has (DataW.map [] : DataW Value) (.int .i64 x) = false := rfl
theorem ex_meet : Rp.meet [(3, 3)] [(2, pagesN 5 6 - 1)] = [(3, 3)] := by kernel_rfl
theorem ex_a1 : allocV [(3, 3)] 5 6 = some (3, [], 5) := by kernel_rfl
theorem ex_a2 : allocV [] 5 6 = some (5, [], 6) := by kernel_rfl
theorem ex_a3 : allocV [] 6 6 = none := by kernel_rfl
theorem ex_a4 : allocV [(3, 3)] 6 6 = some (3, [], 6) := by kernel_rfl
theorem ex_u : Rp.union [] [(3, 3)] = [(3, 3)] := by kernel_rfl
end Go.Proofs.YtlgbcogdogpihaaGreatDoor
