/- A slice of strings that came in, opened to a list. -/
import Derived.SliceStrings
import Derived.Test.YtlgbcogdogpihaaGreatDoorQOpenRuns
import Derived.Test.YtlgbcogdogpihaaGreatDoorQGg
namespace Go.Proofs.YtlgbcogdogpihaaGreatDoor
open Go.RowKit Go.ChangeShapes Go.WideShapes
theorem strs_cells (l : List Bs) : strE.cells l = l.map str := by
  induction l with
  | nil => rfl
  | cons a l ih => rw [strE.cells_cons, ih]; rfl
theorem open_strs_in {H : Type} {enc : TypeId × Value → H} {W : World} {A : Option Addr} {len cap : Nat} {d : DataW H} {p : List MemPlace} (h : DataW.Trod enc Tryz.prog W 0 (fun _ => true) true 56 (.slice A len cap) d p) :
    ∃ l : List Bs, l.length = len ∧ LS strE W W.heap.size A l := by
  obtain ⟨fuel, hf⟩ := h
  rcases open_strings Tryz.underlying56 Tryz.underlying9 (by kernel_rfl) hf with ⟨hcs, _⟩ | ⟨a, len', cap', ss, hcs, _, hl, hm, hlen, hx, hi, hw⟩
  · simp [Value.cells] at hcs
    obtain ⟨rfl, rfl, rfl⟩ := hcs
    exact ⟨[], rfl, ⟨by rw [strs_cells]; simp, fun h => absurd h (by simp)⟩⟩
  · simp [Value.cells] at hcs
    obtain ⟨rfl, rfl, rfl⟩ := hcs
    simp only [if_true] at hlen
    refine ⟨(ss.take len).map fun s => s.data.toList, by simp; omega, ?_⟩
    unfold LS
    rw [strs_cells]
    refine ⟨by simp [strE], fun hpos => ⟨a, rfl, ?_, ?_⟩⟩
    · have hb := World.block_lt_of_cell? W _ (hi 0 (by simp at hpos; omega))
      rwa [block_of_add] at hb
    · intro j u hu
      have hj : j < (ss.take len).length := by
        have := (List.getElem?_eq_some_iff.1 hu).1
        simpa using this
      rw [List.map_map, List.getElem?_map, List.getElem?_eq_getElem hj] at hu
      simp only [Option.map_some, Option.some.injEq] at hu
      subst hu
      have hj2 : j < ss.length := by simp at hj; omega
      rw [hi j hj2]
      simp [str, List.getElem_take, List.getElem?_eq_getElem hj2]
end Go.Proofs.YtlgbcogdogpihaaGreatDoor
