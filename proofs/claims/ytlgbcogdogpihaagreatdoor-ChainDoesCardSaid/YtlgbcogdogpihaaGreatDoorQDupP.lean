/- Plain: a row sorted and compacted is shorter where something stood twice. -/
import Derived.Lib.SlicesCompact
namespace Dp
open Go
theorem compact_len (l : List Int) : (Lib.compact l).length = l.length ↔ ∀ j, j < l.length → Lib.keeps l.toArray j = true := by
  unfold Lib.compact Lib.compactUpTo
  rw [List.length_map]
  constructor
  · intro h j hj
    have h2 : (List.filter (Lib.keeps l.toArray) (List.range l.length)).length = (List.range l.length).length := by rw [h, List.length_range]
    exact List.length_filter_eq_length_iff.1 h2 j (List.mem_range.2 hj)
  · intro h
    have h2 : (List.filter (Lib.keeps l.toArray) (List.range l.length)).length = (List.range l.length).length := List.length_filter_eq_length_iff.2 fun j hj => h j (List.mem_range.1 hj)
    rw [h2, List.length_range]
theorem keeps_iff (l : List Int) (j : Nat) (hj : j + 1 < l.length) : Lib.keeps l.toArray (j + 1) = true ↔ l[j + 1] ≠ l[j] := by
  unfold Lib.keeps
  simp only [Nat.add_sub_cancel]
  rw [getElem!_pos l.toArray (j + 1) (by simpa using hj), getElem!_pos l.toArray j (by simp; omega)]
  simp
theorem all_keeps {l : List Int} (hs : l.Pairwise (· ≤ ·)) : (∀ j, j < l.length → Lib.keeps l.toArray j = true) ↔ l.Nodup := by
  rw [List.pairwise_iff_getElem] at hs
  constructor
  · intro h
    unfold List.Nodup
    rw [List.pairwise_iff_getElem]
    intro i j hi hj hij
    obtain ⟨q, rfl⟩ : ∃ q, j = q + 1 := ⟨j - 1, by omega⟩
    have h1 := (keeps_iff l q hj).1 (h (q + 1) hj)
    have h2 := hs q (q + 1) (by omega) hj (by omega)
    have h3 : l[i] ≤ l[q]'(by omega) := by
      by_cases e : i = q
      · subst e; exact Int.le_refl _
      · exact hs i q hi (by omega) (by omega)
    omega
  · intro h j hj
    cases j with
    | zero => exact Lib.keeps_lt_one _ 0 (by omega)
    | succ j =>
      rw [keeps_iff l j hj]
      unfold List.Nodup at h
      rw [List.pairwise_iff_getElem] at h
      exact (h j (j + 1) (by omega) hj (by omega)).symm
theorem sorted_short (zs : List Int) : (Lib.compact (zs.mergeSort fun x y => decide (x ≤ y))).length < zs.length ↔ ¬ zs.Nodup := by
  have hp : (zs.mergeSort fun x y => decide (x ≤ y)).Perm zs := List.mergeSort_perm _ _
  have hs : (zs.mergeSort fun x y => decide (x ≤ y)).Pairwise (· ≤ ·) := by
    have h := List.pairwise_mergeSort (le := fun x y : Int => decide (x ≤ y)) (fun a b c h1 h2 => by simp at *; omega) (fun a b => by simp; omega) zs
    exact h.imp (by simp)
  have h1 := compact_len (zs.mergeSort fun x y => decide (x ≤ y))
  have hle : (Lib.compact (zs.mergeSort fun x y => decide (x ≤ y))).length ≤ (zs.mergeSort fun x y => decide (x ≤ y)).length := by
    unfold Lib.compact Lib.compactUpTo
    rw [List.length_map]
    exact Nat.le_trans (List.length_filter_le _ _) (by rw [List.length_range]; exact Nat.le_refl _)
  rw [all_keeps hs, hp.nodup_iff, hp.length_eq] at h1
  rw [hp.length_eq] at hle
  constructor
  · intro h hn
    have := h1.2 hn
    omega
  · intro h
    have : (Lib.compact (zs.mergeSort fun x y => decide (x ≤ y))).length ≠ zs.length := fun e => h (h1.1 e)
    omega
end Dp
