/- A disk within bounds on how much was asked of it. -/
import Derived.Test.YtlgbcogdogpihaaGreatDoorQGj
namespace Go.Proofs.YtlgbcogdogpihaaGreatDoor
open Go.RowKit Go.Shelf
/-- a disk at which no more than N reads and writes were asked -/
structure Lim (D : Dk) (N : Nat) : Prop where
  n : D.sure.length ≤ 16384
  writes : 0 ≤ D.writes ∧ D.writes ≤ N
  reads : 0 ≤ D.reads ∧ D.reads ≤ N
  left : -1 ≤ D.left ∧ D.left ≤ 9223372036854775807
  pend : D.pend.length ≤ N
theorem Lim.fine {D : Dk} {N : Nat} (h : Lim D N) (hN : N < 1000000) : Fine D :=
  ⟨h.n, ⟨h.writes.1, by have := h.writes.2; omega⟩, ⟨h.reads.1, by have := h.reads.2; omega⟩, h.left, by have := h.pend; omega⟩
theorem Lim.mono {D : Dk} {N M : Nat} (h : Lim D N) (hM : N ≤ M) : Lim D M :=
  ⟨h.n, ⟨h.writes.1, by have := h.writes.2; omega⟩, ⟨h.reads.1, by have := h.reads.2; omega⟩, h.left, by have := h.pend; omega⟩
theorem Lim.wrote {D : Dk} {N : Nat} (h : Lim D N) (i : Int) (t : Bs) : Lim (D.wrote i t) (N + 1) := by
  have h1 := h.writes
  have h2 := h.reads
  have h3 := h.left
  have h4 := h.pend
  have hp : (D.pend ++ [(i, t)]).length ≤ N + 1 := by rw [List.length_append]; simp; omega
  unfold Dk.wrote Dk.put
  split
  · exact ⟨h.n, ⟨by show 0 ≤ D.writes + 1; omega, by show D.writes + 1 ≤ _; omega⟩, ⟨h2.1, by show D.reads ≤ _; omega⟩, ⟨by show (-1 : Int) ≤ -1; omega, by show (-1 : Int) ≤ _; omega⟩, hp⟩
  · split
    · exact ⟨h.n, ⟨by show 0 ≤ D.writes + 1; omega, by show D.writes + 1 ≤ _; omega⟩, ⟨h2.1, by show D.reads ≤ _; omega⟩, ⟨by show -1 ≤ D.left - 1; omega, by show D.left - 1 ≤ _; omega⟩, hp⟩
    · exact ⟨h.n, ⟨by show 0 ≤ D.writes + 1; omega, by show D.writes + 1 ≤ _; omega⟩, ⟨h2.1, by show D.reads ≤ _; omega⟩, h3, hp⟩
theorem Lim.fput {D : Dk} {N : Nat} (h : Lim D N) (i : Int) (kind : Nat) (b : Bs) : Lim (D.fput i kind b) (N + 1) := by
  unfold Dk.fput
  split
  · exact h.mono (by omega)
  · split
    · exact h.mono (by omega)
    · split
      · exact h.mono (by omega)
      · exact h.wrote _ _
theorem Lim.readD {D : Dk} {N : Nat} (h : Lim D N) (i : Int) : Lim (D.readD i) (N + 1) := by
  have h2 := h.reads
  unfold Dk.readD
  split
  · exact h.mono (by omega)
  · split
    · exact h.mono (by omega)
    · exact ⟨h.n, ⟨h.writes.1, by have := h.writes.2; show D.writes ≤ _; omega⟩, ⟨by show 0 ≤ D.reads + 1; omega, by show D.reads + 1 ≤ _; omega⟩, h.left, by have := h.pend; show D.pend.length ≤ _; omega⟩
end Go.Proofs.YtlgbcogdogpihaaGreatDoor
