/- A disk whose power does not go, and what its pages are: plain. -/
import Derived.Test.YtlgbcogdogpihaaGreatDoorQGj
namespace Go.Proofs.YtlgbcogdogpihaaGreatDoor
open Go.RowKit Go.Shelf
/-- a disk whose power does not go, and what its pages are -/
structure DkOk (D : Dk) (n : Nat) (c : Int → Option (Nat × Bs)) : Prop where
  size : D.sure.length = n
  left : D.left = -1
  down : D.down = false
  page : ∀ id, noPage n id = false → PageIs D id (c id)
def updP (c : Int → Option (Nat × Bs)) (id : Int) (kind : Nat) (b : Bs) : Int → Option (Nat × Bs) := fun j => if j = id then some (kind, b) else c j
theorem DkOk.fput {D : Dk} {n : Nat} {c : Int → Option (Nat × Bs)} (h : DkOk D n c) {id : Int} (hid : noPage n id = false) {kind : Nat} (hk : kind < 256) {b : Bs} (hb : b.length ≤ 240) :
    D.fputE id b = 0 ∧ DkOk (D.fput id kind b) n (updP c id kind b) ∧ (D.fput id kind b).writes = D.writes + 1 ∧ (D.fput id kind b).reads = D.reads := by
  have hl := h.left
  have he : D.fputE id b = 0 := by
    unfold Dk.fputE Dk.wroteE
    rw [h.size, hid, h.down, hl]
    rw [if_neg (by simp), if_neg (by omega), if_neg (by simp), if_neg (by decide)]
  have hp : D.fput id kind b = D.put id (Pg.page id.toNat kind b) := by
    unfold Dk.fput Dk.wrote
    rw [h.size, hid, h.down, hl]
    rw [if_neg (by simp), if_neg (by omega), if_neg (by simp), if_neg (by decide), if_neg (by decide)]
  refine ⟨he, ?_, by rw [hp]; rfl, by rw [hp]; rfl⟩
  rw [hp]
  refine ⟨h.size, h.left, h.down, fun j hj => ?_⟩
  by_cases e : j = id
  · subst e
    refine .inr ⟨kind, b, hk, hb, ?_, by unfold updP; rw [if_pos rfl]⟩
    unfold Dk.get Dk.put
    simp
  · have hg : (D.put id (Pg.page id.toNat kind b)).get j = D.get j := by unfold Dk.get Dk.put; simp [e]
    have hq := h.page j hj
    unfold PageIs at hq ⊢
    rw [hg]
    unfold updP
    rw [if_neg e]
    exact hq
end Go.Proofs.YtlgbcogdogpihaaGreatDoor
