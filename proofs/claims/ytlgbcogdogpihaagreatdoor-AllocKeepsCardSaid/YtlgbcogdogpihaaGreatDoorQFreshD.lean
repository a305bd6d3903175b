/- A new disk, a new file. -/
import Derived.Test.YtlgbcogdogpihaaGreatDoorQLim
namespace Go.Proofs.YtlgbcogdogpihaaGreatDoor
open Go.RowKit Go.Shelf
def fresh (n : Nat) : Dk := { sure := List.replicate n zeroL, now := fun _ => none, pend := [], left := -1, down := false, reads := 0, writes := 0 }
theorem fresh_lim {n : Nat} (h : n ≤ 16384) : Lim (fresh n) 0 := ⟨by simp [fresh]; exact h, ⟨Int.le_refl _, Int.le_refl _⟩, ⟨Int.le_refl _, Int.le_refl _⟩, ⟨by show (-1 : Int) ≤ -1; omega, by show (-1 : Int) ≤ _; omega⟩, by simp [fresh]⟩
theorem owns_of {H : Type} {w : World} {P : Program} {k : TypeId} {R : Value → Option (DataW H × List MemPlace)} {m : Nat} (h : w.heap[m]? = some (.map #[] 0)) : w.ownsMap P k R m 0 (.map []) := by
  obtain ⟨es, c, h1, h2, h3, h4⟩ := World.ownsMap_made w P k R
  rw [heap_alloc_new] at h1
  injection h1 with h1
  injection h1 with h5 h6
  subst h5 h6
  exact ⟨_, _, h, h2, h3, h4⟩
theorem zero_str : (Value.string zeroPage) = str zeroL := by
  have : Lib.repeatL [0] 256 = zeroL := by decide +kernel
  unfold zeroPage str
  rw [this]
theorem rowZ_str (n : Nat) : rowZ zeroPage n n = ((fresh n).sure.map str).toArray := by
  unfold rowZ fresh
  rw [Nat.sub_self, zero_str]
  simp
theorem dfresh_any (k : Int) (w : World) :
    Calls Tryz.prog 9 #[.int .i64 k] w fun e w' => ∃ d, e = .returned (.pointer (some ⟨d, 0, none⟩)) ∧ DkAt w' w.heap.size d 0 (fresh (diskN k)) ∧ Below w.heap.size w w' := by
  refine (dnew_any k w).mono ?_
  rintro e w' ⟨d, s, m, rfl, h1, h2, h3, h4, h5, h6, h7⟩
  rw [rowZ_str] at h4
  refine ⟨d, rfl, ⟨s, m, .slice none 0 0, .map [], ⟨h1, h2, h3⟩, ?_, h4, owns_of h5, fun i z => ⟨by simp [Maps.has, fresh], by simp [DataW.atKey, fresh]⟩, LO.nil_ _ _⟩, h7⟩
  have hl : (fresh (diskN k)).sure.length = diskN k := by simp [fresh]
  unfold dkCells
  rw [hl]
  exact h6
set_option maxRecDepth 100000 in
set_option maxHeartbeats 400000 in
theorem ffresh_any {B d k : Nat} {D : Dk} {w : World} (hd : DkAt w B d k D) (hB : B ≤ w.heap.size) : Calls Tryz.prog 8 #[.pointer (some ⟨d, 0, none⟩)] w fun e w' => ∃ f, e = .returned (.pointer (some ⟨f, 0, none⟩)) ∧ FAt w' B f d k D ∧ Below w.heap.size w w' := by
  go_enter Tryz.func8, Tryz.ntmps8
  go_wp2
  go_ret
  exact ⟨_, rfl, ⟨hB, Blk.new w _ _, hd.keep ((Below.refl _ w).alloc (Nat.le_refl _) _)⟩, (Below.refl _ w).alloc (Nat.le_refl _) _⟩
end Go.Proofs.YtlgbcogdogpihaaGreatDoor
