/- The walks of disk.New, Sectors, pagefile.New, Room. -/
import Derived.Carry
import Derived.Test.YtlgbcogdogpihaaGreatDoorQRepeat
namespace Go.Proofs.YtlgbcogdogpihaaGreatDoor
open Go.RowKit Go.Shelf
theorem size_alloc_ (w : World) (o : Obj) : (w.alloc o).heap.size = w.heap.size + 1 := by simp
def zeroPage : ByteArray := ⟨(Lib.repeatL [0] 256).toArray⟩
theorem zpage_any (w : World) : Calls Tryz.prog 38 #[.string ⟨#[0]⟩, .int .i64 256] w fun e w' => e = .returned (.string zeroPage) ∧ Below w.heap.size w w' :=
  srepeat_any ⟨#[0]⟩ 256 w (by decide) (by decide)
def diskN (k : Int) : Nat := (min (max k 0) 16384).toNat
set_option maxRecDepth 100000 in
set_option maxHeartbeats 400000 in
theorem dnew_any (k : Int) (w : World) :
    Calls Tryz.prog 9 #[.int .i64 k] w fun e w' => ∃ d s m, e = .returned (.pointer (some ⟨d, 0, none⟩)) ∧ w.heap.size ≤ d ∧ w.heap.size ≤ s ∧ w.heap.size ≤ m ∧ Blk w' s 9 (rowZ zeroPage (diskN k) (diskN k)) ∧ w'.heap[m]? = some (.map #[] 0) ∧
      Blk w' d 84 #[.slice (some ⟨s, 0, none⟩) (diskN k) (diskN k), .map (some m), .slice none 0 0, .int .i64 (-1), .bool false, .int .i64 0, .int .i64 0] ∧ Below w.heap.size w w' := by
  have hz := fun W => zpage_any W
  have hmm := @run_makeMap Tryz.prog
  obtain ⟨n, hn⟩ : ∃ n, n = diskN k := ⟨_, rfl⟩
  rw [← hn]
  have hn1 : n ≤ 16384 ∧ (n : Int) = min (max k 0) 16384 := by unfold diskN at hn; omega
  generalize zeroPage = z at *
  clear hn
  have hR := fun g c W h => repeat_any g c z n hn1.1 W h
  go_enter Tryz.func9, Tryz.ntmps9
  go_wp2_with (go_at_call 38; refine (hz _).mono ?_; rintro e w1 ⟨rfl, b1⟩)
  rw [← hn1.2]
  refine (hR w1.heap.size 1 _ (Blk.new w1 _ _)).mono ?_
  rintro e w2 ⟨rfl, r2, b2⟩
  rw [size_alloc_] at r2 b2
  have b3 : Below w.heap.size w w2 := (b1.alloc b1.size _).trans (b2.mono (by have := b1.size; omega))
  have hs := b2.size
  rw [size_alloc_] at hs
  have hs1 := b1.size
  rw [size_alloc_]
  generalize hp : w1.heap.size + 1 = p at *
  have hlt := r2.lt
  clear b2 b1 hn1
  go_wp2
  go_ret
  refine ⟨w2.heap.size + 1, p, w2.heap.size, rfl, by omega, by omega, by omega, (r2.alloc _).alloc _, ?_, ?_, (b3.alloc b3.size _).alloc (by rw [size_alloc_]; omega) _⟩
  · exact (Below.heap_alloc _ _ _ (by rw [size_alloc_]; omega)).trans (heap_alloc_new w2 _)
  · have h := Blk.new (w2.alloc (Obj.map #[] 0)) 84 #[.slice (some ⟨p, 0, none⟩) n n, .map (some w2.heap.size), .slice none 0 0, .int .i64 (-1), .bool false, .int .i64 0, .int .i64 0]
    rwa [size_alloc_] at h
/-- a disk of n sectors lies at d -/
def DiskOf (w : World) (d n : Nat) : Prop := ∃ cs A c, Blk w d 84 cs ∧ cs[0]? = some (.slice A n c)
def FileOf (w : World) (f n : Nat) : Prop := ∃ d, Blk w f 73 #[.pointer (some ⟨d, 0, none⟩)] ∧ DiskOf w d n
theorem dnew_of (k : Int) (w : World) :
    Calls Tryz.prog 9 #[.int .i64 k] w fun e w' => ∃ d, e = .returned (.pointer (some ⟨d, 0, none⟩)) ∧ DiskOf w' d (diskN k) ∧ Below w.heap.size w w' := by
  refine (dnew_any k w).mono ?_
  rintro e w' ⟨d, s, m, rfl, h1, _, _, _, _, h2, h3⟩
  exact ⟨d, rfl, ⟨_, _, _, h2, rfl⟩, h3⟩
set_option maxRecDepth 100000 in
set_option maxHeartbeats 400000 in
theorem sectors_any (d n : Nat) (w : World) (hd : DiskOf w d n) : Calls Tryz.prog 95 #[.pointer (some ⟨d, 0, none⟩)] w fun e w' => e = .returned (.int .i64 n) ∧ w' = w := by
  obtain ⟨cs, A, c, h1, h2⟩ := hd
  have hlt := h1.lt
  have hc := (h1.cell 0).trans h2
  go_enter Tryz.func95, Tryz.ntmps95
  go_wp2
  go_ret
  exact ⟨rfl, rfl⟩
set_option maxRecDepth 100000 in
set_option maxHeartbeats 400000 in
theorem room_any (f n : Nat) (w : World) (hf : FileOf w f n) : Calls Tryz.prog 64 #[.pointer (some ⟨f, 0, none⟩)] w fun e w' => e = .returned (.int .i64 (max (n : Int) 2)) ∧ w' = w := by
  obtain ⟨d, h2, h3⟩ := hf
  have hs := sectors_any d n w h3
  have hlt := h2.lt
  have hc := h2.cell 0
  clear h3
  go_enter Tryz.func64, Tryz.ntmps64
  go_wp2_with (go_at_call 95; refine hs.mono ?_; rintro e w' ⟨rfl, hw⟩; replace hw := hw.symm; subst hw)
  go_ret
  exact ⟨rfl, rfl⟩
set_option maxRecDepth 100000 in
set_option maxHeartbeats 400000 in
theorem fnew_any (d n : Nat) (w : World) (hd : DiskOf w d n) : Calls Tryz.prog 8 #[.pointer (some ⟨d, 0, none⟩)] w fun e w' => ∃ f, e = .returned (.pointer (some ⟨f, 0, none⟩)) ∧ FileOf w' f n ∧ Below w.heap.size w w' := by
  go_enter Tryz.func8, Tryz.ntmps8
  go_wp2
  go_ret
  obtain ⟨cs, A, c, h1, h2⟩ := hd
  exact ⟨_, rfl, ⟨d, Blk.new w _ _, cs, A, c, h1.alloc _, h2⟩, (Below.refl _ w).alloc (Nat.le_refl _) _⟩
end Go.Proofs.YtlgbcogdogpihaaGreatDoor
