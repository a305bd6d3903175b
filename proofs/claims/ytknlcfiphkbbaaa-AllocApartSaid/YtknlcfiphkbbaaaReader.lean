/- The walks of codec's Reader. -/
import Derived.Test.YtknlcfiphkbbaaaCodec
namespace Go.Proofs.Ytknlcfiphkbbaaa
open Go.RowKit
/-- a reader's two cells -/
def rdCells (r : Cp.Rd) : Array Value := #[.string ⟨r.rest.toArray⟩, .int .i64 r.err]
set_option maxRecDepth 100000 in
theorem fail_any (g : Nat) (r : Cp.Rd) (x : Int) (w : World) (h : Blk w g 105 (rdCells r)) :
    Calls Try.prog 56 #[.pointer (some ⟨g, 0, none⟩), .int .i64 x] w fun e w' => e = .returned (.tuple #[]) ∧ Blk w' g 105 (rdCells (r.fail x)) ∧ w.grownBy w' (some g) := by
  have h1 := h.cell 1
  have f1 := h.frozen 1
  simp only [rdCells] at h1
  by_cases hr : r.err = 0
  · rw [Cp.Rd.fail, if_pos hr]
    rw [hr] at h1
    have hb := h.set_ 1 (.int .i64 x)
    have hg : w.grownBy (w.setCell ⟨g, 1, none⟩ (.int .i64 x)) (some g) := only_setCell (p := ⟨g, 1, none⟩) (World.grownBy.refl w (some g)) (.inl rfl) _
    clear h hr
    go_enter Try.func56, Try.ntmps56
    go_wp2
    go_end0
    exact ⟨rfl, hb, hg⟩
  · rw [Cp.Rd.fail, if_neg hr]
    have hr' : (r.err == 0) = false := by simpa using hr
    clear hr
    go_enter Try.func56, Try.ntmps56
    go_wp2
    go_end0
    exact ⟨rfl, h, World.grownBy.refl _ _⟩
theorem read_any (s : List UInt8) (w : World) : Calls Try.prog 33 #[.string ⟨s.toArray⟩] w fun e w' => e = .returned (.pointer (some ⟨w.heap.size, 0, none⟩)) ∧ w' = w.alloc (.cells (rdCells ⟨s, 0⟩) 105) := by
  go_enter Try.func33, Try.ntmps33
  go_wp2
  go_ret
  exact ⟨rfl, rfl⟩
theorem extract_take (l : List UInt8) (n : Nat) : ByteArray.extract ⟨l.toArray⟩ 0 n = ⟨(l.take n).toArray⟩ := by
  apply ByteArray.ext; simp
theorem extract_drop (l : List UInt8) (n : Nat) : ByteArray.extract ⟨l.toArray⟩ n l.length = ⟨(l.drop n).toArray⟩ := by
  apply ByteArray.ext; simp
  rw [List.take_of_length_le (by simp)]
set_option maxRecDepth 100000 in
set_option maxHeartbeats 400000 in
theorem bytes_any (g : Nat) (r : Cp.Rd) (n : Int) (w : World) (h : Blk w g 105 (rdCells r)) :
    Calls Try.prog 57 #[.pointer (some ⟨g, 0, none⟩), .int .i64 n] w fun e w' => e = .returned (.string ⟨(r.bytes n).1.toArray⟩) ∧ Blk w' g 105 (rdCells (r.bytes n).2) ∧ w.grownBy w' (some g) := by
  have h0 := h.cell 0
  have h1 := h.cell 1
  have f1 := h.frozen 0
  simp only [rdCells] at h0 h1
  by_cases hn : n < 0
  · have hb : r.bytes n = (if (r.fail 1).err = 0 then ((r.fail 1).rest.take n.toNat, { r.fail 1 with rest := (r.fail 1).rest.drop n.toNat }) else ([], r.fail 1)) := by simp only [Cp.Rd.bytes, if_pos hn]
    have he : (r.fail 1).err ≠ 0 := by unfold Cp.Rd.fail; split <;> simp_all
    rw [if_neg he] at hb
    rw [hb]
    have he' : ((r.fail 1).err == 0) = false := by simpa using he
    clear hb he
    generalize hr : r.fail 1 = r' at *
    have HR := Lib.hid hr
    clear hr
    go_enter Try.func57, Try.ntmps57
    go_wp2_with (go_at_call 56; refine (fail_any g r 1 w h).mono ?_; rintro e w' ⟨rfl, hB, hg⟩; rw [HR.out] at hB; have g1 := hB.cell 1; simp only [rdCells] at g1)
    go_ret
    exact ⟨rfl, hB, hg⟩
  · by_cases hm : (r.rest.length : Int) < n
    · have hb : r.bytes n = (if (r.fail 10).err = 0 then ((r.fail 10).rest.take n.toNat, { r.fail 10 with rest := (r.fail 10).rest.drop n.toNat }) else ([], r.fail 10)) := by simp only [Cp.Rd.bytes, if_neg hn, if_pos hm]
      have he : (r.fail 10).err ≠ 0 := by unfold Cp.Rd.fail; split <;> simp_all
      rw [if_neg he] at hb
      rw [hb]
      have he' : ((r.fail 10).err == 0) = false := by simpa using he
      clear hb he
      generalize hr : r.fail 10 = r' at *
      have HR := Lib.hid hr
      clear hr
      go_enter Try.func57, Try.ntmps57
      go_wp2_with (go_at_call 56; refine (fail_any g r 10 w h).mono ?_; rintro e w' ⟨rfl, hB, hg⟩; rw [HR.out] at hB; have g1 := hB.cell 1; simp only [rdCells] at g1)
      go_ret
      exact ⟨rfl, hB, hg⟩
    · obtain ⟨k, rfl⟩ := Int.eq_ofNat_of_zero_le (show 0 ≤ n by omega)
      have hk : k ≤ r.rest.length := by omega
      by_cases he : r.err = 0
      · rw [Cp.bytes_ok he hk]
        have hb : Blk (w.setCell ⟨g, 0, none⟩ (.string ⟨(r.rest.drop k).toArray⟩)) g 105 (rdCells ⟨r.rest.drop k, 0⟩) := by
          have := h.set_ 0 (.string ⟨(r.rest.drop k).toArray⟩)
          simpa [rdCells, he] using this
        have hg : w.grownBy (w.setCell ⟨g, 0, none⟩ (.string ⟨(r.rest.drop k).toArray⟩)) (some g) := only_setCell (p := ⟨g, 0, none⟩) (World.grownBy.refl w (some g)) (.inl rfl) _
        rw [he] at h1
        have HB := Lib.hid hb
        have HG := Lib.hid hg
        clear hb hg h he
        go_enter Try.func57, Try.ntmps57
        go_wp2
        rw [extract_drop]
        go_ret
        exact ⟨by rw [← extract_take]; rfl, HB.out, HG.out⟩
      · have hb : r.bytes k = ([], r) := by
          have e1 : ¬ ((k : Int) < 0) := by omega
          simp only [Cp.Rd.bytes, if_neg e1, if_neg hm, if_neg he]
        rw [hb]
        have he' : (r.err == 0) = false := by simpa using he
        clear hb he
        go_enter Try.func57, Try.ntmps57
        go_wp2
        go_ret
        exact ⟨rfl, h, World.grownBy.refl _ _⟩
end Go.Proofs.Ytknlcfiphkbbaaa
