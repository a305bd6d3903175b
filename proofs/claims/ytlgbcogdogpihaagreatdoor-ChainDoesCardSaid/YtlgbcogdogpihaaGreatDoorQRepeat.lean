/- The walks of slices.Repeat at one string, of disk.New. -/
import Derived.Deep.OwnRows
import Derived.Laws.CopyOwn
import Derived.Test.YtlgbcogdogpihaaGreatDoorQAll
import Derived.Test.YtlgbcogdogpihaaGreatDoorQRepLay
namespace Go.Proofs.YtlgbcogdogpihaaGreatDoor
open Go.RowKit Go.Shelf
theorem builderX : Builder.Extra Tryz.prog Tryz.lays105_ren where
  sizeBuilder := by kernel_rfl
  liesBuilder := by kernel_rfl
  t5 := Tryz.underlying5
  a5 := Tryz.isAgg5
  z5 := Tryz.sizeOf5
  v5 := Tryz.zeroValue5
  infoByte := by kernel_rfl
  cellsByte := by kernel_rfl
  sizeByte := by kernel_rfl
  neB5 := by decide
theorem srepeat_any (s : ByteArray) (c : Nat) (w : World) (hc : c ≤ 9223372036854775807) (hlen : s.size * c ≤ 140737488355328) :
    Calls Tryz.prog 38 #[.string s, .int .i64 c] w fun e w' => e = .returned (.string ⟨(Lib.repeatL s.data.toList c).toArray⟩) ∧ Below w.heap.size w w' := Any.strings_Repeat Tryz.lays105 builderX s c w hc hlen
theorem bmul_any (x y : Nat) (hx : x < 18446744073709551616) (hy : y < 18446744073709551616) (w : World) :
    Calls Tryz.prog 77 #[.int .u64 x, .int .u64 y] w fun e w' => e = .returned (.tuple #[.int .u64 ((x * y / 18446744073709551616 : Nat) : Int), .int .u64 ((x * y % 18446744073709551616 : Nat) : Int)]) ∧ w' = w := Any.bits_Mul Tryz.lays212 x y hx hy w
theorem bmul_one (n : Nat) (hn : n ≤ 16384) (w : World) : Calls Tryz.prog 77 #[.int .u64 1, .int .u64 n] w fun e w' => e = .returned (.tuple #[.int .u64 0, .int .u64 n]) ∧ w' = w := by
  refine (bmul_any 1 n (by omega) (by omega) w).mono ?_
  rintro e w' ⟨rfl, rfl⟩
  refine ⟨?_, rfl⟩
  rw [Nat.one_mul, Nat.div_eq_of_lt (by omega), Nat.mod_eq_of_lt (by omega)]; rfl
def rowZ (z : ByteArray) (m n : Nat) : Array Value := (List.replicate m (Value.string z) ++ List.replicate (n - m) (Value.string ByteArray.empty)).toArray
theorem rowZ_size (z : ByteArray) {m n : Nat} (h : m ≤ n) : (rowZ z m n).size = n := by simp [rowZ]; omega
theorem rowZ_made (z : ByteArray) (n : Nat) : madeCells #[.string ByteArray.empty] n = rowZ z 0 n := by
  apply Array.toList_inj.1
  rw [toList_madeCells_one]; simp [rowZ]
theorem rowZ_at (z : ByteArray) {m n j : Nat} (hj : j < m) : (rowZ z m n)[j]? = some (.string z) := by
  simp [rowZ, List.getElem?_append, hj]
theorem rowZ_more (z : ByteArray) {m d n : Nat} : (((rowZ z m n).toList.take m ++ List.replicate d (Value.string z) ++ (rowZ z m n).toList.drop (m + d)).toArray) = rowZ z (m + d) n := by
  unfold rowZ
  congr 1
  rw [List.take_left' (by simp), List.drop_append, List.replicate_append_replicate]
  simp
  omega
theorem setRow_blk {w : World} {g : Nat} {t : TypeId} {cs cs' : Array Value} (h : Blk w g t cs) : Blk (w.setRow g cs') g t cs' := setRow_heap w g cs cs' t (0, 0) h
theorem Addr.add_none (b o j : Nat) : (⟨b, o, none⟩ : Addr).add j = ⟨b, o + j, none⟩ := by unfold Addr.add; split <;> simp_all
/-- one copy step -/
theorem copyZ {w : World} {g : Nat} {z : ByteArray} {m n d : Nat} (h : Blk w g 9 (rowZ z m n)) (hmn : m + d ≤ n) (a : Addr) (sl sc dl dc : Nat) (hd : d = Nat.min sl dl) (hsrc : ∀ j, j < d → w.cell? (a.add j) = some (.string z)) (ty : TypeId) :
    (Builtin.copy_ #[56, 56] ty #[.slice (some ⟨g, m, none⟩) dl dc, .slice (some a) sl sc]).run Tryz.prog w = .ok (goInt d) (w.setRow g (rowZ z (m + d) n)) := by
  have := run_copy_row (P := Tryz.prog) w 56 56 ty 9 g m dl dc a sl sc (rowZ z m n) 9 (List.replicate d (.string z)) Tryz.underlying56 (by kernel_rfl) h (by simpa using hd)
    (fun j v hj => by
      obtain ⟨h1, h2⟩ := List.getElem?_eq_some_iff.1 hj
      simp at h1 h2
      rw [hsrc j h1, h2]) (by simp [rowZ_size z (by omega : m ≤ n)]; exact hmn) (fun v hv => by rw [List.eq_of_mem_replicate hv]; rfl)
  rw [List.length_replicate, rowZ_more z] at this
  exact this
set_option maxRecDepth 100000 in
set_option maxHeartbeats 400000 in
theorem repeat_any (g c : Nat) (z : ByteArray) (n : Nat) (hn : n ≤ 16384) (w : World) (hB : Blk w g 9 #[.string z]) :
    Calls Tryz.prog 39 #[.slice (some ⟨g, 0, none⟩) 1 c, .int .i64 n] w fun e w' => e = .returned (.slice (some ⟨w.heap.size, 0, none⟩) n n) ∧ Blk w' w.heap.size 9 (rowZ z n n) ∧ Below w.heap.size w w' := by
  have hlt := hB.lt
  have hmk := fun W => run_make_row' (P := Tryz.prog) 56 9 (.string ByteArray.empty) 16 Tryz.underlying56 (by kernel_rfl) rfl .i64 .i64 n (by omega) (by omega) W
  have hb1 : Blk (w.alloc (.cells (rowZ z 0 n) 9)) w.heap.size 9 (rowZ z 0 n) := Blk.new w _ _
  obtain ⟨d, hd⟩ : ∃ d, d = Nat.min 1 n := ⟨_, rfl⟩
  have hd1 : d ≤ 1 ∧ d ≤ n ∧ (0 < n → 0 < d) := by
    have e : d = if 1 ≤ n then 1 else n := by rw [hd]; rfl
    split at e <;> omega
  have hcp := fun ty => copyZ (d := d) hb1 (by omega) ⟨g, 0, none⟩ 1 c n n hd (fun j hj => by
    have hj0 : j = 0 := by omega
    subst hj0
    exact (hB.alloc (.cells (rowZ z 0 n) 9)).cell 0) ty
  have HB2 := setRow_blk (cs' := rowZ z (0 + d) n) hb1
  have HBE : Below w.heap.size w ((w.alloc (.cells (rowZ z 0 n) 9)).setRow w.heap.size (rowZ z (0 + d) n)) := below_setRow ((Below.refl _ w).alloc (Nat.le_refl _) _) (Nat.le_refl _) _
  rw [Nat.zero_add] at hcp HB2 HBE
  rw [← rowZ_made] at hcp HB2 HBE
  generalize hW : (w.alloc (.cells (madeCells #[.string ByteArray.empty] n) 9)).setRow w.heap.size (rowZ z d n) = W1 at *
  clear hb1 hW
  have hM := fun W => bmul_one n hn W
  go_enter Tryz.func39, Tryz.ntmps39
  go_wp2_with (go_at_call 77; refine (hM _).mono ?_; rintro e w' ⟨rfl, hw⟩; replace hw := hw.symm; subst hw)
  go_loopw [8] (fun i wr => ∃ m : Nat, m ≤ n ∧ i = .int .i64 m ∧ (0 < n → 0 < m) ∧ Blk wr w.heap.size 9 (rowZ z m n) ∧ Below w.heap.size w wr) (fun i _ => n - (intOf i).toNat)
  case atStart => exact ⟨d, hd1.2.1, by rw [hd], hd1.2.2, HB2, HBE⟩
  case round =>
    obtain ⟨m, hm, rfl, h0, hb, hbe⟩ := hrel
    by_cases hlt2 : m < n
    · obtain ⟨d2, hd2⟩ : ∃ d2, d2 = Nat.min m (n - m) := ⟨_, rfl⟩
      have h2 : 0 < d2 ∧ d2 ≤ m ∧ m + d2 ≤ n := by
        have e : d2 = if m ≤ n - m then m else n - m := by rw [hd2]; rfl
        have := h0 (by omega)
        split at e <;> omega
      have hc2 := fun ty => copyZ hb.drew h2.2.2 ⟨w.heap.size, 0, none⟩ m n (n - m) (n - m) hd2 (fun j hj => by
        rw [Addr.add_none, Nat.zero_add, hb.drew.cell, rowZ_at z (by omega)]) ty
      have hne : ¬ n = m := by omega
      clear hd2
      go_wp2
      go_region
      go_wp2
      go_roundw
      case rel => exact ⟨m + d2, h2.2.2, by go_num, fun _ => by omega, setRow_blk hb.drew, below_setRow hbe.drew (Nat.le_refl _) _⟩
      case measure => simp [intOf]; omega
    · obtain rfl : m = n := by omega
      go_wp2
      go_ret
      exact ⟨rfl, hb, hbe⟩
end Go.Proofs.YtlgbcogdogpihaaGreatDoor
