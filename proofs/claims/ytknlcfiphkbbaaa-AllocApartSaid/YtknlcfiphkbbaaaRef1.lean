/- The walks of rootstockref01: Put, Int. -/
import Derived.Test.YtknlcfiphkbbaaaRdint
namespace Go.Proofs.Ytknlcfiphkbbaaa
open Go.RowKit
theorem be_cons (k n : Nat) : Cp.be (k + 1) n = UInt8.ofNat (n / 256 ^ k % 256) :: Cp.be k n := by
  induction k generalizing n with
  | zero => simp [Cp.be]
  | succ k ih =>
    have e : Cp.be (k + 1) n = Cp.be k (n / 256) ++ [UInt8.ofNat (n % 256)] := rfl
    rw [Cp.be, ih (n / 256), List.cons_append, ← e, Nat.div_div_eq_div_mul, Nat.pow_succ, Nat.mul_comm (256 ^ k)]
theorem str_append (a b : List UInt8) : (⟨a.toArray⟩ : ByteArray) ++ ⟨b.toArray⟩ = ⟨(a ++ b).toArray⟩ := by
  apply ByteArray.ext; simp
set_option maxRecDepth 100000 in
set_option maxHeartbeats 400000 in
theorem rput1_pos (n : Nat) (w : World) (h : n ≤ 9223372036854775807) : Calls Try.prog 32 #[.int .i64 1, .int .i64 (n : Int)] w fun e w' => e = .returned (.tuple #[.string ⟨(Cp.be 1 n).toArray⟩, .bool (Cp.fits 1 n)]) ∧ Below w.heap.size w w' := by
  have hst := fun (W : World) (x : Int) => str_of_new (P := Try.prog) W x 5 1 Try.underlying103 Try.underlying5 Try.underlying9
  go_enter Try.func32, Try.ntmps32
  go_wp2
  go_loopw [1, 6, 7] (fun m s i wr => ∃ j : Nat, j ≤ 1 ∧ i = .int .i64 j ∧ m = .int .i64 ((n / 256 ^ j : Nat) : Int) ∧ s = .string ⟨(Cp.be j n).toArray⟩ ∧ Below w.heap.size w wr) (fun _ _ i _ => 1 - (intOf i).toNat)
  case atStart => exact ⟨0, by omega, rfl, by simp, rfl, Below.refl _ _⟩
  case round =>
    obtain ⟨j, hj, rfl, rfl, rfl, hb⟩ := hrel
    have hd : n / 256 ^ j ≤ n := Nat.div_le_self _ _
    by_cases hlt : j < 1
    · have hlen : (Cp.be j n).length ≤ 4 := by rw [Cp.be_length]; omega
      have hcons := be_cons j n
      have hdd : n / 256 ^ (j + 1) = n / 256 ^ j / 256 := by rw [Nat.pow_succ, Nat.div_div_eq_div_mul]
      have HC := Lib.hid hcons
      have HD := Lib.hid hdd
      clear hcons hdd
      generalize n / 256 ^ j = m at *
      go_wp2
      go_roundw
      case rel =>
        refine ⟨j + 1, by omega, by go_num, ?_, ?_, hb.alloc hb.size _⟩
        · rw [HD.out]; simp
        · rw [HC.out]; exact congrArg Value.string (str_append [_] _)
      case measure => simp [intOf]; omega
    · obtain rfl : j = 1 := by omega
      have hz : (((n / 256 ^ 1 : Nat) : Int) == 0) = Cp.fits 1 n := by
        rw [Bool.eq_iff_iff]; unfold Cp.fits; simp; omega
      have HZ := Lib.hid hz
      clear hz
      generalize n / 256 ^ 1 = m at *
      go_wp2
      go_ret2
      exact ⟨by rw [← HZ.out]; rfl, hb⟩
set_option maxRecDepth 100000 in
theorem rput1_neg (n : Int) (w : World) (h : n < 0) : Calls Try.prog 32 #[.int .i64 1, .int .i64 n] w fun e w' => e = .returned (.tuple #[.string ⟨#[]⟩, .bool false]) ∧ w = w' := by
  go_enter Try.func32, Try.ntmps32
  go_wp2
  go_ret2
  exact ⟨rfl, rfl⟩
theorem rput1_any (n : Int) (w : World) (h : n ≤ 9223372036854775807) : Calls Try.prog 32 #[.int .i64 1, .int .i64 n] w fun e w' => (∃ t : List UInt8, e = .returned (.tuple #[.string ⟨t.toArray⟩, .bool (Cp.fits 1 n)]) ∧ t.length ≤ 1 ∧ (Cp.fits 1 n = true → t = Cp.be 1 n.toNat)) ∧ Below w.heap.size w w' := by
  by_cases h0 : 0 ≤ n
  · obtain ⟨m, rfl⟩ := Int.eq_ofNat_of_zero_le h0
    exact (rput1_pos m w (by omega)).mono fun e w' ⟨he, hb⟩ => ⟨⟨_, he, by rw [Cp.be_length]; omega, fun _ => rfl⟩, hb⟩
  · have hf : Cp.fits 1 n = false := by unfold Cp.fits; simp; omega
    rw [hf]
    exact (rput1_neg n w (by omega)).mono fun e w' ⟨he, hw⟩ => ⟨⟨[], he, by simp, fun h => by cases h⟩, hw ▸ Below.refl _ _⟩
set_option maxRecDepth 100000 in
set_option maxHeartbeats 400000 in
theorem rput2_pos (n : Nat) (w : World) (h : n ≤ 9223372036854775807) : Calls Try.prog 32 #[.int .i64 2, .int .i64 (n : Int)] w fun e w' => e = .returned (.tuple #[.string ⟨(Cp.be 2 n).toArray⟩, .bool (Cp.fits 2 n)]) ∧ Below w.heap.size w w' := by
  have hst := fun (W : World) (x : Int) => str_of_new (P := Try.prog) W x 5 1 Try.underlying103 Try.underlying5 Try.underlying9
  go_enter Try.func32, Try.ntmps32
  go_wp2
  go_loopw [1, 6, 7] (fun m s i wr => ∃ j : Nat, j ≤ 2 ∧ i = .int .i64 j ∧ m = .int .i64 ((n / 256 ^ j : Nat) : Int) ∧ s = .string ⟨(Cp.be j n).toArray⟩ ∧ Below w.heap.size w wr) (fun _ _ i _ => 2 - (intOf i).toNat)
  case atStart => exact ⟨0, by omega, rfl, by simp, rfl, Below.refl _ _⟩
  case round =>
    obtain ⟨j, hj, rfl, rfl, rfl, hb⟩ := hrel
    have hd : n / 256 ^ j ≤ n := Nat.div_le_self _ _
    by_cases hlt : j < 2
    · have hlen : (Cp.be j n).length ≤ 4 := by rw [Cp.be_length]; omega
      have hcons := be_cons j n
      have hdd : n / 256 ^ (j + 1) = n / 256 ^ j / 256 := by rw [Nat.pow_succ, Nat.div_div_eq_div_mul]
      have HC := Lib.hid hcons
      have HD := Lib.hid hdd
      clear hcons hdd
      generalize n / 256 ^ j = m at *
      go_wp2
      go_roundw
      case rel =>
        refine ⟨j + 1, by omega, by go_num, ?_, ?_, hb.alloc hb.size _⟩
        · rw [HD.out]; simp
        · rw [HC.out]; exact congrArg Value.string (str_append [_] _)
      case measure => simp [intOf]; omega
    · obtain rfl : j = 2 := by omega
      have hz : (((n / 256 ^ 2 : Nat) : Int) == 0) = Cp.fits 2 n := by
        rw [Bool.eq_iff_iff]; unfold Cp.fits; simp; omega
      have HZ := Lib.hid hz
      clear hz
      generalize n / 256 ^ 2 = m at *
      go_wp2
      go_ret2
      exact ⟨by rw [← HZ.out]; rfl, hb⟩
set_option maxRecDepth 100000 in
theorem rput2_neg (n : Int) (w : World) (h : n < 0) : Calls Try.prog 32 #[.int .i64 2, .int .i64 n] w fun e w' => e = .returned (.tuple #[.string ⟨#[]⟩, .bool false]) ∧ w = w' := by
  go_enter Try.func32, Try.ntmps32
  go_wp2
  go_ret2
  exact ⟨rfl, rfl⟩
theorem rput2_any (n : Int) (w : World) (h : n ≤ 9223372036854775807) : Calls Try.prog 32 #[.int .i64 2, .int .i64 n] w fun e w' => (∃ t : List UInt8, e = .returned (.tuple #[.string ⟨t.toArray⟩, .bool (Cp.fits 2 n)]) ∧ t.length ≤ 2 ∧ (Cp.fits 2 n = true → t = Cp.be 2 n.toNat)) ∧ Below w.heap.size w w' := by
  by_cases h0 : 0 ≤ n
  · obtain ⟨m, rfl⟩ := Int.eq_ofNat_of_zero_le h0
    exact (rput2_pos m w (by omega)).mono fun e w' ⟨he, hb⟩ => ⟨⟨_, he, by rw [Cp.be_length]; omega, fun _ => rfl⟩, hb⟩
  · have hf : Cp.fits 2 n = false := by unfold Cp.fits; simp; omega
    rw [hf]
    exact (rput2_neg n w (by omega)).mono fun e w' ⟨he, hw⟩ => ⟨⟨[], he, by simp, fun h => by cases h⟩, hw ▸ Below.refl _ _⟩
set_option maxRecDepth 100000 in
set_option maxHeartbeats 400000 in
theorem rput4_pos (n : Nat) (w : World) (h : n ≤ 9223372036854775807) : Calls Try.prog 32 #[.int .i64 4, .int .i64 (n : Int)] w fun e w' => e = .returned (.tuple #[.string ⟨(Cp.be 4 n).toArray⟩, .bool (Cp.fits 4 n)]) ∧ Below w.heap.size w w' := by
  have hst := fun (W : World) (x : Int) => str_of_new (P := Try.prog) W x 5 1 Try.underlying103 Try.underlying5 Try.underlying9
  go_enter Try.func32, Try.ntmps32
  go_wp2
  go_loopw [1, 6, 7] (fun m s i wr => ∃ j : Nat, j ≤ 4 ∧ i = .int .i64 j ∧ m = .int .i64 ((n / 256 ^ j : Nat) : Int) ∧ s = .string ⟨(Cp.be j n).toArray⟩ ∧ Below w.heap.size w wr) (fun _ _ i _ => 4 - (intOf i).toNat)
  case atStart => exact ⟨0, by omega, rfl, by simp, rfl, Below.refl _ _⟩
  case round =>
    obtain ⟨j, hj, rfl, rfl, rfl, hb⟩ := hrel
    have hd : n / 256 ^ j ≤ n := Nat.div_le_self _ _
    by_cases hlt : j < 4
    · have hlen : (Cp.be j n).length ≤ 4 := by rw [Cp.be_length]; omega
      have hcons := be_cons j n
      have hdd : n / 256 ^ (j + 1) = n / 256 ^ j / 256 := by rw [Nat.pow_succ, Nat.div_div_eq_div_mul]
      have HC := Lib.hid hcons
      have HD := Lib.hid hdd
      clear hcons hdd
      generalize n / 256 ^ j = m at *
      go_wp2
      go_roundw
      case rel =>
        refine ⟨j + 1, by omega, by go_num, ?_, ?_, hb.alloc hb.size _⟩
        · rw [HD.out]; simp
        · rw [HC.out]; exact congrArg Value.string (str_append [_] _)
      case measure => simp [intOf]; omega
    · obtain rfl : j = 4 := by omega
      have hz : (((n / 256 ^ 4 : Nat) : Int) == 0) = Cp.fits 4 n := by
        rw [Bool.eq_iff_iff]; unfold Cp.fits; simp; omega
      have HZ := Lib.hid hz
      clear hz
      generalize n / 256 ^ 4 = m at *
      go_wp2
      go_ret2
      exact ⟨by rw [← HZ.out]; rfl, hb⟩
set_option maxRecDepth 100000 in
theorem rput4_neg (n : Int) (w : World) (h : n < 0) : Calls Try.prog 32 #[.int .i64 4, .int .i64 n] w fun e w' => e = .returned (.tuple #[.string ⟨#[]⟩, .bool false]) ∧ w = w' := by
  go_enter Try.func32, Try.ntmps32
  go_wp2
  go_ret2
  exact ⟨rfl, rfl⟩
theorem rput4_any (n : Int) (w : World) (h : n ≤ 9223372036854775807) : Calls Try.prog 32 #[.int .i64 4, .int .i64 n] w fun e w' => (∃ t : List UInt8, e = .returned (.tuple #[.string ⟨t.toArray⟩, .bool (Cp.fits 4 n)]) ∧ t.length ≤ 4 ∧ (Cp.fits 4 n = true → t = Cp.be 4 n.toNat)) ∧ Below w.heap.size w w' := by
  by_cases h0 : 0 ≤ n
  · obtain ⟨m, rfl⟩ := Int.eq_ofNat_of_zero_le h0
    exact (rput4_pos m w (by omega)).mono fun e w' ⟨he, hb⟩ => ⟨⟨_, he, by rw [Cp.be_length]; omega, fun _ => rfl⟩, hb⟩
  · have hf : Cp.fits 4 n = false := by unfold Cp.fits; simp; omega
    rw [hf]
    exact (rput4_neg n w (by omega)).mono fun e w' ⟨he, hw⟩ => ⟨⟨[], he, by simp, fun h => by cases h⟩, hw ▸ Below.refl _ _⟩

theorem idx_step (l : List UInt8) (j : Nat) (hj : j < l.length) (a : Nat) (ha : a ≤ 16777215) : Value.int .i64 (wrap64 ((a : Int) * 256 + wrap64 ((ByteArray.mk l.toArray)[j]'(show j < l.toArray.size by simpa using hj)).toNat)) = Value.int .i64 ((a * 256 + l[j].toNat : Nat) : Int) := by
  have e : (ByteArray.mk l.toArray)[j]'(show j < l.toArray.size by simpa using hj) = l[j] := rfl
  have h8 := l[j].toNat_lt
  rw [e, IntWalk.wrap64_in (l[j].toNat : Int) ⟨by omega, by omega⟩, IntWalk.wrap64_in _ ⟨by omega, by omega⟩]
  go_num
set_option maxRecDepth 100000 in
set_option maxHeartbeats 400000 in
theorem rint_any (l : List UInt8) (w : World) (hl : l.length ≤ 4) : Calls Try.prog 35 #[.string ⟨l.toArray⟩] w fun e w' => e = .returned (.int .i64 (Cp.num l)) ∧ w = w' := by
  go_enter Try.func35, Try.ntmps35
  go_wp2
  go_loop [3, 4] (fun n i => ∃ j : Nat, j ≤ l.length ∧ i = .int .i64 j ∧ n = .int .i64 (Cp.num (l.take j))) (fun _ i => l.length - (intOf i).toNat)
  case atStart => exact ⟨0, by omega, rfl, rfl⟩
  case round =>
    obtain ⟨j, hj, rfl, rfl⟩ := hrel
    by_cases hlt : j < l.length
    · have hnx := num_take_succ l j hlt
      have hb24 := num_small l j hlt hl
      have HNX := Lib.hid hnx
      clear hnx
      go_wp2
      exact ⟨⟨j + 1, by omega, by go_num, by rw [HNX.out]; exact idx_step l j hlt _ hb24⟩, by simp [intOf]; omega⟩
    · go_wp2
      go_ret
      exact ⟨by rw [List.take_of_length_le (by omega)]; rfl, rfl⟩
end Go.Proofs.Ytknlcfiphkbbaaa
