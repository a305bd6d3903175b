/- The walk of (*codec.Reader).Int. The walks of rootstockref01: Put, Int. The walk of chain.Body. The walk of chain.Parse. The walk of rootstockref09.Body. -/
import Derived.Laws.BitsAllLaws
import Derived.Laws.BitsLemmas
import Derived.Test.YtlgbcogdogpihaaGreatDoorQGc
import Derived.Test.YtlgbcogdogpihaaGreatDoorQGb
namespace Go.Proofs.YtlgbcogdogpihaaGreatDoor
open Go.RowKit
theorem ofInt_i64 (a : Nat) (ha : a < 9223372036854775808) : (BitVec.ofInt 64 (a : Int)).toNat = a := by
  rw [BitVec.ofInt_natCast, BitVec.toNat_ofNat]; exact Nat.mod_eq_of_lt (by omega)
theorem i64_and_nat (a b : Nat) (ha : a < 9223372036854775808) (hb : b < 9223372036854775808) : bits .and .i64 (a : Int) (b : Int) = ((a &&& b : Nat) : Int) := by
  have hx : a &&& b < 2 ^ 63 := Nat.and_lt_two_pow _ (by omega)
  show IntKind.i64.wrap ((BitVec.ofInt 64 (a : Int) &&& BitVec.ofInt 64 (b : Int)).toNat : Int) = _
  rw [BitVec.toNat_and, ofInt_i64 a ha, ofInt_i64 b hb, IntKind.wrap_i64]
  omega
theorem i64_or_nat (a b : Nat) (ha : a < 9223372036854775808) (hb : b < 9223372036854775808) : bits .or .i64 (a : Int) (b : Int) = ((a ||| b : Nat) : Int) := by
  have hx : a ||| b < 2 ^ 63 := Nat.or_lt_two_pow (by omega) (by omega)
  show IntKind.i64.wrap ((BitVec.ofInt 64 (a : Int) ||| BitVec.ofInt 64 (b : Int)).toNat : Int) = _
  rw [BitVec.toNat_or, ofInt_i64 a ha, ofInt_i64 b hb, IntKind.wrap_i64]
  omega
theorem i64_xor_nat (a b : Nat) (ha : a < 9223372036854775808) (hb : b < 9223372036854775808) : bits .xor .i64 (a : Int) (b : Int) = ((a ^^^ b : Nat) : Int) := by
  have hx : a ^^^ b < 2 ^ 63 := Nat.xor_lt_two_pow (by omega) (by omega)
  show IntKind.i64.wrap ((BitVec.ofInt 64 (a : Int) ^^^ BitVec.ofInt 64 (b : Int)).toNat : Int) = _
  rw [BitVec.toNat_xor, ofInt_i64 a ha, ofInt_i64 b hb, IntKind.wrap_i64]
  omega
theorem nat_or_byte (a b : Nat) (hb : b < 256) : a * 256 ||| b = a * 256 + b := by
  have h := Nat.shiftLeft_add_eq_or_of_lt (i := 8) (b := b) hb a
  rw [Nat.shiftLeft_eq] at h
  exact h.symm
theorem or_byte (a b : Nat) (ha : a ≤ 16777215) (hb : b < 256) : bits .or .i64 ((a : Int) * 256) (b : Int) = ((a * 256 + b : Nat) : Int) := by
  have h := i64_or_nat (a * 256) b (by omega) (by omega)
  rw [nat_or_byte a b hb] at h
  rw [← h, Int.natCast_mul]
  rfl
theorem num_take_succ (l : List UInt8) (j : Nat) (hj : j < l.length) : Cp.num (l.take (j + 1)) = Cp.num (l.take j) * 256 + l[j].toNat := by
  rw [List.take_succ_eq_append_getElem hj, Cp.num_snoc]
theorem num_small (l : List UInt8) (j : Nat) (hj : j < l.length) (hl : l.length ≤ 4) : Cp.num (l.take j) ≤ 16777215 := by
  have h := Cp.num_lt (l.take j)
  have h2 : (l.take j).length ≤ 3 := by simp; omega
  have h3 : 256 ^ (l.take j).length ≤ 256 ^ 3 := Nat.pow_le_pow_right (by omega) h2
  omega
theorem bytes_len_le (r : Cp.Rd) (k : Nat) : (r.bytes k).1.length ≤ k := by
  unfold Cp.Rd.bytes
  simp only
  generalize (if (k : Int) < 0 then r.fail 1 else if (r.rest.length : Int) < k then r.fail 10 else r) = x
  split
  · simp; omega
  · simp
set_option maxRecDepth 100000 in
set_option maxHeartbeats 400000 in
theorem int_any (g : Nat) (r : Cp.Rd) (k : Nat) (w : World) (h : Blk w g 176 (rdCells r)) (hk : k = 1 ∨ k = 2 ∨ k = 4) :
    Calls Tryz.prog 76 #[.pointer (some ⟨g, 0, none⟩), .int .i64 k] w fun e w' => e = .returned (.int .i64 (r.int k).1) ∧ Blk w' g 176 (rdCells (r.int k).2) ∧ w.grownBy w' (some g) := by
  unfold Cp.Rd.int
  have hlen : (r.bytes k).1.length ≤ 4 := by have := bytes_len_le r k; omega
  have hb0 := bytes_any g r k w h
  have hglt := h.lt
  generalize hl : (r.bytes k).1 = l at *
  generalize hr : (r.bytes k).2 = r' at *
  have HL := Lib.hid hl
  have HR := Lib.hid hr
  have HB := Lib.hid hb0
  clear hl hr hb0
  go_enter Tryz.func76, Tryz.ntmps76
  go_wp2_with (first | (go_at_call 117; refine (sized_yes _ (by omega) _).mono ?_; rintro e w' ⟨rfl, rfl⟩) | (go_at_call 111; refine HB.out.mono ?_; rintro e w1 ⟨rfl, hB, hg⟩; obtain ⟨cap, w2, hrun, hg2, hcells⟩ := bytes_of_str (P := Tryz.prog) w1 l Tryz.underlying9 Tryz.underlying57 Tryz.underlying5))
  go_loop [5, 18] (fun n i => ∃ j : Nat, j ≤ l.length ∧ i = .int .i64 j ∧ n = .int .i64 (Cp.num (l.take j))) (fun _ i => l.length - (intOf i).toNat)
  case atStart => exact ⟨0, by omega, rfl, rfl⟩
  case round =>
    obtain ⟨j, hj, rfl, rfl⟩ := hrel
    by_cases hlt : j < l.length
    · have hc := hcells j hlt
      have hnx := num_take_succ l j hlt
      have hb24 := num_small l j hlt hlen
      have hb8 := l[j].toNat_lt
      have HNX := Lib.hid hnx
      clear hnx hcells
      go_wp2
      exact ⟨⟨j + 1, by omega, by go_num, by rw [or_byte _ _ hb24 hb8, HNX.out]⟩, by simp [intOf]; omega⟩
    · clear hcells
      go_wp2
      go_ret
      refine ⟨?_, ?_, ?_⟩
      · rw [List.take_of_length_le (by omega)]; rfl
      · have := hB.grown hg2 (by simp); exact this
      · exact hg.trans (grown_of_none hg2 _)
end Go.Proofs.YtlgbcogdogpihaaGreatDoor
namespace Go.Proofs.YtlgbcogdogpihaaGreatDoor
open Go.RowKit
theorem be_cons (k n : Nat) : Cp.be (k + 1) n = UInt8.ofNat (n / 256 ^ k % 256) :: Cp.be k n := by
  induction k generalizing n with
  | zero => simp [Cp.be]
  | succ k ih =>
    have e : Cp.be (k + 1) n = Cp.be k (n / 256) ++ [UInt8.ofNat (n % 256)] := rfl
    rw [Cp.be, ih (n / 256), List.cons_append, ← e, Nat.div_div_eq_div_mul, Nat.pow_succ, Nat.mul_comm (256 ^ k)]
theorem str_append (a b : List UInt8) : (⟨a.toArray⟩ : ByteArray) ++ ⟨b.toArray⟩ = ⟨(a ++ b).toArray⟩ := by
  apply ByteArray.ext; simp
set_option maxRecDepth 100000 in
set_option maxHeartbeats 400000 in
theorem rput1_pos (n : Nat) (w : World) (h : n ≤ 9223372036854775807) : Calls Tryz.prog 91 #[.int .i64 1, .int .i64 (n : Int)] w fun e w' => e = .returned (.tuple #[.string ⟨(Cp.be 1 n).toArray⟩, .bool (Cp.fits 1 n)]) ∧ Below w.heap.size w w' := by
  have hst := fun (W : World) (x : Int) => str_of_new (P := Tryz.prog) W x 5 1 Tryz.underlying57 Tryz.underlying5 Tryz.underlying9
  go_enter Tryz.func91, Tryz.ntmps91
  go_wp2
  go_loopw [1, 6, 7] (fun m s i wr => ∃ j : Nat, j ≤ 1 ∧ i = .int .i64 j ∧ m = .int .i64 ((n / 256 ^ j : Nat) : Int) ∧ s = .string ⟨(Cp.be j n).toArray⟩ ∧ Below w.heap.size w wr) (fun _ _ i _ => 1 - (intOf i).toNat)
  case atStart => exact ⟨0, by omega, rfl, by simp, rfl, Below.refl _ _⟩
  case round =>
    obtain ⟨j, hj, rfl, rfl, rfl, hb⟩ := hrel
    have hd : n / 256 ^ j ≤ n := Nat.div_le_self _ _
    by_cases hlt : j < 1
    · have hlen : (Cp.be j n).length ≤ 4 := by rw [Cp.be_length]; omega
      have hcons := be_cons j n
      have hdd : n / 256 ^ (j + 1) = n / 256 ^ j / 256 := by rw [Nat.pow_succ, Nat.div_div_eq_div_mul]
      have HC := Lib.hid hcons
      have HD := Lib.hid hdd
      clear hcons hdd
      generalize n / 256 ^ j = m at *
      go_wp2
      go_roundw
      case rel =>
        refine ⟨j + 1, by omega, by go_num, ?_, ?_, hb.alloc hb.size _⟩
        · rw [HD.out]; simp
        · rw [HC.out]; exact congrArg Value.string (str_append [_] _)
      case measure => simp [intOf]; omega
    · obtain rfl : j = 1 := by omega
      have hz : (((n / 256 ^ 1 : Nat) : Int) == 0) = Cp.fits 1 n := by
        rw [Bool.eq_iff_iff]; unfold Cp.fits; simp; omega
      have HZ := Lib.hid hz
      clear hz
      generalize n / 256 ^ 1 = m at *
      go_wp2
      go_ret2
      exact ⟨by rw [← HZ.out]; rfl, hb⟩
set_option maxRecDepth 100000 in
theorem rput1_neg (n : Int) (w : World) (h : n < 0) : Calls Tryz.prog 91 #[.int .i64 1, .int .i64 n] w fun e w' => e = .returned (.tuple #[.string ⟨#[]⟩, .bool false]) ∧ w = w' := by
  go_enter Tryz.func91, Tryz.ntmps91
  go_wp2
  go_ret2
  exact ⟨rfl, rfl⟩
theorem rput1_any (n : Int) (w : World) (h : n ≤ 9223372036854775807) : Calls Tryz.prog 91 #[.int .i64 1, .int .i64 n] w fun e w' => (∃ t : List UInt8, e = .returned (.tuple #[.string ⟨t.toArray⟩, .bool (Cp.fits 1 n)]) ∧ t.length ≤ 1 ∧ (Cp.fits 1 n = true → t = Cp.be 1 n.toNat)) ∧ Below w.heap.size w w' := by
  by_cases h0 : 0 ≤ n
  · obtain ⟨m, rfl⟩ := Int.eq_ofNat_of_zero_le h0
    exact (rput1_pos m w (by omega)).mono fun e w' ⟨he, hb⟩ => ⟨⟨_, he, by rw [Cp.be_length]; omega, fun _ => rfl⟩, hb⟩
  · have hf : Cp.fits 1 n = false := by unfold Cp.fits; simp; omega
    rw [hf]
    exact (rput1_neg n w (by omega)).mono fun e w' ⟨he, hw⟩ => ⟨⟨[], he, by simp, fun h => by cases h⟩, hw ▸ Below.refl _ _⟩
set_option maxRecDepth 100000 in
set_option maxHeartbeats 400000 in
theorem rput2_pos (n : Nat) (w : World) (h : n ≤ 9223372036854775807) : Calls Tryz.prog 91 #[.int .i64 2, .int .i64 (n : Int)] w fun e w' => e = .returned (.tuple #[.string ⟨(Cp.be 2 n).toArray⟩, .bool (Cp.fits 2 n)]) ∧ Below w.heap.size w w' := by
  have hst := fun (W : World) (x : Int) => str_of_new (P := Tryz.prog) W x 5 1 Tryz.underlying57 Tryz.underlying5 Tryz.underlying9
  go_enter Tryz.func91, Tryz.ntmps91
  go_wp2
  go_loopw [1, 6, 7] (fun m s i wr => ∃ j : Nat, j ≤ 2 ∧ i = .int .i64 j ∧ m = .int .i64 ((n / 256 ^ j : Nat) : Int) ∧ s = .string ⟨(Cp.be j n).toArray⟩ ∧ Below w.heap.size w wr) (fun _ _ i _ => 2 - (intOf i).toNat)
  case atStart => exact ⟨0, by omega, rfl, by simp, rfl, Below.refl _ _⟩
  case round =>
    obtain ⟨j, hj, rfl, rfl, rfl, hb⟩ := hrel
    have hd : n / 256 ^ j ≤ n := Nat.div_le_self _ _
    by_cases hlt : j < 2
    · have hlen : (Cp.be j n).length ≤ 4 := by rw [Cp.be_length]; omega
      have hcons := be_cons j n
      have hdd : n / 256 ^ (j + 1) = n / 256 ^ j / 256 := by rw [Nat.pow_succ, Nat.div_div_eq_div_mul]
      have HC := Lib.hid hcons
      have HD := Lib.hid hdd
      clear hcons hdd
      generalize n / 256 ^ j = m at *
      go_wp2
      go_roundw
      case rel =>
        refine ⟨j + 1, by omega, by go_num, ?_, ?_, hb.alloc hb.size _⟩
        · rw [HD.out]; simp
        · rw [HC.out]; exact congrArg Value.string (str_append [_] _)
      case measure => simp [intOf]; omega
    · obtain rfl : j = 2 := by omega
      have hz : (((n / 256 ^ 2 : Nat) : Int) == 0) = Cp.fits 2 n := by
        rw [Bool.eq_iff_iff]; unfold Cp.fits; simp; omega
      have HZ := Lib.hid hz
      clear hz
      generalize n / 256 ^ 2 = m at *
      go_wp2
      go_ret2
      exact ⟨by rw [← HZ.out]; rfl, hb⟩
set_option maxRecDepth 100000 in
theorem rput2_neg (n : Int) (w : World) (h : n < 0) : Calls Tryz.prog 91 #[.int .i64 2, .int .i64 n] w fun e w' => e = .returned (.tuple #[.string ⟨#[]⟩, .bool false]) ∧ w = w' := by
  go_enter Tryz.func91, Tryz.ntmps91
  go_wp2
  go_ret2
  exact ⟨rfl, rfl⟩
theorem rput2_any (n : Int) (w : World) (h : n ≤ 9223372036854775807) : Calls Tryz.prog 91 #[.int .i64 2, .int .i64 n] w fun e w' => (∃ t : List UInt8, e = .returned (.tuple #[.string ⟨t.toArray⟩, .bool (Cp.fits 2 n)]) ∧ t.length ≤ 2 ∧ (Cp.fits 2 n = true → t = Cp.be 2 n.toNat)) ∧ Below w.heap.size w w' := by
  by_cases h0 : 0 ≤ n
  · obtain ⟨m, rfl⟩ := Int.eq_ofNat_of_zero_le h0
    exact (rput2_pos m w (by omega)).mono fun e w' ⟨he, hb⟩ => ⟨⟨_, he, by rw [Cp.be_length]; omega, fun _ => rfl⟩, hb⟩
  · have hf : Cp.fits 2 n = false := by unfold Cp.fits; simp; omega
    rw [hf]
    exact (rput2_neg n w (by omega)).mono fun e w' ⟨he, hw⟩ => ⟨⟨[], he, by simp, fun h => by cases h⟩, hw ▸ Below.refl _ _⟩
set_option maxRecDepth 100000 in
set_option maxHeartbeats 400000 in
theorem rput4_pos (n : Nat) (w : World) (h : n ≤ 9223372036854775807) : Calls Tryz.prog 91 #[.int .i64 4, .int .i64 (n : Int)] w fun e w' => e = .returned (.tuple #[.string ⟨(Cp.be 4 n).toArray⟩, .bool (Cp.fits 4 n)]) ∧ Below w.heap.size w w' := by
  have hst := fun (W : World) (x : Int) => str_of_new (P := Tryz.prog) W x 5 1 Tryz.underlying57 Tryz.underlying5 Tryz.underlying9
  go_enter Tryz.func91, Tryz.ntmps91
  go_wp2
  go_loopw [1, 6, 7] (fun m s i wr => ∃ j : Nat, j ≤ 4 ∧ i = .int .i64 j ∧ m = .int .i64 ((n / 256 ^ j : Nat) : Int) ∧ s = .string ⟨(Cp.be j n).toArray⟩ ∧ Below w.heap.size w wr) (fun _ _ i _ => 4 - (intOf i).toNat)
  case atStart => exact ⟨0, by omega, rfl, by simp, rfl, Below.refl _ _⟩
  case round =>
    obtain ⟨j, hj, rfl, rfl, rfl, hb⟩ := hrel
    have hd : n / 256 ^ j ≤ n := Nat.div_le_self _ _
    by_cases hlt : j < 4
    · have hlen : (Cp.be j n).length ≤ 4 := by rw [Cp.be_length]; omega
      have hcons := be_cons j n
      have hdd : n / 256 ^ (j + 1) = n / 256 ^ j / 256 := by rw [Nat.pow_succ, Nat.div_div_eq_div_mul]
      have HC := Lib.hid hcons
      have HD := Lib.hid hdd
      clear hcons hdd
      generalize n / 256 ^ j = m at *
      go_wp2
      go_roundw
      case rel =>
        refine ⟨j + 1, by omega, by go_num, ?_, ?_, hb.alloc hb.size _⟩
        · rw [HD.out]; simp
        · rw [HC.out]; exact congrArg Value.string (str_append [_] _)
      case measure => simp [intOf]; omega
    · obtain rfl : j = 4 := by omega
      have hz : (((n / 256 ^ 4 : Nat) : Int) == 0) = Cp.fits 4 n := by
        rw [Bool.eq_iff_iff]; unfold Cp.fits; simp; omega
      have HZ := Lib.hid hz
      clear hz
      generalize n / 256 ^ 4 = m at *
      go_wp2
      go_ret2
      exact ⟨by rw [← HZ.out]; rfl, hb⟩
set_option maxRecDepth 100000 in
theorem rput4_neg (n : Int) (w : World) (h : n < 0) : Calls Tryz.prog 91 #[.int .i64 4, .int .i64 n] w fun e w' => e = .returned (.tuple #[.string ⟨#[]⟩, .bool false]) ∧ w = w' := by
  go_enter Tryz.func91, Tryz.ntmps91
  go_wp2
  go_ret2
  exact ⟨rfl, rfl⟩
theorem rput4_any (n : Int) (w : World) (h : n ≤ 9223372036854775807) : Calls Tryz.prog 91 #[.int .i64 4, .int .i64 n] w fun e w' => (∃ t : List UInt8, e = .returned (.tuple #[.string ⟨t.toArray⟩, .bool (Cp.fits 4 n)]) ∧ t.length ≤ 4 ∧ (Cp.fits 4 n = true → t = Cp.be 4 n.toNat)) ∧ Below w.heap.size w w' := by
  by_cases h0 : 0 ≤ n
  · obtain ⟨m, rfl⟩ := Int.eq_ofNat_of_zero_le h0
    exact (rput4_pos m w (by omega)).mono fun e w' ⟨he, hb⟩ => ⟨⟨_, he, by rw [Cp.be_length]; omega, fun _ => rfl⟩, hb⟩
  · have hf : Cp.fits 4 n = false := by unfold Cp.fits; simp; omega
    rw [hf]
    exact (rput4_neg n w (by omega)).mono fun e w' ⟨he, hw⟩ => ⟨⟨[], he, by simp, fun h => by cases h⟩, hw ▸ Below.refl _ _⟩

theorem idx_step (l : List UInt8) (j : Nat) (hj : j < l.length) (a : Nat) (ha : a ≤ 16777215) : Value.int .i64 (wrap64 ((a : Int) * 256 + wrap64 ((ByteArray.mk l.toArray)[j]'(show j < l.toArray.size by simpa using hj)).toNat)) = Value.int .i64 ((a * 256 + l[j].toNat : Nat) : Int) := by
  have e : (ByteArray.mk l.toArray)[j]'(show j < l.toArray.size by simpa using hj) = l[j] := rfl
  have h8 := l[j].toNat_lt
  rw [e, IntWalk.wrap64_in (l[j].toNat : Int) ⟨by omega, by omega⟩, IntWalk.wrap64_in _ ⟨by omega, by omega⟩]
  go_num
set_option maxRecDepth 100000 in
set_option maxHeartbeats 400000 in
theorem rint_any (l : List UInt8) (w : World) (hl : l.length ≤ 4) : Calls Tryz.prog 94 #[.string ⟨l.toArray⟩] w fun e w' => e = .returned (.int .i64 (Cp.num l)) ∧ w = w' := by
  go_enter Tryz.func94, Tryz.ntmps94
  go_wp2
  go_loop [3, 4] (fun n i => ∃ j : Nat, j ≤ l.length ∧ i = .int .i64 j ∧ n = .int .i64 (Cp.num (l.take j))) (fun _ i => l.length - (intOf i).toNat)
  case atStart => exact ⟨0, by omega, rfl, rfl⟩
  case round =>
    obtain ⟨j, hj, rfl, rfl⟩ := hrel
    by_cases hlt : j < l.length
    · have hnx := num_take_succ l j hlt
      have hb24 := num_small l j hlt hl
      have HNX := Lib.hid hnx
      clear hnx
      go_wp2
      exact ⟨⟨j + 1, by omega, by go_num, by rw [HNX.out]; exact idx_step l j hlt _ hb24⟩, by simp [intOf]; omega⟩
    · go_wp2
      go_ret
      exact ⟨by rw [List.take_of_length_le (by omega)]; rfl, rfl⟩
end Go.Proofs.YtlgbcogdogpihaaGreatDoor
namespace Go.Proofs.YtlgbcogdogpihaaGreatDoor
open Go.RowKit
theorem putS_len (k : Nat) (n : Int) : (Cp.putS k n).length ≤ k := by
  unfold Cp.putS; split <;> simp [Cp.be_length]
theorem put4_ex (n : Int) (w : World) : Calls Tryz.prog 74 #[.int .i64 4, .int .i64 n] w fun e w' => (∃ (S : List UInt8) (E : Int), e = .returned (.tuple #[.string ⟨S.toArray⟩, .int .i64 E]) ∧ S.length ≤ 4 ∧ Hid (S = Cp.putS 4 n ∧ E = Cp.putE 4 n)) ∧ Below w.heap.size w w' :=
  (put4_any n w).mono fun _ _ ⟨he, hb⟩ => ⟨⟨_, _, he, putS_len 4 n, ⟨rfl, rfl⟩⟩, hb⟩
theorem put2_ex (n : Int) (w : World) : Calls Tryz.prog 74 #[.int .i64 2, .int .i64 n] w fun e w' => (∃ (S : List UInt8) (E : Int), e = .returned (.tuple #[.string ⟨S.toArray⟩, .int .i64 E]) ∧ S.length ≤ 2 ∧ Hid (S = Cp.putS 2 n ∧ E = Cp.putE 2 n)) ∧ Below w.heap.size w w' :=
  (put2_any n w).mono fun _ _ ⟨he, hb⟩ => ⟨⟨_, _, he, putS_len 2 n, ⟨rfl, rfl⟩⟩, hb⟩
/-- the text and the error of Body's loop -/
def bS (next : Int) (l : List Run) (k : Nat) : List UInt8 := Cp.putS 4 next ++ Cp.putS 2 l.length ++ (l.take k).flatMap (fun r => Cp.putS 4 r.1 ++ Cp.putS 4 r.2)
def bE (next : Int) (l : List Run) (k : Nat) : Int := if Cp.fits 4 next && (l.take k).all Cp.okRun then 0 else 1
theorem bS_succ (next : Int) (l : List Run) (k : Nat) (hk : k < l.length) : bS next l (k + 1) = bS next l k ++ (Cp.putS 4 l[k].1 ++ Cp.putS 4 l[k].2) := by
  unfold bS; rw [List.take_succ_eq_append_getElem hk, List.flatMap_append]; simp
theorem bE_succ (next : Int) (l : List Run) (k : Nat) (hk : k < l.length) : bE next l (k + 1) = if Cp.okRun l[k] then bE next l k else 1 := by
  unfold bE; rw [List.take_succ_eq_append_getElem hk, List.all_append]
  rw [show [l[k]].all Cp.okRun = Cp.okRun l[k] by simp, ← Bool.and_assoc]
  generalize (Cp.fits 4 next && (l.take k).all Cp.okRun) = x
  generalize Cp.okRun l[k] = y
  cases x <;> cases y <;> rfl
theorem bS_len (next : Int) (l : List Run) (k : Nat) : (bS next l k).length ≤ 6 + 8 * k := by
  induction k with
  | zero => unfold bS; have := putS_len 4 next; have := putS_len 2 l.length; simp; omega
  | succ k ih =>
    by_cases hk : k < l.length
    · rw [bS_succ next l k hk]; have := putS_len 4 l[k].1; have := putS_len 4 l[k].2; simp; omega
    · have e : bS next l (k + 1) = bS next l k := by unfold bS; rw [List.take_of_length_le (by omega), List.take_of_length_le (by omega)]
      rw [e]; omega
theorem flat_putS (l : List Run) (h : l.all Cp.okRun = true) : l.flatMap (fun r => Cp.putS 4 r.1 ++ Cp.putS 4 r.2) = l.flatMap Cp.runBytes := by
  induction l with
  | nil => rfl
  | cons r l ih =>
    rw [List.all_cons, Bool.and_eq_true] at h
    rw [List.flatMap_cons, List.flatMap_cons, ih h.2]
    have h1 := h.1
    unfold Cp.okRun at h1
    rw [Bool.and_eq_true, Bool.and_eq_true] at h1
    rw [Cp.putS, if_pos h1.1.1, Cp.putS, if_pos h1.1.2]
    rfl
theorem body_of (next : Int) (l : List Run) (hl : l.length ≤ 29) : (bE next l l.length = 0 ∧ Cp.body next l = some (bS next l l.length)) ∨ (bE next l l.length = 1 ∧ Cp.body next l = none) := by
  unfold bE Cp.body bS
  rw [List.take_of_length_le (Nat.le_refl _)]
  have h29 : decide (l.length ≤ 29) = true := by simpa using hl
  rw [h29, Bool.and_true]
  have hf : Cp.fits 2 (l.length : Int) = true := by unfold Cp.fits; simp; omega
  by_cases h : (Cp.fits 4 next && l.all Cp.okRun) = true
  · rw [if_pos h, if_pos h]
    rw [Bool.and_eq_true] at h
    refine .inl ⟨rfl, ?_⟩
    rw [Cp.putS, if_pos h.1, Cp.putS, if_pos hf, flat_putS l h.2]
    simp
  · rw [if_neg h, if_neg h]
    exact .inr ⟨rfl, rfl⟩
/-- what Body answers, as two values -/
def bodyV (o : Option (List UInt8)) : Value := match o with
  | some s => .tuple #[.string ⟨s.toArray⟩, .int .i64 0]
  | none => .tuple #[.string ⟨#[]⟩, .int .i64 1]
set_option maxRecDepth 100000 in
set_option maxHeartbeats 1000000 in
theorem body_any (next : Int) (A : Option Addr) (c : Nat) (l : List Run) (w : World) (hr : RS w w.heap.size A l) (hl : l.length ≤ 1000000) :
    Calls Tryz.prog 36 #[.int .i64 next, .slice A l.length c] w fun e w' => e = .returned (bodyV (Cp.body next l)) ∧ Below w.heap.size w w' := by
  by_cases h29 : l.length ≤ 29
  · have hfin := body_of next l h29
    have HF := Lib.hid hfin
    clear hfin
    go_enter Tryz.func36, Tryz.ntmps36
    go_wp2_with fail
    refine (put4_ex next _).mono ?_
    rintro e w1 ⟨⟨S1, E1, rfl, hs1, HS1⟩, hb1⟩
    go_wp2_with fail
    refine (put2_ex (l.length : Int) _).mono ?_
    rintro e w2 ⟨⟨S2, E2, rfl, hs2, HS2⟩, hb2⟩
    have hbw : Below w.heap.size w w2 := hb1.trans (hb2.mono hb1.size)
    go_wp2
    go_loopw [6, 7, 35] (fun s e i wr => ∃ k : Nat, k ≤ l.length ∧ i = .int .i64 k ∧ s = .string ⟨(bS next l k).toArray⟩ ∧ e = .int .i64 (bE next l k) ∧ Below w.heap.size w wr) (fun _ _ i _ => l.length - (intOf i).toNat)
    case atStart => exact ⟨0, by omega, rfl, by rw [str_append, HS1.out.1, HS2.out.1]; unfold bS; simp, by rw [HS1.out.2]; unfold bE Cp.putE; simp, hbw⟩
    case round =>
      obtain ⟨k, hk, rfl, rfl, rfl, hb⟩ := hrel
      by_cases hlt : k < l.length
      · obtain ⟨b1, o1, rfl, _, g0, g1⟩ := (hr.below hb).at_ hlt
        have hsl := bS_len next l k
        have hss := bS_succ next l k hlt
        have hes := bE_succ next l k hlt
        have HSS := Lib.hid hss
        have HES := Lib.hid hes
        clear hss hes
        generalize l[k] = y at *
        obtain ⟨a, b⟩ := y
        simp only at *
        generalize hS : bS next l k = S at *
        generalize hE : bE next l k = E at *
        clear hS hE
        go_wp2_with fail
        refine (put4_ex a _).mono ?_
        rintro e w3 ⟨⟨S3, E3, rfl, hs3, HS3⟩, hb3⟩
        have c1 : w3.cell? ⟨wr.heap.size, 1, none⟩ = some (.int .i64 b) := (hb3.cell (by simp)).trans ((Blk.new wr _ _).cell 1)
        go_wp2_with fail
        refine (put4_ex b _).mono ?_
        rintro e w4 ⟨⟨S4, E4, rfl, hs4, HS4⟩, hb4⟩
        have c2 : w4.cell? ⟨wr.heap.size, 1, none⟩ = some (.int .i64 b) := (hb4.cell (by have := hb3.size; simp at this; simp; omega)).trans c1
        have c3 : w4.cell? ⟨wr.heap.size, 0, none⟩ = some (.int .i64 a) := (hb4.cell (by have := hb3.size; simp at this; simp; omega)).trans ((hb3.cell (by simp)).trans ((Blk.new wr _ _).cell 0))
        have hbb : Below w.heap.size w w4 := ((hb.alloc hb.size _).trans (hb3.mono (by have := hb.size; simp; omega))).trans (hb4.mono (by have := hb.size; have := hb3.size; simp at this; omega))
        clear c1
        have hk : Cp.okRun (a, b) = (decide (E3 = 0) && decide (E4 = 0) && decide (a ≤ b)) := by
          rw [HS3.out.2, HS4.out.2]; unfold Cp.okRun Cp.putE; simp
        have hok := Lib.hid hk
        clear hk
        have he3 : E3 = 0 ∨ E3 = 1 := by rw [HS3.out.2]; unfold Cp.putE; split <;> simp
        have he4 : E4 = 0 ∨ E4 = 1 := by rw [HS4.out.2]; unfold Cp.putE; split <;> simp
        rcases he3 with rfl | rfl
        · rcases he4 with rfl | rfl
          · by_cases hab : a ≤ b
            · go_wp2
              go_roundw
              case rel => exact ⟨k + 1, by omega, by go_num, by rw [str_append, str_append, HSS.out, HS3.out.1, HS4.out.1], by rw [HES.out, hok.out, decide_eq_true hab]; simp, hbb⟩
              case measure => simp [intOf]; omega
            · go_wp2
              go_roundw
              case rel => exact ⟨k + 1, by omega, by go_num, by rw [str_append, str_append, HSS.out, HS3.out.1, HS4.out.1], by rw [HES.out, hok.out, decide_eq_false (Int.not_le.2 hab)]; simp, hbb⟩
              case measure => simp [intOf]; omega
          · go_wp2
            go_roundw
            case rel => exact ⟨k + 1, by omega, by go_num, by rw [str_append, str_append, HSS.out, HS3.out.1, HS4.out.1], by rw [HES.out, hok.out]; simp, hbb⟩
            case measure => simp [intOf]; omega
        · go_wp2
          go_roundw
          case rel => exact ⟨k + 1, by omega, by go_num, by rw [str_append, str_append, HSS.out, HS3.out.1, HS4.out.1], by rw [HES.out, hok.out]; simp, hbb⟩
          case measure => simp [intOf]; omega
      · obtain rfl : k = l.length := by omega
        rcases HF.out with ⟨he, hs⟩ | ⟨he, hs⟩
        · rw [he]
          have H1 := Lib.hid he
          have H2 := Lib.hid hs
          clear he hs
          generalize bS next l l.length = S at *
          go_wp2
          go_ret2
          exact ⟨by rw [H2.out]; rfl, hb⟩
        · rw [he]
          have H1 := Lib.hid he
          have H2 := Lib.hid hs
          clear he hs
          generalize bS next l l.length = S at *
          go_wp2
          go_ret2
          exact ⟨by rw [H2.out]; rfl, hb⟩
  · have hn : Cp.body next l = none := by unfold Cp.body; rw [if_neg]; simp; omega
    have H2 := Lib.hid hn
    clear hn
    go_enter Tryz.func36, Tryz.ntmps36
    go_wp2
    go_ret2
    exact ⟨by rw [H2.out]; rfl, Below.refl _ _⟩
end Go.Proofs.YtlgbcogdogpihaaGreatDoor
namespace Go.Proofs.YtlgbcogdogpihaaGreatDoor
open Go.RowKit
theorem readRuns_snoc (k : Nat) : ∀ (r : Cp.Rd), Cp.readRuns (k + 1) r = ((Cp.readRuns k r).1 ++ [(Cp.readRuns k r).2.two.1], (Cp.readRuns k r).2.two.2) := by
  induction k with
  | zero => intro r; simp [Cp.readRuns]
  | succ k ih =>
    intro r
    rw [Cp.readRuns, ih r.two.2]
    simp [Cp.readRuns]
/-- what Parse answers: the number, the runs, whether there is one -/
def pRes (o : Option (Int × List Run)) : Int × List Run × Bool := match o with
  | none => (0, [], false)
  | some (n, l) => (n, l, true)
/-- how chain.Parse ends -/
def ParseEnd (o : Option (Int × List Run)) (w : World) (e : Ending) (w' : World) : Prop :=
  ∃ (n : Int) (v : Value) (l : List Run) (x : Int), e = .returned (.tuple #[.int .i64 n, v, .int .i64 x]) ∧ Own w' w.heap.size v l ∧ Below w.heap.size w w' ∧ (o = none ∧ n = 0 ∧ l = [] ∧ x = 3 ∨ o = some (n, l) ∧ x = 0)
set_option maxRecDepth 100000 in
set_option maxHeartbeats 1000000 in
theorem parse_any (s : List UInt8) (w : World) :
    Calls Tryz.prog 37 #[.string ⟨s.toArray⟩] w (ParseEnd (Cp.prog s) w) := by
  obtain ⟨o, ho⟩ : ∃ o, o = Cp.prog s := ⟨_, rfl⟩
  rw [← ho]
  have HO := Lib.hid ho
  clear ho
  have hprog : ∀ r1 r2 : Cp.Rd, r1 = ((Cp.Rd.mk s 0).int 4).2 → r2 = (r1.int 2).2 → Cp.prog s = if Cp.body ((Cp.Rd.mk s 0).int 4).1 (Cp.readRuns (min (r1.int 2).1 29) r2).1 = some s then some ((((Cp.Rd.mk s 0).int 4).1 : Int), (Cp.readRuns (min (r1.int 2).1 29) r2).1) else none := by
    intro r1 r2 h1 h2; subst h2; subst h1; rfl
  have HP := Lib.hid hprog
  clear hprog
  go_enter Tryz.func37, Tryz.ntmps37
  go_wp2_with fail
  refine (read_any s _).mono ?_
  rintro e w1 ⟨rfl, hw1⟩
  have hB0 : Blk w1 w.heap.size 176 (rdCells ⟨s, 0⟩) := by rw [hw1]; exact Blk.new _ _ _
  have hb0 : Below w.heap.size w w1 := by rw [hw1]; exact (Below.refl _ _).alloc (Nat.le_refl _) _
  clear hw1
  go_wp2_with fail
  refine (int_any w.heap.size ⟨s, 0⟩ 4 _ hB0 (by omega)).mono ?_
  generalize hn1 : ((Cp.Rd.mk s 0).int 4).1 = next
  generalize hr1 : ((Cp.Rd.mk s 0).int 4).2 = r1
  have HN := Lib.hid hn1
  have HR1 := Lib.hid hr1
  clear hn1 hr1
  rintro e w2 ⟨rfl, hB1, hg1⟩
  go_wp2_with fail
  refine (int_any w.heap.size r1 2 _ hB1 (by omega)).mono ?_
  generalize hn2 : (r1.int 2).1 = n
  generalize hr2 : (r1.int 2).2 = r2
  have HN2 := Lib.hid hn2
  have HR2 := Lib.hid hr2
  clear hn2 hr2
  rintro e w3 ⟨rfl, hB2, hg2⟩
  have hbw : Below w.heap.size w w3 := (hb0.grown hg1 hb0.size (fun k e => by cases e; exact Nat.le_refl _)).grown hg2 (Nat.le_trans hb0.size hg1.size) (fun k e => by cases e; exact Nat.le_refl _)
  have hz3 : w.heap.size < w3.heap.size := hB2.lt
  obtain ⟨m, hm⟩ : ∃ m : Nat, m = min n 29 := ⟨_, rfl⟩
  have hmi : min (n : Int) 29 = (m : Int) := by omega
  have hm29 : m ≤ 29 := by omega
  have HM := Lib.hid hm
  clear hm
  go_wp2
  go_loopw [8, 20] (fun v i wr => ∃ k : Nat, k ≤ m ∧ i = .int .i64 k ∧ Own wr w3.heap.size v (Cp.readRuns k r2).1 ∧ Blk wr w.heap.size 176 (rdCells (Cp.readRuns k r2).2) ∧ Below w.heap.size w wr ∧ w3.heap.size ≤ wr.heap.size) (fun _ i _ => m - (intOf i).toNat)
  case atStart => exact ⟨0, by omega, rfl, Own.nil_ _ _, hB2, hbw, Nat.le_refl _⟩
  case round =>
    obtain ⟨k, hk, rfl, hown, hB, hb, hz⟩ := hrel
    have hlen := Cp.readRuns_length k r2
    by_cases hlt : k < m
    · have hsn := readRuns_snoc k r2
      generalize (Cp.readRuns k r2).1 = l at *
      generalize (Cp.readRuns k r2).2 = R at *
      have HSN := Lib.hid hsn
      clear hsn
      have hle : l.length ≤ 29 := by omega
      have HLEN := Lib.hid hlen
      clear hlen
      go_wp2_with fail
      refine (int_any w.heap.size R 4 _ hB (by omega)).mono ?_
      unfold Cp.Rd.two at HSN
      generalize (R.int 4).1 = a at *
      generalize (R.int 4).2 = R1 at *
      rintro e w4 ⟨rfl, hB4, hg4⟩
      go_wp2_with fail
      refine (int_any w.heap.size R1 4 _ hB4 (by omega)).mono ?_
      generalize (R1.int 4).1 = b at *
      generalize (R1.int 4).2 = R2 at *
      rintro e w5 ⟨rfl, hB5, hg5⟩
      have hg45 : wr.grownBy w5 (some w.heap.size) := hg4.trans hg5
      have hne : u8.ownBlock ≠ some w.heap.size := fun e => by have := (hown.lt _ e).1; omega
      have hown5 : w5.ownsRow w3.heap.size 62 2 u8 l.length (cellsR l) := World.ownsRow.kept hown hg45 (.inr hne)
      have hz5 : w3.heap.size ≤ w5.heap.size := Nat.le_trans hz hg45.size
      have hb5 : Below w.heap.size w w5 := hb.grown hg45 hb.size (fun k e => by cases e; exact Nat.le_refl _)
      go_wp2_with (at_builtin; refine wpList_app1 rfl _ _ 22 rfl eiRun Tryz.underlying22 rfl (by decide) rfl hown5 rfl (by simp) rfl (by simp [Value.oneCell']) (by unfold maxLen; omega) (by omega) hz5 ?_; intro v' w6 hown' hgrow hbel _ _)
      go_roundw
      case rel =>
        refine ⟨k + 1, by omega, by go_num, ?_, ?_, hb5.trans (hbel.mono (by omega)), Nat.le_trans hz5 hbel.size⟩
        · rw [HSN.out]; exact push_own (y := ((a : Int), (b : Int))) hown'
        · rw [HSN.out]; exact hB5.below hbel hz3
      case measure => simp [intOf]; omega
    · obtain rfl : k = m := by omega
      have hpp := HP.out r1 r2 HR1.out.symm (by rw [HR2.out])
      rw [HN2.out, HN.out, ← HM.out] at hpp
      generalize (Cp.readRuns k r2).1 = l at *
      generalize (Cp.readRuns k r2).2 = R at *
      have HPP := Lib.hid hpp
      clear hpp
      have hle : l.length ≤ 1000000 := by omega
      have hle2 : l.length ≤ 29 := by omega
      have HLE := Lib.hid hle2
      clear hlen hle2
      obtain ⟨A, c, rfl⟩ := hown.form
      have hbody := body_any (next : Int) A c l wr hown.rs hle
      cases hbd : Cp.body (next : Int) l with
      | none =>
        rw [hbd] at hbody
        have hpn : Cp.prog s = none := by rw [HPP.out, hbd]; simp
        have HPN := Lib.hid hpn
        have HBD := Lib.hid hbody
        clear hpn hbody hbd
        go_wp2_with (go_at_call 36; refine HBD.out.mono ?_; rintro e w7 ⟨rfl, hb7⟩; simp only [bodyV])
        go_ret3
        exact ⟨0, _, [], 3, rfl, Own.nil_ _ _, hb.trans (hb7.mono hb.size), .inl ⟨by rw [HO.out, HPN.out], rfl, rfl, rfl⟩⟩
      | some S =>
        rw [hbd] at hbody
        have hSl : S.length ≤ 1000 := by have := Cp.body_length hbd; have := HLE.out; omega
        by_cases hS : S = s
        · subst hS
          have hpn : Cp.prog S = some ((next : Int), l) := by rw [HPP.out, hbd]; simp
          have HPN := Lib.hid hpn
          have HBD := Lib.hid hbody
          clear hpn hbody hbd
          go_wp2_with (go_at_call 36; refine HBD.out.mono ?_; rintro e w7 ⟨rfl, hb7⟩; simp only [bodyV])
          go_ret3
          exact ⟨_, _, l, 0, rfl, (hown.below hb7).lower (by omega), hb.trans (hb7.mono hb.size), .inr ⟨by rw [HO.out, HPN.out], rfl⟩⟩
        · have hpn : Cp.prog s = none := by rw [HPP.out, hbd, if_neg]; simpa using hS
          have hne : (S == s) = false := by simpa using hS
          have HPN := Lib.hid hpn
          have HBD := Lib.hid hbody
          clear hpn hbody hbd
          go_wp2_with (go_at_call 36; refine HBD.out.mono ?_; rintro e w7 ⟨rfl, hb7⟩; simp only [bodyV])
          go_ways
          go_ret3
          exact ⟨0, _, [], 3, rfl, Own.nil_ _ _, hb.trans (hb7.mono hb.size), .inl ⟨by rw [HO.out, HPN.out], rfl, rfl, rfl⟩⟩
end Go.Proofs.YtlgbcogdogpihaaGreatDoor
namespace Go.Proofs.YtlgbcogdogpihaaGreatDoor
open Go.RowKit
def rS (next : Int) (l : List Run) (k : Nat) : List UInt8 := Cp.be 4 next.toNat ++ Cp.be 2 l.length ++ (l.take k).flatMap Cp.runBytes
theorem rS_succ (next : Int) (l : List Run) (k : Nat) (hk : k < l.length) : rS next l (k + 1) = rS next l k ++ Cp.be 4 l[k].1.toNat ++ Cp.be 4 l[k].2.toNat := by
  unfold rS; rw [List.take_succ_eq_append_getElem hk, List.flatMap_append]; simp [Cp.runBytes]
theorem rS_len (next : Int) (l : List Run) (k : Nat) (hk : k ≤ l.length) : (rS next l k).length = 6 + 8 * k := by
  unfold rS; rw [List.length_append, List.length_append, Cp.flat_length, Cp.be_length, Cp.be_length]; simp; omega
theorem body_rS (next : Int) (l : List Run) (h1 : Cp.fits 4 next = true) (h2 : l.length ≤ 29) (h3 : ∀ k (hk : k < l.length), Cp.okRun l[k] = true) : Cp.body next l = some (rS next l l.length) := by
  unfold Cp.body rS
  rw [List.take_of_length_le (Nat.le_refl _), if_pos]
  rw [h1]
  simp only [Bool.true_and, Bool.and_eq_true, decide_eq_true_eq]
  refine ⟨h2, List.all_eq_true.2 fun r hr => ?_⟩
  obtain ⟨k, hk, rfl⟩ := List.getElem_of_mem hr
  exact h3 k hk
theorem body_no (next : Int) (l : List Run) (k : Nat) (hk : k < l.length) (h : Cp.okRun l[k] = false) : Cp.body next l = none := by
  unfold Cp.body
  rw [if_neg]
  intro hh
  simp only [Bool.and_eq_true] at hh
  have := List.all_eq_true.1 hh.2 _ (List.getElem_mem hk)
  rw [h] at this; cases this
def rbodyV (o : Option (List UInt8)) : Value := match o with
  | some s => .tuple #[.string ⟨s.toArray⟩, .bool true]
  | none => .tuple #[.string ⟨#[]⟩, .bool false]
theorem rput4_ex (n : Int) (w : World) (h : n ≤ 9223372036854775807) : Calls Tryz.prog 91 #[.int .i64 4, .int .i64 n] w fun e w' => (∃ (S : List UInt8) (b : Bool), e = .returned (.tuple #[.string ⟨S.toArray⟩, .bool b]) ∧ S.length ≤ 4 ∧ Hid (b = Cp.fits 4 n ∧ (b = true → S = Cp.be 4 n.toNat))) ∧ Below w.heap.size w w' :=
  (rput4_any n w h).mono fun _ _ ⟨⟨_, he, hl, ht⟩, hb⟩ => ⟨⟨_, _, he, hl, ⟨rfl, ht⟩⟩, hb⟩
theorem rput2_ex (n : Int) (w : World) (h : n ≤ 9223372036854775807) : Calls Tryz.prog 91 #[.int .i64 2, .int .i64 n] w fun e w' => (∃ (S : List UInt8) (b : Bool), e = .returned (.tuple #[.string ⟨S.toArray⟩, .bool b]) ∧ S.length ≤ 2 ∧ Hid (b = Cp.fits 2 n ∧ (b = true → S = Cp.be 2 n.toNat))) ∧ Below w.heap.size w w' :=
  (rput2_any n w h).mono fun _ _ ⟨⟨_, he, hl, ht⟩, hb⟩ => ⟨⟨_, _, he, hl, ⟨rfl, ht⟩⟩, hb⟩
def Wf64 (n : Int) : Prop := n ≤ 9223372036854775807
set_option maxRecDepth 100000 in
set_option maxHeartbeats 1000000 in
theorem rbody_any (next : Int) (A : Option Addr) (c : Nat) (l : List Run) (w : World) (hr : RS w w.heap.size A l) (hl : l.length ≤ 1000000) (hn : Wf64 next) (hw : ∀ k (hk : k < l.length), Wf64 l[k].1 ∧ Wf64 l[k].2) :
    Calls Tryz.prog 50 #[.int .i64 next, .slice A l.length c] w fun e w' => e = .returned (rbodyV (Cp.body next l)) ∧ Below w.heap.size w w' := by
  go_enter Tryz.func50, Tryz.ntmps50
  go_wp2_with fail
  refine (rput4_ex next _ hn).mono ?_
  rintro e w1 ⟨⟨S1, f1, rfl, hs1, HS1⟩, hb1⟩
  cases f1
  · have hno : Cp.body next l = none := by
      unfold Cp.body; rw [← HS1.out.1]; simp
    have HN := Lib.hid hno
    clear hno
    go_wp2
    go_ret2
    exact ⟨by rw [HN.out]; rfl, hb1⟩
  · by_cases h29 : l.length ≤ 29
    · go_wp2_with fail
      refine (rput2_ex (l.length : Int) _ (by omega)).mono ?_
      rintro e w2 ⟨⟨S2, f2, rfl, hs2, HS2⟩, hb2⟩
      have hbw : Below w.heap.size w w2 := hb1.trans (hb2.mono hb1.size)
      go_wp2
      go_loopw [6, 10] (fun s i wr => ∃ k : Nat, k ≤ l.length ∧ i = .int .i64 k ∧ s = .string ⟨(rS next l k).toArray⟩ ∧ (∀ j (hj : j < l.length), j < k → Cp.okRun l[j] = true) ∧ Below w.heap.size w wr) (fun _ i _ => l.length - (intOf i).toNat)
      case atStart =>
        refine ⟨0, by omega, rfl, ?_, fun j hj h => absurd h (by omega), hbw⟩
        have hf2 : f2 = true := by rw [HS2.out.1]; unfold Cp.fits; simp; omega
        rw [str_append, HS1.out.2 (by first | rfl | trivial), HS2.out.2 hf2]; unfold rS; simp
      case round =>
        obtain ⟨k, hk, rfl, rfl, hok, hb⟩ := hrel
        have HOK := Lib.hid hok
        clear hok
        have hsl := rS_len next l k hk
        have hsl2 : (rS next l k).length ≤ 1000 := by omega
        clear hsl
        by_cases hlt : k < l.length
        · obtain ⟨b1, o1, rfl, hbl, g0, g1⟩ := (hr.below hb).at_ hlt
          have hss := rS_succ next l k hlt
          have HSS := Lib.hid hss
          clear hss
          obtain ⟨w1', w2'⟩ := hw k hlt
          have hno := body_no next l k hlt
          have HNO := Lib.hid hno
          clear hno
          have hyk : ∃ y, y = l[k] := ⟨_, rfl⟩
          obtain ⟨y, hy⟩ := hyk
          rw [← hy] at g0 g1 HSS w1' w2' HNO
          have HY := Lib.hid hy
          clear hy
          obtain ⟨a, b⟩ := y
          simp only at *
          generalize hS : rS next l k = S at *
          clear hS
          have e0 : wr.cell? ⟨b1, o1 + k * 2, none⟩ = some (.int .i64 a) := g0
          go_wp2_with fail
          refine (rput4_ex a _ w1').mono ?_
          rintro e w3 ⟨⟨S3, f3, rfl, hs3, HS3⟩, hb3⟩
          have hblt : b1 < wr.heap.size := Nat.lt_of_lt_of_le hbl hb.size
          have c1 : w3.cell? ⟨b1, o1 + k * 2 + 1, none⟩ = some (.int .i64 b) := (hb3.cell hblt).trans g1
          have c0 : w3.cell? ⟨b1, o1 + k * 2, none⟩ = some (.int .i64 a) := (hb3.cell hblt).trans g0
          go_wp2_with fail
          refine (rput4_ex b _ w2').mono ?_
          rintro e w4 ⟨⟨S4, f4, rfl, hs4, HS4⟩, hb4⟩
          have hblt2 : b1 < w3.heap.size := Nat.lt_of_lt_of_le hblt hb3.size
          have d1 : w4.cell? ⟨b1, o1 + k * 2 + 1, none⟩ = some (.int .i64 b) := (hb4.cell hblt2).trans c1
          have d0 : w4.cell? ⟨b1, o1 + k * 2, none⟩ = some (.int .i64 a) := (hb4.cell hblt2).trans c0
          have hbb : Below w.heap.size w w4 := (hb.trans (hb3.mono hb.size)).trans (hb4.mono (Nat.le_trans hb.size hb3.size))
          clear c0 c1 g0 g1
          have hk' : Cp.okRun (a, b) = (f3 && f4 && decide (a ≤ b)) := by
            rw [HS3.out.1, HS4.out.1]; rfl
          have HK := Lib.hid hk'
          clear hk'
          cases f3
          · go_wp2
            go_quiet (fail)
            go_wp2
            go_ret2
            exact ⟨by rw [HNO.out HK.out]; rfl, below_drewN hbb _⟩
          · cases f4
            · go_wp2
              go_quiet (fail)
              go_wp2
              go_ret2
              exact ⟨by rw [HNO.out HK.out]; rfl, below_drewN hbb _⟩
            · by_cases hab : a ≤ b
              · go_wp2
                go_quiet (fail)
                go_wp2
                go_roundw
                case rel =>
                  refine ⟨k + 1, by omega, by go_num, ?_, ?_, below_drewN hbb _⟩
                  · rw [str_append, str_append, HSS.out, HS3.out.2 (by first | rfl | trivial), HS4.out.2 (by first | rfl | trivial)]
                  · intro j hj hjk
                    by_cases hjk2 : j < k
                    · exact HOK.out j hj hjk2
                    · obtain rfl : j = k := by omega
                      rw [← HY.out, HK.out, decide_eq_true hab]; rfl
                case measure => simp [intOf]; omega
              · go_wp2
                go_quiet (fail)
                go_wp2
                go_ret2
                exact ⟨by rw [HNO.out (by rw [HK.out, decide_eq_false (Int.not_le.2 hab)]; rfl)]; rfl, below_drewN hbb _⟩
        · obtain rfl : k = l.length := by omega
          have hfin := body_rS next l HS1.out.1.symm h29 fun k hk => HOK.out k hk hk
          have HF := Lib.hid hfin
          clear hfin
          generalize rS next l l.length = S at *
          go_wp2
          go_ret2
          exact ⟨by rw [HF.out]; rfl, hb⟩
    · have hno : Cp.body next l = none := by
        unfold Cp.body; rw [if_neg]; simp; omega
      have HN := Lib.hid hno
      clear hno
      go_wp2
      go_ret2
      exact ⟨by rw [HN.out]; rfl, hb1⟩
end Go.Proofs.YtlgbcogdogpihaaGreatDoor
