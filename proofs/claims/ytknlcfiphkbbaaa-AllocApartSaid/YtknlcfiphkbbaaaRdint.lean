/- The walk of (*codec.Reader).Int. -/
import Derived.Test.YtknlcfiphkbbaaaReader
import Derived.Laws.BitsAllLaws
import Derived.Laws.BitsLemmas
namespace Go.Proofs.Ytknlcfiphkbbaaa
open Go.RowKit
theorem ofInt_i64 (a : Nat) (ha : a < 9223372036854775808) : (BitVec.ofInt 64 (a : Int)).toNat = a := by
  rw [BitVec.ofInt_natCast, BitVec.toNat_ofNat]; exact Nat.mod_eq_of_lt (by omega)
theorem i64_and_nat (a b : Nat) (ha : a < 9223372036854775808) (hb : b < 9223372036854775808) : bits .and .i64 (a : Int) (b : Int) = ((a &&& b : Nat) : Int) := by
  have hx : a &&& b < 2 ^ 63 := Nat.and_lt_two_pow _ (by omega)
  show IntKind.i64.wrap ((BitVec.ofInt 64 (a : Int) &&& BitVec.ofInt 64 (b : Int)).toNat : Int) = _
  rw [BitVec.toNat_and, ofInt_i64 a ha, ofInt_i64 b hb, IntKind.wrap_i64]
  omega
theorem i64_or_nat (a b : Nat) (ha : a < 9223372036854775808) (hb : b < 9223372036854775808) : bits .or .i64 (a : Int) (b : Int) = ((a ||| b : Nat) : Int) := by
  have hx : a ||| b < 2 ^ 63 := Nat.or_lt_two_pow (by omega) (by omega)
  show IntKind.i64.wrap ((BitVec.ofInt 64 (a : Int) ||| BitVec.ofInt 64 (b : Int)).toNat : Int) = _
  rw [BitVec.toNat_or, ofInt_i64 a ha, ofInt_i64 b hb, IntKind.wrap_i64]
  omega
theorem i64_xor_nat (a b : Nat) (ha : a < 9223372036854775808) (hb : b < 9223372036854775808) : bits .xor .i64 (a : Int) (b : Int) = ((a ^^^ b : Nat) : Int) := by
  have hx : a ^^^ b < 2 ^ 63 := Nat.xor_lt_two_pow (by omega) (by omega)
  show IntKind.i64.wrap ((BitVec.ofInt 64 (a : Int) ^^^ BitVec.ofInt 64 (b : Int)).toNat : Int) = _
  rw [BitVec.toNat_xor, ofInt_i64 a ha, ofInt_i64 b hb, IntKind.wrap_i64]
  omega
theorem nat_or_byte (a b : Nat) (hb : b < 256) : a * 256 ||| b = a * 256 + b := by
  have h := Nat.shiftLeft_add_eq_or_of_lt (i := 8) (b := b) hb a
  rw [Nat.shiftLeft_eq] at h
  exact h.symm
theorem or_byte (a b : Nat) (ha : a ≤ 16777215) (hb : b < 256) : bits .or .i64 ((a : Int) * 256) (b : Int) = ((a * 256 + b : Nat) : Int) := by
  have h := i64_or_nat (a * 256) b (by omega) (by omega)
  rw [nat_or_byte a b hb] at h
  rw [← h, Int.natCast_mul]
  rfl
theorem num_take_succ (l : List UInt8) (j : Nat) (hj : j < l.length) : Cp.num (l.take (j + 1)) = Cp.num (l.take j) * 256 + l[j].toNat := by
  rw [List.take_succ_eq_append_getElem hj, Cp.num_snoc]
theorem num_small (l : List UInt8) (j : Nat) (hj : j < l.length) (hl : l.length ≤ 4) : Cp.num (l.take j) ≤ 16777215 := by
  have h := Cp.num_lt (l.take j)
  have h2 : (l.take j).length ≤ 3 := by simp; omega
  have h3 : 256 ^ (l.take j).length ≤ 256 ^ 3 := Nat.pow_le_pow_right (by omega) h2
  omega
theorem bytes_len_le (r : Cp.Rd) (k : Nat) : (r.bytes k).1.length ≤ k := by
  unfold Cp.Rd.bytes
  simp only
  generalize (if (k : Int) < 0 then r.fail 1 else if (r.rest.length : Int) < k then r.fail 10 else r) = x
  split
  · simp; omega
  · simp
set_option maxRecDepth 100000 in
set_option maxHeartbeats 400000 in
theorem int_any (g : Nat) (r : Cp.Rd) (k : Nat) (w : World) (h : Blk w g 105 (rdCells r)) (hk : k = 1 ∨ k = 2 ∨ k = 4) :
    Calls Try.prog 34 #[.pointer (some ⟨g, 0, none⟩), .int .i64 k] w fun e w' => e = .returned (.int .i64 (r.int k).1) ∧ Blk w' g 105 (rdCells (r.int k).2) ∧ w.grownBy w' (some g) := by
  unfold Cp.Rd.int
  have hlen : (r.bytes k).1.length ≤ 4 := by have := bytes_len_le r k; omega
  have hb0 := bytes_any g r k w h
  have hglt := h.lt
  generalize hl : (r.bytes k).1 = l at *
  generalize hr : (r.bytes k).2 = r' at *
  have HL := Lib.hid hl
  have HR := Lib.hid hr
  have HB := Lib.hid hb0
  clear hl hr hb0
  go_enter Try.func34, Try.ntmps34
  go_wp2_with (first | (go_at_call 55; refine (sized_yes _ (by omega) _).mono ?_; rintro e w' ⟨rfl, rfl⟩) | (go_at_call 57; refine HB.out.mono ?_; rintro e w1 ⟨rfl, hB, hg⟩; obtain ⟨cap, w2, hrun, hg2, hcells⟩ := bytes_of_str (P := Try.prog) w1 l Try.underlying9 Try.underlying103 Try.underlying5))
  go_loop [5, 18] (fun n i => ∃ j : Nat, j ≤ l.length ∧ i = .int .i64 j ∧ n = .int .i64 (Cp.num (l.take j))) (fun _ i => l.length - (intOf i).toNat)
  case atStart => exact ⟨0, by omega, rfl, rfl⟩
  case round =>
    obtain ⟨j, hj, rfl, rfl⟩ := hrel
    by_cases hlt : j < l.length
    · have hc := hcells j hlt
      have hnx := num_take_succ l j hlt
      have hb24 := num_small l j hlt hlen
      have hb8 := l[j].toNat_lt
      have HNX := Lib.hid hnx
      clear hnx hcells
      go_wp2
      exact ⟨⟨j + 1, by omega, by go_num, by rw [or_byte _ _ hb24 hb8, HNX.out]⟩, by simp [intOf]; omega⟩
    · clear hcells
      go_wp2
      go_ret
      refine ⟨?_, ?_, ?_⟩
      · rw [List.take_of_length_le (by omega)]; rfl
      · have := hB.grown hg2 (by simp); exact this
      · exact hg.trans (grown_of_none hg2 _)
end Go.Proofs.Ytknlcfiphkbbaaa
