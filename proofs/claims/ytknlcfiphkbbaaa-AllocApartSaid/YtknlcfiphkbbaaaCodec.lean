/- The walks of package codec: numbers as bytes, a reader of bytes. -/
import Derived.Test.YtknlcfiphkbbaaaMem
import Derived.Test.YtknlcfiphkbbaaaCodecP
namespace Go.Proofs.Ytknlcfiphkbbaaa
open Go.RowKit
theorem sized_any (n : Int) (w : World) : Calls Try.prog 55 #[.int .i64 n] w fun e w' => e = .returned (.bool (n == 1 || n == 2 || n == 4)) ∧ w = w' := by
  go_enter Try.func55, Try.ntmps55
  go_wp2
  all_goals go_ret
  all_goals simp [*]
theorem sized_yes (n : Int) (h : n = 1 ∨ n = 2 ∨ n = 4) (w : World) : Calls Try.prog 55 #[.int .i64 n] w fun e w' => e = .returned (.bool true) ∧ w = w' := by
  refine (sized_any n w).mono fun e w' ⟨he, hw⟩ => ⟨?_, hw⟩
  rw [he]; rcases h with rfl | rfl | rfl <;> rfl
theorem eiByte : EI Try.prog 5 (.int .u8 0) 1 1 := EI.mk (by kernel_rfl)
/-- one byte more of a number -/
theorem enc_step (k n j : Nat) (x : Int) (hj : j < k) (hx : x = ((n / 256 ^ (k - 1 - j) % 256 : Nat) : Int)) : ((Cp.be k n).take j).map encB ++ [Value.int .u8 x] = ((Cp.be k n).take (j + 1)).map encB := by
  rw [Cp.be_take_succ k n j hj, List.map_append, List.map_singleton, encB_ofNat, hx, Nat.mod_mod]
set_option maxRecDepth 100000 in
set_option maxHeartbeats 1000000 in
theorem put1_fits (n : Int) (w : World) (h0 : 0 ≤ n) (h1 : n < 256) : Calls Try.prog 31 #[.int .i64 1, .int .i64 n] w fun e w' => e = .returned (.tuple #[.string ⟨(Cp.be 1 n.toNat).toArray⟩, .int .i64 0]) ∧ Below w.heap.size w w' := by
  have h2 : n / 256 = 0 := by omega
  go_enter Try.func31, Try.ntmps31
  go_wp2_with (go_at_call 55; refine (sized_yes _ (by omega) _).mono ?_; rintro e w' ⟨rfl, rfl⟩)
  go_loopw [6, 7] (fun v i wr => ∃ j : Nat, j ≤ 1 ∧ i = .int .i64 (0 - j : Int) ∧ wr.ownsRow w.heap.size 5 1 v j (((Cp.be 1 n.toNat).take j).map encB) ∧ Below w.heap.size w wr) (fun _ i _ => (intOf i + 1).toNat)
  case atStart => exact ⟨0, by omega, rfl, World.ownsRow_nil _ _ _ _, Below.refl _ _⟩
  case round =>
    obtain ⟨j, hj, rfl, hown, hb⟩ := hrel
    rcases (show j = 0 ∨ j = 1 by omega) with rfl | rfl
    · go_wp2_with (at_builtin; refine wpList_app1 rfl _ _ 103 rfl eiByte Try.underlying103 rfl (by decide) rfl hown rfl (by simp) rfl (by simp [Value.oneCell']) (by decide) (by decide) hb.size ?_; intro v' w1 hown' hgrow hbel _ _)
      go_roundw
      case rel => exact ⟨1, by omega, by go_num, by rw [← enc_step 1 n.toNat 0 (n) (by omega) (by simp; omega)]; exact hown', hb.trans (hbel.mono (Nat.le_refl _))⟩
      case measure => simp [intOf]
    · rw [List.take_of_length_le (by rw [Cp.be_length]; omega)] at hown
      have hst := str_of_own (P := Try.prog) Try.underlying103 Try.underlying5 Try.underlying9 hown
      clear hown
      go_wp2
      go_ret2
      exact ⟨rfl, hb⟩
set_option maxRecDepth 100000 in
theorem put1_not (n : Int) (w : World) (h : n < 0 ∨ 256 ≤ n) : Calls Try.prog 31 #[.int .i64 1, .int .i64 n] w fun e w' => e = .returned (.tuple #[.string ⟨#[]⟩, .int .i64 1]) ∧ w = w' := by
  rcases h with h | h
  · go_enter Try.func31, Try.ntmps31
    go_wp2_with (go_at_call 55; refine (sized_yes _ (by omega) _).mono ?_; rintro e w' ⟨rfl, rfl⟩)
    go_ret2
    exact ⟨rfl, rfl⟩
  · have h2 : (n / 256 != 0) = true := by rw [bne_iff_ne]; omega
    have h3 : (n / 256 == 0) = false := by rw [beq_eq_false_iff_ne]; omega
    have h4 : decide (n < 0) = false := by simp; omega
    go_enter Try.func31, Try.ntmps31
    go_wp2_with (go_at_call 55; refine (sized_yes _ (by omega) _).mono ?_; rintro e w' ⟨rfl, rfl⟩)
    go_ret2
    exact ⟨rfl, rfl⟩
theorem put1_any (n : Int) (w : World) : Calls Try.prog 31 #[.int .i64 1, .int .i64 n] w fun e w' => e = .returned (.tuple #[.string ⟨(Cp.putS 1 n).toArray⟩, .int .i64 (Cp.putE 1 n)]) ∧ Below w.heap.size w w' := by
  by_cases h : 0 ≤ n ∧ n < 256
  · have hf : Cp.fits 1 n = true := by unfold Cp.fits; simp; omega
    rw [Cp.putS, Cp.putE, hf]
    exact put1_fits n w h.1 h.2
  · have hf : Cp.fits 1 n = false := by unfold Cp.fits; simp; omega
    rw [Cp.putS, Cp.putE, hf]
    exact (put1_not n w (by omega)).mono fun e w' ⟨he, hw⟩ => ⟨he, hw ▸ Below.refl _ _⟩
set_option maxRecDepth 100000 in
set_option maxHeartbeats 1000000 in
theorem put2_fits (n : Int) (w : World) (h0 : 0 ≤ n) (h1 : n < 65536) : Calls Try.prog 31 #[.int .i64 2, .int .i64 n] w fun e w' => e = .returned (.tuple #[.string ⟨(Cp.be 2 n.toNat).toArray⟩, .int .i64 0]) ∧ Below w.heap.size w w' := by
  have h2 : n / 65536 = 0 := by omega
  go_enter Try.func31, Try.ntmps31
  go_wp2_with (go_at_call 55; refine (sized_yes _ (by omega) _).mono ?_; rintro e w' ⟨rfl, rfl⟩)
  go_loopw [6, 7] (fun v i wr => ∃ j : Nat, j ≤ 2 ∧ i = .int .i64 (1 - j : Int) ∧ wr.ownsRow w.heap.size 5 1 v j (((Cp.be 2 n.toNat).take j).map encB) ∧ Below w.heap.size w wr) (fun _ i _ => (intOf i + 1).toNat)
  case atStart => exact ⟨0, by omega, rfl, World.ownsRow_nil _ _ _ _, Below.refl _ _⟩
  case round =>
    obtain ⟨j, hj, rfl, hown, hb⟩ := hrel
    rcases (show j = 0 ∨ j = 1 ∨ j = 2 by omega) with rfl | rfl | rfl
    · go_wp2_with (at_builtin; refine wpList_app1 rfl _ _ 103 rfl eiByte Try.underlying103 rfl (by decide) rfl hown rfl (by simp) rfl (by simp [Value.oneCell']) (by decide) (by decide) hb.size ?_; intro v' w1 hown' hgrow hbel _ _)
      go_roundw
      case rel => exact ⟨1, by omega, by go_num, by rw [← enc_step 2 n.toNat 0 (n / 256) (by omega) (by simp; omega)]; exact hown', hb.trans (hbel.mono (Nat.le_refl _))⟩
      case measure => simp [intOf]
    · go_wp2_with (at_builtin; refine wpList_app1 rfl _ _ 103 rfl eiByte Try.underlying103 rfl (by decide) rfl hown rfl (by simp) rfl (by simp [Value.oneCell']) (by decide) (by decide) hb.size ?_; intro v' w1 hown' hgrow hbel _ _)
      go_roundw
      case rel => exact ⟨2, by omega, by go_num, by rw [← enc_step 2 n.toNat 1 (n % 256) (by omega) (by simp; omega)]; exact hown', hb.trans (hbel.mono (Nat.le_refl _))⟩
      case measure => simp [intOf]
    · rw [List.take_of_length_le (by rw [Cp.be_length]; omega)] at hown
      have hst := str_of_own (P := Try.prog) Try.underlying103 Try.underlying5 Try.underlying9 hown
      clear hown
      go_wp2
      go_ret2
      exact ⟨rfl, hb⟩
set_option maxRecDepth 100000 in
theorem put2_not (n : Int) (w : World) (h : n < 0 ∨ 65536 ≤ n) : Calls Try.prog 31 #[.int .i64 2, .int .i64 n] w fun e w' => e = .returned (.tuple #[.string ⟨#[]⟩, .int .i64 1]) ∧ w = w' := by
  rcases h with h | h
  · go_enter Try.func31, Try.ntmps31
    go_wp2_with (go_at_call 55; refine (sized_yes _ (by omega) _).mono ?_; rintro e w' ⟨rfl, rfl⟩)
    go_ret2
    exact ⟨rfl, rfl⟩
  · have h2 : (n / 65536 != 0) = true := by rw [bne_iff_ne]; omega
    have h3 : (n / 65536 == 0) = false := by rw [beq_eq_false_iff_ne]; omega
    have h4 : decide (n < 0) = false := by simp; omega
    go_enter Try.func31, Try.ntmps31
    go_wp2_with (go_at_call 55; refine (sized_yes _ (by omega) _).mono ?_; rintro e w' ⟨rfl, rfl⟩)
    go_ret2
    exact ⟨rfl, rfl⟩
theorem put2_any (n : Int) (w : World) : Calls Try.prog 31 #[.int .i64 2, .int .i64 n] w fun e w' => e = .returned (.tuple #[.string ⟨(Cp.putS 2 n).toArray⟩, .int .i64 (Cp.putE 2 n)]) ∧ Below w.heap.size w w' := by
  by_cases h : 0 ≤ n ∧ n < 65536
  · have hf : Cp.fits 2 n = true := by unfold Cp.fits; simp; omega
    rw [Cp.putS, Cp.putE, hf]
    exact put2_fits n w h.1 h.2
  · have hf : Cp.fits 2 n = false := by unfold Cp.fits; simp; omega
    rw [Cp.putS, Cp.putE, hf]
    exact (put2_not n w (by omega)).mono fun e w' ⟨he, hw⟩ => ⟨he, hw ▸ Below.refl _ _⟩
set_option maxRecDepth 100000 in
set_option maxHeartbeats 1000000 in
theorem put4_fits (n : Int) (w : World) (h0 : 0 ≤ n) (h1 : n < 4294967296) : Calls Try.prog 31 #[.int .i64 4, .int .i64 n] w fun e w' => e = .returned (.tuple #[.string ⟨(Cp.be 4 n.toNat).toArray⟩, .int .i64 0]) ∧ Below w.heap.size w w' := by
  have h2 : n / 4294967296 = 0 := by omega
  go_enter Try.func31, Try.ntmps31
  go_wp2_with (go_at_call 55; refine (sized_yes _ (by omega) _).mono ?_; rintro e w' ⟨rfl, rfl⟩)
  go_loopw [6, 7] (fun v i wr => ∃ j : Nat, j ≤ 4 ∧ i = .int .i64 (3 - j : Int) ∧ wr.ownsRow w.heap.size 5 1 v j (((Cp.be 4 n.toNat).take j).map encB) ∧ Below w.heap.size w wr) (fun _ i _ => (intOf i + 1).toNat)
  case atStart => exact ⟨0, by omega, rfl, World.ownsRow_nil _ _ _ _, Below.refl _ _⟩
  case round =>
    obtain ⟨j, hj, rfl, hown, hb⟩ := hrel
    rcases (show j = 0 ∨ j = 1 ∨ j = 2 ∨ j = 3 ∨ j = 4 by omega) with rfl | rfl | rfl | rfl | rfl
    · go_wp2_with (at_builtin; refine wpList_app1 rfl _ _ 103 rfl eiByte Try.underlying103 rfl (by decide) rfl hown rfl (by simp) rfl (by simp [Value.oneCell']) (by decide) (by decide) hb.size ?_; intro v' w1 hown' hgrow hbel _ _)
      go_roundw
      case rel => exact ⟨1, by omega, by go_num, by rw [← enc_step 4 n.toNat 0 (n / 16777216) (by omega) (by simp; omega)]; exact hown', hb.trans (hbel.mono (Nat.le_refl _))⟩
      case measure => simp [intOf]
    · go_wp2_with (at_builtin; refine wpList_app1 rfl _ _ 103 rfl eiByte Try.underlying103 rfl (by decide) rfl hown rfl (by simp) rfl (by simp [Value.oneCell']) (by decide) (by decide) hb.size ?_; intro v' w1 hown' hgrow hbel _ _)
      go_roundw
      case rel => exact ⟨2, by omega, by go_num, by rw [← enc_step 4 n.toNat 1 (n / 65536 % 256) (by omega) (by simp; omega)]; exact hown', hb.trans (hbel.mono (Nat.le_refl _))⟩
      case measure => simp [intOf]
    · go_wp2_with (at_builtin; refine wpList_app1 rfl _ _ 103 rfl eiByte Try.underlying103 rfl (by decide) rfl hown rfl (by simp) rfl (by simp [Value.oneCell']) (by decide) (by decide) hb.size ?_; intro v' w1 hown' hgrow hbel _ _)
      go_roundw
      case rel => exact ⟨3, by omega, by go_num, by rw [← enc_step 4 n.toNat 2 (n / 256 % 256) (by omega) (by simp; omega)]; exact hown', hb.trans (hbel.mono (Nat.le_refl _))⟩
      case measure => simp [intOf]
    · go_wp2_with (at_builtin; refine wpList_app1 rfl _ _ 103 rfl eiByte Try.underlying103 rfl (by decide) rfl hown rfl (by simp) rfl (by simp [Value.oneCell']) (by decide) (by decide) hb.size ?_; intro v' w1 hown' hgrow hbel _ _)
      go_roundw
      case rel => exact ⟨4, by omega, by go_num, by rw [← enc_step 4 n.toNat 3 (n % 256) (by omega) (by simp; omega)]; exact hown', hb.trans (hbel.mono (Nat.le_refl _))⟩
      case measure => simp [intOf]
    · rw [List.take_of_length_le (by rw [Cp.be_length]; omega)] at hown
      have hst := str_of_own (P := Try.prog) Try.underlying103 Try.underlying5 Try.underlying9 hown
      clear hown
      go_wp2
      go_ret2
      exact ⟨rfl, hb⟩
set_option maxRecDepth 100000 in
theorem put4_not (n : Int) (w : World) (h : n < 0 ∨ 4294967296 ≤ n) : Calls Try.prog 31 #[.int .i64 4, .int .i64 n] w fun e w' => e = .returned (.tuple #[.string ⟨#[]⟩, .int .i64 1]) ∧ w = w' := by
  rcases h with h | h
  · go_enter Try.func31, Try.ntmps31
    go_wp2_with (go_at_call 55; refine (sized_yes _ (by omega) _).mono ?_; rintro e w' ⟨rfl, rfl⟩)
    go_ret2
    exact ⟨rfl, rfl⟩
  · have h2 : (n / 4294967296 != 0) = true := by rw [bne_iff_ne]; omega
    have h3 : (n / 4294967296 == 0) = false := by rw [beq_eq_false_iff_ne]; omega
    have h4 : decide (n < 0) = false := by simp; omega
    go_enter Try.func31, Try.ntmps31
    go_wp2_with (go_at_call 55; refine (sized_yes _ (by omega) _).mono ?_; rintro e w' ⟨rfl, rfl⟩)
    go_ret2
    exact ⟨rfl, rfl⟩
theorem put4_any (n : Int) (w : World) : Calls Try.prog 31 #[.int .i64 4, .int .i64 n] w fun e w' => e = .returned (.tuple #[.string ⟨(Cp.putS 4 n).toArray⟩, .int .i64 (Cp.putE 4 n)]) ∧ Below w.heap.size w w' := by
  by_cases h : 0 ≤ n ∧ n < 4294967296
  · have hf : Cp.fits 4 n = true := by unfold Cp.fits; simp; omega
    rw [Cp.putS, Cp.putE, hf]
    exact put4_fits n w h.1 h.2
  · have hf : Cp.fits 4 n = false := by unfold Cp.fits; simp; omega
    rw [Cp.putS, Cp.putE, hf]
    exact (put4_not n w (by omega)).mono fun e w' ⟨he, hw⟩ => ⟨he, hw ▸ Below.refl _ _⟩

end Go.Proofs.Ytknlcfiphkbbaaa
