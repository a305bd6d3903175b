/- The walk of runs.Count. -/
import Derived.Test.YtknlcfiphkbbaaaHas
namespace Go.Proofs.Ytknlcfiphkbbaaa
open Go.RowKit
def sAt (l : List Run) (k : Nat) : Int := Rp.size (l.take k)
theorem size_append (a b : List Run) : Rp.size (a ++ b) = Rp.size a + Rp.size b := by
  unfold Rp.size; rw [List.map_append, List.sum_append]
theorem sAt_succ (l : List Run) (k : Nat) (hk : k < l.length) : sAt l (k + 1) = sAt l k + (l[k].2 - l[k].1 + 1) := by
  unfold sAt
  rw [List.take_succ_eq_append_getElem hk, size_append]
  simp [Rp.size]
theorem sAt_bd (l : List Run) (hin : ∀ y ∈ l, 0 ≤ y.1 ∧ y.1 ≤ y.2 ∧ y.2 ≤ 4294967295) (k : Nat) : 0 ≤ sAt l k ∧ sAt l k ≤ 4294967296 * (k : Int) := by
  induction k with
  | zero => simp [sAt, Rp.size]
  | succ k ih =>
    by_cases hk : k < l.length
    · rw [sAt_succ l k hk]
      have := hin _ (List.getElem_mem hk)
      omega
    · have e : sAt l (k + 1) = sAt l k := by unfold sAt; rw [List.take_of_length_le (by omega), List.take_of_length_le (by omega)]
      rw [e]; omega
theorem canon_run : ∀ (l : List Run) (lo : Int), 0 ≤ lo → Rp.Canon lo l → ∀ y ∈ l, 0 ≤ y.1 ∧ y.1 ≤ y.2 ∧ y.2 ≤ 4294967295
  | [], _, _, _, _, hy => by cases hy
  | r :: l, lo, hlo, h, y, hy => by
    obtain ⟨h1, h2, h3, h4⟩ := h
    unfold Rp.Most at h3
    rcases List.mem_cons.1 hy with rfl | hy
    · omega
    · exact canon_run l _ (by omega) h4 y hy
set_option maxRecDepth 100000 in
set_option maxHeartbeats 400000 in
theorem count_any (A : Option Addr) (c : Nat) (l : List Run) (w : World) (hr : RS w w.heap.size A l) (hl : l.length ≤ 1000000) : Calls Try.prog 27 #[.slice A l.length c] w fun e w' => e = .returned (.int .i64 (Rp.count l)) ∧ Below w.heap.size w w' := by
  have hc := hid_calls (norm_end A c l w hr hl)
  have hnl := norm_len l
  have hin := canon_run _ 0 (Int.le_refl _) (Rp.norm_ok l).1
  have he : Rp.count l = sAt (Rp.norm l) (Rp.norm l).length := by unfold sAt Rp.count; rw [List.take_of_length_le (Nat.le_refl _)]
  rw [he]
  clear he
  generalize Rp.norm l = s at *
  obtain ⟨q, hq⟩ : ∃ q, q = sAt s s.length := ⟨_, rfl⟩
  rw [← hq]
  have HQ := Lib.hid hq
  clear hq
  go_enter Try.func27, Try.ntmps27
  go_wp2_with fail
  refine hc.out.mono ?_
  intro e w1 he
  obtain ⟨A1, c1, rfl, _, r1, b1⟩ := he.open_
  clear he
  go_wp2
  go_loopw [3, 9] (fun n i wr => ∃ k : Nat, k ≤ s.length ∧ i = .int .i64 k ∧ n = .int .i64 (sAt s k) ∧ Below w1.heap.size w1 wr) (fun _ i _ => s.length - (intOf i).toNat)
  case atStart => exact ⟨0, by omega, rfl, rfl, Below.refl _ _⟩
  case round =>
    obtain ⟨k, hk, rfl, rfl, hbe⟩ := hrel
    have hbd := sAt_bd s hin k
    by_cases hlt : k < s.length
    · obtain ⟨b2, o2, rfl, _, g0, g1⟩ := (r1.below hbe).at_ hlt
      have hsu := sAt_succ s k hlt
      have hy := hin _ (List.getElem_mem hlt)
      generalize sAt s k = m at *
      have HSU := Lib.hid hsu
      clear hsu
      generalize s[k] = y at *
      obtain ⟨a, b⟩ := y
      simp only at hy g0 g1
      go_wp2
      go_roundw
      case rel => exact ⟨k + 1, by omega, by go_num, by rw [HSU.out], hbe.alloc hbe.size _⟩
      case measure => simp [intOf]; omega
    · obtain rfl : k = s.length := by omega
      go_wp2
      go_ret
      exact ⟨by rw [HQ.out]; rfl, b1.trans (hbe.mono b1.size)⟩
end Go.Proofs.Ytknlcfiphkbbaaa
