/- The walks of runs.Has, with slices.ContainsFunc and IndexFunc at its closure; of runs.Count. -/
import Derived.Test.YtknlcfiphkbbaaaSets2
namespace Go.Proofs.Ytknlcfiphkbbaaa
open Go.RowKit
def inB (n : Int) (r : Run) : Bool := decide (r.1 ≤ n) && decide (n ≤ r.2)
set_option maxRecDepth 100000 in
set_option maxHeartbeats 400000 in
theorem has1_any (r : Run) (g : Nat) (n : Int) (w : World) (hg : Blk w g 3 #[.int .i64 n]) : Calls Try.prog 46 #[.agg #[.int .i64 r.1, .int .i64 r.2], .pointer (some ⟨g, 0, none⟩)] w fun e w' => e = .returned (.bool (inB n r)) ∧ Below w.heap.size w w' := by
  have hl := hg.lt
  have hc : w.cell? ⟨g, 0, none⟩ = some (.int .i64 n) := hg.cell 0
  obtain ⟨a, b⟩ := r
  unfold inB
  simp only
  by_cases h1 : a ≤ n
  · go_enter Try.func46, Try.ntmps46
    go_wp2
    go_ret
    exact ⟨by rw [decide_eq_true h1]; simp, (Below.refl _ _).alloc (Nat.le_refl _) _⟩
  · go_enter Try.func46, Try.ntmps46
    go_wp2
    go_ret
    exact ⟨by rw [decide_eq_false (by omega : ¬ a ≤ n)]; simp, (Below.refl _ _).alloc (Nat.le_refl _) _⟩
/-- how IndexFunc ends at that closure -/
def IdxEnd (l : List Run) (n : Int) (w : World) (e : Ending) (w' : World) : Prop := ∃ j : Int, e = .returned (.int .i64 j) ∧ decide (0 ≤ j) = l.any (inB n) ∧ Below w.heap.size w w'
set_option maxRecDepth 100000 in
set_option maxHeartbeats 400000 in
theorem index_has (A : Option Addr) (k : Nat) (l : List Run) (g : Nat) (n : Int) (w : World) (h : RS w w.heap.size A l) (hl : l.length ≤ 1000000) (hg : Blk w g 3 #[.int .i64 n]) :
    Calls Try.prog 66 #[.slice A l.length k, .func (.func 46) #[] #[.pointer (some ⟨g, 0, none⟩)]] w (IdxEnd l n w) := by
  have hgl := hg.lt
  go_enter Try.func66, Try.ntmps66
  go_wp2
  go_loopw [5, 8] (fun x i wr => ∃ k : Nat, k ≤ l.length ∧ i = .int .i64 k ∧ (∀ j (hj : j < l.length), j < k → inB n l[j] = false) ∧ Below w.heap.size w wr) (fun _ i _ => l.length - (intOf i).toNat)
  case atStart => exact ⟨0, by omega, rfl, fun j hj h => absurd h (by omega), Below.refl _ _⟩
  case round =>
    obtain ⟨i, hi, rfl, hno, hb⟩ := hrel
    have HNO := Lib.hid hno
    clear hno
    by_cases hlt : i < l.length
    · obtain ⟨b1, o1, rfl, _, g0, g1⟩ := (h.below hb).at_ hlt
      have hc := hid_calls (has1_any l[i] g n wr (hg.below hb hgl))
      obtain ⟨y, hy⟩ : ∃ y, y = l[i] := ⟨_, rfl⟩
      rw [← hy] at hc g0 g1
      have HY := Lib.hid hy
      clear hy
      by_cases hin : inB n y = true
      · rw [hin] at hc
        have HIN := Lib.hid hin
        clear hin
        go_wp2_with (go_at_call 46; refine hc.out.mono ?_; rintro e w1 ⟨rfl, hb1⟩)
        go_ret
        refine ⟨_, rfl, ?_, hb.trans (hb1.mono hb.size)⟩
        have : l.any (inB n) = true := List.any_eq_true.2 ⟨l[i], List.getElem_mem hlt, by rw [← HY.out]; exact HIN.out⟩
        rw [this]; simp
      · have hin' : inB n y = false := by simpa using hin
        rw [hin'] at hc
        have HIN := Lib.hid hin'
        clear hin hin'
        go_wp2_with (go_at_call 46; refine hc.out.mono ?_; rintro e w1 ⟨rfl, hb1⟩)
        go_roundw
        case rel =>
          refine ⟨i + 1, by omega, by go_num, fun j hj hji => ?_, hb.trans (hb1.mono hb.size)⟩
          by_cases hj2 : j < i
          · exact HNO.out j hj hj2
          · obtain rfl : j = i := by omega
            rw [← HY.out]; exact HIN.out
        case measure => simp [intOf]; omega
    · obtain rfl : i = l.length := by omega
      go_wp2
      go_ret
      refine ⟨_, rfl, ?_, hb⟩
      have : l.any (inB n) = false := by
        rw [List.any_eq_false]
        intro x hx
        obtain ⟨j, hj, rfl⟩ := List.getElem_of_mem hx
        rw [HNO.out j hj hj]; simp
      rw [this]; simp
set_option maxRecDepth 100000 in
set_option maxHeartbeats 400000 in
theorem contains_has (A : Option Addr) (k : Nat) (l : List Run) (g : Nat) (n : Int) (w : World) (h : RS w w.heap.size A l) (hl : l.length ≤ 1000000) (hg : Blk w g 3 #[.int .i64 n]) :
    Calls Try.prog 45 #[.slice A l.length k, .func (.func 46) #[] #[.pointer (some ⟨g, 0, none⟩)]] w fun e w' => e = .returned (.bool (l.any (inB n))) ∧ Below w.heap.size w w' := by
  have hc := hid_calls (index_has A k l g n w h hl hg)
  generalize hq : l.any (inB n) = q
  have HQ := Lib.hid hq
  clear hq
  go_enter Try.func45, Try.ntmps45
  go_wp2_with fail
  refine hc.out.mono ?_
  rintro e w1 ⟨j, rfl, hj, hb⟩
  have HJ := Lib.hid hj
  clear hj
  go_wp2
  go_ret
  exact ⟨by rw [← HQ.out, ← HJ.out]; rfl, hb⟩
set_option maxRecDepth 100000 in
set_option maxHeartbeats 400000 in
theorem has_any (A : Option Addr) (k : Nat) (l : List Run) (n : Int) (w : World) (h : RS w w.heap.size A l) (hl : l.length ≤ 1000000) : Calls Try.prog 24 #[.slice A l.length k, .int .i64 n] w fun e w' => e = .returned (.bool (Rp.has l n)) ∧ Below w.heap.size w w' := by
  have hc := fun h => hid_calls (contains_has A k l w.heap.size n (w.alloc (.cells #[.int .i64 n] 3)) h hl (Blk.new w _ _))
  have hh : RS (w.alloc (.cells #[.int .i64 n] 3)) (w.alloc (.cells #[.int .i64 n] 3)).heap.size A l := (h.below ((Below.refl _ w).alloc (Nat.le_refl _) _)).more (by simp)
  have he : Rp.has l n = (decide (0 ≤ n) && decide (n ≤ 4294967295) && l.any (inB n)) := rfl
  rw [he]
  clear he
  generalize l.any (inB n) = q at *
  by_cases h0 : 0 ≤ n
  · by_cases h1 : n ≤ 4294967295
    · go_enter Try.func24, Try.ntmps24
      go_wp2_with fail
      refine (hc hh).out.mono ?_
      rintro e w1 ⟨rfl, hb⟩
      go_wp2
      go_ret
      exact ⟨by rw [decide_eq_true h0, decide_eq_true h1]; simp, ((Below.refl _ w).alloc (Nat.le_refl _) _).trans (hb.mono (by simp))⟩
    · go_enter Try.func24, Try.ntmps24
      go_wp2
      go_ret
      exact ⟨by rw [decide_eq_false (by omega : ¬ n ≤ 4294967295)]; simp, (Below.refl _ _).alloc (Nat.le_refl _) _⟩
  · go_enter Try.func24, Try.ntmps24
    go_wp2
    go_ret
    exact ⟨by rw [decide_eq_false (by omega : ¬ 0 ≤ n)]; simp, (Below.refl _ _).alloc (Nat.le_refl _) _⟩
end Go.Proofs.Ytknlcfiphkbbaaa
