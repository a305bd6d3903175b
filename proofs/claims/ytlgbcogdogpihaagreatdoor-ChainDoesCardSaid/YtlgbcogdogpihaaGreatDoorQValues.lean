/- The walk of slices.Values and of its closure, inside a fence. -/
import Derived.RangeFuncNested
import Derived.RangeFuncBound
import Derived.RangeFuncCalls
import Derived.RangeFuncLeaves
import Derived.RangeFuncBox
import Derived.Shelf.Abstract
import Derived.Shelf.RegionOpen
import Derived.WalkKit
import Derived.OwnWalkIn
import Derived.TacticsInMore
import Derived.LoopNIn
import Derived.LoopIn
import Derived.Test.YtlgbcogdogpihaaGreatDoorQGa
namespace Go.Proofs.YtlgbcogdogpihaaGreatDoor
open Go.RowKit Go.Shelf
attribute [local go_sem] Oper.semAt_some
def intE : Enc Int := ⟨fun x => [.int .i64 x], 1, fun _ => rfl, by decide, fun x u hu => by simp at hu; subst hu; rfl⟩
theorem eiInt : EI Tryz.prog 3 (.int .i64 0) 1 8 := EI.mk (by kernel_rfl)
theorem LS.int {w : World} {B : Nat} {A : Option Addr} {l : List Int} (h : LS intE w B A l) {k : Nat} (hk : k < l.length) : ∃ b off, A = some ⟨b, off, none⟩ ∧ b < B ∧ w.cell? ⟨b, off + k, none⟩ = some (.int .i64 l[k]) := by
  obtain ⟨b, off, rfl, hb, hc⟩ := h.at_ hk
  have h0 := hc 0 (by decide)
  refine ⟨b, off, rfl, hb, ?_⟩
  have e : off + k * intE.size + 0 = off + k := by show off + k * 1 + 0 = _; omega
  rw [e] at h0
  exact h0
theorem values_any (A : Option Addr) (n c : Nat) (w : World) :
    Calls Tryz.prog 41 #[.slice A n c] w fun e w' => e = .returned (.func (.func 85) #[] #[.pointer (some ⟨w.heap.size, 0, none⟩)]) ∧ w' = w.alloc (.cells #[.slice A n c] 28) := by
  go_enter Tryz.func41, Tryz.ntmps41
  go_wp2
  go_ret
  exact ⟨rfl, rfl⟩
set_option maxRecDepth 100000 in
set_option maxHeartbeats 2000000 in
theorem values1_in (l Bn c : Nat) (A : Option Addr) (zs : List Int) (hl : zs.length ≤ 1000000) (J Jx : List Int → World → Prop) (Kp : World → World → Prop)
    (W : World) (hKr : ∀ W, Kp W W) (hKt : ∀ W1 W2 W3, Kp W1 W2 → Kp W2 W3 → Kp W1 W3) (hKc : ∀ W', Kp W W' → LS intE W' W'.heap.size A zs ∧ W'.cell? ⟨Bn, 0, none⟩ = some (.slice A zs.length c))
    (hY : ∀ pre x W1, J pre W1 → pre.length < zs.length → YieldAt Fence.wide 0 Tryz.prog l #[.int .i64 x] W1 fun e W' =>
      (e = .returned (.bool true) ∧ J (pre ++ [x]) W' ∧ Kp W1 W') ∨ (e = .returned (.bool false) ∧ Jx (pre ++ [x]) W')) (h0 : J [] W) :
    CallsIn Fence.wide 1 Tryz.prog 85 #[.func (.yield l) #[] #[], .pointer (some ⟨Bn, 0, none⟩)] W fun e W' => (∃ v, e = .returned v) ∧
      ((∃ ys, ys = zs ∧ J ys W') ∨ (∃ pre, pre <+: zs ∧ Jx pre W')) := by
  refine callsIn_of_wp Tryz.func85 rfl trivial ?_ rfl
  simp only [Tryz.ntmps85, List.size_toArray, List.length_cons, List.length_nil, Nat.reduceAdd, Nat.reduceSub, Array.replicate_succ, Array.replicate_zero, List.push_toArray, List.append_toArray, List.nil_append, List.cons_append]
  have hc0 := (hKc W (hKr W)).2
  gi_wp2
  gi_loopw [7] (fun i wr => ∃ k : Nat, k ≤ zs.length ∧ i = .int .i64 k ∧ J (zs.take k) wr ∧ Kp W wr) (fun i _ => zs.length - (intOf i).toNat)
  case atStart => exact ⟨0, Nat.zero_le _, rfl, by simpa using h0, hKr W⟩
  case round =>
    obtain ⟨k, hk, rfl, hJs, hkp⟩ := hrel
    obtain ⟨hls, hbn⟩ := hKc _ hkp
    by_cases hlt : k < zs.length
    · obtain ⟨b2, o2, rfl, hb2, g0⟩ := hls.int hlt
      have hdt := List.take_succ_eq_append_getElem hlt
      have hpl : (zs.take k).length < zs.length := by rw [List.length_take]; omega
      have hpx : zs.take (k + 1) <+: zs := List.take_prefix _ _
      have hYk := hY _ zs[k] _ hJs hpl
      obtain ⟨fn, tmps, assign, body, hyl, hR⟩ := hYk
      rw [← hdt] at hR
      clear hdt
      generalize zs[k] = y at *
      gi_wp2
      refine hR.mono ?_
      rintro e W3 (⟨rfl, hJ3, hk3⟩ | ⟨rfl, hJx3⟩)
      · gi_wp2
        go_roundw
        case rel => exact ⟨k + 1, by omega, by go_num, hJ3, hKt _ _ _ hkp hk3⟩
        case measure => simp [intOf]; omega
      · gi_wp2
        refine bodyPost_ret (results_none rfl _ _ _) rfl ?_
        exact ⟨⟨_, rfl⟩, .inr ⟨_, hpx, hJx3⟩⟩
    · obtain rfl : k = zs.length := by omega
      gi_wp2
      go_end0
      rw [List.take_of_length_le (Nat.le_refl _)] at hJs
      exact ⟨⟨_, rfl⟩, .inl ⟨_, rfl, hJs⟩⟩
end Go.Proofs.YtlgbcogdogpihaaGreatDoor
