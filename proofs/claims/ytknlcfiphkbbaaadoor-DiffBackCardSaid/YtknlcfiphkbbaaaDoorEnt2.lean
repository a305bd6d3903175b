/- The walks of rootstockref11.Right, Same. -/
import Derived.Test.YtknlcfiphkbbaaaDoorEnt1
namespace Go.Proofs.YtknlcfiphkbbaaaDoor
open Go.RowKit
set_option maxRecDepth 100000 in
set_option maxHeartbeats 800000 in
theorem rright_any (A : Option Addr) (c : Nat) (l : List Ent) (w : World) (hr : LS entE w w.heap.size A l) (hl : l.length ≤ 1000000) :
    Calls Tryd.prog 14 #[.slice A l.length c] w fun e w' => e = .returned (.bool (En.right l)) ∧ Below w.heap.size w w' := by
  obtain ⟨R, hR⟩ : ∃ R, R = En.right l := ⟨_, rfl⟩
  rw [← hR]
  have HR := Lib.hid hR
  clear hR
  go_enter Tryd.func14, Tryd.ntmps14
  go_wp2
  go_loopw [3, 4] (fun i _ wr => ∃ k : Nat, k ≤ l.length ∧ i = .int .i64 k ∧ Hid (En.right l = En.rightFrom (En.prev l k) (l.drop k)) ∧ Below w.heap.size w wr) (fun i _ _ => l.length - (intOf i).toNat)
  case atStart => exact ⟨0, by omega, rfl, Lib.hid rfl, Below.refl _ _⟩
  case round =>
    obtain ⟨k, hk, rfl, HK, hbe⟩ := hrel
    by_cases hlt : k < l.length
    · obtain ⟨b1, o1, rfl, hb1, g0, g1⟩ := (hr.below hbe).ent hlt
      have hat := Lib.hid (En.right_at l k hlt)
      generalize hx : l[k] = x at *
      obtain ⟨x1, x2⟩ := x
      have hb1' : b1 < wr.heap.size := by have := hbe.size; omega
      have hc := fun W => hid_calls (may_any x1 x2 W)
      cases hm : En.may x1 x2 with
      | false =>
        rw [hm] at hc
        have HM := Lib.hid hm
        clear hm
        go_wp2_with fail
        go_quiet ((go_at_call 23; exact Calls.quiet_of_same (hc _).out))
        go_wp2_with fail
        go_quiet (fail)
        go_wp2
        go_ret
        exact ⟨by rw [HR.out, HK.out, hat.out, HM.out]; rfl, (by first | exact below_drewN (below_drewN hbe _) _ | exact below_drewN hbe _)⟩
      | true =>
        rw [hm] at hc
        have HM := Lib.hid hm
        clear hm
        by_cases h0 : k = 0
        · subst h0
          simp only [Nat.zero_mul, Nat.add_zero] at g0 g1
          go_wp2_with fail
          go_quiet ((go_at_call 23; exact Calls.quiet_of_same (hc _).out))
          go_wp2_with fail
          go_quiet (fail)
          go_wp2
          go_roundw
          case rel =>
            refine ⟨1, by omega, rfl, ?_, (by first | exact below_drewN (below_drewN hbe _) _ | exact below_drewN hbe _)⟩
            refine Lib.hid ?_
            rw [HK.out, hat.out, HM.out]; rfl
          case measure => simp [intOf]; omega
        · obtain ⟨q, rfl⟩ : ∃ q, k = q + 1 := ⟨k - 1, by omega⟩
          obtain ⟨b2, o2, e2, hb2, f0, f1⟩ := (hr.below hbe).ent (show q < l.length by omega)
          injection e2 with e2; injection e2 with e2 e3; subst e2 e3
          have hp := Lib.hid (En.prev_succ l (q + 1) hlt (by omega))
          generalize hz : l[q] = z at *
          cases hlz : En.lt z.1 x1 with
          | true =>
            have hbl : Op.bytesLess z.1.toList x1.toList = true := hlz
            have HL := Lib.hid hlz
            clear hlz f1 h0
            go_wp2_with fail
            go_quiet ((go_at_call 23; exact Calls.quiet_of_same (hc _).out))
            go_wp2_with fail
            go_quiet (fail)
            go_wp2
            go_roundw
            case rel =>
              refine ⟨q + 1 + 1, by omega, by go_num, ?_, (by first | exact below_drewN (below_drewN hbe _) _ | exact below_drewN hbe _)⟩
              refine Lib.hid ?_
              rw [HK.out, hat.out, hp.out, HM.out]
              simp only [Nat.add_sub_cancel, hz]
              unfold En.ahead
              simp only
              rw [HL.out]; simp
            case measure => simp [intOf]; omega
          | false =>
            have hbl : Op.bytesLess z.1.toList x1.toList = false := hlz
            have HL := Lib.hid hlz
            clear hlz f1 h0
            go_wp2_with fail
            go_quiet ((go_at_call 23; exact Calls.quiet_of_same (hc _).out))
            go_wp2_with fail
            go_quiet (fail)
            go_wp2
            go_ret
            refine ⟨?_, (by first | exact below_drewN (below_drewN hbe _) _ | exact below_drewN hbe _)⟩
            rw [HR.out, HK.out, hat.out, hp.out]
            simp only [Nat.add_sub_cancel, hz]
            unfold En.ahead
            simp only
            rw [HL.out]; simp
    · obtain rfl : k = l.length := by omega
      go_wp2
      go_ret
      refine ⟨?_, hbe⟩
      rw [HR.out, HK.out, List.drop_of_length_le (Nat.le_refl _)]; rfl
set_option maxRecDepth 100000 in
set_option maxHeartbeats 800000 in
theorem rsame_yes (A B : Option Addr) (l : List Ent) (c d : Nat) (w : World) (ha : LS entE w w.heap.size A l) (hb : LS entE w w.heap.size B l) (hl : l.length ≤ 1000000) :
    Calls Tryd.prog 10 #[.slice A l.length c, .slice B l.length d] w fun e w' => e = .returned (.bool true) ∧ Below w.heap.size w w' := by
  go_enter Tryd.func10, Tryd.ntmps10
  go_wp2
  go_loopw [5] (fun i wr => ∃ k : Nat, k ≤ l.length ∧ i = .int .i64 k ∧ Below w.heap.size w wr) (fun i _ => l.length - (intOf i).toNat)
  case atStart => exact ⟨0, by omega, rfl, Below.refl _ _⟩
  case round =>
    obtain ⟨k, hk, rfl, hbe⟩ := hrel
    by_cases hlt : k < l.length
    · obtain ⟨b1, o1, rfl, _, g0, g1⟩ := (ha.below hbe).ent hlt
      obtain ⟨b2, o2, rfl, _, g2, g3⟩ := (hb.below hbe).ent hlt
      go_wp2
      go_quiet (fail)
      go_wp2
      go_roundw
      case rel => exact ⟨k + 1, by omega, by go_num, below_drewN hbe _⟩
      case measure => simp [intOf]; omega
    · go_wp2
      go_ret
      exact ⟨rfl, hbe⟩
end Go.Proofs.YtknlcfiphkbbaaaDoor
