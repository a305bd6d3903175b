/- Entries in memory; the walks of rootstockref11.May, Right, entry.Check, right. -/
import Derived.Test.YtknlcfiphkbbaaaDoorLst
import Derived.Test.YtknlcfiphkbbaaaDoorEntP
namespace Go.Proofs.YtknlcfiphkbbaaaDoor
open Go.RowKit
theorem hid_calls {P : Program} {f : FuncId} {args : Array Value} {w : World} {R : Ending → World → Prop} (h : Calls P f args w R) : Hid (Calls P f args w R) := h
abbrev Ent := En.Ent
def entE : Enc Ent := ⟨fun x => [.string x.1, .string x.2], 2, fun _ => rfl, by decide, fun x u hu => by simp at hu; rcases hu with rfl | rfl <;> rfl⟩
theorem eiEnt : EI Tryd.prog 39 (.agg #[.string ⟨#[]⟩, .string ⟨#[]⟩]) 2 32 := EI.mk (by kernel_rfl)
theorem LS.ent {w : World} {B : Nat} {A : Option Addr} {l : List Ent} (h : LS entE w B A l) {k : Nat} (hk : k < l.length) : ∃ b off, A = some ⟨b, off, none⟩ ∧ b < B ∧ w.cell? ⟨b, off + k * 2, none⟩ = some (.string l[k].1) ∧ w.cell? ⟨b, off + k * 2 + 1, none⟩ = some (.string l[k].2) := by
  obtain ⟨b, off, rfl, hb, hc⟩ := h.at_ hk
  exact ⟨b, off, rfl, hb, hc 0 (by decide), hc 1 (by decide)⟩
theorem size_empty (s : ByteArray) : s.toList.isEmpty = decide (s.size = 0) := by
  rw [Lib.toList_data]
  cases h : s.data.toList with
  | nil => have : s.size = 0 := by rw [← ByteArray.size_data, ← Array.length_toList, h]; rfl
           rw [this]; rfl
  | cons a l =>
    have : s.size = l.length + 1 := by rw [← ByteArray.size_data, ← Array.length_toList, h]; rfl
    rw [this]; simp
set_option maxRecDepth 100000 in
set_option maxHeartbeats 400000 in
theorem may_any (k v : ByteArray) (w : World) : Calls Tryd.prog 23 #[.string k, .string v] w fun e w' => e = .returned (.bool (En.may k v)) ∧ w' = w := by
  have e : En.may k v = (decide (1 ≤ (k.size : Int)) && decide ((k.size : Int) ≤ 16) && decide ((v.size : Int) ≤ 40)) := by
    unfold En.may; rw [Bool.eq_iff_iff]; simp; omega
  rw [e]
  clear e
  by_cases h1 : 1 ≤ (k.size : Int)
  · by_cases h2 : (k.size : Int) ≤ 16
    · go_enter Tryd.func23, Tryd.ntmps23
      go_wp2
      go_ret
      exact ⟨by rw [decide_eq_true h1, decide_eq_true h2]; rfl, rfl⟩
    · go_enter Tryd.func23, Tryd.ntmps23
      go_wp2
      go_ret
      exact ⟨by rw [decide_eq_false (by omega : ¬ (k.size : Int) ≤ 16)]; rfl, rfl⟩
  · go_enter Tryd.func23, Tryd.ntmps23
    go_wp2
    go_ret
    exact ⟨by rw [decide_eq_false (by omega : ¬ 1 ≤ (k.size : Int))]; rfl, rfl⟩
set_option maxRecDepth 100000 in
set_option maxHeartbeats 400000 in
theorem check_yes (k v : ByteArray) (w : World) (hm : En.may k v = true) : Calls Tryd.prog 32 #[.string k, .string v] w fun e w' => e = .returned (.int .i64 0) ∧ w' = w := by
  unfold En.may at hm
  simp only [Bool.and_eq_true, decide_eq_true_eq] at hm
  have h1 : k.toList.isEmpty = false := by rw [size_empty]; exact decide_eq_false (by omega)
  have h2 : decide (16 < (k.size : Int)) = false := by simp; omega
  have h3 : decide (40 < (v.size : Int)) = false := by simp; omega
  clear hm
  go_enter Tryd.func32, Tryd.ntmps32
  go_wp2
  go_ret
  exact ⟨rfl, rfl⟩
set_option maxRecDepth 100000 in
set_option maxHeartbeats 400000 in
theorem check_no (k v : ByteArray) (w : World) (hm : En.may k v = false) : Calls Tryd.prog 32 #[.string k, .string v] w fun e w' => e = .returned (.int .i64 110) ∧ w' = w := by
  unfold En.may at hm
  simp only [Bool.and_eq_false_iff, decide_eq_false_iff_not] at hm
  by_cases g1 : k.size = 0
  · have h1 : k.toList.isEmpty = true := by rw [size_empty]; exact decide_eq_true g1
    clear hm g1
    go_enter Tryd.func32, Tryd.ntmps32
    go_wp2
    go_ret
    exact ⟨rfl, rfl⟩
  · have h1 : k.toList.isEmpty = false := by rw [size_empty]; exact decide_eq_false g1
    by_cases g2 : k.size ≤ 16
    · have h2 : decide (16 < (k.size : Int)) = false := by simp; omega
      have h3 : decide (40 < (v.size : Int)) = true := by simp; omega
      clear hm g1
      go_enter Tryd.func32, Tryd.ntmps32
      go_wp2
      go_ret
      exact ⟨rfl, rfl⟩
    · have h2 : decide (16 < (k.size : Int)) = true := by simp; omega
      clear hm g1
      go_enter Tryd.func32, Tryd.ntmps32
      go_wp2
      go_ret
      exact ⟨rfl, rfl⟩
def chk (k v : ByteArray) : Int := if En.may k v then 0 else 110
theorem check_any (k v : ByteArray) (w : World) : Calls Tryd.prog 32 #[.string k, .string v] w fun e w' => e = .returned (.int .i64 (chk k v)) ∧ w' = w := by
  unfold chk
  cases hm : En.may k v with
  | true => exact check_yes k v w hm
  | false => exact check_no k v w hm
theorem chk_yes {k v : ByteArray} (h : En.may k v = true) : chk k v = 0 := by unfold chk; rw [h]; rfl
theorem chk_no {k v : ByteArray} (h : En.may k v = false) : chk k v = 110 := by unfold chk; rw [h]; rfl
set_option maxRecDepth 100000 in
set_option maxHeartbeats 800000 in
theorem right_any (A : Option Addr) (c : Nat) (l : List Ent) (w : World) (hr : LS entE w w.heap.size A l) (hl : l.length ≤ 1000000) :
    Calls Tryd.prog 24 #[.slice A l.length c] w fun e w' => e = .returned (.bool (En.right l)) ∧ Below w.heap.size w w' := by
  obtain ⟨R, hR⟩ : ∃ R, R = En.right l := ⟨_, rfl⟩
  rw [← hR]
  have HR := Lib.hid hR
  clear hR
  go_enter Tryd.func24, Tryd.ntmps24
  go_wp2
  go_loopw [3, 4, 7] (fun _ _ i wr => ∃ k : Nat, k ≤ l.length ∧ i = .int .i64 k ∧ Hid (En.right l = En.rightFrom (En.prev l k) (l.drop k)) ∧ Below w.heap.size w wr) (fun _ _ i _ => l.length - (intOf i).toNat)
  case atStart => exact ⟨0, by omega, rfl, Lib.hid rfl, Below.refl _ _⟩
  case round =>
    obtain ⟨k, hk, rfl, HK, hbe⟩ := hrel
    by_cases hlt : k < l.length
    · obtain ⟨b1, o1, rfl, hb1, g0, g1⟩ := (hr.below hbe).ent hlt
      have hat := Lib.hid (En.right_at l k hlt)
      generalize hx : l[k] = x at *
      obtain ⟨x1, x2⟩ := x
      have hb1' : b1 < wr.heap.size := by have := hbe.size; omega
      cases hm : En.may x1 x2 with
      | false =>
        have hc := fun W => hid_calls (check_any x1 x2 W)
        rw [chk_no hm] at hc
        have HM := Lib.hid hm
        clear hm
        go_wp2_with fail
        go_quiet ((go_at_call 32; exact Calls.quiet_of_same (hc _).out))
        go_wp2
        go_ret
        exact ⟨by rw [HR.out, HK.out, hat.out, HM.out]; rfl, below_drewN (hbe.alloc hbe.size _) _⟩
      | true =>
        have hc := fun W => hid_calls (check_any x1 x2 W)
        rw [chk_yes hm] at hc
        have HM := Lib.hid hm
        clear hm
        by_cases h0 : k = 0
        · subst h0
          simp only [Nat.zero_mul, Nat.add_zero] at g0 g1
          go_wp2_with fail
          go_quiet ((go_at_call 32; exact Calls.quiet_of_same (hc _).out))
          go_wp2
          go_roundw
          case rel =>
            refine ⟨1, by omega, rfl, ?_, below_drewN (hbe.alloc hbe.size _) _⟩
            refine Lib.hid ?_
            rw [HK.out, hat.out, HM.out]; rfl
          case measure => simp [intOf]; omega
        · obtain ⟨q, rfl⟩ : ∃ q, k = q + 1 := ⟨k - 1, by omega⟩
          obtain ⟨b2, o2, e2, hb2, f0, f1⟩ := (hr.below hbe).ent (show q < l.length by omega)
          injection e2 with e2; injection e2 with e2 e3; subst e2 e3
          have hp := Lib.hid (En.prev_succ l (q + 1) hlt (by omega))
          generalize hz : l[q] = z at *
          cases hlz : En.lt z.1 x1 with
          | true =>
            have hbl : Op.bytesLess z.1.toList x1.toList = true := hlz
            have HL := Lib.hid hlz
            clear hlz f1 h0
            go_wp2_with fail
            go_quiet ((go_at_call 32; exact Calls.quiet_of_same (hc _).out))
            go_wp2
            go_roundw
            case rel =>
              refine ⟨q + 1 + 1, by omega, by go_num, ?_, below_drewN (hbe.alloc hbe.size _) _⟩
              refine Lib.hid ?_
              rw [HK.out, hat.out, hp.out, HM.out]
              simp only [Nat.add_sub_cancel, hz]
              unfold En.ahead
              simp only
              rw [HL.out]; simp
            case measure => simp [intOf]; omega
          | false =>
            have hbl : Op.bytesLess z.1.toList x1.toList = false := hlz
            have HL := Lib.hid hlz
            clear hlz f1 h0
            go_wp2_with fail
            go_quiet ((go_at_call 32; exact Calls.quiet_of_same (hc _).out))
            go_wp2
            go_ret
            refine ⟨?_, below_drewN (hbe.alloc hbe.size _) _⟩
            rw [HR.out, HK.out, hat.out, hp.out]
            simp only [Nat.add_sub_cancel, hz]
            unfold En.ahead
            simp only
            rw [HL.out]; simp
    · obtain rfl : k = l.length := by omega
      go_wp2
      go_ret
      refine ⟨?_, hbe⟩
      rw [HR.out, HK.out, List.drop_of_length_le (Nat.le_refl _)]; rfl
end Go.Proofs.YtknlcfiphkbbaaaDoor
