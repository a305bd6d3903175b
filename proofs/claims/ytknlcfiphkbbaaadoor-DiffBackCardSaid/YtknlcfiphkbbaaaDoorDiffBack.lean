/- The walk of rootstocklaw14.DiffBack. -/
import Derived.Test.YtknlcfiphkbbaaaDoorDiffLists
import Derived.Test.YtknlcfiphkbbaaaDoorRight
import Derived.BigRegion
namespace Go.Proofs.YtknlcfiphkbbaaaDoor
open Go.RowKit
theorem told_yes {a b : List Ent} (ha : En.right a = true) (hb : En.right b = true) : told a b = En.mergeD a b := by unfold told; rw [ha, hb]; rfl
theorem told_turn {a b : List Ent} (ha : En.right a = true) (hb : En.right b = true) : told b a = (told a b).map En.turn := by
  rw [told_yes ha hb, told_yes hb ha]; exact En.merge_turn _ a b (Nat.le_refl _)
theorem told_self {a : List Ent} (ha : En.right a = true) : told a a = [] := by rw [told_yes ha ha]; exact En.merge_self a
theorem told_there {a b : List Ent} (ha : En.right a = true) (hb : En.right b = true) : En.ap a (told a b) = b := by rw [told_yes ha hb]; exact En.ap_there ha hb
theorem told_rise {a b : List Ent} (ha : En.right a = true) (hb : En.right b = true) : En.Rise (told a b) := by
  rw [told_yes ha hb]; exact En.merge_rise _ a b (Nat.le_refl _) ((En.right_iff a).1 ha).2 ((En.right_iff b).1 hb).2
set_option maxRecDepth 100000 in
set_option maxHeartbeats 2000000 in
theorem diffback_any (A1 A2 : Option Addr) (c1 c2 : Nat) (a b : List Ent) (w : World) (ha : SV entE w A1 c1 a) (hb : SV entE w A2 c2 b) (hal0 : a.length ≤ 9223372036854775807) (hbl0 : b.length ≤ 9223372036854775807) :
    Calls Tryd.prog 4 #[.slice A1 a.length c1, .slice A2 b.length c2] w fun e w' => e = .returned (.bool true) ∧ Below w.heap.size w w' := by
  go_enter Tryd.func4, Tryd.ntmps4
  go_wp2_with fail
  refine Calls.mono (works14_any w) ?_
  rintro e w1 ⟨rfl, hbw⟩
  have ha1 := ha.up hbw
  have hb1 := hb.up hbw
  clear ha hb
  go_wp2_with fail
  refine Calls.mono (over_any A1 a.length c1 a rfl w1 ha1.ls) ?_
  rintro e w2 ⟨o1, rfl, ho1, rfl⟩
  go_wp2_with fail
  refine Calls.mono (over_any A2 b.length c2 b rfl w2 hb1.ls) ?_
  rintro e w3 ⟨o2, rfl, ho2, rfl⟩
  go_wp2_with fail
  refine Calls.mono (rright_big A1 c1 a w3 ha1.ls hal0) ?_
  rintro e w4 ⟨rfl, hb4⟩
  have ha4 := ha1.up hb4
  have hb4' := hb1.up hb4
  have hbw4 := hbw.trans (hb4.mono hbw.size)
  go_wp2_with fail
  refine Calls.mono (rright_big A2 c2 b w4 hb4'.ls hbl0) ?_
  rintro e w5 ⟨rfl, hb5⟩
  have ha5 := ha4.up hb5
  have hb5' := hb4'.up hb5
  have hbw5 := hbw4.trans (hb5.mono hbw4.size)
  clear ha1 hb1 ha4 hb4' hbw hbw4
  cases o1 with
  | true =>
    go_wp2
    go_ret
    exact ⟨rfl, hbw5⟩
  | false =>
  have hal := ho1 rfl
  cases o2 with
  | true =>
    go_wp2
    go_ret
    exact ⟨rfl, hbw5⟩
  | false =>
  have hbl := ho2 rfl
  clear ho1 ho2
  cases hra : En.right a with
  | false =>
    go_wp2
    go_ret
    exact ⟨rfl, hbw5⟩
  | true =>
  cases hrb : En.right b with
  | false =>
    go_wp2
    go_ret
    exact ⟨rfl, hbw5⟩
  | true =>
  have hT := Lib.hid (told_turn hra hrb)
  have hSf := Lib.hid (told_self hra)
  have hTh := Lib.hid (told_there hra hrb)
  have hTh2 := Lib.hid (told_there hrb hra)
  have hRi := Lib.hid (told_rise hra hrb)
  have htl := told_len a b
  clear hra hrb
  go_wp2_with fail
  refine Calls.mono (lists_any A1 A2 c1 c2 a b _ ha5.ls hb5'.ls (by omega) (by omega)) ?_
  intro e w6 h6
  obtain ⟨B1, e1, rfl, -, hs6, hb6⟩ := h6.open_
  clear h6
  have ha6 := ha5.up hb6
  have hb6' := hb5'.up hb6
  have hbw6 := hbw5.trans (hb6.mono hbw5.size)
  clear ha5 hb5' hbw5
  go_wp2_with fail
  refine Calls.mono (lists_any A2 A1 c2 c1 b a _ hb6'.ls ha6.ls (by omega) (by omega)) ?_
  intro e w7 h7
  rw [hT.out] at h7
  obtain ⟨B2, e2, rfl, -, hs7, hb7⟩ := h7.open_
  clear h7
  have ha7 := ha6.up hb7
  have hb7' := hb6'.up hb7
  have hbw7 := hbw6.trans (hb7.mono hbw6.size)
  have hs6' := hs6.up hb7
  clear ha6 hb6' hbw6 hs6
  rw [hT.out] at hTh2
  rw [List.length_map]
  generalize told a b = d at *
  have hne : ((d.length : Int) != (d.length : Int)) = false := by simp
  go_wp2_with fail
  refine Calls.mono (lists_any A1 A1 c1 c1 a a _ ha7.ls ha7.ls (by omega) (by omega)) ?_
  intro e w8 h8
  rw [hSf.out] at h8
  obtain ⟨B3, e3, rfl, -, -, hb8⟩ := h8.open_
  clear h8
  have ha8 := ha7.up hb8
  have hb8' := hb7'.up hb8
  have hbw8 := hbw7.trans (hb8.mono hbw7.size)
  have hs6 := hs6'.up hb8
  have hs7' := hs7.up hb8
  clear ha7 hb7' hbw7 hs6' hs7
  go_wp2_with fail
  go_loopw [12, 13] (fun i v wr => ∃ j : Nat, j ≤ d.length ∧ i = .int .i64 j ∧ Below w8.heap.size w8 wr) (fun i _ _ => d.length - (intOf i).toNat)
  case atStart => exact ⟨0, by omega, rfl, Below.refl _ _⟩
  case round =>
    obtain ⟨j, hj, rfl, hbe⟩ := hrel
    by_cases hlt : j < d.length
    · have hlt' : j < (d.map En.turn).length := by rw [List.length_map]; exact hlt
      obtain ⟨bd, od, rfl, hbd, g0, g1, g2, g3, g4⟩ := (hs6.below hbe).dl hlt
      obtain ⟨be, oe, rfl, hbe2, f0, f1, f2, f3, f4⟩ := (hs7'.below hbe).dl hlt'
      simp only [List.getElem_map, En.turn] at f0 f1 f2 f3 f4
      have hbd' : bd < wr.heap.size := by have := hbe.size; omega
      have hbe' : be < wr.heap.size := by have := hbe.size; omega
      by_cases h0 : j = 0
      · subst h0
        simp only [Nat.zero_mul, Nat.add_zero] at g0 g1 g2 g3 g4 f0 f1 f2 f3 f4
        generalize d[0] = x at *
        clear hRi hT hSf hTh hTh2 hs6 hs7'
        go_wp2_with fail
        go_region
        go_wp2_with fail
        go_quiet (fail)
        go_wp2
        go_roundw
        case rel => exact ⟨1, by omega, rfl, below_drewN (hbe.alloc hbe.size _) _⟩
        case measure => simp [intOf]; omega
      · obtain ⟨q, rfl⟩ : ∃ q, j = q + 1 := ⟨j - 1, by omega⟩
        obtain ⟨bd2, od2, e2', hbd2, p0, -, -, -, -⟩ := (hs6.below hbe).dl (show q < d.length by omega)
        injection e2' with e2'; injection e2' with e2' e3'; subst e2' e3'
        have hlz : Op.bytesLess d[q].key.toList d[q + 1].key.toList = true := List.pairwise_iff_getElem.1 hRi.out q (q + 1) (by omega) hlt (by omega)
        have hd0 : decide ((0 : Int) < ((q + 1 : Nat) : Int)) = true := by simp
        generalize d[q] = z at *
        generalize d[q + 1] = x at *
        have hne2 : q + 1 < d.length := hlt
        clear hRi hT hSf hTh hTh2 hs6 hs7'
        have hw1 : IntKind.i64.wrap (((q + 1 : Nat) : Int) - 1) = (q : Int) := by
          rw [show ((q + 1 : Nat) : Int) - 1 = (q : Int) by omega]; exact IntWalk.i64_in _ (by omega)
        go_wp2_with fail
        go_region
        go_wp2_with fail
        go_quiet (fail)
        go_wp2
        go_roundw
        case rel => exact ⟨q + 1 + 1, by omega, by go_num, below_drewN (hbe.alloc hbe.size _) _⟩
        case measure => simp [intOf]; omega
    · obtain rfl : j = d.length := by omega
      have ha9 := ha8.up hbe
      have hb9' := hb8'.up hbe
      have hbw9 := hbw8.trans (hbe.mono hbw8.size)
      have hsd := hs6.up hbe
      have hse := hs7'.up hbe
      have hap := fun W h1 h2 => apply_any A1 c1 a B1 e1 d W h1 h2 (by omega) (by omega)
      have hap2 := fun W h1 h2 => apply_any A2 c2 b B2 e2 (d.map En.turn) W h1 h2 (by omega) (by rw [List.length_map]; omega)
      rw [hTh.out] at hap
      rw [hTh2.out] at hap2
      rw [List.length_map] at hap2
      have HAP := Lib.hid hap
      have HAP2 := Lib.hid hap2
      clear hap hap2
      go_wp2_with fail
      refine Calls.mono (HAP.out _ ha9 hsd) ?_
      rintro e w10 ⟨B4, e4, rfl, hs10, hb10⟩
      have ha10 := ha9.up hb10
      have hb10' := hb9'.up hb10
      have hse10 := hse.up hb10
      have hbw10 := hbw9.trans (hb10.mono hbw9.size)
      go_wp2_with fail
      refine Calls.mono (rsame_yes B4 A2 b e4 c2 _ hs10.ls hb10'.ls (by omega)) ?_
      rintro e w11 ⟨rfl, hb11⟩
      have ha11 := ha10.up hb11
      have hb11' := hb10'.up hb11
      have hse11 := hse10.up hb11
      have hbw11 := hbw10.trans (hb11.mono hbw10.size)
      go_wp2_with fail
      refine Calls.mono (HAP2.out _ hb11' hse11) ?_
      rintro e w12 ⟨B5, e5, rfl, hs12, hb12⟩
      have ha12 := ha11.up hb12
      have hbw12 := hbw11.trans (hb12.mono hbw11.size)
      go_wp2_with fail
      refine Calls.mono (rsame_yes B5 A1 a e5 c1 _ hs12.ls ha12.ls (by omega)) ?_
      rintro e w13 ⟨rfl, hb13⟩
      have hbw13 := hbw12.trans (hb13.mono hbw12.size)
      go_wp2
      go_ret
      exact ⟨rfl, hbw13⟩
end Go.Proofs.YtknlcfiphkbbaaaDoor
