/- The walk of rootstocklaw14.DiffLists. -/
import Derived.Test.YtknlcfiphkbbaaaDoorWorks14
namespace Go.Proofs.YtknlcfiphkbbaaaDoor
open Go.RowKit
theorem rtold_told (a b : List Ent) : rtold a b = told a b := by
  unfold rtold told
  split
  · rename_i h
    have h' : En.right a = true ∧ En.right b = true := by simpa using h
    exact En.ref_merge ((En.right_iff a).1 h'.1).2 ((En.right_iff b).1 h'.2).2
  · rfl
theorem told_len (a b : List Ent) : (told a b).length ≤ a.length + b.length := by rw [← rtold_told]; exact rtold_len a b
theorem ap_len (l : List Ent) (d : List Dl) : (En.ap l d).length ≤ l.length + d.length := by
  have h := apAt_len l d d.length
  unfold apAt at h
  rwa [List.take_of_length_le (Nat.le_refl _)] at h
set_option maxRecDepth 100000 in
set_option maxHeartbeats 1000000 in
theorem difflists_any (A1 A2 A3 : Option Addr) (c1 c2 c3 : Nat) (a b : List Ent) (d : List Dl) (w : World) (ha : SV entE w A1 c1 a) (hb : LS entE w w.heap.size A2 b) (hd : LS rdlE w w.heap.size A3 d) :
    Calls Tryd.prog 3 #[.slice A1 a.length c1, .slice A2 b.length c2, .slice A3 d.length c3] w fun e w' => e = .returned (.bool true) ∧ Below w.heap.size w w' := by
  go_enter Tryd.func3, Tryd.ntmps3
  go_wp2_with fail
  refine Calls.mono (works14_any w) ?_
  rintro e w1 ⟨rfl, hbw⟩
  have ha1 := ha.up hbw
  have hb1 := hb.up hbw
  have hd1 : LS rdlE w1 w1.heap.size A3 d := hd.up hbw
  clear ha hb hd
  go_wp2_with fail
  refine Calls.mono (over_any A1 a.length c1 a rfl w1 ha1.ls) ?_
  rintro e w2 ⟨o1, rfl, ho1, rfl⟩
  go_wp2_with fail
  refine Calls.mono (over_any A2 b.length c2 b rfl w2 hb1) ?_
  rintro e w3 ⟨o2, rfl, ho2, rfl⟩
  cases o1 with
  | true =>
    go_wp2
    go_ret
    exact ⟨rfl, hbw⟩
  | false =>
  have hal := ho1 rfl
  cases o2 with
  | true =>
    go_wp2
    go_ret
    exact ⟨rfl, hbw⟩
  | false =>
  have hbl := ho2 rfl
  clear ho1 ho2
  by_cases hdl : 150 < (d.length : Int)
  · have hq : decide (150 < (d.length : Int)) = true := by simpa using hdl
    go_wp2
    go_ret
    exact ⟨rfl, hbw⟩
  have hq : decide (150 < (d.length : Int)) = false := by simpa using hdl
  have hdn : d.length ≤ 150 := by omega
  go_wp2_with fail
  go_loop [10] (fun i => ∃ j : Nat, j ≤ d.length ∧ i = .int .i64 j) (fun i => d.length - (intOf i).toNat)
  case atStart => exact ⟨0, by omega, rfl⟩
  case round =>
    obtain ⟨j, hj, rfl⟩ := hrel
    by_cases hlt : j < d.length
    · obtain ⟨b2, o2, rfl, hb2, g0, g1, g2, g3, g4⟩ := hd1.rdl.dl hlt
      generalize d[j] = x at *
      by_cases h1 : 60 < (x.key.size : Int)
      · have hd1 : decide (60 < (x.key.size : Int)) = true := by simpa using h1
        go_wp2
        go_ret
        exact ⟨rfl, hbw⟩
      have hd1 : decide (60 < (x.key.size : Int)) = false := by simpa using h1
      by_cases h2 : 60 < (x.new.size : Int)
      · have hd2 : decide (60 < (x.new.size : Int)) = true := by simpa using h2
        go_wp2
        go_ret
        exact ⟨rfl, hbw⟩
      have hd2 : decide (60 < (x.new.size : Int)) = false := by simpa using h2
      by_cases h3 : 60 < (x.old.size : Int)
      · have hd3 : decide (60 < (x.old.size : Int)) = true := by simpa using h3
        go_wp2
        go_ret
        exact ⟨rfl, hbw⟩
      have hd3 : decide (60 < (x.old.size : Int)) = false := by simpa using h3
      go_wp2
      go_round
      case rel => exact ⟨j + 1, by omega, by go_num⟩
      case measure => simp [intOf]; omega
    · obtain rfl : j = d.length := by omega
      have htl := told_len a b
      have hrt := Lib.hid (rtold_told a b)
      have hpl := ap_len a d
      go_wp2_with fail
      refine Calls.mono (lists_any A1 A2 c1 c2 a b _ ha1.ls hb1 (by omega) (by omega)) ?_
      intro e w4 h4
      obtain ⟨B1, e1, rfl, -, hs4, hb4⟩ := h4.open_
      clear h4
      have ha4 := ha1.up hb4
      have hb4' := hb1.up hb4
      have hd4 : LS rdlE w4 w4.heap.size A3 d := hd1.up hb4
      have hbw4 := hbw.trans (hb4.mono hbw.size)
      go_wp2_with fail
      refine Calls.mono (rlists_any A1 A2 c1 c2 a b _ ha4.ls hb4' (by omega) (by omega)) ?_
      intro e w5 h5
      rw [hrt.out] at h5
      obtain ⟨B2, e2, rfl, -, hs5, hb5⟩ := h5.open_
      clear h5
      have ha5 := ha4.up hb5
      have hs4' := hs4.up hb5
      have hd5 : LS rdlE w5 w5.heap.size A3 d := hd4.up hb5
      have hbw5 := hbw4.trans (hb5.mono hbw4.size)
      generalize told a b = t at *
      go_wp2_with fail
      refine Calls.mono (same14_yes B1 B2 t t.length e1 e2 rfl _ hs4' hs5 (by omega)) ?_
      rintro e w6 ⟨rfl, hb6⟩
      have ha6 := ha5.up hb6
      have hd6 : LS rdlE w6 w6.heap.size A3 d := hd5.up hb6
      have hbw6 := hbw5.trans (hb6.mono hbw5.size)
      go_wp2_with fail
      refine Calls.mono (of_any A3 c3 d _ hd6 (by omega)) ?_
      intro e w7 h7
      obtain ⟨B3, e3, rfl, -, hs7, hb7⟩ := h7.open_
      clear h7
      have ha7 := ha6.up hb7
      have hd7 : LS rdlE w7 w7.heap.size A3 d := hd6.up hb7
      have hbw7 := hbw6.trans (hb7.mono hbw6.size)
      go_wp2_with fail
      refine Calls.mono (apply_any A1 c1 a B3 e3 d _ ha7 hs7 (by omega) (by omega)) ?_
      rintro e w8 ⟨B4, e4, rfl, hs8, hb8⟩
      have ha8 := ha7.up hb8
      have hd8 : LS rdlE w8 w8.heap.size A3 d := hd7.up hb8
      have hbw8 := hbw7.trans (hb8.mono hbw7.size)
      go_wp2_with fail
      refine Calls.mono (rapply_any A1 c1 a A3 c3 d _ ha8.ls hd8 (by omega) (by omega) _ rfl) ?_
      rintro e w9 ⟨B5, e5, rfl, hs9, hb9⟩
      have hbw9 := hbw8.trans (hb9.mono hbw8.size)
      have hs8' := hs8.up hb9
      generalize En.ap a d = o at *
      go_wp2_with fail
      refine Calls.mono (rsame_yes B4 B5 o e4 e5 _ hs8'.ls hs9 (by omega)) ?_
      rintro e w10 ⟨rfl, hb10⟩
      have hbw10 := hbw9.trans (hb10.mono hbw9.size)
      go_wp2
      go_ret
      exact ⟨rfl, hbw10⟩
end Go.Proofs.YtknlcfiphkbbaaaDoor
