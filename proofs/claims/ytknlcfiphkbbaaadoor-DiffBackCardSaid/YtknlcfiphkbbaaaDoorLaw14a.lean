/- The walks of rootstocklaw14's over, same, of. -/
import Derived.Test.YtknlcfiphkbbaaaDoorApply
namespace Go.Proofs.YtknlcfiphkbbaaaDoor
open Go.RowKit Go.Shelf
def OverEnd (n : Nat) (w : World) (e : Ending) (w' : World) : Prop := ∃ b : Bool, e = .returned (.bool b) ∧ (b = false → n ≤ 150) ∧ w' = w
set_option maxRecDepth 100000 in
set_option maxHeartbeats 1000000 in
theorem over_any (A : Option Addr) (n c : Nat) (l : List Ent) (hn : l.length = n) (w : World) (hr : LS entE w w.heap.size A l) :
    Calls Tryd.prog 6 #[.slice A n c] w (OverEnd n w) := by
  subst hn
  by_cases h : 150 < l.length
  · have hd : decide (150 < (l.length : Int)) = true := by simp; omega
    go_enter Tryd.func6, Tryd.ntmps6
    go_wp2
    go_ret
    exact ⟨true, rfl, fun e => (by cases e), rfl⟩
  · have hd : decide (150 < (l.length : Int)) = false := by simp; omega
    have hle : l.length ≤ 150 := by omega
    go_enter Tryd.func6, Tryd.ntmps6
    go_wp2
    go_loop [3] (fun i => ∃ j : Nat, j ≤ l.length ∧ i = .int .i64 j) (fun i => l.length - (intOf i).toNat)
    case atStart => exact ⟨0, by omega, rfl⟩
    case round =>
      obtain ⟨j, hj, rfl⟩ := hrel
      by_cases hlt : j < l.length
      · obtain ⟨b2, o2, rfl, hb2, g0, g1⟩ := hr.ent hlt
        generalize l[j] = x at *
        by_cases h1 : 60 < (x.1.size : Int)
        · have hd1 : decide (60 < (x.1.size : Int)) = true := by simpa using h1
          go_wp2
          go_ret
          exact ⟨true, rfl, fun e => (by cases e), rfl⟩
        · have hd1 : decide (60 < (x.1.size : Int)) = false := by simpa using h1
          by_cases h2 : 60 < (x.2.size : Int)
          · have hd2 : decide (60 < (x.2.size : Int)) = true := by simpa using h2
            go_wp2
            go_ret
            exact ⟨true, rfl, fun e => (by cases e), rfl⟩
          · have hd2 : decide (60 < (x.2.size : Int)) = false := by simpa using h2
            go_wp2
            go_round
            case rel => exact ⟨j + 1, by omega, by go_num⟩
            case measure => simp [intOf]; omega
      · obtain rfl : j = l.length := by omega
        go_wp2
        go_ret
        exact ⟨false, rfl, fun _ => hle, rfl⟩
set_option maxRecDepth 100000 in
set_option maxHeartbeats 2000000 in
theorem same14_yes (A B : Option Addr) (l : List Dl) (n c d : Nat) (hn : l.length = n) (w : World) (ha : LS dlE w w.heap.size A l) (hb : LS rdlE w w.heap.size B l) (hl : l.length ≤ 1000000) :
    Calls Tryd.prog 7 #[.slice A n c, .slice B n d] w fun e w' => e = .returned (.bool true) ∧ Below w.heap.size w w' := by
  subst hn
  go_enter Tryd.func7, Tryd.ntmps7
  go_wp2
  go_loopw [5, 6, 7] (fun i _ _ wr => ∃ k : Nat, k ≤ l.length ∧ i = .int .i64 k ∧ Below w.heap.size w wr) (fun i _ _ _ => l.length - (intOf i).toNat)
  case atStart => exact ⟨0, by omega, rfl, Below.refl _ _⟩
  case round =>
    obtain ⟨k, hk, rfl, hbe⟩ := hrel
    by_cases hlt : k < l.length
    · obtain ⟨b1, o1, rfl, hq1, g0, g1, g2, g3, g4⟩ := (ha.below hbe).dl hlt
      obtain ⟨b2, o2, rfl, hq2, f0, f1, f2, f3, f4⟩ := (hb.rdl.below hbe).dl hlt
      generalize l[k] = x at *
      have hq1' : b1 < wr.heap.size := by have := hbe.size; omega
      have hq2' : b2 < wr.heap.size := by have := hbe.size; omega
      go_wp2
      go_roundw
      case rel => exact ⟨k + 1, by omega, by go_num, (hbe.alloc hbe.size _).alloc (by have := hbe.size; simp; omega) _⟩
      case measure => simp [intOf]; omega
    · go_wp2
      go_ret
      exact ⟨rfl, hbe⟩
set_option maxRecDepth 100000 in
set_option maxHeartbeats 1000000 in
theorem of_any (A : Option Addr) (c : Nat) (l : List Dl) (w : World) (hr : LS rdlE w w.heap.size A l) (hl : l.length ≤ 100000) :
    Calls Tryd.prog 12 #[.slice A l.length c] w (LEnd dlE 37 l w) := by
  go_enter Tryd.func12, Tryd.ntmps12
  go_wp2
  go_loopw [3, 4, 5] (fun v i _ wr => ∃ j : Nat, j ≤ l.length ∧ i = .int .i64 j ∧ LO dlE 37 wr w.heap.size v (l.take j) ∧ Below w.heap.size w wr) (fun _ i _ _ => l.length - (intOf i).toNat)
  case atStart => exact ⟨0, by omega, rfl, LO.nil_ _ _, Below.refl _ _⟩
  case round =>
    obtain ⟨j, hj, rfl, ho, hbe⟩ := hrel
    by_cases hlt : j < l.length
    · obtain ⟨b2, o2, rfl, hb2, g0, g1, g2, g3, g4⟩ := (hr.rdl.below hbe).dl hlt
      have htk := Lib.hid (List.take_succ_eq_append_getElem hlt)
      have htl : (l.take j).length = j := by rw [List.length_take]; omega
      have hraw := ho.raw htl (s := 5) rfl
      have HTL := Lib.hid htl
      clear htl
      generalize l.take j = o at *
      generalize l[j] = x at *
      have hb2' : b2 < wr.heap.size := by have := hbe.size; omega
      go_wp2_with (at_builtin; refine wpList_app1 rfl (.tmp 16) (.tmp 28) 29 rfl eiDl Tryd.underlying29 rfl (by decide) rfl (World.ownsRow.alloc hraw _) rfl (by simp) rfl (by simp [Value.oneCell']) (by unfold maxLen; omega) (by omega) (by have := hbe.size; simp; omega) ?_; intro v' w2 hown' hgrow hbel _ _)
      go_roundw
      case rel => exact ⟨j + 1, by omega, by go_num, by rw [htk.out]; exact LO.snoc (E := dlE) HTL.out rfl rfl hown', (hbe.alloc hbe.size _).trans hbel⟩
      case measure => simp [intOf]; omega
    · obtain rfl : j = l.length := by omega
      rw [List.take_of_length_le (Nat.le_refl _)] at ho
      go_wp2
      go_ret
      exact ⟨_, rfl, ho, hbe⟩
end Go.Proofs.YtknlcfiphkbbaaaDoor
