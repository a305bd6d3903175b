/- The walks of chain.Pages and rootstockref09.Pages. -/
import Derived.Test.YtknlcfiphkbbaaaNorm
namespace Go.Proofs.Ytknlcfiphkbbaaa
open Go.RowKit
theorem norm_len (l : List Run) : (Rp.norm l).length ≤ l.length := by
  have h := (nAt_ok l l.length).2
  unfold nAt at h
  rwa [List.take_of_length_le (Nat.le_refl _)] at h
/-- how many pages a set needs -/
def pg (l : List Run) : Int := ((((Rp.norm l).length + 28) / 29 : Nat) : Int)
/-- how a count of pages ends -/
def PagesEnd (l : List Run) (w : World) (e : Ending) (w' : World) : Prop := e = .returned (.int .i64 (pg l)) ∧ Below w.heap.size w w'
set_option maxRecDepth 100000 in
set_option maxHeartbeats 400000 in
theorem pages_any (hS : SortSaid) (A : Option Addr) (c : Nat) (l : List Run) (w : World) (hr : RS w w.heap.size A l) (hl : l.length ≤ 1000000) : Calls Try.prog 12 #[.slice A l.length c] w (PagesEnd l w) := by
  have hn := norm_len l
  have hc := pnorm_any hS A c l w hr hl
  obtain ⟨n, hnn⟩ : ∃ n, n = Rp.norm l := ⟨_, rfl⟩
  rw [← hnn] at hn hc
  have HN := Lib.hid hnn
  have HC := Lib.hid hc
  clear hnn hc hS
  go_enter Try.func12, Try.ntmps12
  go_wp2_with (go_at_call 29; refine HC.out.mono ?_; rintro e w1 ⟨v, rfl, ho, hb⟩; obtain ⟨A1, c1, rfl⟩ := ho.form)
  go_ret
  refine ⟨?_, hb⟩
  unfold pg
  rw [← HN.out]
  show Ending.returned (.int .i64 _) = _
  congr 2
  omega
set_option maxRecDepth 100000 in
set_option maxHeartbeats 400000 in
theorem rpages_any (A : Option Addr) (c : Nat) (l : List Run) (w : World) (hr : RS w w.heap.size A l) (hl : l.length ≤ 1000000) : Calls Try.prog 13 #[.slice A l.length c] w (PagesEnd l w) := by
  have hn := norm_len l
  have hc := norm_any A c l w hr hl
  obtain ⟨n, hnn⟩ : ∃ n, n = Rp.norm l := ⟨_, rfl⟩
  rw [← hnn] at hn hc
  have HN := Lib.hid hnn
  have HC := Lib.hid hc
  clear hnn hc
  by_cases hm : (n.length : Int) % 29 = 0
  · have hm2 : ¬ (0 < (n.length : Int) % 29) := by omega
    have hm3 := Lib.hid hm
    clear hm
    go_enter Try.func13, Try.ntmps13
    go_wp2_with (go_at_call 36; refine HC.out.mono ?_; rintro e w1 ⟨v, rfl, ho, hb⟩; obtain ⟨A1, c1, rfl⟩ := ho.form)
    go_ret
    refine ⟨?_, hb⟩
    unfold pg
    rw [← HN.out]
    have := hm3.out
    show Ending.returned (.int .i64 _) = _
    congr 2
    omega
  · have hm2 : 0 < (n.length : Int) % 29 := by omega
    have hm3 := Lib.hid hm
    clear hm
    go_enter Try.func13, Try.ntmps13
    go_wp2_with (go_at_call 36; refine HC.out.mono ?_; rintro e w1 ⟨v, rfl, ho, hb⟩; obtain ⟨A1, c1, rfl⟩ := ho.form)
    go_ret
    refine ⟨?_, hb⟩
    unfold pg
    rw [← HN.out]
    have := hm3.out
    show Ending.returned (.int .i64 _) = _
    congr 2
    omega
end Go.Proofs.Ytknlcfiphkbbaaa
