/- The walks of slices.Grow, Concat, Clone at entries; strings.Compare. -/
import Derived.Test.YtknlcfiphkbbaaaDoorEnt2
import Derived.Test.YtknlcfiphkbbaaaDoorGrowLay
namespace Go.Proofs.YtknlcfiphkbbaaaDoor
open Go.RowKit Go.Shelf
theorem cmp_any (a b : ByteArray) (w : World) : Calls Tryd.prog 40 #[.string a, .string b] w fun e w' => e = .returned (.int .i64 (Lib.compareBytes a.data.toList b.data.toList)) ∧ w' = w := Any.strings_Compare Tryd.lays106 a b w
theorem egrow_nil (n : Nat) (w : World) (hn : n ≤ 4000000) : Calls Tryd.prog 41 #[.slice none 0 0, .int .i64 n] w (LEnd entE 39 [] w) := by
  obtain ⟨i0, hi, hz0, hz1, hz2⟩ := eiEnt
  by_cases h0 : n = 0
  · subst h0
    refine Calls.mono (Any8.slices_Grow_room Tryd.growEnt none 0 0 0 w (by omega) (by omega) (by omega) (by omega)) ?_
    rintro e w' ⟨rfl, hw⟩
    subst hw
    exact ⟨_, rfl, LO.nil_ _ _, Below.refl _ _⟩
  · refine Calls.mono (Any8.slices_Grow_grow Tryd.growEnt i0 _ hi hz0 (by omega) none 0 0 n [] w (by omega) (by omega) (by rw [hz2]; omega) (by omega) (by simp) (fun _ => rfl) (fun a h => by cases h)) ?_
    rintro e w' ⟨rfl, rfl⟩
    refine ⟨_, rfl, ?_, ((Below.refl _ _).drew).alloc (Nat.le_refl _) _⟩
    refine World.ownsRow_made (base := w.heap.size) (e := 39) (size := 2) w.drew _ _ (Nat.le_refl _) (grownCap_le_maxLen w _ _ _ (by unfold maxLen; omega)) ?_
    rw [Array.size_append, Array.size_append, size_zeroCells, size_zeroCells]
    have h := grownCap_ge w (0 + n) 0 39
    have e1 : (Value.agg #[Value.string ⟨#[]⟩, Value.string ⟨#[]⟩]).cells.size = 2 := rfl
    have e2 : Tryd.growEnt_ren.t 25 = 39 := rfl
    rw [e1, e2]
    simp only [Nat.zero_add] at h ⊢
    simp
    omega
/-- a slice of slices, each with its list -/
abbrev Part := Option Addr × Nat × List Ent
def conc (ps : List Part) : List Ent := ps.flatMap (·.2.2)
def partV (p : Part) : Value := .slice p.1 p.2.2.length p.2.1
theorem conc_succ (ps : List Part) (j : Nat) (hj : j < ps.length) : conc (ps.take (j + 1)) = conc (ps.take j) ++ ps[j].2.2 := by
  unfold conc; rw [List.take_succ_eq_append_getElem hj, List.flatMap_append]; simp
theorem conc_len (ps : List Part) (j : Nat) : (conc (ps.take j)).length ≤ (conc ps).length := by
  have e : conc ps = conc (ps.take j) ++ conc (ps.drop j) := by unfold conc; rw [← List.flatMap_append, List.take_append_drop]
  rw [e, List.length_append]; omega
set_option maxRecDepth 100000 in
set_option maxHeartbeats 1000000 in
theorem econcat_any (g n : Nat) (ps : List Part) (hn : ps.length = n) (hn2 : n ≤ 10) (w : World) (hB : Blk w g 22 (ps.map partV).toArray) (hls : ∀ p ∈ ps, LS entE w w.heap.size p.1 p.2.2) (hl : (conc ps).length ≤ 1000000) :
    Calls Tryd.prog 35 #[.slice (some ⟨g, 0, none⟩) n n] w (LEnd entE 39 (conc ps) w) := by
  obtain ⟨o, ho⟩ : ∃ o, o = conc ps := ⟨_, rfl⟩
  rw [← ho]
  have HO := Lib.hid ho
  have HLS := Lib.hid hls
  have HN := Lib.hid hn
  have hnp : ps.length ≤ 10 := by omega
  have hnp2 : ps.length ≤ n := by omega
  have hnp3 : n ≤ ps.length := by omega
  have hcell : ∀ j (hj : j < ps.length), w.cell? ⟨g, j, none⟩ = some (partV ps[j]) := fun j hj => by
    rw [hB.cell j]; simp [hj]
  have HC := Lib.hid hcell
  have hgl := hB.lt
  have hcl := fun j => conc_len ps j
  clear ho hls hn hcell hB
  go_enter Tryd.func35, Tryd.ntmps35
  go_wp2
  go_loop [3, 5, 11] (fun s _ i => ∃ j : Nat, j ≤ ps.length ∧ i = .int .i64 j ∧ s = .int .i64 ((conc (ps.take j)).length : Int)) (fun _ _ i => n - (intOf i).toNat)
  case atStart => exact ⟨0, by omega, rfl, rfl⟩
  case round =>
    obtain ⟨j, hj, rfl, rfl⟩ := hrel
    by_cases hlt : j < ps.length
    · have hlt2 : (j : Int) < n := by omega
      have c0 := HC.out j hlt
      have hs := congrArg List.length (conc_succ ps j hlt)
      rw [List.length_append] at hs
      have h1 := hcl (j + 1)
      unfold partV at c0
      generalize ps[j] = p at *
      obtain ⟨pA, pk, pl⟩ := p
      simp only at c0 hs
      have HS := Lib.hid hs
      have hb1 : ((conc (ps.take j)).length : Int) + pl.length ≤ 1000000 := by omega
      have hb0 : (0 : Int) ≤ ((conc (ps.take j)).length : Int) + pl.length := by omega
      clear hs
      generalize (conc (ps.take j)).length = s1 at *
      go_wp2
      go_round
      case rel => exact ⟨j + 1, by omega, by go_num, by rw [HS.out]; go_num⟩
      case measure => simp [intOf]; omega
    · obtain rfl : j = ps.length := by omega
      have hge : (n : Int) ≤ ps.length := by omega
      have hal : conc (ps.take ps.length) = conc ps := by rw [List.take_of_length_le (Nat.le_refl _)]
      rw [hal]
      have hgr := egrow_nil (conc ps).length w (by omega)
      have HG := Lib.hid hgr
      clear hgr
      have HAL := Lib.hid hal
      clear hal
      go_wp2_with fail
      refine HG.out.mono ?_
      rintro e w2 ⟨v, rfl, ho2, hb2⟩
      go_wp2
      go_loopw [6, 8, 27] (fun v _ i wr => ∃ j : Nat, j ≤ ps.length ∧ i = .int .i64 j ∧ Below w.heap.size w2 wr ∧ LO entE 39 wr w.heap.size v (conc (ps.take j))) (fun _ _ i _ => n - (intOf i).toNat)
      case atStart => exact ⟨0, by omega, rfl, Below.refl _ _, ho2⟩
      case round =>
        obtain ⟨j, hj, rfl, hbw, hown⟩ := hrel
        have hzz : w.heap.size ≤ wr.heap.size := Nat.le_trans hb2.size hbw.size
        have hbz := hb2.trans hbw
        by_cases hlt : j < ps.length
        · have hlt2 : (j : Int) < n := by omega
          have c0 := (hbz.cell (p := ⟨g, j, none⟩) hgl).trans (HC.out j hlt)
          have hls := HLS.out _ (List.getElem_mem hlt)
          have hcs := conc_succ ps j hlt
          have h1 := hcl (j + 1)
          rw [hcs, List.length_append] at h1
          unfold partV at c0
          have HCS := Lib.hid hcs
          clear hcs
          generalize ps[j] = p at *
          obtain ⟨pA, pk, pl⟩ := p
          simp only at c0 hls h1 HCS
          have s1 : LS entE wr wr.heap.size pA pl := (hls.below hbz).more hzz
          generalize conc (ps.take j) = cj at *
          have hraw := hown.raw rfl (s := 2) rfl
          have hgw : g < wr.heap.size := by omega
          go_wp2_with (at_builtin; refine wpList_appN rfl (.tmp 31) (.tmp 32) 22 rfl eiEnt Tryd.underlying22 rfl (by decide) rfl hraw rfl s1 (entE.cells_all _) (by unfold maxLen; omega) (by omega) hzz ?_; intro v' w3 hown' hgrow hbel)
          go_roundw
          case rel =>
            refine ⟨j + 1, by omega, by go_num, hbw.trans hbel, ?_⟩
            rw [HCS.out]
            unfold LO
            rw [entE.cells_append, List.length_append]; exact hown'
          case measure => simp [intOf]; omega
        · obtain rfl : j = ps.length := by omega
          go_wp2
          go_ret
          exact ⟨_, rfl, by rw [HO.out, ← HAL.out]; exact hown, hbz⟩
set_option maxRecDepth 100000 in
set_option maxHeartbeats 400000 in
theorem eclone_any (A : Option Addr) (c : Nat) (l : List Ent) (w : World) (hv : A = none → l.length = 0 ∧ c = 0) (hr : LS entE w w.heap.size A l) (hl : l.length ≤ 1000000) : Calls Tryd.prog 34 #[.slice A l.length c] w (LEnd entE 39 l w) := by
  have hn := fun W a n c => Lib.run_eql_slice_nil (P := Tryd.prog) W 22 39 a n c 0 0 Tryd.underlying22
  rcases A with _ | a
  · obtain ⟨h0, rfl⟩ := hv rfl
    have hl0 : l = [] := List.eq_nil_of_length_eq_zero h0
    subst hl0
    clear hv h0
    go_enter Tryd.func34, Tryd.ntmps34
    go_wp2
    go_ret
    exact ⟨_, rfl, LO.nil_ _ _, Below.refl _ _⟩
  · have hr2 : Reads (w.alloc (.cells #[] 39)) w.heap.size 2 (some a) l.length (entE.cells l) := Reads.alloc hr (Nat.le_refl _) _
    have hown := World.ownsRow_lit (base := w.heap.size) (e := 39) (size := 2) w #[] 0 (Nat.le_refl _) (by decide) rfl
    clear hv
    go_enter Tryd.func34, Tryd.ntmps34
    go_wp2_with (at_builtin; refine wpList_appN rfl (.tmp 5) (.tmp 6) 22 rfl eiEnt Tryd.underlying22 rfl (by decide) rfl hown rfl hr2 (entE.cells_all _) (by unfold maxLen; omega) (by omega) (by simp) ?_; intro v' w3 hown' hgrow hbel)
    go_ret
    exact ⟨_, rfl, by have h := hown'; simp only [Nat.zero_add, List.nil_append] at h; exact h, ((Below.refl _ _).alloc (Nat.le_refl _) _).trans hbel⟩
end Go.Proofs.YtknlcfiphkbbaaaDoor
