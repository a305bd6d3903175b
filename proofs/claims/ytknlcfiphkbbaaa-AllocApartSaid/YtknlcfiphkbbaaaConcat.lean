/- The walks of slices.Concat and slices.Clone at runs, and of Union, Meet, Minus, Add, Remove. -/
import Derived.Test.YtknlcfiphkbbaaaRest
import Derived.Test.YtknlcfiphkbbaaaRunLay
namespace Go.Proofs.Ytknlcfiphkbbaaa
open Go.RowKit Go.Shelf
theorem cellsR_all (l : List Run) : ∀ u ∈ cellsR l, u.oneCell' = true := cellsR_one_cell l
/-- slices.Grow of the nil slice -/
theorem grow_nil (n : Nat) (w : World) (hn : n ≤ 4000000) : Calls Try.prog 67 #[.slice none 0 0, .int .i64 n] w (RunsEnd [] w) := by
  obtain ⟨i0, hi, hz0, hz1, hz2⟩ := eiRun
  by_cases h0 : n = 0
  · subst h0
    refine Calls.mono (Any8.slices_Grow_room Try.growRun none 0 0 0 w (by omega) (by omega) (by omega) (by omega)) ?_
    rintro e w' ⟨rfl, hw⟩
    subst hw
    exact ⟨_, rfl, Own.nil_ _ _, Below.refl _ _⟩
  · refine Calls.mono (Any8.slices_Grow_grow Try.growRun i0 _ hi hz0 (by omega) none 0 0 n [] w (by omega) (by omega) (by rw [hz2]; omega) (by omega) (by simp) (fun _ => rfl) (fun a h => by cases h)) ?_
    rintro e w' ⟨rfl, rfl⟩
    refine ⟨_, rfl, ?_, ((Below.refl _ _).drew).alloc (Nat.le_refl _) _⟩
    refine World.ownsRow_made (base := w.heap.size) (e := 55) (size := 2) w.drew _ _ (Nat.le_refl _) (grownCap_le_maxLen w _ _ _ (by unfold maxLen; omega)) ?_
    rw [Array.size_append, Array.size_append, size_zeroCells, size_zeroCells]
    have h := grownCap_ge w (0 + n) 0 55
    have e1 : (Value.agg #[Value.int IntKind.i64 0, Value.int IntKind.i64 0]).cells.size = 2 := rfl
    have e2 : Try.growRun_ren.t 25 = 55 := rfl
    rw [e1, e2]
    simp only [Nat.zero_add] at h ⊢
    simp
    omega
set_option maxRecDepth 100000 in
set_option maxHeartbeats 1000000 in
theorem concat2_any (g : Nat) (A1 A2 : Option Addr) (k1 k2 : Nat) (l1 l2 : List Run) (w : World) (hB : Blk w g 22 #[.slice A1 l1.length k1, .slice A2 l2.length k2]) (h1 : RS w w.heap.size A1 l1) (h2 : RS w w.heap.size A2 l2) (hl1 : l1.length ≤ 1000000) (hl2 : l2.length ≤ 1000000) :
    Calls Try.prog 49 #[.slice (some ⟨g, 0, none⟩) 2 2] w (RunsEnd (l1 ++ l2) w) := by
  obtain ⟨o, ho⟩ : ∃ o, o = l1 ++ l2 := ⟨_, rfl⟩
  rw [← ho]
  have HO := Lib.hid ho
  clear ho
  have c0 : w.cell? ⟨g, 0, none⟩ = some (.slice A1 l1.length k1) := hB.cell 0
  have c1 : w.cell? ⟨g, 1, none⟩ = some (.slice A2 l2.length k2) := hB.cell 1
  have hgl := hB.lt
  go_enter Try.func49, Try.ntmps49
  go_wp2
  go_loop [3, 5, 11] (fun s x i => (i = .int .i64 0 ∧ s = .int .i64 0) ∨ (i = .int .i64 1 ∧ s = .int .i64 (l1.length : Int)) ∨ (i = .int .i64 2 ∧ s = .int .i64 ((l1.length : Int) + l2.length))) (fun _ _ i => 2 - (intOf i).toNat)
  case atStart => exact .inl ⟨rfl, rfl⟩
  case round =>
    rcases hrel with ⟨rfl, rfl⟩ | ⟨rfl, rfl⟩ | ⟨rfl, rfl⟩
    · go_wp2
      exact ⟨.inr (.inl ⟨rfl, by go_num⟩), by simp [intOf]⟩
    · go_wp2
      exact ⟨.inr (.inr ⟨rfl, rfl⟩), by simp [intOf]⟩
    · have hgr := grow_nil (l1.length + l2.length) w (by omega)
      have e : ((l1.length + l2.length : Nat) : Int) = (l1.length : Int) + l2.length := by omega
      rw [e] at hgr
      have HG := Lib.hid hgr
      clear hgr e
      go_wp2_with fail
      refine HG.out.mono ?_
      rintro e w2 ⟨v, rfl, ho2, hb2⟩
      have d0 : w2.cell? ⟨g, 0, none⟩ = some (.slice A1 l1.length k1) := (hb2.cell hgl).trans c0
      have d1 : w2.cell? ⟨g, 1, none⟩ = some (.slice A2 l2.length k2) := (hb2.cell hgl).trans c1
      have r1 := (h1.below hb2).more hb2.size
      have r2 := (h2.below hb2).more hb2.size
      clear c0 c1
      go_wp2
      go_loopw [6, 8, 27] (fun v x i wr => Below w.heap.size w2 wr ∧ ((i = .int .i64 0 ∧ Own wr w.heap.size v []) ∨ (i = .int .i64 1 ∧ Own wr w.heap.size v l1) ∨ (i = .int .i64 2 ∧ Own wr w.heap.size v (l1 ++ l2)))) (fun _ _ i _ => 2 - (intOf i).toNat)
      case atStart => exact ⟨Below.refl _ _, .inl ⟨rfl, ho2⟩⟩
      case round =>
        obtain ⟨hbw, hc⟩ := hrel
        have hzz : w.heap.size ≤ wr.heap.size := Nat.le_trans hb2.size hbw.size
        have e0 : wr.cell? ⟨g, 0, none⟩ = some (.slice A1 l1.length k1) := (hbw.cell hgl).trans d0
        have e1 : wr.cell? ⟨g, 1, none⟩ = some (.slice A2 l2.length k2) := (hbw.cell hgl).trans d1
        have s1 : RS wr wr.heap.size A1 l1 := (h1.below (hb2.trans hbw)).more hzz
        have s2 : RS wr wr.heap.size A2 l2 := (h2.below (hb2.trans hbw)).more hzz
        rcases hc with ⟨rfl, hown⟩ | ⟨rfl, hown⟩ | ⟨rfl, hown⟩
        · have hown2 : wr.ownsRow w.heap.size 55 2 u6 0 [] := hown
          go_wp2_with (at_builtin; refine wpList_appN rfl (.tmp 31) (.tmp 32) 22 rfl eiRun Try.underlying22 rfl (by decide) rfl hown2 rfl s1 (cellsR_all _) (by unfold maxLen; omega) (by omega) hzz ?_; intro v' w3 hown' hgrow hbel)
          go_roundw
          case rel =>
            refine ⟨hbw.trans hbel, .inr (.inl ⟨rfl, ?_⟩)⟩
            unfold Own; simpa using hown'
          case measure => simp [intOf]
        · have hown2 : wr.ownsRow w.heap.size 55 2 u6 l1.length (cellsR l1) := hown
          go_wp2_with (at_builtin; refine wpList_appN rfl (.tmp 31) (.tmp 32) 22 rfl eiRun Try.underlying22 rfl (by decide) rfl hown2 rfl s2 (cellsR_all _) (by unfold maxLen; omega) (by omega) hzz ?_; intro v' w3 hown' hgrow hbel)
          go_roundw
          case rel =>
            refine ⟨hbw.trans hbel, .inr (.inr ⟨rfl, ?_⟩)⟩
            unfold Own; rw [cellsR_append, List.length_append]; exact hown'
          case measure => simp [intOf]
        · go_wp2
          go_ret
          exact ⟨_, rfl, by rw [HO.out]; exact hown, hb2.trans hbw⟩
set_option maxRecDepth 100000 in
set_option maxHeartbeats 400000 in
theorem clone_any (A : Option Addr) (c : Nat) (l : List Run) (w : World) (hv : A = none → l.length = 0 ∧ c = 0) (hr : RS w w.heap.size A l) (hl : l.length ≤ 1000000) : Calls Try.prog 42 #[.slice A l.length c] w (RunsEnd l w) := by
  have hn := fun W a n c => Lib.run_eql_slice_nil (P := Try.prog) W 22 55 a n c 0 0 Try.underlying22
  rcases A with _ | a
  · obtain ⟨h0, rfl⟩ := hv rfl
    have hl0 : l = [] := List.eq_nil_of_length_eq_zero h0
    subst hl0
    clear hv h0
    go_enter Try.func42, Try.ntmps42
    go_wp2
    go_ret
    exact ⟨_, rfl, Own.nil_ _ _, Below.refl _ _⟩
  · have hr2 : Reads (w.alloc (.cells #[] 55)) w.heap.size 2 (some a) l.length (cellsR l) := Reads.alloc hr (Nat.le_refl _) _
    have hown := World.ownsRow_lit (base := w.heap.size) (e := 55) (size := 2) w #[] 0 (Nat.le_refl _) (by decide) rfl
    clear hv
    go_enter Try.func42, Try.ntmps42
    go_wp2_with (at_builtin; refine wpList_appN rfl (.tmp 5) (.tmp 6) 22 rfl eiRun Try.underlying22 rfl (by decide) rfl hown rfl hr2 (cellsR_all _) (by unfold maxLen; omega) (by omega) (by simp) ?_; intro v' w3 hown' hgrow hbel)
    go_ret
    exact ⟨_, rfl, by unfold Own; simpa using hown', ((Below.refl _ _).alloc (Nat.le_refl _) _).trans hbel⟩
/-- how a list that a call hands back may be read on -/
theorem RunsEnd.open_ {o : List Run} {w w' : World} {e : Ending} (h : RunsEnd o w e w') : ∃ A c, e = .returned (.slice A o.length c) ∧ Own w' w.heap.size (.slice A o.length c) o ∧ RS w' w'.heap.size A o ∧ Below w.heap.size w w' := by
  obtain ⟨v, rfl, ho, hb⟩ := h
  obtain ⟨A, c, rfl⟩ := ho.form
  exact ⟨A, c, rfl, ho, ho.rs, hb⟩
set_option maxRecDepth 100000 in
set_option maxHeartbeats 400000 in
theorem union_any (A1 A2 : Option Addr) (k1 k2 : Nat) (l1 l2 : List Run) (w : World) (h1 : RS w w.heap.size A1 l1) (h2 : RS w w.heap.size A2 l2) (hl1 : l1.length ≤ 400000) (hl2 : l2.length ≤ 400000) :
    Calls Try.prog 28 #[.slice A1 l1.length k1, .slice A2 l2.length k2] w (RunsEnd (Rp.union l1 l2) w) := by
  have hc := fun (W : World) => concat2_any W.heap.size A1 A2 k1 k2 l1 l2 (W.alloc (.cells #[.slice A1 l1.length k1, .slice A2 l2.length k2] 22)) (Blk.new W _ _)
  have hn := fun A c W h => norm_end A c (l1 ++ l2) W h (by simp; omega)
  have e : Rp.norm (l1 ++ l2) = Rp.union l1 l2 := rfl
  rw [e] at hn
  generalize Rp.union l1 l2 = o at *
  generalize l1 ++ l2 = q at *
  have HC := fun W a b c d => Lib.hid (hc W a b c d)
  have HN := fun A c W h => Lib.hid (hn A c W h)
  clear hc hn e
  have r1 := (h1.below ((Below.refl _ w).alloc (Nat.le_refl _) (.cells #[.slice A1 l1.length k1, .slice A2 l2.length k2] 22))).more (Nat.le_succ _)
  have r2 := (h2.below ((Below.refl _ w).alloc (Nat.le_refl _) (.cells #[.slice A1 l1.length k1, .slice A2 l2.length k2] 22))).more (Nat.le_succ _)
  go_enter Try.func28, Try.ntmps28
  go_wp2_with fail
  refine (HC w (by simpa using r1) (by simpa using r2) (by omega) (by omega)).out.mono ?_
  intro e w1 he
  obtain ⟨A3, c3, rfl, ho3, r3, b3⟩ := he.open_
  clear he
  go_wp2_with fail
  refine (HN _ _ _ r3).out.mono ?_
  intro e w2 he
  obtain ⟨A4, c4, rfl, ho4, r4, b4⟩ := he.open_
  clear he
  go_wp2
  go_ret
  have hz := b3.size
  simp at hz
  exact ⟨_, rfl, ho4.lower (by omega), (((Below.refl _ w).alloc (Nat.le_refl _) _).trans (b3.mono (by simp))).trans (b4.mono (by omega))⟩
end Go.Proofs.Ytknlcfiphkbbaaa
