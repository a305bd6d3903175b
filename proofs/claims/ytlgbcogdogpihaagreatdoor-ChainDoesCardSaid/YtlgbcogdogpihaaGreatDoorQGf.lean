/- The walks of slices.Concat and slices.Clone at runs, and of Union, Meet, Minus, Add, Remove. The walks of runs.Meet, Minus, Add, Remove, Has, Count. The walks of runs.Has, with slices.ContainsFunc and IndexFunc at its closure; of runs.Count. -/
import Derived.Test.YtlgbcogdogpihaaGreatDoorQGe
import Derived.Test.YtlgbcogdogpihaaGreatDoorQRunLay
namespace Go.Proofs.YtlgbcogdogpihaaGreatDoor
open Go.RowKit Go.Shelf
theorem cellsR_all (l : List Run) : ∀ u ∈ cellsR l, u.oneCell' = true := cellsR_one_cell l
/-- slices.Grow of the nil slice -/
theorem grow_nil (n : Nat) (w : World) (hn : n ≤ 4000000) : Calls Tryz.prog 167 #[.slice none 0 0, .int .i64 n] w (RunsEnd [] w) := by
  obtain ⟨i0, hi, hz0, hz1, hz2⟩ := eiRun
  by_cases h0 : n = 0
  · subst h0
    refine Calls.mono (Any8.slices_Grow_room Tryz.growRun none 0 0 0 w (by omega) (by omega) (by omega) (by omega)) ?_
    rintro e w' ⟨rfl, hw⟩
    subst hw
    exact ⟨_, rfl, Own.nil_ _ _, Below.refl _ _⟩
  · refine Calls.mono (Any8.slices_Grow_grow Tryz.growRun i0 _ hi hz0 (by omega) none 0 0 n [] w (by omega) (by omega) (by rw [hz2]; omega) (by omega) (by simp) (fun _ => rfl) (fun a h => by cases h)) ?_
    rintro e w' ⟨rfl, rfl⟩
    refine ⟨_, rfl, ?_, ((Below.refl _ _).drew).alloc (Nat.le_refl _) _⟩
    refine World.ownsRow_made (base := w.heap.size) (e := 62) (size := 2) w.drew _ _ (Nat.le_refl _) (grownCap_le_maxLen w _ _ _ (by unfold maxLen; omega)) ?_
    rw [Array.size_append, Array.size_append, size_zeroCells, size_zeroCells]
    have h := grownCap_ge w (0 + n) 0 62
    have e1 : (Value.agg #[Value.int IntKind.i64 0, Value.int IntKind.i64 0]).cells.size = 2 := rfl
    have e2 : Tryz.growRun_ren.t 25 = 62 := rfl
    rw [e1, e2]
    simp only [Nat.zero_add] at h ⊢
    simp
    omega
set_option maxRecDepth 100000 in
set_option maxHeartbeats 1000000 in
theorem concat2_any (g : Nat) (A1 A2 : Option Addr) (k1 k2 : Nat) (l1 l2 : List Run) (w : World) (hB : Blk w g 22 #[.slice A1 l1.length k1, .slice A2 l2.length k2]) (h1 : RS w w.heap.size A1 l1) (h2 : RS w w.heap.size A2 l2) (hl1 : l1.length ≤ 1000000) (hl2 : l2.length ≤ 1000000) :
    Calls Tryz.prog 142 #[.slice (some ⟨g, 0, none⟩) 2 2] w (RunsEnd (l1 ++ l2) w) := by
  obtain ⟨o, ho⟩ : ∃ o, o = l1 ++ l2 := ⟨_, rfl⟩
  rw [← ho]
  have HO := Lib.hid ho
  clear ho
  have c0 : w.cell? ⟨g, 0, none⟩ = some (.slice A1 l1.length k1) := hB.cell 0
  have c1 : w.cell? ⟨g, 1, none⟩ = some (.slice A2 l2.length k2) := hB.cell 1
  have hgl := hB.lt
  go_enter Tryz.func142, Tryz.ntmps142
  go_wp2
  go_loop [3, 5, 11] (fun s x i => (i = .int .i64 0 ∧ s = .int .i64 0) ∨ (i = .int .i64 1 ∧ s = .int .i64 (l1.length : Int)) ∨ (i = .int .i64 2 ∧ s = .int .i64 ((l1.length : Int) + l2.length))) (fun _ _ i => 2 - (intOf i).toNat)
  case atStart => exact .inl ⟨rfl, rfl⟩
  case round =>
    rcases hrel with ⟨rfl, rfl⟩ | ⟨rfl, rfl⟩ | ⟨rfl, rfl⟩
    · go_wp2
      exact ⟨.inr (.inl ⟨rfl, by go_num⟩), by simp [intOf]⟩
    · go_wp2
      exact ⟨.inr (.inr ⟨rfl, rfl⟩), by simp [intOf]⟩
    · have hgr := grow_nil (l1.length + l2.length) w (by omega)
      have e : ((l1.length + l2.length : Nat) : Int) = (l1.length : Int) + l2.length := by omega
      rw [e] at hgr
      have HG := Lib.hid hgr
      clear hgr e
      go_wp2_with fail
      refine HG.out.mono ?_
      rintro e w2 ⟨v, rfl, ho2, hb2⟩
      have d0 : w2.cell? ⟨g, 0, none⟩ = some (.slice A1 l1.length k1) := (hb2.cell hgl).trans c0
      have d1 : w2.cell? ⟨g, 1, none⟩ = some (.slice A2 l2.length k2) := (hb2.cell hgl).trans c1
      have r1 := (h1.below hb2).more hb2.size
      have r2 := (h2.below hb2).more hb2.size
      clear c0 c1
      go_wp2
      go_loopw [6, 8, 27] (fun v x i wr => Below w.heap.size w2 wr ∧ ((i = .int .i64 0 ∧ Own wr w.heap.size v []) ∨ (i = .int .i64 1 ∧ Own wr w.heap.size v l1) ∨ (i = .int .i64 2 ∧ Own wr w.heap.size v (l1 ++ l2)))) (fun _ _ i _ => 2 - (intOf i).toNat)
      case atStart => exact ⟨Below.refl _ _, .inl ⟨rfl, ho2⟩⟩
      case round =>
        obtain ⟨hbw, hc⟩ := hrel
        have hzz : w.heap.size ≤ wr.heap.size := Nat.le_trans hb2.size hbw.size
        have e0 : wr.cell? ⟨g, 0, none⟩ = some (.slice A1 l1.length k1) := (hbw.cell hgl).trans d0
        have e1 : wr.cell? ⟨g, 1, none⟩ = some (.slice A2 l2.length k2) := (hbw.cell hgl).trans d1
        have s1 : RS wr wr.heap.size A1 l1 := (h1.below (hb2.trans hbw)).more hzz
        have s2 : RS wr wr.heap.size A2 l2 := (h2.below (hb2.trans hbw)).more hzz
        rcases hc with ⟨rfl, hown⟩ | ⟨rfl, hown⟩ | ⟨rfl, hown⟩
        · have hown2 : wr.ownsRow w.heap.size 62 2 u6 0 [] := hown
          go_wp2_with (at_builtin; refine wpList_appN rfl (.tmp 31) (.tmp 32) 22 rfl eiRun Tryz.underlying22 rfl (by decide) rfl hown2 rfl s1 (cellsR_all _) (by unfold maxLen; omega) (by omega) hzz ?_; intro v' w3 hown' hgrow hbel)
          go_roundw
          case rel =>
            refine ⟨hbw.trans hbel, .inr (.inl ⟨rfl, ?_⟩)⟩
            unfold Own; simpa using hown'
          case measure => simp [intOf]
        · have hown2 : wr.ownsRow w.heap.size 62 2 u6 l1.length (cellsR l1) := hown
          go_wp2_with (at_builtin; refine wpList_appN rfl (.tmp 31) (.tmp 32) 22 rfl eiRun Tryz.underlying22 rfl (by decide) rfl hown2 rfl s2 (cellsR_all _) (by unfold maxLen; omega) (by omega) hzz ?_; intro v' w3 hown' hgrow hbel)
          go_roundw
          case rel =>
            refine ⟨hbw.trans hbel, .inr (.inr ⟨rfl, ?_⟩)⟩
            unfold Own; rw [cellsR_append, List.length_append]; exact hown'
          case measure => simp [intOf]
        · go_wp2
          go_ret
          exact ⟨_, rfl, by rw [HO.out]; exact hown, hb2.trans hbw⟩
set_option maxRecDepth 100000 in
set_option maxHeartbeats 400000 in
theorem clone_any (A : Option Addr) (c : Nat) (l : List Run) (w : World) (hv : A = none → l.length = 0 ∧ c = 0) (hr : RS w w.heap.size A l) (hl : l.length ≤ 1000000) : Calls Tryz.prog 105 #[.slice A l.length c] w (RunsEnd l w) := by
  have hn := fun W a n c => Lib.run_eql_slice_nil (P := Tryz.prog) W 22 62 a n c 0 0 Tryz.underlying22
  rcases A with _ | a
  · obtain ⟨h0, rfl⟩ := hv rfl
    have hl0 : l = [] := List.eq_nil_of_length_eq_zero h0
    subst hl0
    clear hv h0
    go_enter Tryz.func105, Tryz.ntmps105
    go_wp2
    go_ret
    exact ⟨_, rfl, Own.nil_ _ _, Below.refl _ _⟩
  · have hr2 : Reads (w.alloc (.cells #[] 62)) w.heap.size 2 (some a) l.length (cellsR l) := Reads.alloc hr (Nat.le_refl _) _
    have hown := World.ownsRow_lit (base := w.heap.size) (e := 62) (size := 2) w #[] 0 (Nat.le_refl _) (by decide) rfl
    clear hv
    go_enter Tryz.func105, Tryz.ntmps105
    go_wp2_with (at_builtin; refine wpList_appN rfl (.tmp 5) (.tmp 6) 22 rfl eiRun Tryz.underlying22 rfl (by decide) rfl hown rfl hr2 (cellsR_all _) (by unfold maxLen; omega) (by omega) (by simp) ?_; intro v' w3 hown' hgrow hbel)
    go_ret
    exact ⟨_, rfl, by unfold Own; simpa using hown', ((Below.refl _ _).alloc (Nat.le_refl _) _).trans hbel⟩
/-- how a list that a call hands back may be read on -/
theorem RunsEnd.open_ {o : List Run} {w w' : World} {e : Ending} (h : RunsEnd o w e w') : ∃ A c, e = .returned (.slice A o.length c) ∧ Own w' w.heap.size (.slice A o.length c) o ∧ RS w' w'.heap.size A o ∧ Below w.heap.size w w' := by
  obtain ⟨v, rfl, ho, hb⟩ := h
  obtain ⟨A, c, rfl⟩ := ho.form
  exact ⟨A, c, rfl, ho, ho.rs, hb⟩
set_option maxRecDepth 100000 in
set_option maxHeartbeats 400000 in
theorem union_any (A1 A2 : Option Addr) (k1 k2 : Nat) (l1 l2 : List Run) (w : World) (h1 : RS w w.heap.size A1 l1) (h2 : RS w w.heap.size A2 l2) (hl1 : l1.length ≤ 400000) (hl2 : l2.length ≤ 400000) :
    Calls Tryz.prog 107 #[.slice A1 l1.length k1, .slice A2 l2.length k2] w (RunsEnd (Rp.union l1 l2) w) := by
  have hc := fun (W : World) => concat2_any W.heap.size A1 A2 k1 k2 l1 l2 (W.alloc (.cells #[.slice A1 l1.length k1, .slice A2 l2.length k2] 22)) (Blk.new W _ _)
  have hn := fun A c W h => norm_end A c (l1 ++ l2) W h (by simp; omega)
  have e : Rp.norm (l1 ++ l2) = Rp.union l1 l2 := rfl
  rw [e] at hn
  generalize Rp.union l1 l2 = o at *
  generalize l1 ++ l2 = q at *
  have HC := fun W a b c d => Lib.hid (hc W a b c d)
  have HN := fun A c W h => Lib.hid (hn A c W h)
  clear hc hn e
  have r1 := (h1.below ((Below.refl _ w).alloc (Nat.le_refl _) (.cells #[.slice A1 l1.length k1, .slice A2 l2.length k2] 22))).more (Nat.le_succ _)
  have r2 := (h2.below ((Below.refl _ w).alloc (Nat.le_refl _) (.cells #[.slice A1 l1.length k1, .slice A2 l2.length k2] 22))).more (Nat.le_succ _)
  go_enter Tryz.func107, Tryz.ntmps107
  go_wp2_with fail
  refine (HC w (by simpa using r1) (by simpa using r2) (by omega) (by omega)).out.mono ?_
  intro e w1 he
  obtain ⟨A3, c3, rfl, ho3, r3, b3⟩ := he.open_
  clear he
  go_wp2_with fail
  refine (HN _ _ _ r3).out.mono ?_
  intro e w2 he
  obtain ⟨A4, c4, rfl, ho4, r4, b4⟩ := he.open_
  clear he
  go_wp2
  go_ret
  have hz := b3.size
  simp at hz
  exact ⟨_, rfl, ho4.lower (by omega), (((Below.refl _ w).alloc (Nat.le_refl _) _).trans (b3.mono (by simp))).trans (b4.mono (by omega))⟩
end Go.Proofs.YtlgbcogdogpihaaGreatDoor
namespace Go.Proofs.YtlgbcogdogpihaaGreatDoor
open Go.RowKit
theorem union_len (a b : List Run) : (Rp.union a b).length ≤ a.length + b.length := by
  have := norm_len (a ++ b); unfold Rp.union; simpa using this
theorem rest_len' (a : List Run) : (Rp.rest a).length ≤ a.length + 1 := by
  have := Rp.rest_len a; have := norm_len a; omega
theorem meet_len (a b : List Run) : (Rp.meet a b).length ≤ a.length + b.length + 3 := by
  have h1 := rest_len' (Rp.union (Rp.rest a) (Rp.rest b)); have h2 := union_len (Rp.rest a) (Rp.rest b); have h3 := rest_len' a; have h4 := rest_len' b
  unfold Rp.meet; omega
theorem minus_len (a b : List Run) : (Rp.minus a b).length ≤ a.length + b.length + 4 := by
  have h1 := meet_len a (Rp.rest b); have h2 := rest_len' b
  unfold Rp.minus; omega
theorem hid_calls {P : Program} {f : FuncId} {args : Array Value} {w : World} {R : Ending → World → Prop} (h : Calls P f args w R) : Hid (Calls P f args w R) := h
set_option maxRecDepth 100000 in
set_option maxHeartbeats 400000 in
theorem meet_any (A1 A2 : Option Addr) (k1 k2 : Nat) (l1 l2 : List Run) (w : World) (h1 : RS w w.heap.size A1 l1) (h2 : RS w w.heap.size A2 l2) (hl1 : l1.length ≤ 100000) (hl2 : l2.length ≤ 100000) :
    Calls Tryz.prog 65 #[.slice A1 l1.length k1, .slice A2 l2.length k2] w (RunsEnd (Rp.meet l1 l2) w) := by
  have q1 := rest_len' l1
  have q2 := rest_len' l2
  have q3 := union_len (Rp.rest l1) (Rp.rest l2)
  have c1 := fun W h => hid_calls (rest_any A1 k1 l1 W h (by omega))
  have c2 := fun W h => hid_calls (rest_any A2 k2 l2 W h (by omega))
  have c3 := fun A B a b W h h' => hid_calls (union_any A B a b (Rp.rest l1) (Rp.rest l2) W h h' (by omega) (by omega))
  have c4 := fun A a W h => hid_calls (rest_any A a (Rp.union (Rp.rest l1) (Rp.rest l2)) W h (by omega))
  have e : Rp.rest (Rp.union (Rp.rest l1) (Rp.rest l2)) = Rp.meet l1 l2 := rfl
  rw [e] at c4
  clear q1 q2 q3 e
  generalize Rp.meet l1 l2 = o at *
  generalize Rp.union (Rp.rest l1) (Rp.rest l2) = u at *
  generalize Rp.rest l1 = s1 at *
  generalize Rp.rest l2 = s2 at *
  go_enter Tryz.func65, Tryz.ntmps65
  go_wp2_with fail
  refine (c1 _ h1).out.mono ?_
  intro e w1 he
  obtain ⟨B1, x1, rfl, _, r1, b1⟩ := he.open_
  clear he
  have h2' : RS w1 w1.heap.size A2 l2 := (h2.below b1).more b1.size
  go_wp2_with fail
  refine (c2 _ h2').out.mono ?_
  intro e w2 he
  obtain ⟨B2, x2, rfl, _, r2, b2⟩ := he.open_
  clear he
  have r1' : RS w2 w2.heap.size B1 s1 := (r1.below b2).more b2.size
  go_wp2_with fail
  refine (c3 _ _ _ _ _ r1' r2).out.mono ?_
  intro e w3 he
  obtain ⟨B3, x3, rfl, _, r3, b3⟩ := he.open_
  clear he
  go_wp2_with fail
  refine (c4 _ _ _ r3).out.mono ?_
  intro e w4 he
  obtain ⟨B4, x4, rfl, o4, r4, b4⟩ := he.open_
  clear he
  go_wp2
  go_ret
  have z1 := b1.size
  have z2 := b2.size
  have z3 := b3.size
  exact ⟨_, rfl, o4.lower (by omega), ((b1.trans (b2.mono z1)).trans (b3.mono (by omega))).trans (b4.mono (by omega))⟩
set_option maxRecDepth 100000 in
set_option maxHeartbeats 400000 in
theorem minus_any (A1 A2 : Option Addr) (k1 k2 : Nat) (l1 l2 : List Run) (w : World) (h1 : RS w w.heap.size A1 l1) (h2 : RS w w.heap.size A2 l2) (hl1 : l1.length ≤ 90000) (hl2 : l2.length ≤ 90000) :
    Calls Tryz.prog 28 #[.slice A1 l1.length k1, .slice A2 l2.length k2] w (RunsEnd (Rp.minus l1 l2) w) := by
  have q2 := rest_len' l2
  have c2 := fun W h => hid_calls (rest_any A2 k2 l2 W h (by omega))
  have c3 := fun A B a b W h h' => hid_calls (meet_any A B a b l1 (Rp.rest l2) W h h' (by omega) (by omega))
  have e : Rp.meet l1 (Rp.rest l2) = Rp.minus l1 l2 := rfl
  rw [e] at c3
  clear q2 e
  generalize Rp.minus l1 l2 = o at *
  generalize Rp.rest l2 = s2 at *
  go_enter Tryz.func28, Tryz.ntmps28
  go_wp2_with fail
  refine (c2 _ h2).out.mono ?_
  intro e w2 he
  obtain ⟨B2, x2, rfl, _, r2, b2⟩ := he.open_
  clear he
  have r1' : RS w2 w2.heap.size A1 l1 := (h1.below b2).more b2.size
  go_wp2_with fail
  refine (c3 _ _ _ _ _ r1' r2).out.mono ?_
  intro e w3 he
  obtain ⟨B3, x3, rfl, o3, r3, b3⟩ := he.open_
  clear he
  go_wp2
  go_ret
  have z2 := b2.size
  exact ⟨_, rfl, o3.lower z2, b2.trans (b3.mono z2)⟩
theorem RS.single (W : World) (a b : Int) (te : TypeId) : RS (W.alloc (.cells #[.int .i64 a, .int .i64 b] te)) (W.alloc (.cells #[.int .i64 a, .int .i64 b] te)).heap.size (some ⟨W.heap.size, 0, none⟩) [(a, b)] := by
  refine ⟨by simp [cellsR, encR], fun _ => ⟨_, rfl, by simp, fun j u hu => ?_⟩⟩
  rw [Addr.add_lit, Nat.zero_add, (Blk.new W te _).cell j]
  simpa [cellsR, encR] using hu
set_option maxRecDepth 100000 in
set_option maxHeartbeats 400000 in
theorem add_any (A : Option Addr) (k : Nat) (l : List Run) (n : Int) (w : World) (h : RS w w.heap.size A l) (hl : l.length ≤ 90000) :
    Calls Tryz.prog 104 #[.slice A l.length k, .int .i64 n] w (RunsEnd (Rp.union l [(n, n)]) w) := by
  have c3 := fun W h => hid_calls (union_any A (some ⟨W.heap.size, 0, none⟩) k 1 l [(n, n)] _ h (RS.single W n n 62) (by omega) (by simp))
  change ∀ W : World, RS (W.alloc (.cells #[.int .i64 n, .int .i64 n] 62)) _ A l → Hid (Calls Tryz.prog 107 #[.slice A l.length k, .slice (some ⟨W.heap.size, 0, none⟩) 1 1] _ _) at c3
  generalize Rp.union l [(n, n)] = o at *
  have r1 : RS (w.alloc (.cells #[.int .i64 n, .int .i64 n] 62)) (w.alloc (.cells #[.int .i64 n, .int .i64 n] 62)).heap.size A l := (h.below ((Below.refl _ w).alloc (Nat.le_refl _) _)).more (by simp)
  go_enter Tryz.func104, Tryz.ntmps104
  go_wp2_with fail
  refine (c3 w r1).out.mono ?_
  intro e w3 he
  obtain ⟨B3, x3, rfl, o3, r3, b3⟩ := he.open_
  clear he
  go_wp2
  go_ret
  exact ⟨_, rfl, o3.lower (by simp), ((Below.refl _ w).alloc (Nat.le_refl _) _).trans (b3.mono (by simp))⟩
set_option maxRecDepth 100000 in
set_option maxHeartbeats 400000 in
theorem remove_any (A : Option Addr) (k : Nat) (l : List Run) (n : Int) (w : World) (h : RS w w.heap.size A l) (hl : l.length ≤ 90000) :
    Calls Tryz.prog 68 #[.slice A l.length k, .int .i64 n] w (RunsEnd (Rp.minus l [(n, n)]) w) := by
  have c3 := fun W h => hid_calls (minus_any A (some ⟨W.heap.size, 0, none⟩) k 1 l [(n, n)] _ h (RS.single W n n 62) (by omega) (by simp))
  change ∀ W : World, RS (W.alloc (.cells #[.int .i64 n, .int .i64 n] 62)) _ A l → Hid (Calls Tryz.prog 28 #[.slice A l.length k, .slice (some ⟨W.heap.size, 0, none⟩) 1 1] _ _) at c3
  generalize Rp.minus l [(n, n)] = o at *
  have r1 : RS (w.alloc (.cells #[.int .i64 n, .int .i64 n] 62)) (w.alloc (.cells #[.int .i64 n, .int .i64 n] 62)).heap.size A l := (h.below ((Below.refl _ w).alloc (Nat.le_refl _) _)).more (by simp)
  go_enter Tryz.func68, Tryz.ntmps68
  go_wp2_with fail
  refine (c3 w r1).out.mono ?_
  intro e w3 he
  obtain ⟨B3, x3, rfl, o3, r3, b3⟩ := he.open_
  clear he
  go_wp2
  go_ret
  exact ⟨_, rfl, o3.lower (by simp), ((Below.refl _ w).alloc (Nat.le_refl _) _).trans (b3.mono (by simp))⟩
end Go.Proofs.YtlgbcogdogpihaaGreatDoor
namespace Go.Proofs.YtlgbcogdogpihaaGreatDoor
open Go.RowKit
def inB (n : Int) (r : Run) : Bool := decide (r.1 ≤ n) && decide (n ≤ r.2)
set_option maxRecDepth 100000 in
set_option maxHeartbeats 400000 in
theorem has1_any (r : Run) (g : Nat) (n : Int) (w : World) (hg : Blk w g 3 #[.int .i64 n]) : Calls Tryz.prog 73 #[.agg #[.int .i64 r.1, .int .i64 r.2], .pointer (some ⟨g, 0, none⟩)] w fun e w' => e = .returned (.bool (inB n r)) ∧ Below w.heap.size w w' := by
  have hl := hg.lt
  have hc : w.cell? ⟨g, 0, none⟩ = some (.int .i64 n) := hg.cell 0
  obtain ⟨a, b⟩ := r
  unfold inB
  simp only
  by_cases h1 : a ≤ n
  · go_enter Tryz.func73, Tryz.ntmps73
    go_wp2
    go_ret
    exact ⟨by rw [decide_eq_true h1]; simp, (Below.refl _ _).alloc (Nat.le_refl _) _⟩
  · go_enter Tryz.func73, Tryz.ntmps73
    go_wp2
    go_ret
    exact ⟨by rw [decide_eq_false (by omega : ¬ a ≤ n)]; simp, (Below.refl _ _).alloc (Nat.le_refl _) _⟩
/-- how IndexFunc ends at that closure -/
def IdxEnd (l : List Run) (n : Int) (w : World) (e : Ending) (w' : World) : Prop := ∃ j : Int, e = .returned (.int .i64 j) ∧ decide (0 ≤ j) = l.any (inB n) ∧ Below w.heap.size w w'
set_option maxRecDepth 100000 in
set_option maxHeartbeats 400000 in
theorem index_has (A : Option Addr) (k : Nat) (l : List Run) (g : Nat) (n : Int) (w : World) (h : RS w w.heap.size A l) (hl : l.length ≤ 1000000) (hg : Blk w g 3 #[.int .i64 n]) :
    Calls Tryz.prog 116 #[.slice A l.length k, .func (.func 73) #[] #[.pointer (some ⟨g, 0, none⟩)]] w (IdxEnd l n w) := by
  have hgl := hg.lt
  go_enter Tryz.func116, Tryz.ntmps116
  go_wp2
  go_loopw [5, 8] (fun x i wr => ∃ k : Nat, k ≤ l.length ∧ i = .int .i64 k ∧ (∀ j (hj : j < l.length), j < k → inB n l[j] = false) ∧ Below w.heap.size w wr) (fun _ i _ => l.length - (intOf i).toNat)
  case atStart => exact ⟨0, by omega, rfl, fun j hj h => absurd h (by omega), Below.refl _ _⟩
  case round =>
    obtain ⟨i, hi, rfl, hno, hb⟩ := hrel
    have HNO := Lib.hid hno
    clear hno
    by_cases hlt : i < l.length
    · obtain ⟨b1, o1, rfl, _, g0, g1⟩ := (h.below hb).at_ hlt
      have hc := hid_calls (has1_any l[i] g n wr (hg.below hb hgl))
      obtain ⟨y, hy⟩ : ∃ y, y = l[i] := ⟨_, rfl⟩
      rw [← hy] at hc g0 g1
      have HY := Lib.hid hy
      clear hy
      by_cases hin : inB n y = true
      · rw [hin] at hc
        have HIN := Lib.hid hin
        clear hin
        go_wp2_with (go_at_call 73; refine hc.out.mono ?_; rintro e w1 ⟨rfl, hb1⟩)
        go_ret
        refine ⟨_, rfl, ?_, hb.trans (hb1.mono hb.size)⟩
        have : l.any (inB n) = true := List.any_eq_true.2 ⟨l[i], List.getElem_mem hlt, by rw [← HY.out]; exact HIN.out⟩
        rw [this]; simp
      · have hin' : inB n y = false := by simpa using hin
        rw [hin'] at hc
        have HIN := Lib.hid hin'
        clear hin hin'
        go_wp2_with (go_at_call 73; refine hc.out.mono ?_; rintro e w1 ⟨rfl, hb1⟩)
        go_roundw
        case rel =>
          refine ⟨i + 1, by omega, by go_num, fun j hj hji => ?_, hb.trans (hb1.mono hb.size)⟩
          by_cases hj2 : j < i
          · exact HNO.out j hj hj2
          · obtain rfl : j = i := by omega
            rw [← HY.out]; exact HIN.out
        case measure => simp [intOf]; omega
    · obtain rfl : i = l.length := by omega
      go_wp2
      go_ret
      refine ⟨_, rfl, ?_, hb⟩
      have : l.any (inB n) = false := by
        rw [List.any_eq_false]
        intro x hx
        obtain ⟨j, hj, rfl⟩ := List.getElem_of_mem hx
        rw [HNO.out j hj hj]; simp
      rw [this]; simp
set_option maxRecDepth 100000 in
set_option maxHeartbeats 400000 in
theorem contains_has (A : Option Addr) (k : Nat) (l : List Run) (g : Nat) (n : Int) (w : World) (h : RS w w.heap.size A l) (hl : l.length ≤ 1000000) (hg : Blk w g 3 #[.int .i64 n]) :
    Calls Tryz.prog 72 #[.slice A l.length k, .func (.func 73) #[] #[.pointer (some ⟨g, 0, none⟩)]] w fun e w' => e = .returned (.bool (l.any (inB n))) ∧ Below w.heap.size w w' := by
  have hc := hid_calls (index_has A k l g n w h hl hg)
  generalize hq : l.any (inB n) = q
  have HQ := Lib.hid hq
  clear hq
  go_enter Tryz.func72, Tryz.ntmps72
  go_wp2_with fail
  refine hc.out.mono ?_
  rintro e w1 ⟨j, rfl, hj, hb⟩
  have HJ := Lib.hid hj
  clear hj
  go_wp2
  go_ret
  exact ⟨by rw [← HQ.out, ← HJ.out]; rfl, hb⟩
set_option maxRecDepth 100000 in
set_option maxHeartbeats 400000 in
theorem has_any (A : Option Addr) (k : Nat) (l : List Run) (n : Int) (w : World) (h : RS w w.heap.size A l) (hl : l.length ≤ 1000000) : Calls Tryz.prog 35 #[.slice A l.length k, .int .i64 n] w fun e w' => e = .returned (.bool (Rp.has l n)) ∧ Below w.heap.size w w' := by
  have hc := fun h => hid_calls (contains_has A k l w.heap.size n (w.alloc (.cells #[.int .i64 n] 3)) h hl (Blk.new w _ _))
  have hh : RS (w.alloc (.cells #[.int .i64 n] 3)) (w.alloc (.cells #[.int .i64 n] 3)).heap.size A l := (h.below ((Below.refl _ w).alloc (Nat.le_refl _) _)).more (by simp)
  have he : Rp.has l n = (decide (0 ≤ n) && decide (n ≤ 4294967295) && l.any (inB n)) := rfl
  rw [he]
  clear he
  generalize l.any (inB n) = q at *
  by_cases h0 : 0 ≤ n
  · by_cases h1 : n ≤ 4294967295
    · go_enter Tryz.func35, Tryz.ntmps35
      go_wp2_with fail
      refine (hc hh).out.mono ?_
      rintro e w1 ⟨rfl, hb⟩
      go_wp2
      go_ret
      exact ⟨by rw [decide_eq_true h0, decide_eq_true h1]; simp, ((Below.refl _ w).alloc (Nat.le_refl _) _).trans (hb.mono (by simp))⟩
    · go_enter Tryz.func35, Tryz.ntmps35
      go_wp2
      go_ret
      exact ⟨by rw [decide_eq_false (by omega : ¬ n ≤ 4294967295)]; simp, (Below.refl _ _).alloc (Nat.le_refl _) _⟩
  · go_enter Tryz.func35, Tryz.ntmps35
    go_wp2
    go_ret
    exact ⟨by rw [decide_eq_false (by omega : ¬ 0 ≤ n)]; simp, (Below.refl _ _).alloc (Nat.le_refl _) _⟩
theorem canon_run : ∀ (l : List Run) (lo : Int), 0 ≤ lo → Rp.Canon lo l → ∀ y ∈ l, 0 ≤ y.1 ∧ y.1 ≤ y.2 ∧ y.2 ≤ 4294967295
  | [], _, _, _, _, hy => by cases hy
  | r :: l, lo, hlo, h, y, hy => by
    obtain ⟨h1, h2, h3, h4⟩ := h
    unfold Rp.Most at h3
    rcases List.mem_cons.1 hy with rfl | hy
    · omega
    · exact canon_run l _ (by omega) h4 y hy
end Go.Proofs.YtlgbcogdogpihaaGreatDoor
