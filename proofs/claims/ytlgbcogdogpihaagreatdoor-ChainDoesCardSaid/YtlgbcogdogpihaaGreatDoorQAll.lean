/- The walk of runs.All's closure, and of runs.First. -/
import Derived.RangeFuncNested
import Derived.RangeFuncBound
import Derived.RangeFuncCalls
import Derived.RangeFuncLeaves
import Derived.Shelf.Abstract
import Derived.Shelf.RegionOpen
import Derived.WalkKit
import Derived.OwnWalkIn
import Derived.TacticsInMore
import Derived.LoopNIn
import Derived.LoopIn
import Derived.Test.YtlgbcogdogpihaaGreatDoorQGf
namespace Go.Proofs.YtlgbcogdogpihaaGreatDoor
open Go.RowKit Go.Shelf
attribute [local go_sem] Oper.semAt_some
/-- every block of cells at or beyond B lies as it lay -/
def CK (B : Nat) (W W' : World) : Prop := ∀ k o, B ≤ k → W.heap[k]? = some o → o.isCells = true → W'.heap[k]? = some o
theorem CK.refl (B : Nat) (W : World) : CK B W W := fun _ _ _ h _ => h
theorem CK.trans {B : Nat} {W1 W2 W3 : World} (h : CK B W1 W2) (k : CK B W2 W3) : CK B W1 W3 := fun i o hi ho hc => k i o hi (h i o hi ho hc) hc
theorem CK.more {B B' : Nat} {W1 W2 : World} (h : CK B W1 W2) (hB : B ≤ B') : CK B' W1 W2 := fun i o hi ho hc => h i o (by omega) ho hc
theorem CK.alloc (B : Nat) (W : World) (o : Obj) : CK B W (W.alloc o) := fun i _ _ ho _ => (Below.heap_alloc W o i (Array.getElem?_eq_some_iff.1 ho).1).trans ho
theorem CK.of_below {B : Nat} {W W' : World} (h : Below W.heap.size W W') : CK B W W' := fun i _ _ ho _ => (h.block i (Array.getElem?_eq_some_iff.1 ho).1).trans ho
theorem CK.cell {B : Nat} {W W' : World} (h : CK B W W') {p : Addr} {v : Value} (hp : B ≤ p.block) (hc : W.cell? p = some v) : W'.cell? p = some v := by
  unfold World.cell? at *
  cases ho : W.heap[p.block]? with
  | none => rw [ho] at hc; simp at hc
  | some o =>
    rw [ho] at hc
    cases o <;> simp at hc
    rename_i c e f
    rw [h _ _ hp ho rfl]
    simp [hc]
theorem CK.set_lt {B : Nat} {W : World} {p : Addr} (v : Value) (hp : p.block < B) : CK B W (W.setCell p v) := fun i _ hi ho _ => (Below.heap_setCell _ _ _ _ (by omega)).trans ho
theorem own_ge {w : World} {base : Nat} {p : Addr} {n c : Nat} {l : List Run} (h : Own w base (.slice (some p) n c) l) : base ≤ p.block := by
  rcases h.2 with ⟨e, _⟩ | ⟨g, cap, cur, e, hg, _⟩
  · cases e
  · injection e with e1; injection e1 with e1; subst e1; exact hg
/-- what a round over All keeps -/
def KpA (n₀ B : Nat) (W W' : World) : Prop := Below n₀ W W' ∧ CK B W W'
theorem kpA_t {n₀ B : Nat} {W1 W2 W3 : World} (h : KpA n₀ B W1 W2) (k : KpA n₀ B W2 W3) : KpA n₀ B W1 W3 := ⟨h.1.trans k.1, h.2.trans k.2⟩
theorem kpA_b {n₀ B : Nat} {w : World} (hn : n₀ ≤ w.heap.size) (W : World) (l : Nat) (o o' : Obj) (hl : w.heap.size ≤ l) (h : W.heap[l]? = some o) (hc : o.isCells = false) (hw : o.isWalk = false) : KpA n₀ B W (W.putObj l o') :=
  ⟨belowK_b hn W l o o' hl h hc hw, fun i o2 _ ho2 hc2 => by
    have hne : l ≠ i := fun e => by subst e; rw [h] at ho2; injection ho2 with e; subst e; rw [hc] at hc2; cases hc2
    simp [World.putObj, hne, ho2]⟩
def runL (r : Run) (j : Nat) : List Int := (List.range j).map (fun i : Nat => r.1 + (i : Int))
theorem runL_succ (r : Run) (j : Nat) : runL r (j + 1) = runL r j ++ [r.1 + (j : Int)] := by simp [runL, List.range_succ]
theorem runL_length (r : Run) (j : Nat) : (runL r j).length = j := by simp [runL]
def cnt (r : Run) : Nat := (r.2 - r.1 + 1).toNat
def evs (l : List Run) : List Int := l.flatMap (fun r => runL r (cnt r))
theorem evs_succ (l : List Run) (k : Nat) (hk : k < l.length) : evs (l.take (k + 1)) = evs (l.take k) ++ runL l[k] (cnt l[k]) := by
  unfold evs
  rw [List.take_succ_eq_append_getElem hk, List.flatMap_append]; simp
theorem evs_prefix (l : List Run) (k : Nat) : evs (l.take k) <+: evs l := by
  refine ⟨evs (l.drop k), ?_⟩
  unfold evs
  rw [← List.flatMap_append, List.take_append_drop]
theorem runL_prefix (r : Run) {i j : Nat} (h : i ≤ j) : runL r i <+: runL r j := by
  obtain ⟨d, rfl⟩ := Nat.exists_eq_add_of_le h
  refine ⟨(List.range d).map (fun x : Nat => r.1 + ((i + x : Nat) : Int)), ?_⟩
  unfold runL
  rw [List.range_add, List.map_append, List.map_map]; rfl
theorem evs_at (l : List Run) (k : Nat) (hk : k < l.length) (j : Nat) (hj : j ≤ cnt l[k]) : evs (l.take k) ++ runL l[k] j <+: evs l := by
  have h1 : evs (l.take k) ++ runL l[k] j <+: evs (l.take (k + 1)) := by
    rw [evs_succ l k hk]
    exact List.prefix_append_right_inj _ |>.2 (runL_prefix _ hj)
  exact h1.trans (evs_prefix l (k + 1))
set_option maxRecDepth 100000 in
set_option maxHeartbeats 2000000 in
theorem all1_in (l Bn n₀ B c : Nat) (A : Option Addr) (rs : List Run) (hl : rs.length ≤ 1000000) (J Jx : List Int → World → Prop)
    (W : World) (hn : n₀ ≤ B) (hBW : B ≤ W.heap.size) (hJ : AbidesFrom W.heap.size J)
    (hY : ∀ pre x W1, J pre W1 → pre.length < (evs (Rp.norm rs)).length → YieldAt Fence.wide 0 Tryz.prog l #[.int .i64 x] W1 fun e W' =>
      (e = .returned (.bool true) ∧ J (pre ++ [x]) W' ∧ KpA n₀ B W1 W') ∨ (e = .returned (.bool false) ∧ Jx (pre ++ [x]) W'))
    (hBn : W.cell? ⟨Bn, 0, none⟩ = some (.slice A rs.length c)) (hr : RS W W.heap.size A rs) (h0 : J [] W) :
    CallsIn Fence.wide 1 Tryz.prog 143 #[.func (.yield l) #[] #[], .pointer (some ⟨Bn, 0, none⟩)] W fun e W' => (∃ v, e = .returned v) ∧
      ((∃ ys, ys = evs (Rp.norm rs) ∧ J ys W') ∨ (∃ pre, pre <+: evs (Rp.norm rs) ∧ Jx pre W')) := by
  have hc := norm_end A c rs W hr hl
  have hnl := norm_len rs
  have hin := canon_run _ 0 (Int.le_refl _) (Rp.norm_ok rs).1
  generalize Rp.norm rs = s at *
  have hle := hn
  refine callsIn_of_wp Tryz.func143 rfl trivial ?_ rfl
  simp only [Tryz.ntmps143, List.size_toArray, List.length_cons, List.length_nil, Nat.reduceAdd, Nat.reduceSub, Array.replicate_succ, Array.replicate_zero, List.push_toArray, List.append_toArray, List.nil_append, List.cons_append]
  gi_wp2_with (refine ⟨trivial, ?_⟩; gi_at_call 13; refine (callsIn_wide.2 hc).mono ?_; intro e w1 he; obtain ⟨A1, c1, rfl, ho1, r1, b1⟩ := he.open_)
  gi_loopw [9] (fun i wr => ∃ k : Nat, k ≤ s.length ∧ i = .int .i64 k ∧ J (evs (s.take k)) wr ∧ CK B w1 wr ∧ B ≤ wr.heap.size) (fun i _ => s.length - (intOf i).toNat)
  case atStart => exact ⟨0, Nat.zero_le _, rfl, hJ _ _ _ _ h0 (only_of_below b1 none) (by simp), CK.refl _ _, by have := b1.size; omega⟩
  case round =>
    obtain ⟨k, hk, rfl, hJs, hnx, hsz⟩ := hrel
    by_cases hlt : k < s.length
    · obtain ⟨b2, o2, rfl, hb2, g0, g1⟩ := r1.at_ hlt
      have hb3 : B ≤ b2 := Nat.le_trans hBW (own_ge ho1)
      have f0 := hnx.cell (p := ⟨b2, _, none⟩) hb3 g0
      have f1 := hnx.cell (p := ⟨b2, _, none⟩) hb3 g1
      have hev := evs_at s k hlt
      have hsu := evs_succ s k hlt
      have hy := hin _ (List.getElem_mem hlt)
      have hcn : cnt s[k] = (s[k].2 - s[k].1 + 1).toNat := rfl
      generalize evs (s.take k) = P at *
      generalize s[k] = y at *
      obtain ⟨a, b⟩ := y
      simp only at hy g0 g1 f0 f1 hcn
      generalize cnt (a, b) = N at *
      gi_wp2
      have hJ1 := hJ _ _ _ _ hJs (World.grownBy_alloc wr (.cells #[.int .i64 a, .int .i64 b] 62) none) (by simp)
      have hv0 : (wr.alloc (.cells #[.int .i64 a, .int .i64 b] 62)).cell? ⟨wr.heap.size, 1, none⟩ = some (.int .i64 b) := (Blk.new wr 62 #[.int .i64 a, .int .i64 b]).cell 1
      have hk1 := CK.alloc B wr (.cells #[.int .i64 a, .int .i64 b] 62)
      have hs1 : B ≤ (wr.alloc (.cells #[.int .i64 a, .int .i64 b] 62)).heap.size := by simp; omega
      generalize wr.alloc (.cells #[.int .i64 a, .int .i64 b] 62) = wa at *
      generalize wr.heap.size = q at *
      gi_loopw [5] (fun i wr2 => ∃ j : Nat, j ≤ N ∧ i = .int .i64 (a + j) ∧ J (P ++ runL (a, b) j) wr2 ∧ CK B wa wr2 ∧ B ≤ wr2.heap.size) (fun i _ => (b + 1 - intOf i).toNat)
      case atStart => exact ⟨0, Nat.zero_le _, by simp, by simpa [runL] using hJ1, CK.refl _ _, hs1⟩
      case round =>
        obtain ⟨j, hj, rfl, hJ2, hk2, hs2⟩ := hrel
        have g3 := hk2.cell (p := ⟨q, 1, none⟩) hsz hv0
        by_cases hjl : j < N
        · have hlt2 : (P ++ runL (a, b) j).length < (evs s).length := by
            have := (hev (j + 1) (by omega)).length_le
            rw [List.length_append, runL_length] at this ⊢
            omega
          obtain ⟨fn, tmps, assign, body, hyl, hR⟩ := hY _ (a + j) _ hJ2 hlt2
          rw [List.append_assoc, ← runL_succ (a, b) j] at hR
          gi_wp2
          refine hR.mono ?_
          rintro e W3 (⟨rfl, hJ3, hk3⟩ | ⟨rfl, hJx3⟩)
          · gi_wp2
            go_roundw
            case rel => exact ⟨j + 1, by omega, by go_num, hJ3, hk2.trans hk3.2, by have := hk3.1.size; omega⟩
            case measure => simp [intOf]; omega
          · gi_wp2
            refine bodyPost_ret (results_none rfl _ _ _) rfl ?_
            exact ⟨⟨_, rfl⟩, .inr ⟨_, hev (j + 1) (by omega), hJx3⟩⟩
        · obtain rfl : j = N := by omega
          gi_wp2
          go_roundw
          case rel => exact ⟨k + 1, by omega, by go_num, by rw [hsu]; exact hJ2, hnx.trans (hk1.trans hk2), hs2⟩
          case measure => simp [intOf]; omega
    · obtain rfl : k = s.length := by omega
      gi_wp2
      go_end0
      rw [List.take_of_length_le (Nat.le_refl _)] at hJs
      exact ⟨⟨_, rfl⟩, .inl ⟨_, rfl, hJs⟩⟩
theorem all_stops (Bn n₀ c : Nat) (A : Option Addr) (rs : List Run) (hl : rs.length ≤ 1000000) (w : World) (hn : n₀ ≤ w.heap.size) (hBlt : Bn < w.heap.size)
    (hBn : w.cell? ⟨Bn, 0, none⟩ = some (.slice A rs.length c)) (hr : RS w w.heap.size A rs) :
    SeqStopsK Fence.wide 1 Tryz.prog 143 #[.pointer (some ⟨Bn, 0, none⟩)] (fun x : Int => #[Value.int .i64 x]) (KpA n₀ w.heap.size) (fun ys => ys = evs (Rp.norm rs)) (fun pre => pre <+: evs (Rp.norm rs)) (evs (Rp.norm rs)).length w :=
  fun l J Jx W hW hJ _ hY h0 => all1_in l Bn n₀ w.heap.size c A rs hl J Jx W hn hW.size hJ hY ((hW.cell (p := ⟨Bn, 0, none⟩) hBlt).trans hBn) ((hr.below hW).more hW.size) h0
set_option maxRecDepth 100000 in
set_option maxHeartbeats 400000 in
theorem all_any (A : Option Addr) (n c : Nat) (w : World) :
    Calls Tryz.prog 108 #[.slice A n c] w fun e w' => e = .returned (.func (.func 143) #[] #[.pointer (some ⟨w.heap.size, 0, none⟩)]) ∧ w' = w.alloc (.cells #[.slice A n c] 22) := by
  go_enter Tryz.func108, Tryz.ntmps108
  go_wp2
  go_ret
  exact ⟨rfl, rfl⟩
theorem cell_new_l (W : World) (v : Value) (t : TypeId) : (W.alloc (.cells #[v] t)).cell? ⟨W.heap.size, 0, none⟩ = some v ∧ (W.alloc (.cells #[v] t)).frozen? ⟨W.heap.size, 0, none⟩ = false :=
  ⟨(Blk.new W t #[v]).cell 0, (Blk.new W t #[v]).frozen 0⟩
theorem cell_alloc_l {W : World} {a : Addr} {v : Value} (o : Obj) (h : W.cell? a = some v) : (W.alloc o).cell? a = some v := cell_kept h (World.grownBy_alloc W o none) (fun r e => by cases e)
theorem frozen_alloc_l {W : World} {a : Addr} {v : Value} (o : Obj) (h : W.cell? a = some v) (hf : W.frozen? a = false) : (W.alloc o).frozen? a = false := (frozen_kept h (World.grownBy_alloc W o none) (fun r e => by cases e)).trans hf
/-- the least of them -/
def firstR (l : List Run) : Option Int := (evs (Rp.norm l)).head?
theorem cell_far {W : World} {a b : Addr} (h : a.block ≠ b.block) (v : Value) : (W.setCell b v).cell? a = W.cell? a := by
  unfold World.cell?
  rw [Below.heap_setCell _ _ _ _ h]
def FirstEnd (o : Option Int) (w : World) (e : Ending) (w' : World) : Prop := (match o with | none => e = .returned (.tuple #[.int .i64 0, .bool false]) | some x => e = .returned (.tuple #[.int .i64 x, .bool true])) ∧ Below w.heap.size w w'
theorem FirstEnd.none_ {o : Option Int} {w w' : World} (h : o = none) (hb : Below w.heap.size w w') : FirstEnd o w (.returned (.tuple #[.int .i64 0, .bool false])) w' := by subst h; exact ⟨rfl, hb⟩
theorem FirstEnd.some_ {o : Option Int} {x : Int} {w w' : World} (h : o = some x) (hb : Below w.heap.size w w') : FirstEnd o w (.returned (.tuple #[.int .i64 x, .bool true])) w' := by subst h; exact ⟨rfl, hb⟩
set_option maxRecDepth 100000 in
set_option maxHeartbeats 2000000 in
theorem first_any (A : Option Addr) (c : Nat) (rs : List Run) (hl : rs.length ≤ 1000000) (w : World) (hr : RS w w.heap.size A rs) :
    Calls Tryz.prog 67 #[.slice A rs.length c] w (FirstEnd (firstR rs) w) := by
  refine (callsIn_wide (n := 2)).1 ?_
  refine callsIn_of_wp_marks Tryz.func67 rfl trivial ?_ rfl
  simp only [Tryz.ntmps67, List.size_toArray, List.length_cons, List.length_nil, Nat.reduceAdd, Nat.reduceSub, Array.replicate_succ, Array.replicate_zero, List.push_toArray, List.append_toArray, List.nil_append, List.cons_append]
  gi_wp2_with (refine ⟨trivial, ?_⟩; gi_at_call 108; refine (callsIn_wide.2 (all_any A rs.length c _)).mono ?_; rintro e w' ⟨rfl, rfl⟩)
  have c0 := cell_new_l w (.int .i64 0) 3
  have c1 := cell_new_l (w.alloc (.cells #[.int .i64 0] 3)) (.bool false) 4
  have c2 := cell_new_l ((w.alloc (.cells #[.int .i64 0] 3)).alloc (.cells #[.bool false] 4)) (.slice A rs.length c) 22
  simp only [World.size_alloc] at c1 c2
  have hB0 : Below w.heap.size w (((w.alloc (.cells #[.int .i64 0] 3)).alloc (.cells #[.bool false] 4)).alloc (.cells #[.slice A rs.length c] 22)) := (((Below.refl _ w).alloc (Nat.le_refl _) _).alloc (by simp) _).alloc (by simp; omega) _
  refine wpIn_rangeFunc_ownF rfl (by decide) (gf := 143) (lb := #[.pointer (some ⟨w.heap.size + 1 + 1, 0, none⟩)]) rfl trivial (enters_of Tryz.func143 (by kernel_rfl) rfl)
    (all_stops (w.heap.size + 1 + 1) w.heap.size c A rs hl _ (by simp; omega) (by simp) c2.1 ((hr.below hB0).more hB0.size)) kpA_t (kpA_b (by simp; omega)) (Below.refl _ _) (fun _ => rfl)
    (fun pre W => (pre = [] ∧ W.cell? ⟨w.heap.size, 0, none⟩ = some (.int .i64 0) ∧ W.frozen? ⟨w.heap.size, 0, none⟩ = false ∧ W.cell? ⟨w.heap.size + 1, 0, none⟩ = some (.bool false) ∧ W.frozen? ⟨w.heap.size + 1, 0, none⟩ = false) ∧ Below w.heap.size w W)
    (fun k pre W => (k = .ret ∧ ∃ x, pre = [x] ∧ W.cell? ⟨w.heap.size, 0, none⟩ = some (.int .i64 x) ∧ W.cell? ⟨w.heap.size + 1, 0, none⟩ = some (.bool true)) ∧ Below w.heap.size w W)
    (OwnFrom.and (Own.from (fun s A B row hs hg hr => ⟨hs.1, cell_kept hs.2.1 hg hr, (frozen_kept hs.2.1 hg hr).trans hs.2.2.1, cell_kept hs.2.2.2.1 hg hr, (frozen_kept hs.2.2.2.1 hg hr).trans hs.2.2.2.2⟩) _) (ownFrom_below (Nat.le_refl _) (by simp; omega)))
    (fun k => OwnFrom.and (Own.from (fun s A B row hs hg hr => by obtain ⟨h1, x, h2, h3, h4⟩ := hs; exact ⟨h1, x, h2, cell_kept h3 hg hr, cell_kept h4 hg hr⟩) _) (ownFrom_below (Nat.le_refl _) (by simp; omega)))
    ⟨⟨rfl, cell_alloc_l _ (cell_alloc_l _ c0.1), frozen_alloc_l _ (cell_alloc_l _ c0.1) (frozen_alloc_l _ c0.1 c0.2), cell_alloc_l _ c1.1, frozen_alloc_l _ c1.1 c1.2⟩, hB0⟩
    (fun x => { tmps := #[.slice A rs.length c, undef, .pointer (some ⟨w.heap.size, 0, none⟩), .pointer (some ⟨w.heap.size + 1, 0, none⟩), .int .i64 x, .slice A rs.length c, .func (.func 143) #[] #[.pointer (some ⟨w.heap.size + 1 + 1, 0, none⟩)], .int .i64 x, undef], defers := [] }) ?assign ?body ?done ?stop
  case assign =>
    intro l x W K hK
    gi_wp2
    exact hK
  case body =>
    rintro l pre x W ⟨⟨rfl, hc0, hf0, hc1, hf1⟩, hB⟩ _
    gi_wp2
    have hB1 := hB.setCell (p := ⟨w.heap.size, 0, none⟩) (Nat.le_refl _) (.int .i64 x)
    exact ⟨(KeepsOthers.setCell _ _ _).trans (KeepsOthers.setCell _ _ _), ⟨rfl, x, rfl, (cell_far (by simp) _).trans (World.cell?_setCell_same' _ _ _ (by rw [hc0]; rfl)), World.cell?_setCell_same' _ _ _ (by rw [cell_far (by simp) _, hc1]; rfl)⟩, hB1.setCell (p := ⟨w.heap.size + 1, 0, none⟩) (by simp) _⟩
  case done =>
    rintro D ys W hD hS ⟨⟨rfl, hc0, hf0, hc1, hf1⟩, hB⟩ hK
    gi_wp2
    have hK1 := (KeepsOthers.setCell W ⟨w.heap.size, 0, none⟩ (.int .i64 0)).same D _ hK rfl
    have hB1 := hB.setCell (p := ⟨w.heap.size, 0, none⟩) (Nat.le_refl _) (.int .i64 0)
    have e0 := World.cell?_setCell_same' W ⟨w.heap.size, 0, none⟩ (.int .i64 0) (by rw [hc0]; rfl)
    have e1 : (W.setCell ⟨w.heap.size, 0, none⟩ (.int .i64 0)).cell? ⟨w.heap.size + 1, 0, none⟩ = some (.bool false) := (cell_far (by simp) _).trans hc1
    generalize W.setCell ⟨w.heap.size, 0, none⟩ (.int .i64 0) = W1 at *
    have hK2 := (KeepsOthers.setCell W1 ⟨w.heap.size + 1, 0, none⟩ (.bool false)).same D _ hK1 rfl
    have hB2 := hB1.setCell (p := ⟨w.heap.size + 1, 0, none⟩) (by simp) (.bool false)
    have d0 : (W1.setCell ⟨w.heap.size + 1, 0, none⟩ (.bool false)).cell? ⟨w.heap.size, 0, none⟩ = some (.int .i64 0) := (cell_far (by simp) _).trans e0
    have d1 := World.cell?_setCell_same' W1 ⟨w.heap.size + 1, 0, none⟩ (.bool false) (by rw [e1]; rfl)
    generalize W1.setCell ⟨w.heap.size + 1, 0, none⟩ (.bool false) = W2 at *
    refine ⟨by simp, .inl ⟨_, _, rfl, run_takeDeferred hK2, ?_⟩⟩
    have h0 := cell_kept d0 (grownBy_putObj' _ D (.deferred none)) (fun r e => by cases e; exact ⟨_, hK2, rfl⟩)
    have h1 := cell_kept d1 (grownBy_putObj' _ D (.deferred none)) (fun r e => by cases e; exact ⟨_, hK2, rfl⟩)
    refine ⟨.tuple #[.int .i64 0, .bool false], ?_, FirstEnd.none_ (by unfold firstR; rw [← hS]; rfl) (hB2.trans (belowK_b (w := w) (Nat.le_refl _) _ D _ _ (by simp at hD; omega) hK2 rfl rfl))⟩
    simp [results, Tryz.f67, go_sem, h0, h1]
  case stop =>
    rintro D k pre W hD hpre ⟨⟨rfl, x, rfl, hc0, hc1⟩, hB⟩ hK
    gi_wp2
    refine ⟨by simp, .inl ⟨_, _, rfl, run_takeDeferred hK, ?_⟩⟩
    have h0 := cell_kept hc0 (grownBy_putObj' _ D (.deferred none)) (fun r e => by cases e; exact ⟨_, hK, rfl⟩)
    have h1 := cell_kept hc1 (grownBy_putObj' _ D (.deferred none)) (fun r e => by cases e; exact ⟨_, hK, rfl⟩)
    refine ⟨.tuple #[.int .i64 x, .bool true], ?_, FirstEnd.some_ (by obtain ⟨t, ht⟩ := hpre; unfold firstR; rw [← ht]; rfl) (hB.trans (belowK_b (w := w) (Nat.le_refl _) W D _ _ (by simp at hD; omega) hK rfl rfl))⟩
    simp [results, Tryz.f67, go_sem, h0, h1]
end Go.Proofs.YtlgbcogdogpihaaGreatDoor
