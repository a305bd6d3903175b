/- The walk of disk.Break; what chain.Write does in every case; how long what chain.Read tells is. -/
import Derived.Test.YtlgbcogdogpihaaGreatDoorQGn
import Derived.Test.YtlgbcogdogpihaaGreatDoorQGq
namespace Go.Proofs.YtlgbcogdogpihaaGreatDoor
open Go.RowKit Go.Shelf
set_option maxRecDepth 100000 in
theorem dbreak_any {w : World} {B f d k : Nat} {D : Dk} (h : FAt w B f d k D) (n : Int) (hB : B ≤ w.heap.size) :
    Calls Tryz.prog 20 #[.pointer (some ⟨d, 0, none⟩), .int .i64 n] w fun e w' => e = .returned (.tuple #[]) ∧ FAt w' B f d k { D with left := max n (-1) } ∧ Below B w w' ∧ Kept w w' := by
  obtain ⟨hle, hself, s, m, pv, Dm, hA⟩ := h
  have hl := hA.self.lt
  have f3 := hA.self.frozen 3
  have h3 : w.cell? ⟨d, 3, none⟩ = some (.int .i64 D.left) := hA.self.cell 3
  have hend : FAt (w.setCell ⟨d, 3, none⟩ (.int .i64 (max n (-1)))) B f d k { D with left := max n (-1) } :=
    ⟨hle, hself.far (hself.ne_ hA.self (by decide)) _, s, m, pv, Dm, hA.turn 3 _ _ rfl rfl rfl rfl⟩
  have hb : Below B w (w.setCell ⟨d, 3, none⟩ (.int .i64 (max n (-1)))) := below_of_grown (grown_set w d 3 _) hB hA.le.1
  have hk := (Kept.refl w).set_ (j := 3) hA.self (.int .i64 (max n (-1)))
  clear hself hA
  go_enter Tryz.func20, Tryz.ntmps20
  go_wp2
  go_end0
  exact ⟨rfl, hend, hb, hk⟩
/-- what chain.Write does -/
def cwRes (D : Dk) (l : List Run) (ids : List Int) : (Int × Int) × Dk := if ids.Nodup ∧ pg l ≤ (ids.length : Int) then (cwTell ids (cwRun D (Rp.norm l) ids).1, (cwRun D (Rp.norm l) ids).2) else ((0, 1), D)
theorem cwrite_all {B f d k N : Nat} {D : Dk} (A1 A2 : Option Addr) (c1 c2 : Nat) (l : List Run) (ids : List Int) (hl : l.length ≤ 1000) (hi : ids.length ≤ 1000) (w : World) (h : FAt w B f d k D) (hL : Lim D N) (hN : N + 1000 < 1000000) (hk : k + 1000 < maxLen) (hT : HT w) (hB0 : 0 < B) (hB : B ≤ w.heap.size)
    (h1 : RS w w.heap.size A1 l) (h2 : LS intE w B A2 ids) :
    Calls Tryz.prog 10 #[.pointer (some ⟨f, 0, none⟩), .slice A1 l.length c1, .slice A2 ids.length c2] w (CWEnd B f d (k + ids.length) (cwRes D l ids).1 (cwRes D l ids).2 w) := by
  unfold cwRes
  by_cases hc : ids.Nodup ∧ pg l ≤ (ids.length : Int)
  · rw [if_pos hc]
    exact cwrite_ok A1 A2 c1 c2 l ids hl hi w h hL hN hk hT hB0 hB h1 (fun W hb _ => (h2.below hb).more (Nat.le_trans hB hb.size)) hc.1 hc.2
  · rw [if_neg hc]
    refine (cwrite_bad (.pointer (some ⟨f, 0, none⟩)) A1 A2 c1 c2 l ids (by omega) (by omega) w h1 (h2.more hB) ?_).mono ?_
    · by_cases hn : ids.Nodup
      · exact .inr (by
          have : ¬ pg l ≤ (ids.length : Int) := fun hp => hc ⟨hn, hp⟩
          omega)
      · exact .inl hn
    · rintro e w' ⟨h3, h4⟩
      exact ⟨h3, (h.keep h4).mono (by omega), h4.mono hB, Kept.below h4⟩
theorem cwRes_sync {n : Nat} {D : Dk} {R : RDk} {c : Int → Option (Nat × Bs)} (h : Sync D R n c) (l : List Run) (ids : List Int) : (rcwRes R l ids).1 = (cwRes D l ids).1 ∧ ∃ c', Sync (cwRes D l ids).2 (rcwRes R l ids).2 n c' := by
  obtain ⟨h1, h2⟩ := cwRun_sync ids D R c (Rp.norm l) h
  unfold rcwRes cwRes
  split
  · exact ⟨by simp only [h1], h2⟩
  · exact ⟨rfl, c, h⟩
theorem cwRes_lim {D : Dk} {N : Nat} (h : Lim D N) (l : List Run) (ids : List Int) : Lim (cwRes D l ids).2 (N + ids.length) := by
  unfold cwRes
  split
  · exact cwRun_lim ids D _ N h
  · exact h.mono (by omega)
theorem rcwRes_lim {D : RDk} {N : Nat} (h : RLim D N) (l : List Run) (ids : List Int) : RLim (rcwRes D l ids).2 (N + ids.length) := by
  unfold rcwRes
  split
  · exact rcwRun_lim ids D _ N h
  · exact h.mono (by omega)
theorem fo_runs {n : Nat} {dn : Bool} {id : Int} {o : Option (Nat × Bs)} : (fo n dn id o).1.2.1.length ≤ 29 := by
  unfold fo foOf
  split
  · rw [Cp.prog_eq]
    unfold foP
    cases hp : Cp.parse (frB n dn id 3 o).1 with
    | none => simp
    | some p => exact parse_len hp
  · simp
theorem chL_runs {n : Nat} {dn : Bool} {c : Int → Option (Nat × Bs)} : ∀ (k : Nat) (met : List Int) (id : Int), ((chL n dn c k met id).flatMap (fun y => y.2.1)).length ≤ 29 * k := by
  intro k
  induction k with
  | zero => intro met id; simp [chL]
  | succ k ih =>
    intro met id
    by_cases h0 : id = 0
    · subst h0; rw [chL_zero]; simp
    · by_cases hm : id ∈ met
      · rw [chL_met h0 hm]; simp
      · rw [chL_step h0 hm rfl, List.flatMap_cons, List.length_append]
        have h1 := fo_runs (n := n) (dn := dn) (id := id) (o := c id)
        split
        · have := ih (id :: met) (fo n dn id (c id)).2
          omega
        · simp; omega
theorem crRes_len {n : Nat} {dn : Bool} {c : Int → Option (Nat × Bs)} (k : Nat) (id : Int) : (crRes (chL n dn c k [] id)).1.length ≤ 29 * k ∧ (crRes (chL n dn c k [] id)).2.1.length ≤ k := by
  have h1 := chL_runs (n := n) (dn := dn) (c := c) k [] id
  have h2 := chL_len (n := n) (down := dn) (pg := c) k [] id
  unfold crRes
  split
  · simp
  · refine ⟨Nat.le_trans (norm_len _) h1, by simpa using h2⟩
end Go.Proofs.YtlgbcogdogpihaaGreatDoor
