/- A disk of the program's and one of the reference's, side by side: plain. The walk of rootstockref09.Write. The walk of rootstockref09.Read. -/
import Derived.Deep.CutBlock
import Derived.Test.YtlgbcogdogpihaaGreatDoorQGp
import Derived.Test.YtlgbcogdogpihaaGreatDoorQGn
import Derived.Test.YtlgbcogdogpihaaGreatDoorQGl
import Derived.Test.YtlgbcogdogpihaaGreatDoorQRparse
namespace Go.Proofs.YtlgbcogdogpihaaGreatDoor
open Go.RowKit Go.Shelf
theorem rnowL_snoc (s : Bs) (l : List (Int × Bs)) (j : Int) (t : Bs) (i : Int) : rnowL s (l ++ [(j, t)]) i = if j = i then t else rnowL s l i := by
  unfold rnowL; rw [List.foldl_append]; rfl
theorem RDk.now_put (D : RDk) (j : Int) (t : Bs) (i : Int) : (D.put j t).now i = if j = i then t else D.now i := rnowL_snoc _ _ _ _ _
theorem RDk.now_wrote (D : RDk) (j : Int) (t : Bs) (i : Int) : (D.wrote j t).now i = if j = i then t else D.now i := by
  unfold RDk.wrote
  split
  · exact rnowL_snoc _ _ _ _ _
  · split <;> exact rnowL_snoc _ _ _ _ _
theorem Dk.get_put (D : Dk) (j : Int) (t : Bs) (i : Int) : (D.put j t).get i = if i = j then t else D.get i := by
  unfold Dk.get Dk.put
  by_cases e : i = j <;> simp [e]
theorem Dk.get_wrote (D : Dk) (j : Int) (t : Bs) (i : Int) : (D.wrote j t).get i = if i = j then t else D.get i := by
  unfold Dk.wrote
  split
  · exact D.get_put j t i
  · split <;> exact D.get_put j t i
/-- two disks side by side: as many sectors, the same power, the same pages -/
structure Sync (D : Dk) (R : RDk) (n : Nat) (c : Int → Option (Nat × Bs)) : Prop where
  size : D.sure.length = n
  rsize : R.sure.length = n
  left : R.brk = D.left
  down : R.down = D.down
  page : ∀ id, noPage n id = false → PageIs D id (c id)
  rpage : ∀ id, noPage n id = false → RPageIs R id (c id)
theorem Sync.e {D : Dk} {R : RDk} {n : Nat} {c : Int → Option (Nat × Bs)} (h : Sync D R n c) (id : Int) (b : Bs) : R.fputE id b = D.fputE id b := by
  unfold RDk.fputE Dk.fputE RDk.wroteE Dk.wroteE
  rw [h.size, h.rsize, h.down, h.left]
theorem Sync.fput {D : Dk} {R : RDk} {n : Nat} {c : Int → Option (Nat × Bs)} (h : Sync D R n c) (id : Int) (kind : Nat) (hk : kind < 256) (b : Bs) : ∃ c', Sync (D.fput id kind b) (R.fput id kind b) n c' := by
  unfold RDk.fput Dk.fput
  rw [h.size, h.rsize, h.down]
  cases hno : noPage n id with
  | true => exact ⟨c, h⟩
  | false =>
    by_cases hl : 240 < b.length
    · simp only [if_pos hl]; exact ⟨c, h⟩
    · simp only [if_neg hl]
      cases hd : D.down with
      | true => exact ⟨c, h⟩
      | false =>
        simp only [Bool.false_eq_true, if_false]
        refine ⟨updP c id kind b, (wrote_len D id _).trans h.size, ?_, ?_, ?_, fun j hj => ?_, fun j hj => ?_⟩
        · unfold RDk.wrote
          split
          · exact h.rsize
          · split <;> exact h.rsize
        · have hll := h.left
          unfold RDk.wrote Dk.wrote
          by_cases h0 : D.left = 0
          · rw [if_pos h0, if_pos (hll.trans h0)]
          · rw [if_neg h0, if_neg (by rw [hll]; exact h0)]
            by_cases h1 : 0 < D.left
            · rw [if_pos h1, if_pos (by rw [hll]; exact h1)]
              show R.brk - 1 = D.left - 1
              rw [hll]
            · rw [if_neg h1, if_neg (by rw [hll]; exact h1)]
              exact hll
        · have hll := h.left
          have hdd := h.down
          unfold RDk.wrote Dk.wrote
          by_cases h0 : D.left = 0
          · rw [if_pos h0, if_pos (hll.trans h0)]
          · rw [if_neg h0, if_neg (by rw [hll]; exact h0)]
            by_cases h1 : 0 < D.left
            · rw [if_pos h1, if_pos (by rw [hll]; exact h1)]
              exact hdd
            · rw [if_neg h1, if_neg (by rw [hll]; exact h1)]
              exact hdd
        · unfold PageIs
          rw [Dk.get_wrote]
          unfold updP
          by_cases e : j = id
          · subst e
            rw [if_pos rfl, if_pos rfl]
            exact .inr ⟨kind, b, hk, by omega, rfl, rfl⟩
          · rw [if_neg e, if_neg e]; exact h.page j hj
        · unfold RPageIs
          rw [RDk.now_wrote]
          unfold updP
          by_cases e : j = id
          · subst e
            rw [if_pos rfl, if_pos rfl]
            exact .inr ⟨kind, b, hk, by omega, rfl, rfl⟩
          · rw [if_neg (fun h => e h.symm), if_neg e]; exact h.rpage j hj
/-- what the reference's Write does, page by page -/
def rcwRun : RDk → List Run → List Int → Int × RDk
  | D, _, [] => (0, D)
  | D, s, id :: r => match Cp.body (r.headD 0) (s.take 29) with
    | none => (40, D)
    | some b => if D.fputE id b = 0 then rcwRun (D.fput id 3 b) (s.drop 29) r else (D.fputE id b, D.fput id 3 b)
theorem cwRun_sync {n : Nat} : ∀ (ids : List Int) (D : Dk) (R : RDk) (c : Int → Option (Nat × Bs)) (s : List Run), Sync D R n c →
    (rcwRun R s ids).1 = (cwRun D s ids).1 ∧ ∃ c', Sync (cwRun D s ids).2 (rcwRun R s ids).2 n c' := by
  intro ids
  induction ids with
  | nil => intro D R c s h; exact ⟨rfl, c, h⟩
  | cons id r ih =>
    intro D R c s h
    have e1 : cwRun D s (id :: r) = match Cp.body (r.headD 0) (s.take 29) with
      | none => (40, D)
      | some b => if D.fputE id b = 0 then cwRun (D.fput id 3 b) (s.drop 29) r else (D.fputE id b, D.fput id 3 b) := rfl
    have e2 : rcwRun R s (id :: r) = match Cp.body (r.headD 0) (s.take 29) with
      | none => (40, R)
      | some b => if R.fputE id b = 0 then rcwRun (R.fput id 3 b) (s.drop 29) r else (R.fputE id b, R.fput id 3 b) := rfl
    rw [e1, e2]
    cases Cp.body (r.headD 0) (s.take 29) with
    | none => exact ⟨rfl, c, h⟩
    | some b =>
      simp only
      rw [h.e id b]
      obtain ⟨c', h'⟩ := h.fput id 3 (by decide) b
      split
      · exact ih _ _ c' _ h'
      · exact ⟨rfl, c', h'⟩
/-- the reference's disk within bounds -/
structure RLim (D : RDk) (N : Nat) : Prop where
  n : D.sure.length ≤ 16384
  writes : 0 ≤ D.writes ∧ D.writes ≤ N
  reads : 0 ≤ D.reads ∧ D.reads ≤ N
  brk : -1 ≤ D.brk ∧ D.brk ≤ 9223372036854775807
  wait : D.wait.length ≤ N
theorem RLim.fine {D : RDk} {N : Nat} (h : RLim D N) (hN : N < 1000000) : RFine D :=
  ⟨h.n, ⟨h.writes.1, by have := h.writes.2; omega⟩, ⟨h.reads.1, by have := h.reads.2; omega⟩, h.brk, by have := h.wait; omega⟩
theorem RLim.mono {D : RDk} {N M : Nat} (h : RLim D N) (hM : N ≤ M) : RLim D M :=
  ⟨h.n, ⟨h.writes.1, by have := h.writes.2; omega⟩, ⟨h.reads.1, by have := h.reads.2; omega⟩, h.brk, by have := h.wait; omega⟩
theorem RLim.wrote {D : RDk} {N : Nat} (h : RLim D N) (i : Int) (t : Bs) : RLim (D.wrote i t) (N + 1) := by
  have h1 := h.writes
  have h2 := h.reads
  have h3 := h.brk
  have h4 := h.wait
  have hp : (D.wait ++ [(i, t)]).length ≤ N + 1 := by rw [List.length_append]; simp; omega
  unfold RDk.wrote RDk.put
  split
  · exact ⟨h.n, ⟨by show 0 ≤ D.writes + 1; omega, by show D.writes + 1 ≤ _; omega⟩, ⟨h2.1, by show D.reads ≤ _; omega⟩, ⟨by show (-1 : Int) ≤ -1; omega, by show (-1 : Int) ≤ _; omega⟩, hp⟩
  · split
    · exact ⟨h.n, ⟨by show 0 ≤ D.writes + 1; omega, by show D.writes + 1 ≤ _; omega⟩, ⟨h2.1, by show D.reads ≤ _; omega⟩, ⟨by show -1 ≤ D.brk - 1; omega, by show D.brk - 1 ≤ _; omega⟩, hp⟩
    · exact ⟨h.n, ⟨by show 0 ≤ D.writes + 1; omega, by show D.writes + 1 ≤ _; omega⟩, ⟨h2.1, by show D.reads ≤ _; omega⟩, h3, hp⟩
theorem RLim.fput {D : RDk} {N : Nat} (h : RLim D N) (i : Int) (kind : Nat) (b : Bs) : RLim (D.fput i kind b) (N + 1) := by
  unfold RDk.fput
  split
  · exact h.mono (by omega)
  · split
    · exact h.mono (by omega)
    · split
      · exact h.mono (by omega)
      · exact h.wrote _ _
theorem RLim.readD {D : RDk} {N : Nat} (h : RLim D N) (i : Int) : RLim (D.readD i) (N + 1) := by
  have h2 := h.reads
  unfold RDk.readD
  split
  · exact h.mono (by omega)
  · split
    · exact h.mono (by omega)
    · exact ⟨h.n, ⟨h.writes.1, by have := h.writes.2; show D.writes ≤ _; omega⟩, ⟨by show 0 ≤ D.reads + 1; omega, by show D.reads + 1 ≤ _; omega⟩, h.brk, by have := h.wait; show D.wait.length ≤ _; omega⟩
theorem rcwRun_lim : ∀ (ids : List Int) (D : RDk) (s : List Run) (N : Nat), RLim D N → RLim (rcwRun D s ids).2 (N + ids.length) := by
  intro ids
  induction ids with
  | nil => intro D s N h; exact h
  | cons id r ih =>
    intro D s N h
    have e0 : rcwRun D s (id :: r) = match Cp.body (r.headD 0) (s.take 29) with
      | none => (40, D)
      | some b => if D.fputE id b = 0 then rcwRun (D.fput id 3 b) (s.drop 29) r else (D.fputE id b, D.fput id 3 b) := rfl
    rw [e0]
    cases Cp.body (r.headD 0) (s.take 29) with
    | none => exact h.mono (by omega)
    | some b =>
      simp only
      split
      · have := ih (D.fput id 3 b) (s.drop 29) (N + 1) (h.fput id 3 b)
        exact this.mono (by rw [List.length_cons]; omega)
      · exact (h.fput id 3 b).mono (by rw [List.length_cons]; omega)
/-- the same to what reads it -/
structure SameR (D D' : RDk) : Prop where
  sure : D'.sure = D.sure
  wait : D'.wait = D.wait
  down : D'.down = D.down
  brk : D'.brk = D.brk
theorem SameR.refl (D : RDk) : SameR D D := ⟨rfl, rfl, rfl, rfl⟩
theorem SameR.readD {D D' : RDk} (h : SameR D D') (i : Int) : SameR D (D'.readD i) := by
  unfold RDk.readD
  split
  · exact h
  · split
    · exact h
    · exact ⟨h.sure, h.wait, h.down, h.brk⟩
theorem SameR.now {D D' : RDk} (h : SameR D D') (i : Int) : D'.now i = D.now i := by unfold RDk.now; rw [h.sure, h.wait]
theorem SameR.page {D D' : RDk} (h : SameR D D') {i : Int} {o : Option (Nat × Bs)} (hp : RPageIs D i o) : RPageIs D' i o := by
  unfold RPageIs at hp ⊢; rw [h.now]; exact hp
theorem Sync.same {D D' : Dk} {R R' : RDk} {n : Nat} {c : Int → Option (Nat × Bs)} (h : Sync D R n c) (h1 : SameD D D') (hl : D'.left = D.left) (h2 : SameR R R') : Sync D' R' n c :=
  ⟨by rw [h1.sure]; exact h.size, by rw [h2.sure]; exact h.rsize, by rw [h2.brk, hl]; exact h.left, by rw [h2.down, h1.down]; exact h.down, fun id hi => h1.page (h.page id hi), fun id hi => h2.page (h.rpage id hi)⟩
theorem Sync.stop {D : Dk} {R : RDk} {n : Nat} {c : Int → Option (Nat × Bs)} (h : Sync D R n c) (x : Int) : Sync { D with left := max x (-1) } { R with brk := max x (-1) } n c :=
  ⟨h.size, h.rsize, rfl, h.down, h.page, h.rpage⟩
theorem sync_fresh (n : Nat) : Sync (fresh n) (rfresh n) n (fun _ => none) := by
  refine ⟨by simp [fresh], by simp [rfresh], rfl, rfl, fun id hi => .inl ⟨?_, rfl⟩, fun id hi => .inl ⟨?_, rfl⟩⟩
  · have hb2 : ¬ id < 2 ∧ ¬ (n : Int) ≤ id := by simpa [noPage] using hi
    unfold Dk.get fresh
    simp only [List.getD]
    rw [List.getElem?_eq_getElem (by simp; omega)]
    simp
  · have hb2 : ¬ id < 2 ∧ ¬ (n : Int) ≤ id := by simpa [noPage] using hi
    unfold RDk.now rfresh rnowL
    simp only [List.getD, List.foldl_nil]
    rw [List.getElem?_eq_getElem (by simp; omega)]
    simp
end Go.Proofs.YtlgbcogdogpihaaGreatDoor
namespace Go.Proofs.YtlgbcogdogpihaaGreatDoor
open Go.RowKit Go.Shelf
def rcwRes (D : RDk) (l : List Run) (ids : List Int) : (Int × Int) × RDk := if ids.Nodup ∧ pg l ≤ (ids.length : Int) then (cwTell ids (rcwRun D (Rp.norm l) ids).1, (rcwRun D (Rp.norm l) ids).2) else ((0, 1), D)
def RCWEnd (B g q : Nat) (X : (Int × Int) × RDk) (w : World) (e : Ending) (w' : World) : Prop := e = .returned (.tuple #[.int .i64 X.1.1, .int .i64 X.1.2]) ∧ RFAt w' B g q X.2 ∧ Below B w w' ∧ RKept w w'
theorem rcwRun_at (D : RDk) (s : List Run) (ids : List Int) (j : Nat) (hj : j < ids.length) : rcwRun D s (ids.drop j) = match Cp.body ((ids.drop (j + 1)).headD 0) (s.take 29) with
    | none => (40, D)
    | some b => if D.fputE ids[j] b = 0 then rcwRun (D.fput ids[j] 3 b) (s.drop 29) (ids.drop (j + 1)) else (D.fputE ids[j] b, D.fput ids[j] 3 b) := by
  rw [List.drop_eq_getElem_cons hj]; rfl
theorem nodup_take_succ {ids : List Int} {j : Nat} (hj : j < ids.length) (h : (ids.take j).Nodup) (hne : ∀ p (_ : p < j) (hp : p < ids.length), ids[p] ≠ ids[j]) : (ids.take (j + 1)).Nodup := by
  rw [List.take_succ_eq_append_getElem hj, List.nodup_append]
  refine ⟨h, by simp, ?_⟩
  intro a ha b hb
  rw [List.mem_singleton] at hb
  subst hb
  obtain ⟨p, hp, rfl⟩ := List.getElem_of_mem ha
  rw [List.length_take] at hp
  rw [List.getElem_take]
  exact hne p (by omega) (by omega)
theorem not_nodup_at {ids : List Int} {m j : Nat} (hm : m < j) (hj : j < ids.length) (h : ids[m] = ids[j]) : ¬ ids.Nodup := fun hn => by
  have := (List.nodup_iff_pairwise_ne.1 hn)
  exact List.pairwise_iff_getElem.1 this m j (by omega) hj hm h
theorem rcut_both (A : Option Addr) (n c i k : Nat) (x y : Int) (hx : x = i) (hy : y = k) (hik : i ≤ k) (hk : k ≤ c) (W : World) : (Instr.slice 22 (.slice A n c) (some (.int .i64 x)) (some (.int .i64 y)) none).run Tryz.prog W = .ok (.slice (if c = i then A else A.map (·.add (i * 2))) (k - i) (c - i)) W := by
  subst hx hy
  rw [run_slice_lh W 22 A n c und_run .i64 .i64 (i : Int) (k : Int) (by omega) (by omega) (by omega), size_run]
  simp only [Result.andThen_ok, sliced, Int.toNat_natCast]
theorem Own.rkept {w w' : World} {base : Nat} {v : Value} {l : List Run} (h : Own w base v l) (hk : RKept w w') : Own w' base v l := by
  rcases h with ⟨h3, h4 | ⟨g, cap, cur, hv, hb, hh, r⟩⟩
  · exact ⟨h3, .inl h4⟩
  · exact ⟨h3, .inr ⟨g, cap, cur, hv, hb, hk.blk g _ _ hh (by decide) (by decide), r⟩⟩
theorem rcw_no {D : RDk} {o : Option Bs} {y : Int} {F : RDk → Int × RDk} (hno : noPage D.sure.length y = true) : (match o with
    | none => (40, D)
    | some b => if D.fputE y b = 0 then F (D.fput y 3 b) else (D.fputE y b, D.fput y 3 b)) = (40, D) := by
  cases o with
  | none => rfl
  | some b =>
    have e1 : D.fputE y b = 40 := by unfold RDk.fputE; rw [hno]; rfl
    have e2 : D.fput y 3 b = D := by unfold RDk.fput; rw [hno]; rfl
    simp only [e1, e2]
    rw [if_neg (by decide)]
theorem body_unfit {x : Int} {t : List Run} (h : x < 0 ∨ 4294967295 < x) : Cp.body x t = none := by
  unfold Cp.body
  have : Cp.fits 4 x = false := by unfold Cp.fits; simp; omega
  rw [this]; simp
theorem body_fit {x : Int} {t : List Run} (h0 : 0 ≤ x) (h1 : x ≤ 4294967295) (hl : t.length ≤ 29) (hok : t.all Cp.okRun = true) : ∃ b, Cp.body x t = some b :=
  body_some (by unfold Cp.fits; simp; omega) hl hok
set_option maxRecDepth 100000 in
set_option maxHeartbeats 2000000 in
theorem rcwrite_any {B g q N : Nat} {D : RDk} (A1 A2 : Option Addr) (c1 c2 : Nat) (l : List Run) (ids : List Int) (hl : l.length ≤ 1000) (hi : ids.length ≤ 1000) (hw64 : ∀ x ∈ ids, Wf64 x) (w : World) (h : RFAt w B g q D) (hL : RLim D N) (hN : N + 1000 < 1000000) (hB : B ≤ w.heap.size)
    (h1 : RS w w.heap.size A1 l) (h2 : LS intE w B A2 ids) :
    Calls Tryz.prog 16 #[.pointer (some ⟨g, 0, none⟩), .slice A1 l.length c1, .slice A2 ids.length c2] w (RCWEnd B g q (rcwRes D l ids) w) := by
  obtain ⟨X, hX⟩ : ∃ X, X = rcwRes D l ids := ⟨_, rfl⟩
  rw [← hX]
  have HX := Lib.hid hX
  clear hX
  obtain ⟨⟨x1, x2⟩, DX⟩ := X
  go_enter Tryz.func16, Tryz.ntmps16
  go_wp2
  go_loopw [8] (fun i wr => ∃ j : Nat, j ≤ ids.length ∧ i = .int .i64 j ∧ Hid (ids.take j).Nodup ∧ Below w.heap.size w wr) (fun i _ => ids.length - (intOf i).toNat)
  case atStart => exact ⟨0, by omega, rfl, Lib.hid (by simp), Below.refl _ _⟩
  case round =>
    obtain ⟨j, hj, rfl, hnd, hb⟩ := hrel
    by_cases hlt : j < ids.length
    · obtain ⟨wo, rfl⟩ : ∃ wo : World, wo = wr := ⟨_, rfl⟩
      obtain ⟨b2, o2, rfl, hb2, g0⟩ := ((h2.below (hb.mono hB))).int hlt
      have hb2' : b2 < wo.heap.size := Nat.lt_of_lt_of_le hb2 (Nat.le_trans hB hb.size)
      have HH := Lib.hid (h2.below (hb.mono hB))
      go_wp2
      go_loopw [9] (fun k wr => ∃ m : Nat, m ≤ j ∧ k = .int .i64 m ∧ Hid (∀ p (_ : p < m) (hp : p < ids.length), ids[p] ≠ ids[j]) ∧ Below wo.heap.size wo wr) (fun k _ => j - (intOf k).toNat)
      case atStart => exact ⟨0, by omega, rfl, Lib.hid (fun p hp => absurd hp (by omega)), Below.refl _ _⟩
      case round =>
        obtain ⟨m, hm, rfl, hne, hb3⟩ := hrel
        by_cases hlm : m < j
        · obtain ⟨b3, o3, e3, _, g1⟩ := HH.out.int (show m < ids.length by omega)
          injection e3 with e3
          injection e3 with e3 e4
          subst e3 e4
          have g0' := (hb3.cell (p := ⟨b2, o2 + j, none⟩) hb2').trans g0
          have g1' := (hb3.cell (p := ⟨b2, o2 + m, none⟩) hb2').trans g1
          have hdup := Lib.hid (fun e : ids[m] = ids[j] => not_nodup_at hlm hlt e)
          have hstep := Lib.hid (fun (e : ids[m] ≠ ids[j]) p (hp : p < m + 1) (hq : p < ids.length) => show ids[p] ≠ ids[j] from (by
            by_cases hpm : p < m
            · exact hne.out p hpm hq
            · obtain rfl : p = m := by omega
              exact e))
          have hbw := hb.trans (hb3.mono hb.size)
          have hx : ∃ y z, y = ids[m] ∧ z = ids[j] := ⟨_, _, rfl, rfl⟩
          obtain ⟨y, z, hy, hz⟩ := hx
          rw [← hy] at g1'
          rw [← hz] at g0'
          have HY := Lib.hid hy
          have HZ := Lib.hid hz
          clear g0 g1 hy hz hne
          by_cases e : y = z
          · subst e
            have hbad := Lib.hid (hdup.out (HY.out.symm.trans HZ.out))
            have hres := HX.out
            unfold rcwRes at hres
            rw [if_neg (fun h => hbad.out h.1)] at hres
            have e1 : x1 = 0 := congrArg (fun t => t.1.1) hres
            have e2 : x2 = 1 := congrArg (fun t => t.1.2) hres
            have e3 : DX = D := congrArg (fun t => t.2) hres
            clear hres hdup hstep HX HY HZ
            subst e1 e2 e3
            go_wp2
            go_quiet (fail)
            go_wp2
            go_ret2
            exact ⟨rfl, h.keep (below_drewN hbw _), below_drewN (hbw.mono hB) _, RKept.below (below_drewN hbw _)⟩
          · have hq : (y == z) = false := by simpa using e
            have hnx := Lib.hid (hstep.out (by rw [← HY.out, ← HZ.out]; exact e))
            clear e hdup hstep HX HY HZ
            go_wp2
            go_quiet (fail)
            go_wp2
            go_roundw
            case rel => exact ⟨m + 1, by omega, by go_num, hnx, below_drewN hb3 _⟩
            case measure => simp [intOf]; omega
        · obtain rfl : m = j := by omega
          have hnx := Lib.hid (nodup_take_succ hlt hnd.out hne.out)
          have hbw := hb.trans (hb3.mono hb.size)
          clear hne
          go_wp2
          go_roundw
          case rel => exact ⟨m + 1, by omega, by go_num, hnx, hbw⟩
          case measure => simp [intOf]; omega
    · obtain rfl : j = ids.length := by omega
      have hndd := hnd.out
      rw [List.take_of_length_le (Nat.le_refl _)] at hndd
      have HND := Lib.hid hndd
      clear hndd hnd
      have hp := fun W hr => rpages_any A1 c1 l W hr (by omega)
      unfold PagesEnd at hp
      obtain ⟨P, hP⟩ : ∃ P, P = pg l := ⟨_, rfl⟩
      rw [← hP] at hp
      have HP := Lib.hid hP
      have HPC := Lib.hid hp
      clear hp hP
      go_wp2_with fail
      refine Calls.mono (HPC.out _ ((h1.below hb).more hb.size)) ?_
      rintro e w4 ⟨rfl, hb4⟩
      have hbw4 := hb.trans (hb4.mono hb.size)
      by_cases hpl : P ≤ (ids.length : Int)
      · have hq : decide ((ids.length : Int) < P) = false := decide_eq_false (by omega)
        have hres := HX.out
        unfold rcwRes at hres
        rw [if_pos ⟨HND.out, by rw [← HP.out]; exact hpl⟩] at hres
        have HRES := Lib.hid hres
        have hnm := fun W hr => norm_any A1 c1 l W hr (by omega)
        have hok := norm_okRun l
        have hnl := norm_len l
        have hnwf : ∀ k (hk : k < (Rp.norm l).length), Wf64 (Rp.norm l)[k].1 ∧ Wf64 (Rp.norm l)[k].2 := fun k hk => by
          have := canon_inR _ 0 (Int.le_refl _) (Rp.norm_ok l).1 _ (List.getElem_mem hk)
          unfold InR at this
          unfold Wf64
          omega
        have HRES := Lib.hid hres
        clear hres HX
        generalize Rp.norm l = s0 at *
        have HOK := Lib.hid hok
        have HNM := Lib.hid hnm
        have HWF := Lib.hid hnwf
        have hs1000 : s0.length ≤ 1000 := by omega
        clear hok hnm hnwf hpl
        obtain ⟨xe, D', hxe⟩ : ∃ xe D', (xe, D') = rcwRun D s0 ids := ⟨_, _, rfl⟩
        have HXE := Lib.hid hxe
        clear hxe
        go_wp2_with fail
        refine Calls.mono (HNM.out _ ((h1.below hbw4).more hbw4.size)) ?_
        rintro e w6 ⟨v6, rfl, ho6, hb6⟩
        obtain ⟨A6, c6, rfl⟩ := ho6.form
        have hbw6 := hbw4.trans (hb6.mono hbw4.size)
        have ho6' : Own w6 w.heap.size (.slice A6 s0.length c6) s0 := own_lower ho6 hbw4.size
        have hc6 : s0.length ≤ c6 := by
          rcases ho6.2 with ⟨e, h0⟩ | ⟨g, cap, cur, e, _, _, hn, _⟩
          · omega
          · injection e with _ _ e3; omega
        clear HNM HPC HP hb4 hb6 ho6 hb hbw4
        go_wp2_with fail
        go_loopw [11] (fun i wr => ∃ (j : Nat) (Dj : RDk), j ≤ ids.length ∧ i = .int .i64 j ∧ Own wr w.heap.size (.slice A6 s0.length c6) s0 ∧ RFAt wr B g q Dj ∧ RLim Dj (N + j) ∧ Hid ((xe, D') = rcwRun Dj (s0.drop (29 * j)) (ids.drop j)) ∧ Below B w wr ∧ RKept w wr) (fun i _ => ids.length - (intOf i).toNat)
        case atStart => exact ⟨0, D, by omega, rfl, ho6', h.keep hbw6, hL, Lib.hid HXE.out, hbw6.mono hB, RKept.below hbw6⟩
        case round =>
          obtain ⟨j, Dj, hj, rfl, hO, hF, hLm, hrun, hBr, hK⟩ := hrel
          have hBs := Nat.le_trans hB hBr.size
          have hls := (h2.below hBr).more hBs
          by_cases hlt : j < ids.length
          · have hst0 := rcwRun_at Dj (s0.drop (29 * j)) ids j hlt
            rw [← hrun.out] at hst0
            obtain ⟨b2, o2, rfl, hb2, g0⟩ := hls.int hlt
            have HLS := Lib.hid hls
            have hb2' : b2 < wr.heap.size := hb2
            obtain ⟨As, cs, hcs, hql⟩ := hF.disk.len
            have hcf := hF.self.cell 0
            have hgl := hF.self.lt
            have ht29 : ((s0.drop (29 * j)).take 29).length ≤ 29 := by rw [List.length_take]; omega
            have HOKt := Lib.hid ((all_take ((all_take HOK.out (29 * j)).2) 29).1)
            obtain ⟨F, hFF⟩ : ∃ F, F = min (29 * j) s0.length := ⟨_, rfl⟩
            obtain ⟨T, hTT⟩ : ∃ T, T = min (29 * (j + 1)) s0.length := ⟨_, rfl⟩
            have eF : min (29 * (j : Int)) (s0.length : Int) = (F : Int) := by omega
            have eT : min (29 * ((j : Int) + 1)) (s0.length : Int) = (T : Int) := by omega
            have hFT : F ≤ T ∧ T ≤ s0.length := by omega
            obtain ⟨t, ht⟩ : ∃ t, t = (s0.drop F).take (T - F) := ⟨_, rfl⟩
            have htl : t.length = T - F := by rw [ht, List.length_take, List.length_drop]; omega
            have hte : t = (s0.drop (29 * j)).take 29 := by
              rw [ht]
              by_cases hle : 29 * j ≤ s0.length
              · rw [show F = 29 * j by omega]
                by_cases hle2 : 29 * (j + 1) ≤ s0.length
                · rw [show T - 29 * j = 29 by omega]
                · rw [List.take_of_length_le (by rw [List.length_drop]; omega), List.take_of_length_le (by rw [List.length_drop]; omega)]
              · rw [List.drop_of_length_le (by omega), List.drop_of_length_le (by omega)]; simp
            have HT0 := Lib.hid hte
            have hcut := fun W => rcut_both A6 s0.length c6 F T (F : Int) (T : Int) rfl rfl hFT.1 (by omega) W
            rw [← htl] at hcut
            have hrt : RS wr wr.heap.size (if c6 = F then A6 else A6.map (·.add (F * 2))) t := by
              rw [ht]
              exact ((Own.rs (show Own _ _ _ s0 from hO)).cut (by omega) hc6).take_ _
            have hwft : ∀ k (hk : k < t.length), Wf64 t[k].1 ∧ Wf64 t[k].2 := fun k hk => by
              have hm : t[k] ∈ s0 := List.mem_of_mem_drop (List.mem_of_mem_take (by rw [← ht]; exact List.getElem_mem hk))
              obtain ⟨k2, hk2, e⟩ := List.getElem_of_mem hm
              have := HWF.out k2 hk2
              rw [e] at this
              exact this
            generalize (if c6 = F then A6 else A6.map (·.add (F * 2))) = A7 at *
            have hbd := fun (x : Int) (hx : Wf64 x) W (hh : Below wr.heap.size wr W) => (rbody_any x A7 (c6 - F) t W ((hrt.below hh).more hh.size) (by omega) hx hwft).mono fun (e : Ending) w' ⟨he, hb⟩ => (show e = Ending.returned (rbodyV (Cp.body x t)) ∧ Below wr.heap.size wr w' from ⟨he, hh.trans (hb.mono hh.size)⟩)
            have htn : t.length ≤ 1000 := by omega
            clear hFF hTT htl ht hte hrt hwft hrun hFT hls
            by_cases h1 : j + 1 < ids.length
            · have g1 : wr.cell? ⟨b2, o2 + (j + 1), none⟩ = some (.int .i64 ids[j + 1]) := by
                obtain ⟨b3, o3, e3, _, g3⟩ := HLS.out.int h1
                injection e3 with e3
                injection e3 with e3 e4
                subst e3 e4
                exact g3
              rw [show (ids.drop (j + 1)).headD 0 = ids[j + 1] by rw [List.drop_eq_getElem_cons h1]; rfl] at hst0
              have hst := Lib.hid hst0
              have hx64 : Wf64 ids[j + 1] := hw64 _ (List.getElem_mem h1)
              have HBD := Lib.hid (fun x hx => hbd x hx)
              clear hst0 hbd
              generalize ids[j] = y at *
              generalize ids[j + 1] = x at *
              have hbadp := fun hp => hst.out.trans (rcw_no (D := Dj) (y := y) (F := fun R => rcwRun R ((s0.drop (29 * j)).drop 29) (ids.drop (j + 1))) hp)
              by_cases hpage : noPage Dj.sure.length y = true
              · replace hbadp := hbadp hpage
                have hxe : xe = 40 := congrArg Prod.fst hbadp
                have hxd : D' = Dj := congrArg Prod.snd hbadp
                have hor : y < 2 ∨ (Dj.sure.length : Int) ≤ y := by simpa [noPage] using hpage
                have hres := HRES.out
                clear hbadp hpage
                subst hxe hxd
                rw [← HXE.out] at hres
                have r1 : x1 = 0 := congrArg (fun t => t.1.1) hres
                have r2 : x2 = 40 := congrArg (fun t => t.1.2) hres
                have r3 : DX = D' := congrArg (fun t => t.2) hres
                clear hres HRES HXE hst
                subst r1 r2 r3
                by_cases hy2 : y < 2
                · have hq1 : decide (y < 2) = true := decide_eq_true hy2
                  clear hor hy2
                  go_wp2
                  go_quiet (fail)
                  go_wp2
                  go_ret2
                  exact ⟨rfl, hF.keep (below_drewN (Below.refl _ _) _), below_drewN hBr _, hK.trans (RKept.below (below_drewN (Below.refl _ _) _))⟩
                · have hq1 : decide (y < 2) = false := decide_eq_false hy2
                  have hq2 : decide ((DX.sure.length : Int) ≤ y) = true := decide_eq_true (by omega)
                  clear hor hy2
                  go_wp2
                  go_quiet (fail)
                  go_wp2
                  go_ret2
                  exact ⟨rfl, hF.keep (below_drewN (Below.refl _ _) _), below_drewN hBr _, hK.trans (RKept.below (below_drewN (Below.refl _ _) _))⟩
              · have hpg2 : ¬ y < 2 ∧ ¬ (Dj.sure.length : Int) ≤ y := by simpa [noPage] using hpage
                have hq1 : decide (y < 2) = false := decide_eq_false hpg2.1
                have hq2 : decide ((Dj.sure.length : Int) ≤ y) = false := decide_eq_false hpg2.2
                clear hpage hpg2 hbadp
                by_cases hxr : x < 0 ∨ 4294967295 < x
                · have hbadp := hst.out
                  rw [body_unfit hxr] at hbadp
                  have hxe : xe = 40 := congrArg Prod.fst hbadp
                  have hxd : D' = Dj := congrArg Prod.snd hbadp
                  have hres := HRES.out
                  clear hbadp
                  subst hxe hxd
                  rw [← HXE.out] at hres
                  have r1 : x1 = 0 := congrArg (fun t => t.1.1) hres
                  have r2 : x2 = 40 := congrArg (fun t => t.1.2) hres
                  have r3 : DX = D' := congrArg (fun t => t.2) hres
                  clear hres HRES HXE hst
                  subst r1 r2 r3
                  by_cases hx0 : x < 0
                  · have hq3 : decide (x < 0) = true := decide_eq_true hx0
                    clear hxr hx0
                    go_wp2
                    go_quiet (fail)
                    go_wp2
                    go_ret2
                    exact ⟨rfl, hF.keep (below_drewN (Below.refl _ _) _), below_drewN hBr _, hK.trans (RKept.below (below_drewN (Below.refl _ _) _))⟩
                  · have hq3 : decide (x < 0) = false := decide_eq_false hx0
                    have hq4 : decide (4294967295 < x) = true := decide_eq_true (by omega)
                    clear hxr hx0
                    go_wp2
                    go_quiet (fail)
                    go_wp2
                    go_ret2
                    exact ⟨rfl, hF.keep (below_drewN (Below.refl _ _) _), below_drewN hBr _, hK.trans (RKept.below (below_drewN (Below.refl _ _) _))⟩
                · have hq3 : decide (x < 0) = false := decide_eq_false (by omega)
                  have hq4 : decide (4294967295 < x) = false := decide_eq_false (by omega)
                  obtain ⟨b, hbo⟩ := body_fit (x := x) (t := (s0.drop (29 * j)).take 29) (by omega) (by omega) ht29 HOKt.out
                  clear hxr
                  have hgo := hst.out
                  rw [hbo] at hgo
                  simp only at hgo
                  have HGO := Lib.hid hgo
                  have hbd := fun W (hh : Below wr.heap.size wr W) => HBD.out x hx64 W hh
                  rw [← HT0.out] at hbo
                  rw [hbo] at hbd
                  simp only [rbodyV] at hbd
                  have HBD2 := Lib.hid hbd
                  clear hgo hst hbo hbd HBD
                  go_wp2
                  go_quiet (fail)
                  go_wp2_with fail
                  refine Calls.mono (HBD2.out _ (below_drewN (Below.refl _ _) _)) ?_
                  rintro e w7 ⟨rfl, hb7⟩
                  have hF7 := hF.keep hb7
                  have hB7 := hBr.trans (hb7.mono hBs)
                  have hK7 := hK.trans (RKept.below hb7)
                  have g07 := (hb7.cell (p := ⟨b2, o2 + j, none⟩) hb2').trans g0
                  have hpt := rfput_any hF7 (hLm.fine (by omega)) (Nat.lt_of_le_of_lt hLm.wait (by omega)) (Nat.le_trans hB hB7.size) y 3 (by decide) b
                  have hLp := hLm.fput y 3 b
                  generalize Dj.fputE y b = er at *
                  generalize Dj.fput y 3 b = Dp at *
                  unfold str at hpt
                  go_wp2_with fail
                  refine Calls.mono hpt ?_
                  clear hpt
                  rintro e w8 ⟨rfl, hF8, hb8, hk8⟩
                  have hB8 := hB7.trans hb8
                  have hK8 := hK7.trans hk8
                  have hO8 := (Own.below hO hb7).rkept hk8
                  by_cases her : er = 0
                  · have hgo := HGO.out
                    rw [if_pos her] at hgo
                    have HG2 := Lib.hid hgo
                    clear hgo HGO
                    subst her
                    go_wp2
                    go_roundw
                    case rel => exact ⟨j + 1, Dp, by omega, by go_num, hO8, hF8, hLp, Lib.hid (by rw [HG2.out, List.drop_drop, Nat.mul_succ]), hB8, hK8⟩
                    case measure => simp [intOf]; omega
                  · have hgo := HGO.out
                    rw [if_neg her] at hgo
                    have hxe : xe = er := congrArg Prod.fst hgo
                    have hxd : D' = Dp := congrArg Prod.snd hgo
                    have hres := HRES.out
                    clear hgo HGO
                    subst hxe hxd
                    rw [← HXE.out] at hres
                    have hct : cwTell ids xe = (0, xe) := by unfold cwTell; rw [if_neg her]
                    simp only [hct] at hres
                    have r1 : x1 = 0 := congrArg (fun t => t.1.1) hres
                    have r2 : x2 = xe := congrArg (fun t => t.1.2) hres
                    have r3 : DX = D' := congrArg (fun t => t.2) hres
                    have hqe : (xe != 0) = true := by simpa using her
                    clear hres HRES HXE hct her
                    subst r1 r2 r3
                    go_wp2
                    go_ret2
                    exact ⟨rfl, hF8, hB8, hK8⟩

            · rw [show (ids.drop (j + 1)).headD 0 = 0 by rw [List.drop_of_length_le (by omega)]; rfl] at hst0
              have hst := Lib.hid hst0
              have HBD := Lib.hid (fun x hx => hbd x hx)
              clear hst0 hbd
              generalize ids[j] = y at *
              have hbadp := fun hp => hst.out.trans (rcw_no (D := Dj) (y := y) (F := fun R => rcwRun R ((s0.drop (29 * j)).drop 29) (ids.drop (j + 1))) hp)
              by_cases hpage : noPage Dj.sure.length y = true
              · replace hbadp := hbadp hpage
                have hxe : xe = 40 := congrArg Prod.fst hbadp
                have hxd : D' = Dj := congrArg Prod.snd hbadp
                have hor : y < 2 ∨ (Dj.sure.length : Int) ≤ y := by simpa [noPage] using hpage
                have hres := HRES.out
                clear hbadp hpage
                subst hxe hxd
                rw [← HXE.out] at hres
                have r1 : x1 = 0 := congrArg (fun t => t.1.1) hres
                have r2 : x2 = 40 := congrArg (fun t => t.1.2) hres
                have r3 : DX = D' := congrArg (fun t => t.2) hres
                clear hres HRES HXE hst
                subst r1 r2 r3
                by_cases hy2 : y < 2
                · have hq1 : decide (y < 2) = true := decide_eq_true hy2
                  clear hor hy2
                  go_wp2
                  go_quiet (fail)
                  go_wp2
                  go_ret2
                  exact ⟨rfl, hF.keep (below_drewN (Below.refl _ _) _), below_drewN hBr _, hK.trans (RKept.below (below_drewN (Below.refl _ _) _))⟩
                · have hq1 : decide (y < 2) = false := decide_eq_false hy2
                  have hq2 : decide ((DX.sure.length : Int) ≤ y) = true := decide_eq_true (by omega)
                  clear hor hy2
                  go_wp2
                  go_quiet (fail)
                  go_wp2
                  go_ret2
                  exact ⟨rfl, hF.keep (below_drewN (Below.refl _ _) _), below_drewN hBr _, hK.trans (RKept.below (below_drewN (Below.refl _ _) _))⟩
              · have hpg2 : ¬ y < 2 ∧ ¬ (Dj.sure.length : Int) ≤ y := by simpa [noPage] using hpage
                have hq1 : decide (y < 2) = false := decide_eq_false hpg2.1
                have hq2 : decide ((Dj.sure.length : Int) ≤ y) = false := decide_eq_false hpg2.2
                clear hpage hpg2 hbadp
                obtain ⟨b, hbo⟩ := body_fit (x := 0) (t := (s0.drop (29 * j)).take 29) (by omega) (by omega) ht29 HOKt.out
                have hgo := hst.out
                rw [hbo] at hgo
                simp only at hgo
                have HGO := Lib.hid hgo
                have hbd := fun W (hh : Below wr.heap.size wr W) => HBD.out 0 (by unfold Wf64; omega) W hh
                rw [← HT0.out] at hbo
                rw [hbo] at hbd
                simp only [rbodyV] at hbd
                have HBD2 := Lib.hid hbd
                clear hgo hst hbo hbd HBD
                go_wp2
                go_quiet (fail)
                go_wp2_with fail
                refine Calls.mono (HBD2.out _ (below_drewN (Below.refl _ _) _)) ?_
                rintro e w7 ⟨rfl, hb7⟩
                have hF7 := hF.keep hb7
                have hB7 := hBr.trans (hb7.mono hBs)
                have hK7 := hK.trans (RKept.below hb7)
                have g07 := (hb7.cell (p := ⟨b2, o2 + j, none⟩) hb2').trans g0
                have hpt := rfput_any hF7 (hLm.fine (by omega)) (Nat.lt_of_le_of_lt hLm.wait (by omega)) (Nat.le_trans hB hB7.size) y 3 (by decide) b
                have hLp := hLm.fput y 3 b
                generalize Dj.fputE y b = er at *
                generalize Dj.fput y 3 b = Dp at *
                unfold str at hpt
                go_wp2_with fail
                refine Calls.mono hpt ?_
                clear hpt
                rintro e w8 ⟨rfl, hF8, hb8, hk8⟩
                have hB8 := hB7.trans hb8
                have hK8 := hK7.trans hk8
                have hO8 := (Own.below hO hb7).rkept hk8
                by_cases her : er = 0
                · have hgo := HGO.out
                  rw [if_pos her] at hgo
                  have HG2 := Lib.hid hgo
                  clear hgo HGO
                  subst her
                  go_wp2
                  go_roundw
                  case rel => exact ⟨j + 1, Dp, by omega, by go_num, hO8, hF8, hLp, Lib.hid (by rw [HG2.out, List.drop_drop, Nat.mul_succ]), hB8, hK8⟩
                  case measure => simp [intOf]; omega
                · have hgo := HGO.out
                  rw [if_neg her] at hgo
                  have hxe : xe = er := congrArg Prod.fst hgo
                  have hxd : D' = Dp := congrArg Prod.snd hgo
                  have hres := HRES.out
                  clear hgo HGO
                  subst hxe hxd
                  rw [← HXE.out] at hres
                  have hct : cwTell ids xe = (0, xe) := by unfold cwTell; rw [if_neg her]
                  simp only [hct] at hres
                  have r1 : x1 = 0 := congrArg (fun t => t.1.1) hres
                  have r2 : x2 = xe := congrArg (fun t => t.1.2) hres
                  have r3 : DX = D' := congrArg (fun t => t.2) hres
                  have hqe : (xe != 0) = true := by simpa using her
                  clear hres HRES HXE hct her
                  subst r1 r2 r3
                  go_wp2
                  go_ret2
                  exact ⟨rfl, hF8, hB8, hK8⟩

          · obtain rfl : j = ids.length := by omega
            have hst0 := hrun.out
            have hdn : ids.drop ids.length = [] := List.drop_of_length_le (Nat.le_refl _)
            rw [hdn] at hst0
            clear hdn
            have hxe : xe = 0 := congrArg Prod.fst hst0
            have hxd : D' = Dj := congrArg Prod.snd hst0
            have hres := HRES.out
            clear hst0 hrun
            subst hxe hxd
            rw [← HXE.out] at hres
            have hct : cwTell ids 0 = (ids.headD 0, 0) := by unfold cwTell; rw [if_pos rfl]
            simp only [hct] at hres
            have r1 : x1 = ids.headD 0 := congrArg (fun t => t.1.1) hres
            have r2 : x2 = 0 := congrArg (fun t => t.1.2) hres
            have r3 : DX = D' := congrArg (fun t => t.2) hres
            clear hres HRES HXE hct
            subst r2 r3
            by_cases hz : ids.length = 0
            · have hids : ids = [] := List.eq_nil_of_length_eq_zero hz
              have hq5 : ((ids.length : Int) == 0) = true := by rw [hz]; rfl
              have hx0 : x1 = 0 := by rw [r1, hids]; rfl
              clear r1
              subst hx0
              go_wp2
              go_ret2
              exact ⟨rfl, hF, hBr, hK⟩
            · have hq5 : ((ids.length : Int) == 0) = false := by rw [beq_eq_false_iff_ne]; omega
              have hq6 : decide ((ids.length : Int) = 0) = false := decide_eq_false (by omega)
              obtain ⟨b2, o2, rfl, hb2, g0⟩ := hls.int (k := 0) (by omega)
              have hhd : ids.headD 0 = ids[0] := by
                cases ids with
                | nil => exact absurd rfl hz
                | cons a r => rfl
              rw [hhd] at r1
              rw [← r1] at g0
              rw [Nat.add_zero] at g0
              have hpos : 0 < ids.length := by omega
              clear r1 hhd
              go_wp2
              go_ret2
              exact ⟨rfl, hF, hBr, hK⟩
      · have hq : decide ((ids.length : Int) < P) = true := decide_eq_true (by omega)
        have hres := HX.out
        unfold rcwRes at hres
        rw [if_neg (fun h => hpl (by rw [HP.out]; exact h.2))] at hres
        have e1 : x1 = 0 := congrArg (fun t => t.1.1) hres
        have e2 : x2 = 1 := congrArg (fun t => t.1.2) hres
        have e3 : DX = D := congrArg (fun t => t.2) hres
        clear hres HX hpl
        subst e1 e2 e3
        go_wp2
        go_ret2
        exact ⟨rfl, h.keep hbw4, hbw4.mono hB, RKept.below hbw4⟩
end Go.Proofs.YtlgbcogdogpihaaGreatDoor
namespace Go.Proofs.YtlgbcogdogpihaaGreatDoor
open Go.RowKit Go.Shelf
section
variable {w w' : World} {b2 e2 s2 n2 : Nat} {v2 : Value} {xs2 : List Value}
theorem LO.row {α : Type} {E : Enc α} {ty : TypeId} {base : Nat} {v : Value} {l : List α} (h : LO E ty w base v l) (ho : w.ownsRow b2 e2 s2 v2 n2 xs2) (hne : e2 ≠ ty) (hg : w.grownBy w' v2.ownBlock) : LO E ty w' base v l :=
  h.keep hg fun r e => by
    obtain ⟨cs, hcs⟩ := own_obj ho e
    exact ⟨_, hcs, fun cs' e' => by injection e' with _ e'; exact hne e'⟩
theorem Blk.row {g : Nat} {ty : TypeId} {cs : Array Value} (h : Blk w g ty cs) (ho : w.ownsRow b2 e2 s2 v2 n2 xs2) (hne : e2 ≠ ty) (hg : w.grownBy w' v2.ownBlock) : Blk w' g ty cs :=
  h.grown hg (fun e => own_blk_ne ho h hne e.symm)
theorem RFAt.row {B g q : Nat} {D : RDk} (h : RFAt w B g q D) (ho : w.ownsRow b2 e2 s2 v2 n2 xs2) (n1 : e2 ≠ 43) (n2' : e2 ≠ 100) (n3 : e2 ≠ 9) (n4 : e2 ≠ 162) (hg : w.grownBy w' v2.ownBlock) : RFAt w' B g q D := by
  obtain ⟨vs, vw, h2⟩ := h.disk
  exact ⟨h.self.row ho n1 hg, vs, vw, h2.le, h2.self.row ho n2' hg, h2.sure.row ho n3 hg, h2.wait.row ho n4 hg⟩
theorem own_base (ho : w.ownsRow b2 e2 s2 v2 n2 xs2) {r : Nat} (hr : v2.ownBlock = some r) : b2 ≤ r := by
  rcases ho.2 with ⟨rfl, _⟩ | ⟨g, cap, cur, rfl, hb, _⟩
  · simp [Value.ownBlock] at hr
  · have : g = r := by simpa [Value.ownBlock] using hr
    omega
theorem RKept.far {a : World} (h : RKept a w) (hg : w.grownBy w' v2.ownBlock) (ho : w.ownsRow b2 e2 s2 v2 n2 xs2) (hb : a.heap.size ≤ b2) : RKept a w' :=
  ⟨fun g t cs hB h1 h2 => (h.blk g t cs hB h1 h2).grown hg (fun e => by have := own_base ho e.symm; have := hB.lt; omega), fun m o hm hc => (hg.block m (Array.getElem?_eq_some_iff.1 (h.oth m o hm hc)).1 (fun e => by have := own_base ho e.symm; have := (Array.getElem?_eq_some_iff.1 hm).1; omega)).trans (h.oth m o hm hc)⟩
theorem Below.far {B : Nat} {a : World} (h : Below B a w) (hg : w.grownBy w' v2.ownBlock) (ho : w.ownsRow b2 e2 s2 v2 n2 xs2) (hb : B ≤ b2) (hB : B ≤ w.heap.size) : Below B a w' :=
  h.grown hg hB (fun _ e => Nat.le_trans hb (own_base ho e))
end
/-- where the reference's Read stands -/
structure RR (n : Nat) (dn : Bool) (c : Int → Option (Nat × Bs)) (T0 : List Lnk) (ids : List Int) (L : List Run) (at_ : Int) : Prop where
  ex : ∃ pre k met, T0 = pre ++ chL n dn c k met at_ ∧ k + ids.length = n + 1 ∧ (∀ x, x ∈ met ↔ x ∈ ids) ∧ pre.map (fun y => y.1) = ids ∧ pre.flatMap (fun y => y.2.1) = L ∧ pre.find? (fun y => decide (y.2.2 ≠ 0)) = none
  nd : ids.Nodup
  rg : ∀ x ∈ ids, 2 ≤ x ∧ x < (n : Int)
  len : L.length ≤ 29 * ids.length
section
variable {n : Nat} {dn : Bool} {c : Int → Option (Nat × Bs)} {T0 : List Lnk} {ids : List Int} {L : List Run} {at_ : Int}
theorem RR.le (h : RR n dn c T0 ids L at_) : ids.length ≤ n := met_len h.nd h.rg
theorem RR.start (head : Int) : RR n dn c (chL n dn c (n + 1) [] head) [] [] head :=
  ⟨⟨[], n + 1, [], rfl, by simp, fun _ => Iff.rfl, rfl, rfl, rfl⟩, List.nodup_nil, (fun x hx => by cases hx), by simp⟩
theorem RR.zero (h : RR n dn c T0 ids L 0) : crRes T0 = (Rp.norm L, ids, 0) := by
  obtain ⟨pre, k, met, h1, _, _, h4, h5, h6⟩ := h.ex
  rw [chL_zero, List.append_nil] at h1
  subst h1 h4 h5
  unfold crRes
  rw [h6]
theorem RR.bad (h : RR n dn c T0 ids L at_) {y : Lnk} {rest : List Lnk} (hy : y.2.2 ≠ 0) (hT : ∀ k met, (k + ids.length = n + 1) → (∀ x, x ∈ met ↔ x ∈ ids) → chL n dn c k met at_ = y :: rest) : crRes T0 = ([], [], y.2.2) := by
  obtain ⟨pre, k, met, h1, h2, h3, _, _, h6⟩ := h.ex
  rw [hT k met h2 h3] at h1
  subst h1
  unfold crRes
  rw [List.find?_append, h6]
  simp [hy]
theorem RR.met (h : RR n dn c T0 ids L at_) (h0 : at_ ≠ 0) (hm : at_ ∈ ids) : crRes T0 = ([], [], 3) := by
  refine h.bad (y := (0, [], 3)) (rest := []) (by decide) fun k met hk hmet => ?_
  have := h.le
  obtain ⟨k', rfl⟩ : ∃ k', k = k' + 1 := ⟨k - 1, by omega⟩
  exact chL_met h0 ((hmet _).2 hm)
theorem RR.err (h : RR n dn c T0 ids L at_) (h0 : at_ ≠ 0) (hm : at_ ∉ ids) {x : Int} (hx : (fo n dn at_ (c at_)).1.2.2 = x) (hx0 : x ≠ 0) : crRes T0 = ([], [], x) := by
  subst hx
  refine h.bad (y := (fo n dn at_ (c at_)).1) (rest := []) hx0 fun k met hk hmet => ?_
  have := h.le
  obtain ⟨k', rfl⟩ : ∃ k', k = k' + 1 := ⟨k - 1, by omega⟩
  rw [chL_step h0 (fun hh => hm ((hmet _).1 hh)) rfl, if_neg hx0]
theorem RR.step (h : RR n dn c T0 ids L at_) (h0 : at_ ≠ 0) (hm : at_ ∉ ids) (hno : noPage n at_ = false) {r : List Run} {next : Int} (hf : fo n dn at_ (c at_) = ((at_, r, 0), next)) (hr : r.length ≤ 29) : RR n dn c T0 (ids ++ [at_]) (L ++ r) next := by
  have hle := h.le
  obtain ⟨pre, k, met, h1, h2, h3, h4, h5, h6⟩ := h.ex
  obtain ⟨k', rfl⟩ : ∃ k', k = k' + 1 := ⟨k - 1, by omega⟩
  rw [chL_step h0 (fun hh => hm ((h3 _).1 hh)) hf.symm] at h1
  have hb2 : ¬ at_ < 2 ∧ ¬ (n : Int) ≤ at_ := by simpa [noPage] using hno
  refine ⟨⟨pre ++ [(at_, r, 0)], k', at_ :: met, ?_, by rw [List.length_append]; simp; omega, fun x => ?_, by rw [List.map_append, h4]; rfl, by rw [List.flatMap_append, h5]; simp, ?_⟩, ?_, ?_, ?_⟩
  · rw [h1, List.append_assoc]; simp
  · rw [List.mem_cons, List.mem_append, h3]; simp [or_comm]
  · rw [List.find?_append, h6]; simp
  · rw [List.nodup_append]
    refine ⟨h.nd, by simp, fun a ha b hb => ?_⟩
    rw [List.mem_singleton] at hb
    subst hb
    exact fun e => hm (e ▸ ha)
  · intro x hx
    rcases List.mem_append.1 hx with hx | hx
    · exact h.rg x hx
    · rw [List.mem_singleton] at hx; subst hx; omega
  · rw [List.length_append, List.length_append]; have := h.len; simp; omega
end
def RCREnd (B g q : Nat) (R : List Run × List Int × Int) (D : RDk) (N : Nat) (w : World) (e : Ending) (w' : World) : Prop :=
  ∃ v u D', e = .returned (.tuple #[v, u, .int .i64 R.2.2]) ∧ Own w' w.heap.size v R.1 ∧ LO intE 3 w' w.heap.size u R.2.1 ∧ RFAt w' B g q D' ∧ SameR D D' ∧ RLim D' N ∧ Below B w w' ∧ RKept w w'
theorem RCREnd.mk {B g q N : Nat} {R : List Run × List Int × Int} {D D' : RDk} {w w' : World} {v u : Value} {x : Int} (hR : R.2.2 = x) (h1 : Own w' w.heap.size v R.1) (h2 : LO intE 3 w' w.heap.size u R.2.1) (h3 : RFAt w' B g q D') (h4 : SameR D D') (h5 : RLim D' N) (h6 : Below B w w') (h7 : RKept w w') :
    RCREnd B g q R D N w (.returned (.tuple #[v, u, .int .i64 x])) w' := ⟨v, u, D', by rw [hR], h1, h2, h3, h4, h5, h6, h7⟩
theorem RCREnd.bad {B g q N : Nat} {R : List Run × List Int × Int} {D D' : RDk} {w w' : World} {x : Int} (hR : R = ([], [], x)) (h3 : RFAt w' B g q D') (h4 : SameR D D') (h5 : RLim D' N) (h6 : Below B w w') (h7 : RKept w w') :
    RCREnd B g q R D N w (.returned (.tuple #[.slice none 0 0, .slice none 0 0, .int .i64 x])) w' := by
  subst hR
  exact ⟨_, _, D', rfl, Own.nil_ _ _, LO.nil_ _ _, h3, h4, h5, h6, h7⟩
theorem fo_err {n : Nat} {dn : Bool} {id : Int} {o : Option (Nat × Bs)} {b : Bs} {x : Int} (h : frB n dn id 3 o = (b, x)) (h0 : x ≠ 0) : (fo n dn id o).1.2.2 = if x = 40 then 3 else x := by
  unfold fo; rw [h]; rw [foOf_err h0]
theorem fo_bad {n : Nat} {dn : Bool} {id : Int} {o : Option (Nat × Bs)} {b : Bs} (h : frB n dn id 3 o = (b, 0)) (hp : Cp.parse b = none) : (fo n dn id o).1.2.2 = 3 := by
  unfold fo; rw [h]; rw [foOf_ok (o := none) (by rw [Cp.prog_eq, hp])]; rfl
theorem fo_good {n : Nat} {dn : Bool} {id : Int} {o : Option (Nat × Bs)} {b : Bs} {p : Int × List Run} (h : frB n dn id 3 o = (b, 0)) (hp : Cp.parse b = some p) : fo n dn id o = ((id, p.2, 0), p.1) := by
  unfold fo; rw [h]; rw [foOf_ok (o := some p) (by rw [Cp.prog_eq, hp])]; rfl
theorem frB_len {n : Nat} {dn : Bool} {id : Int} {o : Option (Nat × Bs)} {kind : Nat} (ho : ∀ k b, o = some (k, b) → noPage n id = false → dn = false → b.length ≤ 240) : (frB n dn id kind o).1.length ≤ 240 := by
  unfold frB
  cases hn : noPage n id with
  | true => simp
  | false =>
    cases hd : dn with
    | true => simp
    | false =>
      cases o with
      | none => simp
      | some p =>
        obtain ⟨k, b⟩ := p
        simp only [Bool.false_eq_true, if_false]
        split
        · exact ho k b rfl hn hd
        · simp
theorem frB_no {n : Nat} {dn : Bool} {id : Int} {o : Option (Nat × Bs)} {kind : Nat} (h : (frB n dn id kind o).2 = 0) : noPage n id = false := by
  unfold frB at h
  cases hn : noPage n id with
  | true => rw [hn] at h; simp at h
  | false => rfl
theorem parse_len {b : Bs} {p : Int × List Run} (h : Cp.parse b = some p) : p.2.length ≤ 29 := by
  unfold Cp.parse at h
  split at h
  · cases h
  · split at h
    · cases h
    · split at h
      · injection h with h
        subst h
        simp only [Cp.runsOf_length]
        omega
      · cases h
set_option maxRecDepth 100000 in
set_option maxHeartbeats 2000000 in
theorem rcread_any {w : World} {B g q N : Nat} {D : RDk} (h : RFAt w B g q D) (hL : RLim D N) (hN : N + 20000 < 1000000) (hB : B ≤ w.heap.size) (c : Int → Option (Nat × Bs))
    (hpg : ∀ id, noPage D.sure.length id = false → D.down = false → RPageIs D id (c id)) (head : Int) :
    Calls Tryz.prog 17 #[.pointer (some ⟨g, 0, none⟩), .int .i64 head] w (RCREnd B g q (crRes (chL D.sure.length D.down c (D.sure.length + 1) [] head)) D (N + D.sure.length + 1) w) := by
  have hn16 := hL.n
  obtain ⟨n, hn⟩ : ∃ n, n = D.sure.length := ⟨_, rfl⟩
  obtain ⟨dn, hdn⟩ : ∃ dn, dn = D.down := ⟨_, rfl⟩
  rw [← hn, ← hdn] at hpg ⊢
  rw [← hn] at hn16
  have hst := RR.start (n := n) (dn := dn) (c := c) head
  generalize chL n dn c (n + 1) [] head = T0 at *
  obtain ⟨R, hR⟩ : ∃ R, R = crRes T0 := ⟨_, rfl⟩
  rw [← hR]
  have HR := Lib.hid hR
  have HN := Lib.hid hn
  have HDN := Lib.hid hdn
  have HPG := Lib.hid hpg
  have HST := Lib.hid hst
  clear hR hn hdn hpg hst
  obtain ⟨i1, ei1, ei2, ei3, ei4⟩ := eiRun
  go_enter Tryz.func17, Tryz.ntmps17
  go_wp2
  go_loopw [7, 8, 9] (fun v u a wr => ∃ (L : List Run) (ids : List Int) (at_ : Int) (Dj : RDk), a = .int .i64 at_ ∧ Own wr w.heap.size v L ∧ LO intE 3 wr w.heap.size u ids ∧ RFAt wr B g q Dj ∧ SameR D Dj ∧ RLim Dj (N + ids.length) ∧ Hid (RR n dn c T0 ids L at_) ∧ Below B w wr ∧ RKept w wr) (fun _ u _ _ => n + 1 - match u with | .slice _ m _ => m | _ => 0)
  case atStart => exact ⟨[], [], head, D, rfl, Own.nil_ _ _, LO.nil_ _ _, h, SameR.refl D, hL, HST, Below.refl _ _, RKept.refl _⟩
  case round =>
    obtain ⟨L, ids, at_, Dj, rfl, hO, hI, hF, hS, hLm, hRR, hBr, hK⟩ := hrel
    obtain ⟨A7, c7, rfl⟩ := hO.form
    obtain ⟨A8, c8, rfl⟩ := hI.form
    have hle := hRR.out.le
    have hLl := hRR.out.len
    have hsz := hBr.size
    have hBs := Nat.le_trans hB hsz
    by_cases h0 : at_ = 0
    · subst h0
      have hres := hRR.out.zero
      rw [← HR.out] at hres
      have hnm := norm_any A7 c7 L wr hO.rs (by omega)
      have HRES := Lib.hid hres
      have HNM := Lib.hid hnm
      clear hres hnm
      go_wp2_with fail
      refine Calls.mono HNM.out ?_
      rintro e w9 ⟨v9, rfl, ho9, hb9⟩
      obtain ⟨A9, c9, rfl⟩ := ho9.form
      go_wp2
      go_ret3
      exact RCREnd.mk (by rw [HRES.out]) (by rw [HRES.out]; exact own_lower ho9 hsz) (by rw [HRES.out]; exact hI.below hb9) (hF.keep hb9) hS (hLm.mono (by omega)) (hBr.trans (hb9.mono hBs)) (hK.trans (RKept.below hb9))
    · have hq : (at_ != 0) = true := by simpa using h0
      have hls := hI.ls
      have HLS := Lib.hid hls
      clear hls
      obtain ⟨wo, rfl⟩ : ∃ wo : World, wo = wr := ⟨_, rfl⟩
      go_wp2
      go_loop [10] (fun k => ∃ m : Nat, m ≤ ids.length ∧ k = .int .i64 m ∧ Hid (∀ p (_ : p < m) (hp : p < ids.length), ids[p] ≠ at_)) (fun k => ids.length - (intOf k).toNat)
      case atStart => exact ⟨0, by omega, rfl, Lib.hid (fun p hp => absurd hp (by omega))⟩
      case round =>
        obtain ⟨m, hm, rfl, hne⟩ := hrel
        by_cases hlm : m < ids.length
        · obtain ⟨b2, o2, rfl, hb2, g0⟩ := HLS.out.int hlm
          obtain ⟨y, hy⟩ : ∃ y, y = ids[m] := ⟨_, rfl⟩
          rw [← hy] at g0
          have HY := Lib.hid hy
          clear hy
          by_cases e : y = at_
          · subst e
            have hres := hRR.out.met h0 (by rw [HY.out]; exact List.getElem_mem hlm)
            rw [← HR.out] at hres
            have HRES := Lib.hid hres
            clear hres
            go_wp2
            go_ret3
            exact RCREnd.bad HRES.out hF hS (hLm.mono (by omega)) hBr hK
          · have hqe : (y == at_) = false := by simpa using e
            have hnx : Hid (∀ p (_ : p < m + 1) (hp : p < ids.length), ids[p] ≠ at_) := Lib.hid (fun p hp hq => by
              by_cases hpm : p < m
              · exact hne.out p hpm hq
              · obtain rfl : p = m := by omega
                rw [← HY.out]; exact e)
            clear e hne HY
            go_wp2
            exact ⟨⟨m + 1, by omega, by go_num, hnx⟩, by simp [intOf]; omega⟩
        · obtain rfl : m = ids.length := by omega
          have hnm : at_ ∉ ids := fun hin => by
            obtain ⟨p, hp, e⟩ := List.getElem_of_mem hin
            exact hne.out p (by omega) hp e
          have HNMEM := Lib.hid hnm
          have H0 := Lib.hid h0
          have hfr := rfread_any hF (hLm.fine (by omega)) hBs at_ 3 (c at_) (fun h1 h2 => hS.page (HPG.out at_ (by rw [HN.out, ← hS.sure]; exact h1) (by rw [HDN.out, ← hS.down]; exact h2)))
          rw [show Dj.sure.length = n by rw [hS.sure, ← HN.out], show Dj.down = dn by rw [hS.down, ← HDN.out]] at hfr
          have hbl := frB_len (n := n) (dn := dn) (id := at_) (o := c at_) (kind := 3) (fun k b ho hno hd => by
            have := HPG.out at_ hno hd
            rw [ho] at this
            rcases this with ⟨_, h⟩ | ⟨k2, b2, _, hb, _, h⟩
            · cases h
            · injection h with h
              injection h with _ h
              rw [h]; exact hb)
          obtain ⟨b, x, hbx⟩ : ∃ b x, frB n dn at_ 3 (c at_) = (b, x) := ⟨_, _, rfl⟩
          unfold RFREnd str at hfr
          rw [hbx] at hfr hbl
          simp only at hfr hbl
          have HBX := Lib.hid hbx
          have hS1 := hS.readD at_
          have hL1 := hLm.readD at_
          generalize Dj.readD at_ = D1 at *
          clear hnm h0 hne hbx hlm
          go_wp2_with fail
          refine Calls.mono hfr ?_
          clear hfr
          rintro e w1 ⟨rfl, hF1, hb1, hk1⟩
          have hB1 := hBr.trans hb1
          have hK1 := hK.trans hk1
          by_cases hx0 : x = 0
          · subst hx0
            have hno := frB_no (by rw [HBX.out] : (frB n dn at_ 3 (c at_)).2 = 0)
            have HNO := Lib.hid hno
            have hpa := rparse_any b w1 (by omega)
            unfold RParseEnd at hpa
            obtain ⟨o, ho⟩ : ∃ o, o = Cp.parse b := ⟨_, rfl⟩
            rw [← ho] at hpa
            have HOO := Lib.hid ho
            have HPA := Lib.hid hpa
            clear hno hpa ho
            go_wp2_with fail
            refine Calls.mono HPA.out ?_
            rintro e w2 ⟨nx, v2, l2, ok, rfl, ho2, hb2, hor⟩
            have hB2 := hB1.trans (hb2.mono (Nat.le_trans hBs hb1.size))
            have hK2 := hK1.trans (RKept.below hb2)
            have hF2 := hF1.keep hb2
            have hI2 := (hI.rkept hk1 (by decide) (by decide)).below hb2
            have hO2 := (Own.rkept hO hk1).below hb2
            obtain ⟨A2, c2, rfl⟩ := ho2.form
            have hr2 := ho2.rs
            have HOR := Lib.hid hor
            clear hor hI hO hF hF1 hBr hK hb1 hk1 hB1 hK1 HPA HLS
            cases ok with
            | false =>
              have hres := hRR.out.err H0.out HNMEM.out (x := 3) (fo_bad HBX.out (by
                rcases HOR.out with ⟨h1, _⟩ | ⟨_, h2⟩
                · rw [← HOO.out, h1]
                · cases h2)) (by decide)
              rw [← HR.out] at hres
              have HRES := Lib.hid hres
              clear hres
              go_wp2
              go_ret3
              exact RCREnd.bad HRES.out hF2 hS1 (hL1.mono (by omega)) hB2 hK2
            | true =>
              have hp : Cp.parse b = some (nx, l2) := by
                rcases HOR.out with ⟨_, _, _, h2⟩ | ⟨h1, _⟩
                · cases h2
                · rw [← HOO.out, h1]
              have hl29 := parse_len hp
              simp only at hl29
              have hnext := Lib.hid (hRR.out.step H0.out HNMEM.out HNO.out (fo_good HBX.out hp) hl29)
              have hle2 := hnext.out.le
              rw [List.length_append] at hle2
              simp only [List.length_cons, List.length_nil] at hle2
              clear hp
              have hsz2 := hB2.size
              have h63 : L.length + l2.length ≤ maxLen := by unfold maxLen; omega
              have h47 : (L.length + l2.length) * 16 ≤ 140737488355328 := by omega
              go_upto_region 19 with (at_builtin; refine wpList_append_any _ rfl (.tmp 50) (.tmp 51) 22 rfl w.heap.size 62 i1 _ 2 16 Tryz.underlying22 ei1 ei2 ei3 ei4 (by decide) (by decide) (.slice A7 L.length c7) L.length _ rfl hO2 w2.heap.size A2 l2.length c2 _ rfl hr2 (runE.cells_all l2) h63 h47 hsz2 ?_; intro v3 w3 hown3 hgr _)
              have hO3 : Own w3 w.heap.size v3 (L ++ l2) := by
                unfold Own
                rw [cellsR_append, List.length_append]
                exact hown3
              have hI3 := LO.row hI2 hO2 (by decide) hgr
              have hF3 := hF2.row hO2 (by decide) (by decide) (by decide) (by decide) hgr
              have hB3 := Below.far hB2 hgr hO2 hB (Nat.le_trans hB hsz2)
              have hK3 := hK2.far hgr hO2 (Nat.le_refl _)
              have hraw := hI3.raw rfl (s := 1) rfl
              have hsz3 := hB3.size
              obtain ⟨A3, c3, rfl⟩ := hO3.form
              clear hown3 hgr hI2 hO2 hF2 hB2 hK2 hsz2 ho2 hb2
              go_wp2_with (at_builtin; refine wpList_app1 rfl (.tmp 53) (.tmp 55) 28 rfl eiInt Tryz.underlying28 rfl (by decide) rfl hraw rfl (by simp) rfl (by simp [Value.oneCell']) (by unfold maxLen; omega) (by omega) hsz3 ?_; intro v' w6 hown' hgrow hbel _ _; obtain ⟨A9, c9, rfl⟩ := own_form hown')
              have HO6 : Own w6 w.heap.size (.slice A3 (L ++ l2).length c3) (L ++ l2) := LO.row (E := runE) (show LO runE 62 _ _ _ (L ++ l2) from hO3) hraw (by decide) hgrow
              rw [List.length_append] at HO6
              go_roundw
              case rel => exact ⟨L ++ l2, ids ++ [at_], nx, D1, rfl, HO6, LO.snoc (E := intE) rfl rfl rfl hown', hF3.row hraw (by decide) (by decide) (by decide) (by decide) hgrow, hS1, hL1.mono (by rw [List.length_append, List.length_singleton]; omega), hnext, Below.far hB3 hgrow hraw hB (Nat.le_trans hB hsz3), hK3.far hgrow hraw (Nat.le_refl _)⟩
              case measure => simp; omega
          · have hqx : (x != 0) = true := by simpa using hx0
            have hres := hRR.out.err H0.out HNMEM.out (fo_err HBX.out hx0) (by split; decide; exact hx0)
            rw [← HR.out] at hres
            by_cases h40 : x = 40
            · rw [if_pos h40] at hres
              have hq40 : (x == 40) = true := by simpa using h40
              have HRES := Lib.hid hres
              clear hres h40 hx0
              go_wp2
              go_ret3
              exact RCREnd.bad HRES.out hF1 hS1 (hL1.mono (by omega)) hB1 hK1
            · rw [if_neg h40] at hres
              have hq40 : (x == 40) = false := by simpa using h40
              have HRES := Lib.hid hres
              clear hres h40 hx0
              go_wp2
              go_ret3
              exact RCREnd.bad HRES.out hF1 hS1 (hL1.mono (by omega)) hB1 hK1
end Go.Proofs.YtlgbcogdogpihaaGreatDoor
