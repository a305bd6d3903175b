/- A disk within bounds on how much was asked of it. chain.Write: what it does as data; chain.file. Cuts of a slice of runs. chain.Write where a page is named twice, or too few are: nothing is written. The walk of chain.Write where it writes. -/
import Derived.Test.YtlgbcogdogpihaaGreatDoorQGj
import Derived.Test.YtlgbcogdogpihaaGreatDoorQGk
import Derived.Test.YtlgbcogdogpihaaGreatDoorQDupP
import Derived.Test.YtlgbcogdogpihaaGreatDoorQGd
import Derived.Test.YtlgbcogdogpihaaGreatDoorQGb
import Derived.Test.YtlgbcogdogpihaaGreatDoorQSort
import Derived.Test.YtlgbcogdogpihaaGreatDoorQGe
namespace Go.Proofs.YtlgbcogdogpihaaGreatDoor
open Go.RowKit Go.Shelf
/-- a disk at which no more than N reads and writes were asked -/
structure Lim (D : Dk) (N : Nat) : Prop where
  n : D.sure.length ≤ 16384
  writes : 0 ≤ D.writes ∧ D.writes ≤ N
  reads : 0 ≤ D.reads ∧ D.reads ≤ N
  left : -1 ≤ D.left ∧ D.left ≤ 9223372036854775807
  pend : D.pend.length ≤ N
theorem Lim.fine {D : Dk} {N : Nat} (h : Lim D N) (hN : N < 1000000) : Fine D :=
  ⟨h.n, ⟨h.writes.1, by have := h.writes.2; omega⟩, ⟨h.reads.1, by have := h.reads.2; omega⟩, h.left, by have := h.pend; omega⟩
theorem Lim.mono {D : Dk} {N M : Nat} (h : Lim D N) (hM : N ≤ M) : Lim D M :=
  ⟨h.n, ⟨h.writes.1, by have := h.writes.2; omega⟩, ⟨h.reads.1, by have := h.reads.2; omega⟩, h.left, by have := h.pend; omega⟩
theorem Lim.wrote {D : Dk} {N : Nat} (h : Lim D N) (i : Int) (t : Bs) : Lim (D.wrote i t) (N + 1) := by
  have h1 := h.writes
  have h2 := h.reads
  have h3 := h.left
  have h4 := h.pend
  have hp : (D.pend ++ [(i, t)]).length ≤ N + 1 := by rw [List.length_append]; simp; omega
  unfold Dk.wrote Dk.put
  split
  · exact ⟨h.n, ⟨by show 0 ≤ D.writes + 1; omega, by show D.writes + 1 ≤ _; omega⟩, ⟨h2.1, by show D.reads ≤ _; omega⟩, ⟨by show (-1 : Int) ≤ -1; omega, by show (-1 : Int) ≤ _; omega⟩, hp⟩
  · split
    · exact ⟨h.n, ⟨by show 0 ≤ D.writes + 1; omega, by show D.writes + 1 ≤ _; omega⟩, ⟨h2.1, by show D.reads ≤ _; omega⟩, ⟨by show -1 ≤ D.left - 1; omega, by show D.left - 1 ≤ _; omega⟩, hp⟩
    · exact ⟨h.n, ⟨by show 0 ≤ D.writes + 1; omega, by show D.writes + 1 ≤ _; omega⟩, ⟨h2.1, by show D.reads ≤ _; omega⟩, h3, hp⟩
theorem Lim.fput {D : Dk} {N : Nat} (h : Lim D N) (i : Int) (kind : Nat) (b : Bs) : Lim (D.fput i kind b) (N + 1) := by
  unfold Dk.fput
  split
  · exact h.mono (by omega)
  · split
    · exact h.mono (by omega)
    · split
      · exact h.mono (by omega)
      · exact h.wrote _ _
theorem Lim.readD {D : Dk} {N : Nat} (h : Lim D N) (i : Int) : Lim (D.readD i) (N + 1) := by
  have h2 := h.reads
  unfold Dk.readD
  split
  · exact h.mono (by omega)
  · split
    · exact h.mono (by omega)
    · exact ⟨h.n, ⟨h.writes.1, by have := h.writes.2; show D.writes ≤ _; omega⟩, ⟨by show 0 ≤ D.reads + 1; omega, by show D.reads + 1 ≤ _; omega⟩, h.left, by have := h.pend; show D.pend.length ≤ _; omega⟩
end Go.Proofs.YtlgbcogdogpihaaGreatDoor
namespace Go.Proofs.YtlgbcogdogpihaaGreatDoor
open Go.RowKit Go.Shelf
theorem cfile_any (f : Nat) (w : World) : Calls Tryz.prog 43 #[.pointer (some ⟨f, 0, none⟩)] w fun e w' => e = .returned (.pointer (some ⟨f, 0, none⟩)) ∧ w' = w := by
  go_enter Tryz.func43, Tryz.ntmps43
  go_wp2
  go_ret
  exact ⟨rfl, rfl⟩
/-- what chain.Write does, page by page -/
def cwRun : Dk → List Run → List Int → Int × Dk
  | D, _, [] => (0, D)
  | D, s, id :: r => match Cp.body (r.headD 0) (s.take 29) with
    | none => (40, D)
    | some b => if D.fputE id b = 0 then cwRun (D.fput id 3 b) (s.drop 29) r else (D.fputE id b, D.fput id 3 b)
/-- what it tells -/
def cwTell (ids : List Int) (x : Int) : Int × Int := if x = 0 then (ids.headD 0, 0) else (0, x)
end Go.Proofs.YtlgbcogdogpihaaGreatDoor
namespace Go.Proofs.YtlgbcogdogpihaaGreatDoor
open Go.RowKit Go.Shelf
theorem size_run (W : World) : (sizeOf (Tryz.prog.elem 22)).run Tryz.prog W = .ok 2 W := by kernel_rfl
theorem und_run : Tryz.prog.underlying 22 = some (.slice (Tryz.prog.elem 22)) := by kernel_rfl
theorem rcut_from (A : Option Addr) (n c i : Nat) (x : Int) (hx : x = i) (hi : i ≤ n) (W : World) : (Instr.slice 22 (.slice A n c) (some (.int .i64 x)) none none).run Tryz.prog W = .ok (.slice (if c = i then A else A.map (·.add (i * 2))) (n - i) (c - i)) W := by
  subst hx
  rw [run_slice_l W 22 A n c und_run .i64 (i : Int) (by omega) (by omega), size_run]
  simp only [Result.andThen_ok, sliced, Int.toNat_natCast]
theorem rcut_high (A : Option Addr) (n c i : Nat) (x : Int) (hx : x = i) (hi : i ≤ c) (W : World) : (Instr.slice 22 (.slice A n c) none (some (.int .i64 x)) none).run Tryz.prog W = .ok (.slice A i c) W := by
  subst hx
  rw [run_slice_h W 22 A n c und_run .i64 (i : Int) (by omega) (by omega), size_run]
  simp only [Result.andThen_ok, sliced, Int.toNat_natCast, Nat.zero_mul, Nat.sub_zero]
  have e : (if c = 0 then A else A.map (·.add 0)) = A := by
    split
    · rfl
    · cases A <;> rfl
  rw [e]
def runE : Enc Run := ⟨fun x => [.int .i64 x.1, .int .i64 x.2], 2, fun _ => rfl, by decide, fun x u hu => by simp at hu; rcases hu with rfl | rfl <;> rfl⟩
theorem RS.ls {w : World} {B : Nat} {A : Option Addr} {l : List Run} (h : RS w B A l) : LS runE w B A l := h
theorem RS.cut {w : World} {B : Nat} {A : Option Addr} {l : List Run} (h : RS w B A l) {k cap : Nat} (hk : k ≤ l.length) (hc : l.length ≤ cap) : RS w B (if cap = k then A else A.map (·.add (k * 2))) (l.drop k) := h.ls.cut hk hc
theorem RS.take_ {w : World} {B : Nat} {A : Option Addr} {l : List Run} (h : RS w B A l) (k : Nat) : RS w B A (l.take k) := LS.take_ h.ls k
end Go.Proofs.YtlgbcogdogpihaaGreatDoor
namespace Go.Proofs.YtlgbcogdogpihaaGreatDoor
open Go.RowKit Go.Shelf
set_option maxRecDepth 100000 in
set_option maxHeartbeats 1000000 in
theorem cwrite_bad (fp : Value) (A1 A2 : Option Addr) (c1 c2 : Nat) (l : List Run) (ids : List Int) (hl : l.length ≤ 100000) (hi : ids.length ≤ 100000) (w : World) (h1 : RS w w.heap.size A1 l) (h2 : LS intE w w.heap.size A2 ids) (hbad : ¬ ids.Nodup ∨ (ids.length : Int) < pg l) :
    Calls Tryz.prog 10 #[fp, .slice A1 l.length c1, .slice A2 ids.length c2] w fun e w' => e = .returned (.tuple #[.int .i64 0, .int .i64 1]) ∧ Below w.heap.size w w' := by
  have hv := fun W => values_any A2 ids.length c2 W
  have hs := fun Bn W hr hb => sorted_any A2 c2 Bn ids hi W hr hb
  have hsl := sortI_len ids
  have hc := fun base v W (ho : LO intE 3 W base v (sortI ids)) => compact_any ho (by rw [hsl]; exact hi)
  have hsh := Dp.sorted_short ids
  have hcl : (Lib.compact (sortI ids)).length < ids.length ↔ ¬ ids.Nodup := hsh
  have hp := fun W hr => pages_any sort_said A1 c1 l W hr (by omega)
  unfold PagesEnd at hp
  generalize Lib.compact (sortI ids) = cm at *
  generalize sortI ids = sd at *
  generalize pg l = P at *
  have HV := Lib.hid hv
  have HS := Lib.hid hs
  have HC := Lib.hid hc
  have HP := Lib.hid hp
  clear hv hs hc hp hsh
  by_cases hnd : ids.Nodup
  · have hq0 : ¬ cm.length < ids.length := fun h => hcl.1 h hnd
    have hq : decide (cm.length < ids.length) = false := by simpa using hq0
    have hq2 : decide ((ids.length : Int) < P) = true := by
      rcases hbad with h | h
      · exact absurd hnd h
      · simpa using h
    clear hbad hcl hnd hsl
    go_enter Tryz.func10, Tryz.ntmps10
    go_wp2_with fail
    refine Calls.mono (HV.out _) ?_
    rintro e w1 ⟨rfl, rfl⟩
    go_wp2_with fail
    have hb0 : Below w.heap.size w (w.alloc (.cells #[.slice A2 ids.length c2] 28)) := (Below.refl _ w).alloc (Nat.le_refl _) _
    refine Calls.mono (HS.out _ _ (h2.up hb0) (Blk.new w _ _)) ?_
    rintro e w2 ⟨v, rfl, ho, hb2⟩
    have hbw2 := hb0.trans (hb2.mono hb0.size)
    go_wp2_with fail
    refine Calls.mono (HC.out _ _ _ ho) ?_
    rintro e w3 ⟨⟨A3, c3, rfl⟩, hb3⟩
    have hbw3 := hbw2.trans (hb3.mono hb0.size)
    go_wp2_with fail
    refine Calls.mono (HP.out _ ((h1.below hbw3).more hbw3.size)) ?_
    rintro e w4 ⟨rfl, hb4⟩
    have hbw4 := hbw3.trans (hb4.mono hbw3.size)
    go_wp2
    go_ret2
    exact ⟨rfl, hbw4⟩
  · have hq0 : cm.length < ids.length := hcl.2 hnd
    have hq : decide (cm.length < ids.length) = true := by simpa using hq0
    clear hbad hcl hnd hsl
    go_enter Tryz.func10, Tryz.ntmps10
    go_wp2_with fail
    refine Calls.mono (HV.out _) ?_
    rintro e w1 ⟨rfl, rfl⟩
    go_wp2_with fail
    have hb0 : Below w.heap.size w (w.alloc (.cells #[.slice A2 ids.length c2] 28)) := (Below.refl _ w).alloc (Nat.le_refl _) _
    refine Calls.mono (HS.out _ _ (h2.up hb0) (Blk.new w _ _)) ?_
    rintro e w2 ⟨v, rfl, ho, hb2⟩
    have hbw2 := hb0.trans (hb2.mono hb0.size)
    go_wp2_with fail
    refine Calls.mono (HC.out _ _ _ ho) ?_
    rintro e w3 ⟨⟨A3, c3, rfl⟩, hb3⟩
    have hbw3 := hbw2.trans (hb3.mono hb0.size)
    go_wp2
    go_ret2
    exact ⟨rfl, hbw3⟩
end Go.Proofs.YtlgbcogdogpihaaGreatDoor
namespace Go.Proofs.YtlgbcogdogpihaaGreatDoor
open Go.RowKit Go.Shelf
theorem LS.keptI {w w' : World} {base : Nat} {v : Value} {l : List Run} (h : Own w base v l) (hk : Kept w w') : Own w' base v l := by
  rcases h with ⟨h3, h4 | ⟨g, cap, cur, hv, hb, hh, r⟩⟩
  · exact ⟨h3, .inl h4⟩
  · exact ⟨h3, .inr ⟨g, cap, cur, hv, hb, hk g _ _ hh (by decide) (by decide), r⟩⟩
def CWEnd (B f d k : Nat) (x : Int × Int) (D' : Dk) (w : World) (e : Ending) (w' : World) : Prop := e = .returned (.tuple #[.int .i64 x.1, .int .i64 x.2]) ∧ FAt w' B f d k D' ∧ Below B w w' ∧ Kept w w'
theorem cwRun_at (D : Dk) (s : List Run) (ids : List Int) (j : Nat) (hj : j < ids.length) : cwRun D s (ids.drop j) = match Cp.body ((ids.drop (j + 1)).headD 0) (s.take 29) with
    | none => (40, D)
    | some b => if D.fputE ids[j] b = 0 then cwRun (D.fput ids[j] 3 b) (s.drop 29) (ids.drop (j + 1)) else (D.fputE ids[j] b, D.fput ids[j] 3 b) := by
  rw [List.drop_eq_getElem_cons hj]; rfl
set_option maxRecDepth 100000 in
set_option maxHeartbeats 2000000 in
theorem cwrite_ok {B f d k N : Nat} {D : Dk} (A1 A2 : Option Addr) (c1 c2 : Nat) (l : List Run) (ids : List Int) (hl : l.length ≤ 1000) (hi : ids.length ≤ 1000) (w : World) (h : FAt w B f d k D) (hL : Lim D N) (hN : N + 1000 < 1000000) (hk : k + 1000 < maxLen) (hT : HT w) (hB0 : 0 < B) (hB : B ≤ w.heap.size)
    (h1 : RS w w.heap.size A1 l) (h2 : ∀ W, Below B w W → Kept w W → LS intE W W.heap.size A2 ids) (hnd : ids.Nodup) (hln : pg l ≤ (ids.length : Int)) :
    Calls Tryz.prog 10 #[.pointer (some ⟨f, 0, none⟩), .slice A1 l.length c1, .slice A2 ids.length c2] w (CWEnd B f d (k + ids.length) (cwTell ids (cwRun D (Rp.norm l) ids).1) (cwRun D (Rp.norm l) ids).2 w) := by
  have hv := fun W => values_any A2 ids.length c2 W
  have hs := fun Bn W hr hb => sorted_any A2 c2 Bn ids (by omega) W hr hb
  have hsl := sortI_len ids
  have hc := fun base v W (ho : LO intE 3 W base v (sortI ids)) => compact_any ho (by rw [hsl]; omega)
  have hcl : (Lib.compact (sortI ids)).length < ids.length ↔ ¬ ids.Nodup := Dp.sorted_short ids
  have hp := fun W hr => pages_any sort_said A1 c1 l W hr (by omega)
  have hnm := fun W hr => norm_end A1 c1 l W hr (by omega)
  have hnl := norm_len l
  unfold PagesEnd at hp
  generalize Lib.compact (sortI ids) = cm at *
  generalize sortI ids = sd at *
  generalize Rp.norm l = s0 at *
  generalize hX : cwRun D s0 ids = X
  obtain ⟨xe, D'⟩ := X
  have HX := Lib.hid hX
  clear hX
  show Calls _ _ _ _ (CWEnd B f d (k + ids.length) (cwTell ids xe) D' w)
  have hq0 : ¬ cm.length < ids.length := fun h => hcl.1 h hnd
  have hq : decide (cm.length < ids.length) = false := by simpa using hq0
  generalize pg l = P at *
  have hq2 : decide ((ids.length : Int) < P) = false := by simp; omega
  have HV := Lib.hid hv
  have HS := Lib.hid hs
  have HC := Lib.hid hc
  have HP := Lib.hid hp
  have HNm := Lib.hid hnm
  clear hv hs hc hp hcl hnd hsl hnm hq0 hln
  go_enter Tryz.func10, Tryz.ntmps10
  go_wp2_with fail
  refine Calls.mono (HV.out _) ?_
  rintro e w1 ⟨rfl, rfl⟩
  go_wp2_with fail
  have hb0 : Below w.heap.size w (w.alloc (.cells #[.slice A2 ids.length c2] 28)) := (Below.refl _ w).alloc (Nat.le_refl _) _
  refine Calls.mono (HS.out _ _ (h2 _ (hb0.mono hB) (Kept.below hb0)) (Blk.new w _ _)) ?_
  rintro e w2 ⟨v, rfl, ho, hb2⟩
  have hbw2 := hb0.trans (hb2.mono hb0.size)
  go_wp2_with fail
  refine Calls.mono (HC.out _ _ _ ho) ?_
  rintro e w3 ⟨⟨A3, c3, rfl⟩, hb3⟩
  have hbw3 := hbw2.trans (hb3.mono hb0.size)
  go_wp2_with fail
  refine Calls.mono (HP.out _ ((h1.below hbw3).more hbw3.size)) ?_
  rintro e w4 ⟨rfl, hb4⟩
  have hbw4 := hbw3.trans (hb4.mono hbw3.size)
  go_wp2_with fail
  refine Calls.mono (cfile_any f _) ?_
  rintro e w5 ⟨rfl, rfl⟩
  go_wp2_with fail
  refine Calls.mono (HNm.out _ ((h1.below hbw4).more hbw4.size)) ?_
  intro e w6 h6
  obtain ⟨A6, c6, rfl, ho6, hr6, hb6⟩ := h6.open_
  have hbw6 := hbw4.trans (hb6.mono hbw4.size)
  have ho6' : Own w6 w.heap.size (.slice A6 s0.length c6) s0 := own_lower ho6 hbw4.size
  have hc6 : s0.length ≤ c6 := by
    rcases ho6.2 with ⟨e, h0⟩ | ⟨g, cap, cur, e, _, _, hn, _⟩
    · omega
    · injection e with _ _ e3; omega
  go_wp2_with fail
  go_loopw [9, 38] (fun v i wr => ∃ (j : Nat) (Dj : Dk) (sj : List Run) (A : Option Addr) (c : Nat), j ≤ ids.length ∧ i = .int .i64 j ∧ v = .slice A sj.length c ∧ sj.length ≤ c ∧ sj.length ≤ 1000 ∧ (∀ W, RS W W.heap.size A6 s0 → RS W W.heap.size A sj) ∧ Own wr w.heap.size (.slice A6 s0.length c6) s0 ∧ FAt wr B f d (k + j) Dj ∧ Lim Dj (N + j) ∧ Hid ((xe, D') = cwRun Dj sj (ids.drop j)) ∧ Below B w wr ∧ Kept w wr) (fun _ i _ => ids.length - (intOf i).toNat)
  case atStart => exact ⟨0, D, s0, A6, c6, by omega, rfl, rfl, hc6, by omega, fun _ h => h, ho6', h.keep hbw6, hL, Lib.hid HX.out.symm, hbw6.mono hB, Kept.below hbw6⟩
  case round =>
    obtain ⟨j, Dj, sj, A, c, hj, rfl, rfl, hc, hs9, hRS, hO, hF, hLm, hrun, hBr, hK⟩ := hrel
    have hBs := Nat.le_trans hB hBr.size
    have hrs : RS wr wr.heap.size A sj := hRS wr (Own.rs (show Own _ _ _ s0 from hO))
    have hls := h2 wr hBr hK
    by_cases hlt : j < ids.length
    · have hst0 := cwRun_at Dj sj ids j hlt
      rw [← hrun.out] at hst0
      have htl : (sj.take 29).length ≤ sj.length := by rw [List.length_take]; omega
      have hmi : min (29 : Int) (sj.length : Int) = ((sj.take 29).length : Int) := by rw [List.length_take]; omega
      have ht29 : (sj.take 29).length ≤ 29 := by rw [List.length_take]; omega
      have htd0 : sj.drop 29 = sj.drop (sj.take 29).length := by
        rw [List.length_take]
        by_cases h29 : 29 ≤ sj.length
        · rw [Nat.min_eq_left h29]
        · rw [Nat.min_eq_right (by omega), List.drop_of_length_le (Nat.le_refl _), List.drop_of_length_le (by omega)]
      have hrt := hrs.take_ 29
      generalize sj.take 29 = t at *
      have Htd := Lib.hid htd0
      clear htd0
      have hcut1 := fun W => rcut_high A sj.length c t.length (t.length : Int) rfl (by omega) W
      have hcut2 := fun W => rcut_from A sj.length c t.length (t.length : Int) rfl htl W
      have hbd := fun (x : Int) W (hh : Below wr.heap.size wr W) => body_any x A c t W ((hrt.below hh).more hh.size) (by omega)
      obtain ⟨b2, o2, rfl, hb2, g0⟩ := hls.int hlt
      have hg1 : ∀ h1 : j + 1 < ids.length, wr.cell? ⟨b2, o2 + (j + 1), none⟩ = some (.int .i64 ids[j + 1]) := by
        intro h1
        obtain ⟨b3, o3, e3, _, g3⟩ := hls.int h1
        injection e3 with e3
        injection e3 with e3 e4
        subst e3 e4
        exact g3
      have hhd1 : ∀ h1 : j + 1 < ids.length, (ids.drop (j + 1)).headD 0 = ids[j + 1] := fun h1 => by rw [List.drop_eq_getElem_cons h1]; rfl
      have hhd0 : ¬ j + 1 < ids.length → (ids.drop (j + 1)).headD 0 = 0 := fun h1 => by rw [List.drop_of_length_le (by omega)]; rfl
      by_cases h1 : j + 1 < ids.length
      · have g1 := hg1 h1
        rw [hhd1 h1] at hst0
        have hst := Lib.hid hst0
        have HBD := Lib.hid hbd
        clear hst0 hbd hg1 hhd1 hhd0
        generalize ids[j] = y at *
        generalize ids[j + 1] = x at *
        go_wp2_with fail
        refine Calls.mono (HBD.out x _ (Below.refl _ _)) ?_
        rintro e w7 ⟨rfl, hb7⟩
        cases hbo : Cp.body x t with
        | none =>
          have hxs := hst.out
          rw [hbo] at hxs
          have hxe : xe = 40 := congrArg Prod.fst hxs
          have hxd : D' = Dj := congrArg Prod.snd hxs
          clear hxs hbo
          subst hxe hxd
          simp only [bodyV]
          go_wp2
          go_ret2
          exact ⟨rfl, (hF.keep hb7).mono (by omega), hBr.trans (hb7.mono hBs), hK.trans (Kept.below hb7)⟩
        | some b =>
          have hxs := hst.out
          rw [hbo] at hxs
          have HXS := Lib.hid hxs
          clear hxs hbo
          simp only [bodyV]
          have hF7 := hF.keep hb7
          have hB7 := hBr.trans (hb7.mono hBs)
          have hK7 := hK.trans (Kept.below hb7)
          go_wp2_with fail
          refine Calls.mono (fwrite_any hF7 (hLm.fine (by omega)) (by omega) (hT.below hB7 hB0) (Nat.le_trans hB hB7.size) y 3 (by decide) b) ?_
          have hLp := hLm.fput y 3 b
          generalize Dj.fputE y b = er at *
          generalize Dj.fput y 3 b = Dp at *
          rintro e w8 ⟨rfl, hF8, hb8, hk8⟩
          have hB8 := hB7.trans hb8
          have hK8 := hK7.trans hk8
          by_cases her : er = 0
          · have hxs := HXS.out
            rw [if_pos her] at hxs
            have HXN := Lib.hid hxs
            clear hxs HXS
            subst her
            go_wp2
            go_roundw
            case rel => exact ⟨j + 1, Dp, sj.drop t.length, _, _, by omega, by go_num, by rw [List.length_drop], by rw [List.length_drop]; omega, by rw [List.length_drop]; omega, fun W hW => (hRS W hW).cut htl hc, LS.keptI (LS.keptI hO (Kept.below hb7)) hk8, hF8, hLp, Lib.hid (by rw [HXN.out, Htd.out]), hB8, hK8⟩
            case measure => simp [intOf]; omega
          · have hxs := HXS.out
            rw [if_neg her] at hxs
            have hxe : xe = er := congrArg Prod.fst hxs
            have hxd : D' = Dp := congrArg Prod.snd hxs
            clear hxs HXS
            subst hxe hxd
            have hqe : (xe != 0) = true := by simpa using her
            go_wp2
            go_ret2
            exact ⟨by unfold cwTell; rw [if_neg her]; rfl, hF8.mono (by omega), hB8, hK8⟩
      · rw [hhd0 h1] at hst0
        have hst := Lib.hid hst0
        have HBD := Lib.hid hbd
        clear hst0 hbd hg1 hhd1 hhd0
        generalize ids[j] = y at *
        go_wp2_with fail
        refine Calls.mono (HBD.out 0 _ (Below.refl _ _)) ?_
        rintro e w7 ⟨rfl, hb7⟩
        cases hbo : Cp.body 0 t with
        | none =>
          have hxs := hst.out
          rw [hbo] at hxs
          have hxe : xe = 40 := congrArg Prod.fst hxs
          have hxd : D' = Dj := congrArg Prod.snd hxs
          clear hxs hbo
          subst hxe hxd
          simp only [bodyV]
          go_wp2
          go_ret2
          exact ⟨rfl, (hF.keep hb7).mono (by omega), hBr.trans (hb7.mono hBs), hK.trans (Kept.below hb7)⟩
        | some b =>
          have hxs := hst.out
          rw [hbo] at hxs
          have HXS := Lib.hid hxs
          clear hxs hbo
          simp only [bodyV]
          have hF7 := hF.keep hb7
          have hB7 := hBr.trans (hb7.mono hBs)
          have hK7 := hK.trans (Kept.below hb7)
          go_wp2_with fail
          refine Calls.mono (fwrite_any hF7 (hLm.fine (by omega)) (by omega) (hT.below hB7 hB0) (Nat.le_trans hB hB7.size) y 3 (by decide) b) ?_
          have hLp := hLm.fput y 3 b
          generalize Dj.fputE y b = er at *
          generalize Dj.fput y 3 b = Dp at *
          rintro e w8 ⟨rfl, hF8, hb8, hk8⟩
          have hB8 := hB7.trans hb8
          have hK8 := hK7.trans hk8
          by_cases her : er = 0
          · have hxs := HXS.out
            rw [if_pos her] at hxs
            have HXN := Lib.hid hxs
            clear hxs HXS
            subst her
            go_wp2
            go_roundw
            case rel => exact ⟨j + 1, Dp, sj.drop t.length, _, _, by omega, by go_num, by rw [List.length_drop], by rw [List.length_drop]; omega, by rw [List.length_drop]; omega, fun W hW => (hRS W hW).cut htl hc, LS.keptI (LS.keptI hO (Kept.below hb7)) hk8, hF8, hLp, Lib.hid (by rw [HXN.out, Htd.out]), hB8, hK8⟩
            case measure => simp [intOf]; omega
          · have hxs := HXS.out
            rw [if_neg her] at hxs
            have hxe : xe = er := congrArg Prod.fst hxs
            have hxd : D' = Dp := congrArg Prod.snd hxs
            clear hxs HXS
            subst hxe hxd
            have hqe : (xe != 0) = true := by simpa using her
            go_wp2
            go_ret2
            exact ⟨by unfold cwTell; rw [if_neg her]; rfl, hF8.mono (by omega), hB8, hK8⟩
    · obtain rfl : j = ids.length := by omega
      have hst0 := hrun.out
      rw [List.drop_of_length_le (Nat.le_refl _)] at hst0
      have hxe : xe = 0 := congrArg Prod.fst hst0
      have hxd : D' = Dj := congrArg Prod.snd hst0
      clear hst0
      subst hxe hxd
      by_cases hz : ids.length = 0
      · have hids : ids = [] := List.eq_nil_of_length_eq_zero hz
        have hq5 : ((ids.length : Int) == 0) = true := by rw [hz]; rfl
        go_wp2
        go_ret2
        exact ⟨by subst hids; rfl, hF, hBr, hK⟩
      · have hq5 : ((ids.length : Int) == 0) = false := by rw [beq_eq_false_iff_ne]; omega
        have hq6 : decide ((ids.length : Int) = 0) = false := decide_eq_false (by omega)
        obtain ⟨b2, o2, rfl, hb2, g0⟩ := hls.int (k := 0) (by omega)
        have hhd : ids.headD 0 = ids[0] := by
          cases ids with
          | nil => exact absurd rfl hz
          | cons a r => rfl
        have HHD := Lib.hid hhd
        clear hhd
        rw [Nat.add_zero] at g0
        have hpos : 0 < ids.length := by omega
        generalize ids[0] = y at *
        go_wp2
        go_ret2
        exact ⟨by unfold cwTell; rw [if_pos rfl, HHD.out]; rfl, hF, hBr, hK⟩
end Go.Proofs.YtlgbcogdogpihaaGreatDoor
