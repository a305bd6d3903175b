/- The walk of rootstocklaw09.ChainDoes: it returns true at every input. -/
import Derived.Deep.RegionHeld3
import Derived.Deep.CutBlock
import Derived.Test.YtlgbcogdogpihaaGreatDoorQBreak
import Derived.Test.YtlgbcogdogpihaaGreatDoorQOpenCActs
import Derived.Test.YtlgbcogdogpihaaGreatDoorQOver1
namespace Go.Proofs.YtlgbcogdogpihaaGreatDoor
open Go.RowKit Go.Shelf
theorem FAt.lower {w : World} {B B' f d k : Nat} {D : Dk} (h : FAt w B f d k D) (hB : B' ≤ B) : FAt w B' f d k D := by
  obtain ⟨q1, q2, s, mm, pv, Dm, q3⟩ := h
  exact ⟨Nat.le_trans hB q1, q2, s, mm, pv, Dm, ⟨Nat.le_trans hB q3.le.1, Nat.le_trans hB q3.le.2.1, Nat.le_trans hB q3.le.2.2⟩, q3.self, q3.sure, q3.map, q3.now, q3.pend.lower hB⟩
theorem RDkAt.lower {w : World} {B B' q : Nat} {D : RDk} (h : RDkAt w B q D) (hB : B' ≤ B) : RDkAt w B' q D := by
  obtain ⟨vs, vw, h⟩ := h
  exact ⟨vs, vw, Nat.le_trans hB h.le, h.self, h.sure.lower hB, h.wait.lower hB⟩
/-- where ChainDoes stands -/
structure DoesSt (w wr : World) (f d g q n N : Nat) : Prop where
  ex : ∃ D R c, FAt wr w.heap.size f d N D ∧ RFAt wr w.heap.size g q R ∧ Lim D N ∧ RLim R N ∧ Sync D R n c
  below : Below w.heap.size w wr
theorem DoesSt.keep {w wr w' : World} {f d g q n N : Nat} (h : DoesSt w wr f d g q n N) (hb : Below wr.heap.size wr w') : DoesSt w w' f d g q n N := by
  obtain ⟨⟨D, R, c, h1, h2, h3, h4, h5⟩, h6⟩ := h
  exact ⟨⟨D, R, c, h1.keep hb, h2.keep hb, h3, h4, h5⟩, h6.trans (hb.mono h6.size)⟩
theorem DoesSt.mono {w wr : World} {f d g q n N M : Nat} (h : DoesSt w wr f d g q n N) (hM : N ≤ M) : DoesSt w wr f d g q n M := by
  obtain ⟨⟨D, R, c, h1, h2, h3, h4, h5⟩, h6⟩ := h
  exact ⟨⟨D, R, c, h1.mono hM, h2, h3.mono hM, h4.mono hM, h5⟩, h6⟩
theorem below_of_grown2 {a w1 w2 : World} {q : Nat} (h : Below a.heap.size a w1) (hg : w1.grownBy w2 (some q)) (hq : a.heap.size ≤ q) : Below a.heap.size a w2 :=
  h.grown hg h.size (fun k e => by cases e; exact hq)
set_option maxRecDepth 100000 in
set_option maxHeartbeats 1000000 in
theorem cdoes_big (A : Option Addr) (s : Int) (n c : Nat) (w : World) (h : 40 < s ∨ 100 < n) :
    Calls Tryz.prog 4 #[.int .i64 s, .slice A n c] w (TrueEnd w) := by
  by_cases h1 : 40 < s
  · have hq : decide (40 < s) = true := decide_eq_true h1
    clear h
    go_enter Tryz.func4, Tryz.ntmps4
    go_wp2_with fail
    refine Calls.mono (works_any w) ?_
    rintro e w1 ⟨rfl, b1⟩
    go_wp2
    go_ret
    exact ⟨rfl, b1⟩
  · have hq : decide (40 < s) = false := decide_eq_false h1
    have h2 : 100 < n := by omega
    clear h
    go_enter Tryz.func4, Tryz.ntmps4
    go_wp2_with fail
    refine Calls.mono (works_any w) ?_
    rintro e w1 ⟨rfl, b1⟩
    go_wp2
    go_ret
    exact ⟨rfl, b1⟩
set_option maxRecDepth 100000 in
set_option maxHeartbeats 2000000 in
theorem cdoes_main (A : Option Addr) (c0 : Nat) (s : Int) (l : List CAct) (w : World) (hs : s ≤ 40) (hl100 : l.length ≤ 100) (hl : LS cactE w w.heap.size A l) (hat : ∀ x ∈ l, CActAt w w.heap.size x) (hT : HT w) :
    Calls Tryz.prog 4 #[.int .i64 s, .slice A l.length c0] w (TrueEnd w) := by
  have hB0 := hT.1
  have hq : decide (40 < s) = false := decide_eq_false (by omega)
  have hdn : diskN s ≤ 40 := by unfold diskN; omega
  go_enter Tryz.func4, Tryz.ntmps4
  go_wp2_with fail
  refine Calls.mono (works_any w) ?_
  rintro e w1 ⟨rfl, b1⟩
  go_wp2_with fail
  refine Calls.mono (dfresh_any s w1) ?_
  rintro e w2 ⟨d, rfl, hd2, b2⟩
  go_wp2_with fail
  refine Calls.mono (ffresh_any hd2 b2.size) ?_
  rintro e w3 ⟨f, rfl, hF3, b3⟩
  have hF3 := hF3.lower b1.size
  have b13 : Below w.heap.size w w3 := (b1.trans (b2.mono b1.size)).trans (b3.mono (Nat.le_trans b1.size b2.size))
  clear hd2 b1 b2 b3
  go_wp2_with fail
  refine Calls.mono (rnew_any s w3) ?_
  rintro e w4 ⟨q, rfl, hR4, b4⟩
  have hF4 := hF3.keep b4
  have hR4 := hR4.lower b13.size
  have b14 := b13.trans (b4.mono b13.size)
  generalize diskN s = n at *
  have bA : Below w4.heap.size w4 (w4.alloc (.cells #[.pointer (some ⟨q, 0, none⟩)] 43)) := (Below.refl _ w4).alloc (Nat.le_refl _) _
  have hst : DoesSt w (w4.alloc (.cells #[.pointer (some ⟨q, 0, none⟩)] 43)) f d w4.heap.size q n 0 :=
    ⟨⟨_, _, _, hF4.keep bA, ⟨Blk.new w4 _ _, hR4.keep bA⟩, fresh_lim (by omega), ⟨by simp [rfresh]; omega, ⟨Int.le_refl _, Int.le_refl _⟩, ⟨Int.le_refl _, Int.le_refl _⟩, ⟨by show (-1 : Int) ≤ -1; omega, by show (-1 : Int) ≤ _; omega⟩, by simp [rfresh]⟩, sync_fresh n⟩, b14.trans (bA.mono b14.size)⟩
  have HST := Lib.hid hst
  clear hst hF3 hF4 hR4 b13 b14 b4 bA
  go_wp2
  obtain ⟨g, hg⟩ : ∃ g, g = w4.heap.size := ⟨_, rfl⟩
  have HST2 : Hid (DoesSt w (w4.alloc (.cells #[.pointer (some ⟨q, 0, none⟩)] 43)) f d g q n 0) := Lib.hid (by rw [hg]; exact HST.out)
  rw [← hg]
  clear hg HST
  go_loopw [10] (fun i wr => ∃ j : Nat, j ≤ l.length ∧ i = .int .i64 j ∧ DoesSt w wr f d g q n (200 * j)) (fun i _ => l.length - (intOf i).toNat)
  case atStart => exact ⟨0, by omega, rfl, HST2.out⟩
  case round =>
    obtain ⟨j, hj, rfl, hS⟩ := hrel
    by_cases hlt : j < l.length
    · obtain ⟨b0, o0, rfl, hb0, gg⟩ := (hl.below hS.below).at_ hlt
      have hA := hat _ (List.getElem_mem hlt)
      obtain ⟨x, hx⟩ : ∃ x, x = l[j] := ⟨_, rfl⟩
      rw [← hx] at gg hA
      have g0 : wr.cell? ⟨b0, o0 + j * 5, none⟩ = some (.int .i64 x.k) := by have := gg 0 (by decide); simpa [cactE] using this
      have g1 : wr.cell? ⟨b0, o0 + j * 5 + 1, none⟩ = some (.slice x.A1 x.n1 x.c1) := by have := gg 1 (by decide); simpa [cactE] using this
      have g2 : wr.cell? ⟨b0, o0 + j * 5 + 2, none⟩ = some (.slice x.A2 x.n2 x.c2) := by have := gg 2 (by decide); simpa [cactE] using this
      have g3 : wr.cell? ⟨b0, o0 + j * 5 + 3, none⟩ = some (.int .i64 x.head) := by have := gg 3 (by decide); simpa [cactE] using this
      have g4 : wr.cell? ⟨b0, o0 + j * 5 + 4, none⟩ = some (.string x.body) := by have := gg 4 (by decide); simpa [cactE] using this
      clear gg hx
      obtain ⟨xk, xA1, xn1, xc1, xA2, xn2, xc2, xh, xb⟩ := x
      simp only at g0 g1 g2 g3 g4
      go_upto_region 14 with fail
      have hblk := Blk.new wr 45 #[.int .i64 xk, .slice xA1 xn1 xc1, .slice xA2 xn2 xc2, .int .i64 xh, .string xb]
      have hSa := hS.keep ((Below.refl _ wr).alloc (Nat.le_refl _) (.cells #[.int .i64 xk, .slice xA1 xn1 xc1, .slice xA2 xn2 xc2, .int .i64 xh, .string xb] 45))
      generalize wr.alloc (.cells #[.int .i64 xk, .slice xA1 xn1 xc1, .slice xA2 xn2 xc2, .int .i64 xh, .string xb] 45) = wa at *
      clear hS g0 g1 g2 g3 g4 hb0
      generalize wr.heap.size = ga at *
      have k0 : wa.cell? ⟨ga, 0, none⟩ = some (.int .i64 xk) := hblk.cell 0
      have k1 : wa.cell? ⟨ga, 1, none⟩ = some (.slice xA1 xn1 xc1) := hblk.cell 1
      have k2 : wa.cell? ⟨ga, 2, none⟩ = some (.slice xA2 xn2 xc2) := hblk.cell 2
      have k3 : wa.cell? ⟨ga, 3, none⟩ = some (.int .i64 xh) := hblk.cell 3
      have k4 : wa.cell? ⟨ga, 4, none⟩ = some (.string xb) := hblk.cell 4
      have hga := hblk.lt
      have hBe := hSa.below
      by_cases h1 : 100 < xn1
      · go_wp2
        go_ret
        exact ⟨rfl, hBe⟩
      by_cases h2 : 100 < xn2
      · go_wp2
        go_ret
        exact ⟨rfl, hBe⟩
      by_cases h3 : 300 < xb.size
      · go_wp2
        go_ret
        exact ⟨rfl, hBe⟩
      obtain ⟨⟨D, R, c, hF, hRF, hLm, hRL, hSy⟩, _⟩ := hSa
      by_cases e0 : xk.tmod 4 = 0
      · have hq0 : (xk.tmod 4 == 0) = true := by simpa using e0
        clear e0
        obtain ⟨lr, e1, r1⟩ := hA.runs
        obtain ⟨li, e2, r2, wf2⟩ := hA.ids
        simp only at e1 e2 r1 r2
        subst e1 e2
        have hcw := cwrite_all (N := 200 * j) xA1 xA2 xc1 xc2 lr li (by omega) (by omega) wa hF hLm (by omega) (by unfold maxLen; omega) (hT.below hBe hB0) hB0 hBe.size ((r1.below hBe).more hBe.size) (r2.below hBe)
        have hrw := fun W (h1 : RFAt W w.heap.size g q R) (h2 : Below w.heap.size w W) => rcwrite_any (N := 200 * j) xA1 xA2 xc1 xc2 lr li (by omega) (by omega) wf2 W h1 hRL (by omega) h2.size ((r1.below h2).more h2.size) (r2.below h2)
        obtain ⟨hse, c', hSy'⟩ := cwRes_sync hSy lr li
        have hl1 := cwRes_lim hLm lr li
        have hl2 := rcwRes_lim hRL lr li
        unfold CWEnd at hcw
        unfold RCWEnd at hrw
        generalize cwRes D lr li = X at *
        generalize rcwRes R lr li = Y at *
        obtain ⟨⟨x1, x2⟩, DX⟩ := X
        obtain ⟨⟨y1, y2⟩, RY⟩ := Y
        simp only at hse hSy' hl1 hl2 hcw hrw
        injection hse with he1 he2
        subst he1 he2
        have HCW := Lib.hid hcw
        have HRW := Lib.hid hrw
        clear hcw hrw
        go_wp2_with fail
        refine Calls.mono HCW.out ?_
        rintro e w1 ⟨rfl, hF1, hb1, hk1⟩
        have k11 : w1.cell? ⟨ga, 1, none⟩ = some (.slice xA1 lr.length xc1) := (hk1 _ _ _ hblk (by decide) (by decide)).cell 1
        have k21 : w1.cell? ⟨ga, 2, none⟩ = some (.slice xA2 li.length xc2) := (hk1 _ _ _ hblk (by decide) (by decide)).cell 2
        have hga1 := (hk1 _ _ _ hblk (by decide) (by decide)).lt
        have hR1 := hRF.kept hk1
        have hBw := hBe.trans hb1
        go_wp2_with fail
        refine Calls.mono (HRW.out w1 hR1 hBw) ?_
        rintro e w2 ⟨rfl, hR2, hb2, hk2⟩
        have hfin : DoesSt w w2 f d g q n (200 * (j + 1)) := ⟨⟨DX, RY, c', (hF1.rkept hk2).mono (by omega), hR2, hl1.mono (by omega), hl2.mono (by omega), hSy'⟩, hBw.trans hb2⟩
        clear HCW HRW
        go_wp2
        go_roundw
        case rel => exact ⟨j + 1, by omega, by go_num, hfin⟩
        case measure => simp [intOf]; omega
      have hq0 : (xk.tmod 4 == 0) = false := by simpa using e0
      by_cases e1 : xk.tmod 4 = 1
      · have hq1 : (xk.tmod 4 == 1) = true := by simpa using e1
        clear e0 e1
        have hdk : D.sure.length = n := hSy.size
        have hcr := cread_any (N := 200 * j) hF hLm (by omega) (hT.below hBe hB0) hB0 hBe.size c (fun id h1 _ => hSy.page id (by rw [← hdk]; exact h1)) xh hA.wh
        have hrr := fun W (h1 : RFAt W w.heap.size g q R) (h2 : w.heap.size ≤ W.heap.size) => rcread_any (N := 200 * j) h1 hRL (by omega) h2 c (fun id h1 _ => hSy.rpage id (by rw [← hSy.rsize]; exact h1)) xh
        have hsm := chD_same (n := D.sure.length) (down := D.down) (pg := c) (D0 := D) (D.sure.length + 1) D [] xh (200 * j) (SameD.refl D) rfl rfl hLm
        rw [hSy.rsize, hSy.down] at hrr
        rw [hdk] at hcr hsm
        have hcl := crRes_len (n := n) (dn := D.down) (c := c) (n + 1) xh
        generalize chD n D.down c (n + 1) D [] xh = DT at *
        generalize crRes (chL n D.down c (n + 1) [] xh) = T at *
        obtain ⟨rl, il, x⟩ := T
        unfold CREnd at hcr
        unfold RCREnd at hrr
        simp only at hcr hrr hcl
        have HCR := Lib.hid hcr
        have HRR := Lib.hid hrr
        clear hcr hrr
        go_wp2_with fail
        refine Calls.mono HCR.out ?_
        rintro e w1 ⟨v1, u1, rfl, hv1, hu1, hF1, hb1, hk1⟩
        have k31 : w1.cell? ⟨ga, 3, none⟩ = some (.int .i64 xh) := (hk1 _ _ _ hblk (by decide) (by decide)).cell 3
        have hga1 := (hk1 _ _ _ hblk (by decide) (by decide)).lt
        have hR1 := hRF.kept hk1
        have hBw := hBe.trans hb1
        go_wp2_with fail
        refine Calls.mono (HRR.out w1 hR1 hBw.size) ?_
        rintro e w2 ⟨v2, u2, RT, rfl, hv2, hu2, hR2, hsR, hlR, hb2, hk2⟩
        have hBw2 := hBw.trans hb2
        have hv1' := Own.rkept hv1 hk2
        have hu1' := hu1.rkept hk2 (by decide) (by decide)
        obtain ⟨A3, c3, rfl⟩ := hv1'.form
        obtain ⟨A4, c4, rfl⟩ := hu1'.form
        obtain ⟨A5, c5, rfl⟩ := hv2.form
        obtain ⟨A6, c6, rfl⟩ := hu2.form
        have hra := hv1'.rs
        have hrb := hv2.rs
        have hia := hu1'.ls
        have hib := hu2.ls
        have hfin : DoesSt w w2 f d g q n (200 * (j + 1)) := ⟨⟨DT, RT, c, (hF1.rkept hk2).mono (by omega), hR2, hsm.2.2.2.mono (by omega), hlR.mono (by have := hSy.rsize; omega), hSy.same hsm.1 hsm.2.1 hsR⟩, hBw2⟩
        clear HCR HRR hv1 hu1 hv1' hu1' hv2 hu2 hF1 hR2 hsm hsR hlR
        go_wp2_with fail
        refine Calls.mono (same_yes A3 A5 rl c3 c5 w2 hra hrb (by omega)) ?_
        rintro e w3 ⟨rfl, b3⟩
        go_wp2_with fail
        refine Calls.mono (samei_yes A4 A6 il c4 c6 w3 (hia.up b3) (hib.up b3) (by omega)) ?_
        rintro e w4 ⟨rfl, b4⟩
        have hfin4 := (hfin.keep b3).keep b4
        go_wp2
        go_roundw
        case rel => exact ⟨j + 1, by omega, by go_num, hfin4⟩
        case measure => simp [intOf]; omega
      have hq1 : (xk.tmod 4 == 1) = false := by simpa using e1
      by_cases e2 : xk.tmod 4 = 2
      · have hq2 : (xk.tmod 4 == 2) = true := by simpa using e2
        clear e0 e1 e2
        obtain ⟨bl, rfl⟩ : ∃ bl : Bs, xb = ⟨bl.toArray⟩ := ⟨xb.data.toList, by simp⟩
        have hbl : bl.length ≤ 300 := by simpa [ByteArray.size] using h3
        have hwd : Below wa.heap.size wa wa.drew := (Below.refl _ wa).drew
        have hBd : Below w.heap.size w wa.drew := hBe.drew
        have hfw := fwrite_any (hF.keep hwd) (hLm.fine (by omega)) (by unfold maxLen; omega) (hT.below hBd hB0) hBd.size xh 3 (by decide) bl
        have hpw := fun W (h1 : RFAt W w.heap.size g q R) (h2 : w.heap.size ≤ W.heap.size) => rfput_any h1 (hRL.fine (by omega)) (Nat.lt_of_le_of_lt hRL.wait (by omega)) h2 xh 3 (by decide) bl
        have hse := hSy.e xh bl
        obtain ⟨c', hSy'⟩ := hSy.fput xh 3 (by decide) bl
        have hl1 := hLm.fput xh 3 bl
        have hl2 := hRL.fput xh 3 bl
        unfold FWEnd str at hfw
        unfold RFWEnd str at hpw
        rw [hse] at hpw
        generalize D.fputE xh bl = er at *
        generalize D.fput xh 3 bl = DX at *
        generalize R.fput xh 3 bl = RY at *
        have HFW := Lib.hid hfw
        have HPW := Lib.hid hpw
        have hblkd : Blk wa.drew ga 45 #[.int .i64 xk, .slice xA1 xn1 xc1, .slice xA2 xn2 xc2, .int .i64 xh, .string ⟨bl.toArray⟩] := hblk
        have k3d : wa.drew.cell? ⟨ga, 3, none⟩ = some (.int .i64 xh) := k3
        have k4d : wa.drew.cell? ⟨ga, 4, none⟩ = some (.string ⟨bl.toArray⟩) := k4
        have hgad : ga < wa.drew.heap.size := hga
        have hRd := hRF.keep hwd
        clear hfw hpw hse
        go_wp2
        have hS0 : wa.drew.cell? ⟨ga, 3, none⟩ = some (.int .i64 xh) ∧ wa.drew.cell? ⟨ga, 4, none⟩ = some (.string ⟨bl.toArray⟩) := ⟨k3d, k4d⟩
        go_region_held3 (fun W => W.cell? ⟨ga, 3, none⟩ = some (.int .i64 xh) ∧ W.cell? ⟨ga, 4, none⟩ = some (.string ⟨bl.toArray⟩)) (first | exact hS0 | exact hS1 | exact hS2)
          (first
          | (go_at_call 18; refine Calls.mono HFW.out ?_; rintro e w1 ⟨rfl, hF1, hb1, hk1⟩; have hS1 : w1.cell? ⟨ga, 3, none⟩ = some (.int .i64 xh) ∧ w1.cell? ⟨ga, 4, none⟩ = some (.string ⟨bl.toArray⟩) := ⟨(hk1 _ _ _ hblkd (by decide) (by decide)).cell 3, (hk1 _ _ _ hblkd (by decide) (by decide)).cell 4⟩; have hblk1 := hk1 _ _ _ hblkd (by decide) (by decide); have hR1 := hRd.kept hk1; have hBw := hBd.trans hb1)
          | (go_at_call 19; refine Calls.mono (HPW.out _ hR1 hBw.size) ?_; rintro e w2 ⟨rfl, hR2, hb2, hk2⟩; have hS2 : w2.cell? ⟨ga, 3, none⟩ = some (.int .i64 xh) ∧ w2.cell? ⟨ga, 4, none⟩ = some (.string ⟨bl.toArray⟩) := ⟨(hk2.blk _ _ _ hblk1 (by decide) (by decide)).cell 3, (hk2.blk _ _ _ hblk1 (by decide) (by decide)).cell 4⟩; have hfin : DoesSt w w2 f d g q n (200 * (j + 1)) := ⟨⟨DX, RY, c', (hF1.rkept hk2).mono (by omega), hR2, hl1.mono (by omega), hl2.mono (by omega), hSy'⟩, hBw.trans hb2⟩))
        all_goals
          go_wp2
          go_roundw
          case rel => exact ⟨j + 1, by omega, by go_num, hfin⟩
          case measure => simp [intOf]; omega
      have hq2 : (xk.tmod 4 == 2) = false := by simpa using e2
      by_cases e3 : xk.tmod 4 = 3
      · have hq3 : (xk.tmod 4 == 3) = true := by simpa using e3
        clear e0 e1 e2 e3
        have hb := dbreak_any hF xh hBe.size
        have hmx : max xh (-1) ≤ 9223372036854775807 := Int.max_le.2 ⟨wf_le hA.wh, by decide⟩
        have HMX := Lib.hid hmx
        clear hmx
        go_wp2_with fail
        refine Calls.mono hb ?_
        rintro e w1 ⟨rfl, hF1, hb1, hk1⟩
        have k31 : w1.cell? ⟨ga, 3, none⟩ = some (.int .i64 xh) := (hk1 _ _ _ hblk (by decide) (by decide)).cell 3
        have hga1 := (hk1 _ _ _ hblk (by decide) (by decide)).lt
        have hR1 := hRF.kept hk1
        have hst := rstop_any hR1.disk xh
        have hBw := hBe.trans hb1
        go_wp2_with fail
        refine Calls.mono hst ?_
        rintro e w2 ⟨rfl, hR2, hk2, hg2⟩
        have hqlo : w.heap.size ≤ q := by obtain ⟨vs, vw, h⟩ := hR2; exact h.le
        have hmx := HMX.out
        have hfin : DoesSt w w2 f d g q n (200 * (j + 1)) := ⟨⟨_, _, c, (hF1.rkept hk2).mono (by omega), ⟨hk2.blk _ _ _ hR1.self (by decide) (by decide), hR2⟩, ⟨hLm.n, ⟨hLm.writes.1, by have := hLm.writes.2; show D.writes ≤ _; omega⟩, ⟨hLm.reads.1, by have := hLm.reads.2; show D.reads ≤ _; omega⟩, ⟨by show -1 ≤ max xh (-1); omega, hmx⟩, by have := hLm.pend; show D.pend.length ≤ _; omega⟩, ⟨hRL.n, ⟨hRL.writes.1, by have := hRL.writes.2; show R.writes ≤ _; omega⟩, ⟨hRL.reads.1, by have := hRL.reads.2; show R.reads ≤ _; omega⟩, ⟨by show -1 ≤ max xh (-1); omega, hmx⟩, by have := hRL.wait; show R.wait.length ≤ _; omega⟩, hSy.stop xh⟩, below_of_grown2 hBw hg2 hqlo⟩
        clear hb hst hmx
        go_wp2
        go_roundw
        case rel => exact ⟨j + 1, by omega, by go_num, hfin⟩
        case measure => simp [intOf]; omega
      · have hq3 : (xk.tmod 4 == 3) = false := by simpa using e3
        have hfin : DoesSt w wa f d g q n (200 * (j + 1)) := ⟨⟨D, R, c, hF.mono (by omega), hRF, hLm.mono (by omega), hRL.mono (by omega), hSy⟩, hBe⟩
        clear e0 e1 e2 e3
        go_wp2
        go_roundw
        case rel => exact ⟨j + 1, by omega, by go_num, hfin⟩
        case measure => simp [intOf]; omega
    · go_wp2
      go_ret
      exact ⟨rfl, hS.below⟩
theorem cdoes_any (A : Option Addr) (n c : Nat) (s : Int) (l : List CAct) (w : World) (h1 : l.length = n) (hl : LS cactE w w.heap.size A l) (hat : ∀ x ∈ l, CActAt w w.heap.size x) (hT : HT w) :
    Calls Tryz.prog 4 #[.int .i64 s, .slice A n c] w (TrueEnd w) := by
  subst h1
  by_cases h : 40 < s ∨ 100 < l.length
  · exact cdoes_big A s l.length c w h
  · exact cdoes_main A c s l w (by omega) (by omega) hl hat hT
end Go.Proofs.YtlgbcogdogpihaaGreatDoor
