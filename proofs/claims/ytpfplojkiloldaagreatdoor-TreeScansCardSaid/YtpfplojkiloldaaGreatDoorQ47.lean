/- The walk of rootstocklaw13.TreeScans, where all is looked at. -/
import Derived.Test.YtpfplojkiloldaaGreatDoorQ46
namespace Go.Proofs.YtpfplojkiloldaaGreatDoor
open Go.RowKit Go.Shelf
theorem overT_no {l : List TAct} (h : overT l = false) : l.length ≤ 200 := by
  unfold overT at h
  rw [Bool.or_eq_false_iff, decide_eq_false_iff_not] at h
  omega
theorem nextV_pos {l : List Ent} (h : 0 < l.length) : nextV l = (l[0], true) := by
  cases l with
  | nil => simp at h
  | cons a b => rfl
set_option maxRecDepth 100000 in
set_option maxHeartbeats 4000000 in
theorem tscans_main (A : Option Addr) (c : Nat) (l : List TAct) (frm mid to_ : ByteArray) (w : World) (hr : LS tactE w w.heap.size A l) (h0 : overT l = false) (h1 : ¬ 60 < frm.size) (h2 : ¬ 60 < mid.size) (h3 : ¬ 60 < to_.size) :
    Calls Tryz.prog 3 #[.slice A l.length c, .string frm, .string mid, .string to_] w (TrueEnd w) := by
  have hll := overT_no h0
  have HW := Lib.hid (works13_any w)
  have hov := fun W h => over_any A c l W h
  rw [h0] at hov
  have HO := Lib.hid hov
  have HR := Lib.hid hr
  have d1 : ¬ (60 : Int) < (frm.size : Nat) := by omega
  have d2 : ¬ (60 : Int) < (mid.size : Nat) := by omega
  have d3 : ¬ (60 : Int) < (to_.size : Nat) := by omega
  have HT := Lib.hid (fun W => tst_new 600 W)
  clear hr hov h0 h1 h2 h3
  go_enter Tryz.func3, Tryz.ntmps3
  go_wp2_with fail
  refine Calls.mono HW.out ?_
  rintro e w1 ⟨rfl, b1⟩
  have HC := Lib.hid (HO.out w1 ((HR.out.below b1).more b1.size))
  have HB := Lib.hid b1
  clear HO b1 HW
  go_wp2_with fail
  refine Calls.mono HC.out ?_
  rintro e _ ⟨rfl, rfl⟩
  go_wp2_with fail
  refine (HT.out _).mono ?_
  rintro e w2 ⟨a, rfl, ht, b2, hF⟩
  rw [show diskN 600 = 600 by decide] at ht
  have HF := Lib.hid (fun x hx => Nat.le_trans HB.out.size (hF x hx) : ∀ x, a.F x → w.heap.size ≤ x)
  have HS0 := Lib.hid (show TPuts w 600 a 0 w2 from ⟨⟨[], 0, ht.at_, Nat.le_refl _⟩, HB.out.trans (b2.mono HB.out.size)⟩)
  clear HC HT ht b2 hF
  go_wp2
  go_loopg [12] l.length (fun g s12 wr => ∃ j : Nat, s12 = .int .i64 (j : Nat) ∧ j ≤ l.length ∧ l.length - j ≤ g ∧ Hid (TPuts w 600 a j wr))
  case atStart => exact ⟨0, rfl, Nat.zero_le _, by omega, HS0⟩
  case round =>
    obtain ⟨j, rfl, hjl, hjg, HS⟩ := hrel
    have hwj : IntKind.i64.wrap ((j : Int) + 1) = (j : Int) + 1 := IntWalk.i64_in _ (by omega)
    by_cases hj : j < l.length
    · have hji : (j : Int) < (l.length : Nat) := by omega
      obtain ⟨bb, oo, rfl, hbb, c0, c1, c2⟩ := (HR.out.below HS.out.below).tact hj
      have hbz : bb < wr.heap.size := Nat.lt_of_lt_of_le hbb HS.out.below.size
      generalize l[j] = x at *
      obtain ⟨xk, s, v⟩ := x
      simp only at c0 c1 c2
      cases hm : En.may s v with
      | true =>
        have hwd : Below wr.heap.size wr wr.drew := (Below.refl _ wr).drew
        have HPUT := Lib.hid (put_round (HS.out.up hwd) HF.out hm (by unfold Rm; omega))
        have hma := fun W => may_any s v W
        rw [hm] at hma
        have HMAY := Lib.hid hma
        have k1 : wr.drew.cell? ⟨bb, oo + j * 3 + 1, none⟩ = some (.string s) := c1
        have k2 : wr.drew.cell? ⟨bb, oo + j * 3 + 2, none⟩ = some (.string v) := c2
        have hbzd : bb < wr.drew.heap.size := hbz
        clear hma hwd hm c0
        go_wp2
        have hS0 : wr.drew.cell? ⟨bb, oo + j * 3 + 1, none⟩ = some (.string s) ∧ wr.drew.cell? ⟨bb, oo + j * 3 + 2, none⟩ = some (.string v) := ⟨k1, k2⟩
        go_region_held3 (fun W => W.cell? ⟨bb, oo + j * 3 + 1, none⟩ = some (.string s) ∧ W.cell? ⟨bb, oo + j * 3 + 2, none⟩ = some (.string v)) (first | exact hS0 | exact hS2)
          (first
          | (go_at_call 14; refine (HMAY.out _).mono ?_; rintro e _ ⟨rfl, rfl⟩)
          | (go_at_call 15; refine Calls.mono HPUT.out ?_; rintro e w5 ⟨rfl, hP5, hb5⟩; have hS2 : w5.cell? ⟨bb, oo + j * 3 + 1, none⟩ = some (.string s) ∧ w5.cell? ⟨bb, oo + j * 3 + 2, none⟩ = some (.string v) := ⟨(hb5.cell (p := ⟨bb, oo + j * 3 + 1, none⟩) hbb).trans hS0.1, (hb5.cell (p := ⟨bb, oo + j * 3 + 2, none⟩) hbb).trans hS0.2⟩; have HP5 := Lib.hid hP5))
        all_goals
          go_wp2
          go_roundg (l.length - (j + 1))
          case measure => omega
          case rel => exact ⟨j + 1, by go_num, by omega, Nat.le_refl _, HP5⟩
      | false =>
        have hma := fun W => may_any s v W
        rw [hm] at hma
        have HMAY := Lib.hid hma
        clear hma hm c0
        have hji2 : (j : Int) < (l.length : Nat) := hji
        go_wp2
        go_quiet (first | (go_at_call 14; exact Calls.quiet_of_same (HMAY.out _)))
        go_wp2
        go_roundg (l.length - (j + 1))
        case measure => omega
        case rel => exact ⟨j + 1, by go_num, by omega, Nat.le_refl _, Lib.hid ⟨(HS.out.up (below_drewN (Below.refl _ _) _)).at_.imp fun es h => h.imp fun t h => ⟨h.1, by omega⟩, (HS.out.up (below_drewN (Below.refl _ _) _)).below⟩⟩
    · obtain rfl : j = l.length := by omega
      have hji : ¬ (l.length : Int) < (l.length : Nat) := by omega
      obtain ⟨es, tok, ⟨root, σ, ids, h0⟩, htok⟩ := HS.out.at_
      have HBE := Lib.hid HS.out.below
      have HLW : Hid (∀ W W', Below w.heap.size w W → Fr a.S W W' → Below w.heap.size w W') := Lib.hid fun W W' h f => h.trans (f.low h.size (fun k hk => HF.out k (.inl hk)))
      have HSL := Lib.hid (fun k (hk : a.S k) => h0.low k (.inl hk))
      have hel : es.length ≤ 200 := by have := h0.rt.len; omega
      have HSR := Lib.hid (Tp.srt_right h0.rt.right)
      have hs1 := tst_scan h0 ⟨#[]⟩ ⟨#[]⟩
      rw [Tp.scan_whole] at hs1
      have HC1 := Lib.hid hs1
      clear hs1 h0 htok HS hjg hwj hj hjl HF HS0 HR HB
      go_wp2_with fail
      refine Calls.mono HC1.out ?_
      rintro e w3 ⟨A1, c1, rfl, r1, h1, f1⟩
      have hz1 := f1.size
      have hs2 := tst_scan h1 frm to_
      obtain ⟨pt, hpt⟩ : ∃ x, x = Tp.scanF es frm to_ := ⟨_, rfl⟩
      rw [← hpt] at hs2
      have hpl : pt.length ≤ 200 := by rw [hpt]; unfold Tp.scanF; exact Nat.le_trans (List.length_filter_le _ _) hel
      have HC2 := Lib.hid hs2
      have HPT := Lib.hid hpt
      have HR1 := Lib.hid r1
      have HB1 := Lib.hid (HLW.out _ _ HBE.out f1)
      clear hs2 hpt r1 h1 f1 HBE HC1
      go_wp2_with fail
      refine Calls.mono HC2.out ?_
      rintro e w4 ⟨A2, c2, rfl, r2, h2, f2⟩
      have hz2 := f2.size
      have r1 := HR1.out.fr f2 HSL.out
      have hrs := rscan_any A1 c1 es frm to_ w4 (LO.sv r1).ls (by omega)
      rw [← HPT.out] at hrs
      have HC3 := Lib.hid hrs
      have HR1 := Lib.hid r1
      have HR2 := Lib.hid r2
      have HB2 := Lib.hid (HLW.out _ _ HB1.out f2)
      have HT2 := Lib.hid h2
      clear hrs r1 r2 h2 f2 HB1 HC2
      go_wp2_with fail
      refine Calls.mono HC3.out ?_
      intro e w5 he
      obtain ⟨A3, c3, rfl, _, l3, b3⟩ := he.open_
      have hz3 := b3.size
      have HC4 := Lib.hid (rsame_yes A2 A3 pt c2 c3 w5 ((LO.sv (HR2.out.below b3)).ls) l3 (by omega))
      have HR1 := Lib.hid (HR1.out.below b3)
      have HT3 := Lib.hid (HT2.out.below b3)
      have HB3 := Lib.hid (HB2.out.trans (b3.mono HB2.out.size))
      clear he l3 b3 HR2 HT2 HB2 HC3
      go_wp2_with fail
      refine HC4.out.mono ?_
      rintro e w6 ⟨rfl, b4⟩
      have hz4 := b4.size
      have h4 := HT3.out.below b4
      have hnx := tst_next h4 frm
      obtain ⟨rs, hrs⟩ : ∃ x, x = Tp.scanF es frm ⟨#[]⟩ := ⟨_, rfl⟩
      rw [← hrs] at hnx
      have HC5 := Lib.hid hnx
      have HR1 := Lib.hid (HR1.out.below b4)
      have HB4 := Lib.hid (HB3.out.trans (b4.mono HB3.out.size))
      have HRS := Lib.hid hrs
      have hrl : rs.length ≤ 200 := by rw [hrs]; unfold Tp.scanF; exact Nat.le_trans (List.length_filter_le _ _) hel
      clear h4 hnx b4 HT3 HB3 HC4 hrs
      go_wp2_with fail
      refine Calls.mono HC5.out ?_
      rintro e w7 ⟨rfl, h7, f7⟩
      have hz7 := f7.size
      obtain ⟨nx, hnx⟩ : ∃ x, x = nextV rs := ⟨_, rfl⟩
      rw [← hnx]
      obtain ⟨⟨nk, nv⟩, nb⟩ := nx
      simp only
      have hbA := (Below.refl w7.heap.size w7).alloc (Nat.le_refl _) (.cells #[.string nk, .string nv] 38)
      have h8 := h7.below hbA
      have hs := tst_scan h8 frm ⟨#[]⟩
      rw [← HRS.out] at hs
      have HC6 := Lib.hid hs
      have HX8 := Lib.hid (Blk.new w7 38 #[.string nk, .string nv])
      have HR1 := Lib.hid ((HR1.out.fr f7 HSL.out).below hbA)
      have hB7 := HLW.out _ _ HB4.out f7
      have HB8 := Lib.hid (hB7.trans (hbA.mono hB7.size))
      have HNX := Lib.hid hnx
      clear h7 f7 hbA h8 hs hB7 hnx HB4 HC5
      go_wp2_with fail
      refine Calls.mono HC6.out ?_
      rintro e w9 ⟨A5, c5, rfl, r5, h9, f9⟩
      have hz9 := f9.size
      simp only [World.size_alloc] at hz9
      have hx9 := f9.blk HX8.out (fun hk => by have := HSL.out _ hk; omega)
      have HR1 := Lib.hid (HR1.out.fr f9 HSL.out)
      have HB9 := Lib.hid (HLW.out _ _ HB8.out f9)
      have HT9 := Lib.hid h9
      have hl5 := (LO.sv r5).ls
      clear f9 h9 HB8 HX8 HC6 r5
      generalize hn5 : rs.length = n5
      have HN5 := Lib.hid hn5
      have hn5l : n5 ≤ 200 := by omega
      clear hn5 hrl
      go_upto_region 18 with fail
      go_cut [149] from 115 to 149 (fun c wx => c = .bool false ∧ Below w9.heap.size w9 wx)
      case first =>
        have hx0 : w9.cell? ⟨w7.heap.size, 0, none⟩ = some (.string nk) := hx9.cell 0
        have hx1 : w9.cell? ⟨w7.heap.size, 1, none⟩ = some (.string nv) := hx9.cell 1
        have hxl := hx9.lt
        have hq := HNX.out
        by_cases hr0 : n5 = 0
        · have e0 : rs = [] := List.eq_nil_of_length_eq_zero (by rw [HN5.out]; exact hr0)
          rw [e0] at hq
          simp only [nextV, Prod.mk.injEq] at hq
          obtain ⟨⟨rfl, rfl⟩, rfl⟩ := hq
          clear HNX hl5 e0 HN5
          subst hr0
          go_wp2
          go_quiet (fail)
          go_wp2
          go_meet
          exact ⟨rfl, below_drewN (Below.refl _ _) _⟩
        · have hr1 : 0 < n5 := by omega
          have hr2 : 0 < rs.length := by rw [HN5.out]; exact hr1
          obtain ⟨bb, oo, rfl, hbb, q0, q1⟩ := hl5.ent hr2
          rw [nextV_pos hr2] at hq
          simp only [Prod.mk.injEq] at hq
          obtain ⟨hq1, rfl⟩ := hq
          rw [← hq1] at q0 q1
          have q0 : w9.cell? ⟨bb, oo, none⟩ = some (.string nk) := by simpa using q0
          have q1 : w9.cell? ⟨bb, oo + 1, none⟩ = some (.string nv) := by simpa using q1
          clear HNX hl5 hq1 hr0 hr2 HN5
          go_wp2
          go_quiet (fail)
          go_wp2
          go_meet
          exact ⟨rfl, below_drewN (Below.refl _ _) _⟩
      case rest =>
        obtain ⟨rfl, hb10⟩ := hcut
        have HT := Lib.hid (HT9.out.below hb10)
        have HR1 := Lib.hid (HR1.out.below hb10)
        have HB := Lib.hid (HB9.out.trans (hb10.mono HB9.out.size))
        have hz10 := hb10.size
        clear HT9 HB9 hb10 hx9 hl5 HNX HRS
        cases hem : mid.toList.isEmpty with
        | true =>
          have hem2 : mid.toList = [] := by simpa using hem
          go_wp2
          go_ret
          exact ⟨rfl, HB.out⟩
        | false =>
          have hem2 : ¬ mid.toList = [] := by simpa using hem
          have HPA := Lib.hid (Tp.scan_parts HSR.out hem)
          have hsl := tst_scan HT.out ⟨#[]⟩ mid
          obtain ⟨lw, hlw⟩ : ∃ x, x = Tp.scanF es ⟨#[]⟩ mid := ⟨_, rfl⟩
          obtain ⟨hg, hhg⟩ : ∃ x, x = Tp.scanF es mid ⟨#[]⟩ := ⟨_, rfl⟩
          have hl1 : lw.length ≤ 200 := by rw [hlw]; unfold Tp.scanF; exact Nat.le_trans (List.length_filter_le _ _) hel
          have hl2 : hg.length ≤ 200 := by rw [hhg]; unfold Tp.scanF; exact Nat.le_trans (List.length_filter_le _ _) hel
          rw [← hlw] at hsl
          have HC := Lib.hid hsl
          have HSH := Lib.hid (fun W (h : TSt 600 a root σ ids es tok W) => tst_scan h mid ⟨#[]⟩)
          rw [← hhg] at HSH
          rw [← hlw, ← hhg] at HPA
          clear hsl hlw hhg
          go_wp2_with fail
          refine Calls.mono HC.out ?_
          rintro e w11 ⟨A6, c6, rfl, r6, h11, f11⟩
          have hz11 := f11.size
          have HC7 := Lib.hid (HSH.out w11 h11)
          have HR1 := Lib.hid (HR1.out.fr f11 HSL.out)
          have HR6 := Lib.hid r6
          have HB := Lib.hid (HLW.out _ _ HB.out f11)
          clear r6 h11 f11 HC HSH
          go_wp2_with fail
          refine Calls.mono HC7.out ?_
          rintro e w12 ⟨A7, c7, rfl, r7, h12, f12⟩
          have hz12 := f12.size
          have HR1 := Lib.hid (HR1.out.fr f12 HSL.out)
          have r6 := HR6.out.fr f12 (fun k hk => by have := HSL.out k hk; omega)
          have s6 := (LO.sv r6).ls
          have s7 := (LO.sv r7).ls
          have HB := Lib.hid (HLW.out _ _ HB.out f12)
          have hnil : w12.ownsRow w12.heap.size 38 2 (.slice none 0 0) 0 [] := World.ownsRow_nil _ _ _ _
          have HSA := Lib.hid (LO.sv HR1.out).ls
          have HCONV : Hid (∀ (b : Nat) (W : World) (v' : Value), W.ownsRow b 38 2 v' (lw.length + hg.length) (entE.cells lw ++ entE.cells hg) → W.ownsRow b 38 2 v' es.length (entE.cells es)) := Lib.hid fun b W v' h => by
            have e1 : lw.length + hg.length = es.length := by rw [← HPA.out, List.length_append]
            have e2 : entE.cells lw ++ entE.cells hg = entE.cells es := by rw [← HPA.out, Enc.cells_append]
            rw [e1, e2] at h; exact h
          have HSM : Hid (∀ W A9 c9, LO entE 38 W w12.heap.size (.slice A9 es.length c9) es → LO entE 38 W w12.heap.size (.slice A9 es.length c9) es) := Lib.hid fun W A9 c9 h => h
          clear HC7 h12 f12 r6 r7 HR1 HR6
          go_wp2_with (first
            | (at_builtin; refine wpList_appN rfl (.tmp 165) (.tmp 166) 32 rfl eiEnt Tryz.underlying32 rfl (by decide) rfl hnil rfl s6 (entE.cells_all _) (by unfold maxLen; omega) (by omega) (Nat.le_refl _) ?_; intro v1 w13 hown1 hgrow1 hbel1; simp only [Nat.zero_add, List.nil_append] at hown1; obtain ⟨A8, c8, rfl⟩ := own_form hown1; have s7b := s7.up hbel1; have hz13 := hbel1.size)
            | (at_builtin; refine wpList_appN rfl (.tmp 168) (.tmp 169) 32 rfl eiEnt Tryz.underlying32 rfl (by decide) rfl hown1 rfl s7b (entE.cells_all _) (by unfold maxLen; omega) (by omega) hz13 ?_; intro v2 w14 hown2 hgrow2 hbel2; have hown3 := HCONV.out _ _ _ hown2; obtain ⟨A9, c9, rfl⟩ := own_form hown3))
          have HC9 := Lib.hid (rsame_yes A9 A1 es c9 c1 w14 (LO.sv (show LO entE 38 w14 w12.heap.size (.slice A9 es.length c9) es from hown3)).ls ((HSA.out.below (hbel1.trans hbel2)).more (hbel1.trans hbel2).size) (by omega))
          have HB14 := Lib.hid (HB.out.trans ((hbel1.trans hbel2).mono HB.out.size))
          clear hown1 hown2 hown3 hgrow1 hgrow2 hbel1 hbel2 s6 s7 s7b
          go_wp2_with fail
          refine HC9.out.mono ?_
          rintro e w15 ⟨rfl, b15⟩
          have HEND := Lib.hid (HB14.out.trans (b15.mono HB14.out.size))
          clear b15
          go_wp2
          go_ret
          exact ⟨rfl, HEND.out⟩
theorem tscans_any (A : Option Addr) (len c : Nat) (l : List TAct) (frm mid to_ : ByteArray) (w : World) (he : l.length = len) (hr : LS tactE w w.heap.size A l) :
    Calls Tryz.prog 3 #[.slice A len c, .string frm, .string mid, .string to_] w (TrueEnd w) := by
  subst he
  cases h0 : overT l with
  | true => exact tscans_big A c l frm mid to_ w hr (.inl h0)
  | false =>
    by_cases h1 : 60 < frm.size
    · exact tscans_big A c l frm mid to_ w hr (.inr (.inl h1))
    · by_cases h2 : 60 < mid.size
      · exact tscans_big A c l frm mid to_ w hr (.inr (.inr (.inl h2)))
      · by_cases h3 : 60 < to_.size
        · exact tscans_big A c l frm mid to_ w hr (.inr (.inr (.inr h3)))
        · exact tscans_main A c l frm mid to_ w hr h0 h1 h2 h3
end Go.Proofs.YtpfplojkiloldaaGreatDoor
