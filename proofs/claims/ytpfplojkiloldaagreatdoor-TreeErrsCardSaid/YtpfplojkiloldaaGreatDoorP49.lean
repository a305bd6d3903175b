/- The walk of rootstocklaw13.TreeErrs: it returns true at every input. A slice of structs that came in, opened. The guide's own lemma to copy (extra-structs). A slice of a tree's acts that came in, opened to a list. What the row lists of crc's table, as cells. -/
import Derived.Deep.Slices
import Derived.Deep.Fields
import Derived.ChangeSame
import Derived.ProofKit
import Derived.LaidMore
import Derived.Lay
import Derived.OpenShut
import Derived.Test.YtpfplojkiloldaaGreatDoorP00
import Derived.Test.YtpfplojkiloldaaGreatDoorP09
import Derived.Test.YtpfplojkiloldaaGreatDoorP41
import Derived.Test.YtpfplojkiloldaaGreatDoorP43
import Derived.Test.YtpfplojkiloldaaGreatDoorP46
import Derived.Test.YtpfplojkiloldaaGreatDoorP48
import Derived.Test.YtpfplojkiloldaaGreatDoorRows
set_option maxRecDepth 100000
namespace Go.Proofs.YtpfplojkiloldaaGreatDoor
open Go.RowKit Go.Shelf
set_option maxHeartbeats 1000000 in
theorem terrs_big (k : Int) (A : Option Addr) (c : Nat) (l : List TAct) (A2 : Option Addr) (c2 : Nat) (l2 : List TAct) (w : World) (hr : LS tactE w w.heap.size A l) (hr2 : LS tactE w w.heap.size A2 l2) (h : overT l = true \/ overT l2 = true \/ 200 < k) :
    Calls Tryz.prog 10 #[.int .i64 k, .slice A l.length c, .slice A2 l2.length c2] w (TrueEnd w) := by
  have HW := Lib.hid (works13_any w)
  have HO := Lib.hid (fun W h => over_any A c l W h)
  have HO2 := Lib.hid (fun W h => over_any A2 c2 l2 W h)
  generalize overT l = ov at *
  generalize overT l2 = ov2 at *
  have HR := Lib.hid hr
  have HR2 := Lib.hid hr2
  clear hr hr2
  go_enter Tryz.func10, Tryz.ntmps10
  go_wp2_with fail
  refine Calls.mono HW.out ?_
  rintro e w1 ⟨rfl, b1⟩
  have HC := Lib.hid (HO.out w1 ((HR.out.below b1).more b1.size))
  have HC2 := Lib.hid (HO2.out w1 ((HR2.out.below b1).more b1.size))
  have HB := Lib.hid b1
  clear HO HO2 b1 HW
  go_wp2_with fail
  refine Calls.mono HC.out ?_
  rintro e _ ⟨rfl, rfl⟩
  go_wp2_with fail
  refine Calls.mono HC2.out ?_
  rintro e _ ⟨rfl, rfl⟩
  cases ov with
  | true =>
    go_wp2
    go_ret
    exact ⟨rfl, HB.out⟩
  | false =>
    cases ov2 with
    | true =>
      go_wp2
      go_ret
      exact ⟨rfl, HB.out⟩
    | false =>
      have h3 : 200 < k := by
        rcases h with h | h | h
        · cases h
        · cases h
        · exact h
      clear h
      go_wp2
      go_ret
      exact ⟨rfl, HB.out⟩
set_option maxHeartbeats 8000000 in
theorem terrs_main (k : Int) (A : Option Addr) (c : Nat) (l : List TAct) (A2 : Option Addr) (c2 : Nat) (l2 : List TAct) (w : World) (hr : LS tactE w w.heap.size A l) (hr2 : LS tactE w w.heap.size A2 l2) (hT : HT w) (h1 : overT l = false) (h2 : overT l2 = false) (hk : ¬ 200 < k) :
    Calls Tryz.prog 10 #[.int .i64 k, .slice A l.length c, .slice A2 l2.length c2] w (TrueEnd w) := by
  have hll := overT_no h1
  have hll2 := overT_no h2
  have HW := Lib.hid (works13_any w)
  have ho1 := fun W h => over_any A c l W h
  rw [h1] at ho1
  have ho2 := fun W h => over_any A2 c2 l2 W h
  rw [h2] at ho2
  have HO := Lib.hid ho1
  have HO2 := Lib.hid ho2
  have HR := Lib.hid hr
  have HR2 := Lib.hid hr2
  have HHT := Lib.hid hT
  have HD := Lib.hid (fun W => dfresh_any k W)
  have hn : diskN k <= 200 := by unfold diskN; omega
  generalize diskN k = n at *
  clear hr hr2 ho1 ho2 h1 h2 hT
  go_enter Tryz.func10, Tryz.ntmps10
  go_wp2_with fail
  refine Calls.mono HW.out ?_
  rintro e w1 ⟨rfl, b1⟩
  have HC := Lib.hid (HO.out w1 ((HR.out.below b1).more b1.size))
  have HC2 := Lib.hid (HO2.out w1 ((HR2.out.below b1).more b1.size))
  have HB := Lib.hid b1
  clear HO HO2 b1 HW
  go_wp2_with fail
  refine Calls.mono HC.out ?_
  rintro e _ ⟨rfl, rfl⟩
  go_wp2_with fail
  refine Calls.mono HC2.out ?_
  rintro e _ ⟨rfl, rfl⟩
  clear HC HC2
  go_wp2_with fail
  refine (HD.out _).mono ?_
  rintro e w2 ⟨d, rfl, hd, b2⟩
  have HFF := Lib.hid (ffresh_any hd b2.size)
  have HB2 := Lib.hid (HB.out.trans (b2.mono HB.out.size))
  have HZ2 := Lib.hid b2.size
  clear hd b2 HD
  go_wp2_with fail
  refine HFF.out.mono ?_
  rintro e w3 ⟨f, rfl, hf, b3⟩
  obtain ⟨F, hFB, rfl, rfl, hFk, hA, hON⟩ := file_start (by omega) hf
  have hB3 := HB2.out.trans (b3.mono HB2.out.size)
  have h0 := HHT.out.1
  have hF0 : 0 < F.B := by rw [hFB]; exact Nat.lt_of_lt_of_le h0 HB.out.size
  have hFw : w.heap.size <= F.B := by rw [hFB]; exact HB.out.size
  have hT3 : HT w3 := HHT.out.below hB3 h0
  have hs := tmd_start hA (Int.le_refl 0) (240 * 200 + 60000) (by decide) hON (by decide) hT3 hF0 (by rw [hFB]; exact Nat.le_trans HZ2.out b3.size) none 0 [] 2 RS.nil_ (Nat.zero_le _) (fun id x hx => by cases hx)
  have HS := Lib.hid hs
  have HB3 := Lib.hid hB3
  have HON := Lib.hid hON
  have HFB := Lib.hid (And.intro hF0 hFw)
  have HFK := Lib.hid hFk
  clear hf b3 hFB hA hON hB3 h0 hF0 hFw hT3 hs HFF hFk HZ2
  go_wp2_with fail
  refine Calls.mono HS.out ?_
  rintro e w4 ⟨t, m, rfl, hM, ⟨g1, g2, g3⟩, b4⟩
  have hlo : LowD noDisk [] (pagesN 2 n) := fun id x hx => by cases hx
  have HNW := Lib.hid (fst_new (root := 0) (ids := []) (es := []) (tok := 0) hM g3 (Tp.VerAt.none_ noDisk 0) (Nat.zero_le _) (fun x y h => by cases h) (by omega) hlo)
  have HB4 := Lib.hid (HB3.out.trans (b4.mono HB3.out.size))
  have HTM := Lib.hid (And.intro (Nat.le_trans HB3.out.size g1) (Nat.le_trans HB3.out.size g2))
  have HFD := Lib.hid (Nat.le_trans HFB.out.2 (hM.file.choose_spec.2.2.disk.le.1))
  clear hM g1 g2 g3 b4 hlo HS HB3
  go_wp2_with fail
  refine Calls.mono HNW.out ?_
  rintro e w5 ⟨a, rfl, rfl, rfl, hst, hu, b5⟩
  obtain ⟨used, hused⟩ : ∃ x, x = Rp.minus [(2, pagesN 2 n - 1)] [] := ⟨_, rfl⟩
  rw [<- hused] at hst
  have hFF : ∀ k, FU F a k -> w.heap.size <= k := fun k hk => by
    rcases hk with (rfl | rfl | rfl) | rfl
    · exact HTM.out.1
    · exact HTM.out.2
    · exact HFD.out
    · exact Nat.le_trans HB4.out.size hu
  have HT0 := Lib.hid (show FTr w F n a used noDisk 0 (240 * (200 - 0) + 60000) [] w5 from ⟨⟨_, _, _, _, hst, Nat.le_refl _⟩, hFF, HB4.out.trans (b5.mono HB4.out.size)⟩)
  obtain ⟨b0, hb0⟩ : ∃ b, b = w5.heap.size := ⟨_, rfl⟩
  have hsl : ∀ k, FU F a k -> k < b0 := by rw [hb0]; exact hst.low
  have HSL := Lib.hid hsl
  have hb05 : b0 <= w5.heap.size := Nat.le_of_eq hb0
  have HB05 := Lib.hid (Nat.le_trans (Nat.le_trans HB4.out.size b5.size) (Nat.le_of_eq hb0.symm))
  clear hst hu b5 hFF hsl hb0 HNW HB4 HTM HFD hused
  go_wp2
  go_loopg [13, 14] l.length (fun g s13 s14 wr => ∃ (j : Nat) (es : List Ent) (A1 : Option Addr) (c1 : Nat), s13 = .slice A1 es.length c1 /\ s14 = .int .i64 (j : Nat) /\ j <= l.length /\ l.length - j <= g /\ es.length <= j /\ b0 <= wr.heap.size /\ Hid (FTr w F n a used noDisk j (240 * (200 - j) + 60000) es wr) /\ Hid (LO entE 38 wr b0 (.slice A1 es.length c1) es))
  case atStart => exact ⟨0, [], none, 0, rfl, rfl, Nat.zero_le _, by omega, Nat.le_refl _, hb05, HT0, Lib.hid (LO.nil_ _ _)⟩
  case round =>
    clear HT0 hb05
    obtain ⟨j, es, A1, c1, rfl, rfl, hjl, hjg, hel, hbw, HS, HL⟩ := hrel
    have hwj : IntKind.i64.wrap ((j : Int) + 1) = (j : Int) + 1 := IntWalk.i64_in _ (by omega)
    by_cases hj : j < l.length
    · have hji : (j : Int) < (l.length : Nat) := by omega
      obtain ⟨bb, oo, rfl, hbb, c0, k1, k2⟩ := (HR.out.below HS.out.below).tact hj
      have hbz : bb < wr.heap.size := Nat.lt_of_lt_of_le hbb HS.out.below.size
      generalize l[j] = x at *
      obtain ⟨xk, s, v⟩ := x
      simp only at c0 k1 k2
      clear c0
      cases hm : En.may s v with
      | false =>
        as_aux_lemma =>
        have hma := fun W => may_any s v W
        rw [hm] at hma
        have HMAY := Lib.hid hma
        clear hma hm
        go_wp2
        go_quiet (first | (go_at_call 14; exact Calls.quiet_of_same (HMAY.out _)))
        go_wp2
        go_roundg (l.length - (j + 1))
        case measure => omega
        case rel => exact ⟨j + 1, es, A1, c1, rfl, by go_num, by omega, Nat.le_refl _, by omega, hbw, Lib.hid ((HS.out.up (below_drewN (Below.refl _ _) _)).less (by omega) (by omega)), Lib.hid (HL.out.drewN _)⟩
      | true =>
        have hma := fun W => may_any s v W
        rw [hm] at hma
        have HMAY := Lib.hid hma
        have HMM := Lib.hid hm
        clear hma hm
        go_wp2
        go_quiet (first | (go_at_call 14; exact Calls.quiet_of_same (HMAY.out _)))
        have HS1 := Lib.hid (HS.out.up (below_drewN (Below.refl _ _) nq))
        have HL1 := Lib.hid (HL.out.drewN nq)
        have k1q : (wr.drewN nq).cell? ⟨bb, oo + j * 3 + 1, none⟩ = some (.string s) := k1
        have k2q : (wr.drewN nq).cell? ⟨bb, oo + j * 3 + 2, none⟩ = some (.string v) := k2
        have hbzq : bb < (wr.drewN nq).heap.size := hbz
        have hbwq : b0 <= (wr.drewN nq).heap.size := hbw
        clear HS HL k1 k2 hbz hbw HMAY
        generalize wr.drewN nq = wq at *
        have HPUT : Hid (∀ W, Below wq.heap.size wq W -> Calls Tryz.prog 15 #[.pointer (some ⟨a.u, 0, none⟩), .string s, .string v] W fun e w' => ∃ z : Int, e = .returned (.int .i64 z) /\ Hid (PuEnd w F n a used noDisk (j + 1) (240 * (200 - (j + 1)) + 60000) (En.put es s v) z w') /\ Hid (LO entE 38 w' b0 (.slice A1 es.length c1) es) /\ Below w.heap.size wq w' /\ b0 <= w'.heap.size /\ Hid (Below w.heap.size w w')) := Lib.hid fun W hW => by
          have h2 := (HS1.out.up hW).less (T' := j) (r' := 240 * (200 - (j + 1)) + 60000 + 240) (by omega) (Nat.le_refl _)
          refine (ftr_put h2 HMM.out (by omega)).mono ?_
          rintro e w' ⟨z, rfl, h3, h4, h5⟩
          exact ⟨z, rfl, Lib.hid h3, Lib.hid ((HL1.out.below hW).fr h4 HSL.out), (hW.mono HS1.out.below.size).trans h5, Nat.le_trans (Nat.le_trans hbwq hW.size) h4.size, Lib.hid (h2.below.trans h5)⟩
        have hbbw : bb < w.heap.size := hbb
        have hww : w.heap.size <= wq.heap.size := HS1.out.below.size
        clear HS1 HL1
        go_wp2
        have hS0 : wq.cell? ⟨bb, oo + j * 3 + 1, none⟩ = some (.string s) /\ wq.cell? ⟨bb, oo + j * 3 + 2, none⟩ = some (.string v) := ⟨k1q, k2q⟩
        go_region_held3 (fun W => W.cell? ⟨bb, oo + j * 3 + 1, none⟩ = some (.string s) /\ W.cell? ⟨bb, oo + j * 3 + 2, none⟩ = some (.string v)) (first | exact hS0 | exact hS2)
          (first
          | (go_at_call 15; refine Calls.mono (HPUT.out _ (by first | exact Below.refl _ _ | exact (Below.refl _ _).drew)) ?_; rintro e w5 ⟨z, rfl, HP5, HL5, hb5, hbw5, HBW5⟩; have hS2 : w5.cell? ⟨bb, oo + j * 3 + 1, none⟩ = some (.string s) /\ w5.cell? ⟨bb, oo + j * 3 + 2, none⟩ = some (.string v) := ⟨(hb5.cell (p := ⟨bb, oo + j * 3 + 1, none⟩) hbb).trans hS0.1, (hb5.cell (p := ⟨bb, oo + j * 3 + 2, none⟩) hbb).trans hS0.2⟩))
        all_goals
          have hb5s : w.heap.size <= w5.heap.size := Nat.le_trans hww hb5.size
          clear HPUT hb5 hS0
          have HRP : Hid (∀ W, Below w5.heap.size w5 W -> Calls Tryz.prog 20 #[.slice A1 es.length c1, .string s, .string v] W (LEnd entE 38 (En.put es s v) W)) := Lib.hid fun W h => rput_any A1 c1 es s v W (LO.sv (HL5.out.below h)).ls (by omega)
          rcases HP5.out with ⟨rfl, hft⟩ | ⟨rfl, hfe⟩
          · as_aux_lemma =>
            have HFT := Lib.hid hft
            have hle : (En.put es s v).length <= j + 1 := by have := eput_len (k := s) (v := v) es; have := dput_le es s; omega
            clear HP5 hft
            go_wp2
            go_region_held3 (fun W => W.cell? ⟨bb, oo + j * 3 + 1, none⟩ = some (.string s) /\ W.cell? ⟨bb, oo + j * 3 + 2, none⟩ = some (.string v)) (first | exact hS2 | exact hS3)
              (first
              | (go_at_call 20; refine Calls.mono (HRP.out _ (by first | exact Below.refl _ _ | exact (Below.refl _ _).drew)) ?_; intro e w6 he6; obtain ⟨A6, c6, rfl, r6, ls6, b6⟩ := he6.open_; have hS3 : w6.cell? ⟨bb, oo + j * 3 + 1, none⟩ = some (.string s) /\ w6.cell? ⟨bb, oo + j * 3 + 2, none⟩ = some (.string v) := ⟨(b6.cell (p := ⟨bb, oo + j * 3 + 1, none⟩) (Nat.lt_of_lt_of_le hbbw hb5s)).trans hS2.1, (b6.cell (p := ⟨bb, oo + j * 3 + 2, none⟩) (Nat.lt_of_lt_of_le hbbw hb5s)).trans hS2.2⟩; have R6 := Lib.hid r6; have HB6 := Lib.hid b6; clear he6 ls6 r6 b6))
            all_goals
              have hb6 := HB6.out.size
              have HE6 : Hid (FTr w F n a used noDisk (j + 1) (240 * (200 - (j + 1)) + 60000) (En.put es s v) w6 /\ LO entE 38 w6 b0 (.slice A6 (En.put es s v).length c6) (En.put es s v) /\ b0 <= w6.heap.size) := Lib.hid ⟨by first | exact HFT.out.up HB6.out | exact (HFT.out.up (Below.refl _ _).drew).up HB6.out, R6.out.lower hbw5, Nat.le_trans hbw5 hb6⟩
              generalize En.put es s v = es6 at *
              go_wp2
              go_roundg (l.length - (j + 1))
              case measure => omega
              case rel => exact ⟨j + 1, es6, A6, c6, rfl, by go_num, by omega, Nat.le_refl _, hle, HE6.out.2.2, Lib.hid HE6.out.1, Lib.hid HE6.out.2.1⟩
          · as_aux_lemma =>
            obtain ⟨_, root, σ, ho⟩ := hfe
            have HE := Lib.hid (terr_any a.u root 2 w5 ho.self)
            clear HP5 ho HRP
            go_wp2_with fail
            refine HE.out.mono ?_
            rintro e _ ⟨rfl, rfl⟩
            go_wp2
            go_ret
            exact ⟨rfl, HBW5.out⟩
    · obtain rfl : j = l.length := by omega
      have hji : ¬ (l.length : Int) < (l.length : Nat) := by omega
      obtain ⟨⟨root, σ, ids, tok, hst, htok⟩, hF, hbel⟩ := HS.out.less (r' := 60000) (by omega) (Nat.le_refl _)
      have HFL := Lib.hid (fst_flush2 hst HON.out (by decide) (by rw [HFK.out]; decide) (by have := hst.mineLe; omega))
      have HML := Lib.hid hst.mineLe
      have HBE := Lib.hid hbel
      have HTK := Lib.hid htok
      clear hst htok hF hbel HS HON HFK hjg hwj hj hjl HSL hbw HR HB HB2
      go_wp2_with fail
      refine HFL.out.mono ?_
      rintro e w6 ⟨rfl, F', disk', hfl⟩
      obtain ⟨f1, f2, f3, f4⟩ := hfl.same
      have HRW := Lib.hid (hfl.row _ _ _ _ _ _ HL.out (by decide) (by decide) (by decide))
      have hB6 : Below w.heap.size w w6 := HBE.out.trans (hfl.below.mono (HFB.out.2))
      have HRT := Lib.hid (troot_any a.u root 0 w6 hfl.self)
      have HRDY := Lib.hid hfl.ready
      have HVER := Lib.hid hfl.ver
      have HLOW := Lib.hid hfl.low
      have HTX := Lib.hid hfl.tx
      have HPG := Lib.hid hfl.pg
      have HFR := Lib.hid hfl.fl
      have HB6 := Lib.hid hB6
      have HF1 := Lib.hid (show w.heap.size <= F'.B by rw [f1]; exact HFB.out.2)
      have HN' : Hid (0 + σ.mine.length <= 200) := Lib.hid (by have := HML.out; omega)
      obtain ⟨N', hN'⟩ : ∃ x, x = 0 + σ.mine.length := ⟨_, rfl⟩
      rw [<- hN'] at HRDY HN'
      obtain ⟨free, hfree⟩ : ∃ x, x = σ.free := ⟨_, rfl⟩
      obtain ⟨P, hP⟩ : ∃ x, x = σ.pages := ⟨_, rfl⟩
      rw [<- hfree, <- hP] at HTX
      rw [<- hfree] at HFR HLOW
      rw [<- hP] at HLOW HPG
      have HF2 := Lib.hid f2
      clear hfl f1 f2 f3 f4 hB6 HL HBE HFL HML hN' hfree hP
      go_wp2_with fail
      refine HRT.out.mono ?_
      rintro e w6 ⟨rfl, rfl⟩
      clear HRT
      have HTXN : Hid (∀ W R, F'.At W R -> TxB F' a.t n free P w6.heap.size W -> ∃ m k D, Txn W a.t m F'.f n free P k D) := Lib.hid fun W R hA h => h.txn hA (by obtain ⟨cc, c1, c2⟩ := HRDY.out.on.c; exact c1.ok.size)
      have HFREE : Hid (∀ W, FReady F' n disk' N' 0 W -> TxB F' a.t n free P w6.heap.size W -> Calls Tryz.prog 40 #[.pointer (some ⟨a.t, 0, none⟩)] W (RunsEnd free W)) := Lib.hid fun W h h2 => by
        obtain ⟨_, ⟨R, _, _, hA⟩, _⟩ := h
        obtain ⟨m, k, D, hx⟩ := HTXN.out W R hA h2
        exact tfree_any a.t m F'.f n k free P D W hx (by have := HFR.out; omega)
      have HPAGES : Hid (∀ W, FReady F' n disk' N' 0 W -> TxB F' a.t n free P w6.heap.size W -> Calls Tryz.prog 39 #[.pointer (some ⟨a.t, 0, none⟩)] W fun e w' => e = .returned (.int .i64 P) /\ w' = W) := Lib.hid fun W h h2 => by
        obtain ⟨_, ⟨R, _, _, hA⟩, _⟩ := h
        obtain ⟨m, k, D, hx⟩ := HTXN.out W R hA h2
        exact tpages_any a.t m F'.f n k free P D W hx
      have HNO : Hid (∀ x y, disk' x = some y -> noPage n x = false) := Lib.hid fun x y h => by
        obtain ⟨cc, c1, c2⟩ := HRDY.out.on.c
        exact (c2 x y h).2.1
      have HF6 := Lib.hid (HFREE.out w6 (HRDY.out.less (Nat.zero_le _)) HTX.out)
      go_wp2_with fail
      refine Calls.mono HF6.out ?_
      intro e w7 he
      obtain ⟨A7, c7, rfl, _, rs7, b7⟩ := he.open_
      have HP7 := Lib.hid (HPAGES.out w7 ((HRDY.out.less (Nat.zero_le _)).below b7) (HTX.out.fr (S := fun _ => False) (.of_below b7) (fun _ a => a.elim)))
      have hbg := fr_begin (HRDY.out.below b7) (by have := HN'.out; omega) A7 c7 free P P HPG.out rs7 HFR.out HLOW.out
      rw [HF2.out] at hbg
      have HBG := Lib.hid hbg
      clear hbg
      have HB7 := Lib.hid b7
      clear he rs7 b7 HF6
      go_wp2_with fail
      refine HP7.out.mono ?_
      rintro e w7 ⟨rfl, rfl⟩
      clear HP7
      go_wp2_with fail
      refine Calls.mono HBG.out ?_
      rintro e w8 ⟨t2, m2, rfl, hM, ⟨g1, g2, g3⟩, b8⟩
      have HNW := Lib.hid (fst_new (root := root) hM g3 HVER.out (by have := HTK.out; omega) HNO.out (by omega) HLOW.out)
      have HB8 := Lib.hid (HB7.out.trans (b8.mono HB7.out.size))
      have HTM := Lib.hid (And.intro (Nat.le_trans HB7.out.size g1) (Nat.le_trans HB7.out.size g2))
      clear hM g1 g2 g3 b8 HBG HB7
      go_wp2_with fail
      refine Calls.mono HNW.out ?_
      rintro e w9 ⟨a2, rfl, rfl, rfl, hst, hu, b9⟩
      obtain ⟨used2, hused⟩ : ∃ x, x = Rp.minus [(2, P - 1)] free := ⟨_, rfl⟩
      rw [<- hused] at hst
      have HSU : Hid (∀ k, FU F' a2 k -> k = F'.d \/ w6.heap.size <= k) := Lib.hid fun k hk => by
        rcases hk with (rfl | rfl | rfl) | rfl
        · exact .inr HTM.out.1
        · exact .inr HTM.out.2
        · exact .inl rfl
        · exact .inr (Nat.le_trans HB8.out.size hu)
      have HU0 : Hid (UAt F' n a2 used2 disk' (200 + 0) (288 * (200 - 0) + 2400) 0 w9) := Lib.hid (.inl ⟨rfl, _, _, _, _, _, hst, by have := HTK.out; omega⟩)
      have HFS0 : Hid (Fr (fun k => k = F'.d \/ w6.heap.size <= k) w6 w9) := Lib.hid (.of_below (HB8.out.trans (b9.mono HB8.out.size)))
      have HLWR : Hid (∀ W, Fr (fun k => k = F'.d \/ w6.heap.size <= k) w6 W -> Below w.heap.size w W) := Lib.hid fun W hf => HB6.out.trans (hf.low HB6.out.size (fun k hk => by
        rcases hk with rfl | hk
        · exact Nat.le_trans HF1.out HRDY.out.dlt.1
        · exact Nat.le_trans HB6.out.size hk))
      clear hst hu b9 hused HNW HB8 HTM
      go_wp2
      go_loopg [19] l2.length (fun g s19 wr => ∃ (j : Nat) (z : Int), s19 = .int .i64 (j : Nat) /\ j <= l2.length /\ l2.length - j <= g /\ Hid (UAt F' n a2 used2 disk' (200 + j) (288 * (200 - j) + 2400) z wr) /\ Hid (Fr (fun k => k = F'.d \/ w6.heap.size <= k) w6 wr))
      case atStart => exact ⟨0, 0, rfl, Nat.zero_le _, by omega, HU0, HFS0⟩
      case round =>
        clear HU0 HFS0
        obtain ⟨j, z, rfl, hjl, hjg, HU, HFS⟩ := hrel
        have hwj : IntKind.i64.wrap ((j : Int) + 1) = (j : Int) + 1 := IntWalk.i64_in _ (by omega)
        by_cases hj : j < l2.length
        · have hji : (j : Int) < (l2.length : Nat) := by omega
          have hbl := HLWR.out _ HFS.out
          obtain ⟨bb, oo, rfl, hbb, k0, k1, k2⟩ := (HR2.out.below hbl).tact hj
          have hbz : bb < wr.heap.size := Nat.lt_of_lt_of_le hbb hbl.size
          generalize l2[j] = x at *
          obtain ⟨xk, s, v⟩ := x
          simp only at k0 k1 k2
          have HER := Lib.hid (uat_err HU.out)
          clear hbl
          go_wp2_with fail
          refine HER.out.mono ?_
          rintro e wr ⟨rfl, rfl⟩
          clear HER
          have hU := HU.out.less (r' := 288 * (200 - (j + 1)) + 2400 + 288) (T' := 200 + j) (by omega) (Nat.le_refl _)
          by_cases h2k : xk.tmod 3 = 2
          · as_aux_lemma =>
            have q2 : (xk.tmod 3 == 2) = true := by simpa using h2k
            have HD := Lib.hid (uat_del hU s)
            clear hU
            go_wp2_with fail
            refine Calls.mono HD.out ?_
            rintro e wd ⟨b, v1, z', rfl, htold, hu2, hf2⟩
            have HEE := Lib.hid (uat_err hu2)
            have HU2 := Lib.hid (hu2.less (Nat.le_refl _) (show 200 + j <= 200 + (j + 1) by omega))
            have HFS2 := Lib.hid (HFS.out.trans (hf2.more HSU.out))
            clear hu2 hf2 HD
            rcases htold with ⟨rfl, rfl, rfl⟩ | ⟨rfl, rfl, rfl⟩ | ⟨rfl, rfl, rfl⟩
            all_goals
              go_wp2_with fail
              refine HEE.out.mono ?_
              rintro e wd ⟨rfl, rfl⟩
              go_wp2
              go_roundg (l2.length - (j + 1))
              case measure => omega
              case rel => exact ⟨j + 1, _, by go_num, by omega, Nat.le_refl _, HU2, HFS2⟩
          · have q2 : (xk.tmod 3 == 2) = false := by simpa using h2k
            have HPUT : Hid (∀ W, Below wr.heap.size wr W -> Calls Tryz.prog 15 #[.pointer (some ⟨a2.u, 0, none⟩), .string s, .string v] W fun e w' => ∃ v1 z' : Int, e = .returned (.int .i64 v1) /\ Hid (Told z v1 z' \/ (z = 0 /\ v1 = 110 /\ z' = 0)) /\ Hid (UAt F' n a2 used2 disk' (200 + j + 1) (288 * (200 - (j + 1)) + 2400) z' w') /\ Hid (Fr (fun k => k = F'.d \/ w6.heap.size <= k) w6 w') /\ Below w.heap.size wr w') := Lib.hid fun W hW => by
              refine (uat_put (hU.below hW) s v (by omega)).mono ?_
              rintro e w' ⟨v1, z', rfl, h1, h2, h3⟩
              have h4 : Fr (fun k => k = F'.d \/ w6.heap.size <= k) wr w' := (Fr.of_below hW).trans (h3.more HSU.out)
              exact ⟨v1, z', rfl, Lib.hid h1, Lib.hid h2, Lib.hid (HFS.out.trans h4), h4.low (HLWR.out _ HFS.out).size (fun k hk => by
                rcases hk with rfl | hk
                · exact Nat.le_trans HF1.out HRDY.out.dlt.1
                · exact Nat.le_trans HB6.out.size hk)⟩
            have hbbw : bb < w.heap.size := hbb
            have hwwr : w.heap.size <= wr.heap.size := (HLWR.out _ HFS.out).size
            clear hU HU HFS
            go_wp2
            have hS0 : wr.cell? ⟨bb, oo + j * 3 + 1, none⟩ = some (.string s) /\ wr.cell? ⟨bb, oo + j * 3 + 2, none⟩ = some (.string v) := ⟨k1, k2⟩
            go_region_held3 (fun W => W.cell? ⟨bb, oo + j * 3 + 1, none⟩ = some (.string s) /\ W.cell? ⟨bb, oo + j * 3 + 2, none⟩ = some (.string v)) (first | exact hS0 | exact hS2)
              (first
              | (go_at_call 15; refine Calls.mono (HPUT.out _ (by first | exact Below.refl _ _ | exact (Below.refl _ _).drew)) ?_; rintro e wd ⟨v1, z', rfl, htold, HU2, HFS2, hb5⟩; have hS2 : wd.cell? ⟨bb, oo + j * 3 + 1, none⟩ = some (.string s) /\ wd.cell? ⟨bb, oo + j * 3 + 2, none⟩ = some (.string v) := ⟨(hb5.cell (p := ⟨bb, oo + j * 3 + 1, none⟩) hbb).trans hS0.1, (hb5.cell (p := ⟨bb, oo + j * 3 + 2, none⟩) hbb).trans hS0.2⟩))
            all_goals
              have HEE := Lib.hid (uat_err HU2.out)
              have htold2 := htold.out
              clear HPUT hb5 hS0 htold
              rcases htold2 with (⟨rfl, rfl, rfl⟩ | ⟨rfl, rfl, rfl⟩ | ⟨rfl, rfl, rfl⟩) | ⟨rfl, rfl, rfl⟩
              · go_wp2
                go_roundg (l2.length - (j + 1))
                case measure => omega
                case rel => exact ⟨j + 1, _, by go_num, by omega, Nat.le_refl _, HU2, HFS2⟩
              all_goals
                go_wp2_with fail
                refine HEE.out.mono ?_
                rintro e wd ⟨rfl, rfl⟩
                go_wp2
                go_roundg (l2.length - (j + 1))
                case measure => omega
                case rel => exact ⟨j + 1, _, by go_num, by omega, Nat.le_refl _, HU2, HFS2⟩
        · obtain rfl : j = l2.length := by omega
          have hji : ¬ (l2.length : Int) < (l2.length : Nat) := by omega
          have HU2 := Lib.hid (HU.out.less (r' := 2400) (T' := 400) (by omega) (by omega))
          clear HU hjg hwj hj hjl
          have HER := Lib.hid (uat_err HU2.out)
          go_wp2_with fail
          refine HER.out.mono ?_
          rintro e wr ⟨rfl, rfl⟩
          clear HER
          go_upto_if 217 with fail
          go_cut [24, 25, 26, 27, 28] from 215 to 273 (fun _ _ _ _ _ wx => Hid (UAt F' n a2 used2 disk' 400 2400 z wx) /\ Hid (Fr (fun k => k = F'.d \/ w6.heap.size <= k) w6 wx))
          case first => as_aux_lemma =>
            rcases HU2.out.zs with rfl | rfl
            · go_wp2
              go_meet
              exact ⟨HU2, HFS⟩
            · obtain ⟨root2, hself⟩ := HU2.out.self
              have HG := Lib.hid (tget_err a2.u root2 ⟨#[97]⟩ wr hself)
              have HSF := Lib.hid hself
              clear hself
              go_wp2_with fail
              refine HG.out.mono ?_
              rintro e wa ⟨rfl, ba⟩
              have HSC := Lib.hid (scan_err a2.u root2 ⟨#[]⟩ ⟨#[]⟩ wa (HSF.out.below ba HSF.out.lt))
              have HU3 := Lib.hid (HU2.out.below ba)
              have HF3 := Lib.hid (HFS.out.trans (.of_below ba))
              clear ba HG HU2 HFS HSF
              go_wp2_with fail
              refine HSC.out.mono ?_
              rintro e wb ⟨rfl, b2⟩
              have HU4 := Lib.hid (HU3.out.below b2)
              have HF4 := Lib.hid (HF3.out.trans (.of_below b2))
              have HE4 := Lib.hid (uat_err HU4.out)
              clear b2 HSC HU3 HF3
              go_wp2_with fail
              refine HE4.out.mono ?_
              rintro e wb ⟨rfl, rfl⟩
              go_wp2_with fail
              refine HE4.out.mono ?_
              rintro e wb ⟨rfl, rfl⟩
              go_wp2
              go_meet
              exact ⟨HU4, HF4⟩
          case rest => as_aux_lemma =>
            obtain ⟨HU5, HFS5⟩ := hcut
            obtain ⟨wd, rfl⟩ : ∃ z, z = wc := ⟨_, rfl⟩
            obtain ⟨σu, htm⟩ := HU5.out.tmd
            have HRD5 := Lib.hid (FReady.of htm HRDY.out.on)
            have HTX5 := Lib.hid (HTX.out.fr HFS5.out (fun g hg => hg))
            have HROW : Hid (∀ W, Fr (fun k => k = F'.d \/ w6.heap.size <= k) w6 W -> LO entE 38 W b0 (.slice A1 es.length c1) es) := Lib.hid fun W hf => lo_frb HRW.out hf (fun g hg => by
              obtain ⟨cs, hB, _⟩ := HRW.out.blk_ hg
              obtain ⟨R, _, _, hA⟩ := HRDY.out.file
              rintro (e | e)
              · exact hB.ne_ hA.disk.self (by decide) e
              · have := hB.lt; omega)
            have HF6 := Lib.hid (HFREE.out wd (HRD5.out.less (Nat.zero_le _)) HTX5.out)
            clear htm HU5 HU2 HFS
            go_wp2_with fail
            refine Calls.mono HF6.out ?_
            intro e w7 he
            obtain ⟨A7, c7, rfl, _, rs7, b7⟩ := he.open_
            have HP7 := Lib.hid (HPAGES.out w7 ((HRD5.out.less (Nat.zero_le _)).below b7) (HTX5.out.fr (S := fun _ => False) (.of_below b7) (fun _ a => a.elim)))
            have hbg := fr_begin (HRD5.out.below b7) (by have := HN'.out; omega) A7 c7 free P P HPG.out rs7 HFR.out HLOW.out
            rw [HF2.out] at hbg
            have HBG := Lib.hid hbg
            have HB7 := Lib.hid b7
            clear he rs7 b7 HF6 hbg
            go_wp2_with fail
            refine HP7.out.mono ?_
            rintro e w7 ⟨rfl, rfl⟩
            clear HP7
            go_wp2_with fail
            refine Calls.mono HBG.out ?_
            rintro e w8 ⟨t3, m3, rfl, hM, ⟨g1, g2, g3⟩, b8⟩
            have HNW := Lib.hid (fst_new (root := root) hM g3 HVER.out (by have := HTK.out; omega) HNO.out (by omega) HLOW.out)
            have HB8 := Lib.hid (HB7.out.trans (b8.mono HB7.out.size))
            have HTM := Lib.hid (And.intro (Nat.le_trans HB7.out.size g1) (Nat.le_trans HB7.out.size g2))
            clear hM g1 g2 g3 b8 HBG HB7
            go_wp2_with fail
            refine Calls.mono HNW.out ?_
            rintro e w9 ⟨a3, rfl, rfl, rfl, hst, hu, b9⟩
            have hfw := hst.rt.few
            have hel2 := hst.rt.len
            have HWH := Lib.hid (wholeD_any (hst.less (show 0 + 2 * ids.length <= 2400 by have := HTK.out; omega)) (by have := HTK.out; omega))
            have HFS9 := Lib.hid (HFS5.out.trans (.of_below (HB8.out.trans (b9.mono HB8.out.size))))
            have HS3 : Hid (∀ k, SD F' a3.t a3.m k -> k = F'.d \/ w6.heap.size <= k) := Lib.hid fun k hk => by
              have hz := HFS5.out.size
              rcases hk with rfl | rfl | rfl
              · exact .inr (Nat.le_trans hz HTM.out.1)
              · exact .inr (Nat.le_trans hz HTM.out.2)
              · exact .inl rfl
            clear hst hu b9 HNW HB8 HTM hfw
            go_wp2_with fail
            refine Calls.mono HWH.out ?_
            rintro e wz ⟨A9, c9, rfl, r9, _, f9⟩
            have hfz := HFS9.out.trans (f9.more HS3.out)
            have HSM := Lib.hid (rsame_yes A9 A1 es c9 c1 wz (LO.sv r9).ls (LO.sv (HROW.out wz hfz)).ls (by have := HTK.out; omega))
            have HBZ := Lib.hid (HLWR.out wz hfz)
            clear r9 f9 hfz hel2
            go_wp2_with fail
            refine HSM.out.mono ?_
            rintro e wy ⟨rfl, by_⟩
            have HBY := Lib.hid (HBZ.out.trans (by_.mono HBZ.out.size))
            clear by_
            go_wp2
            go_ret
            exact ⟨rfl, HBY.out⟩
theorem terrs_any (k : Int) (A : Option Addr) (n c : Nat) (l : List TAct) (A2 : Option Addr) (n2 c2 : Nat) (l2 : List TAct) (w : World) (he : l.length = n) (hr : LS tactE w w.heap.size A l) (he2 : l2.length = n2) (hr2 : LS tactE w w.heap.size A2 l2) (hT : HT w) :
    Calls Tryz.prog 10 #[.int .i64 k, .slice A n c, .slice A2 n2 c2] w (TrueEnd w) := by
  subst he he2
  cases h1 : overT l with
  | true => exact terrs_big k A c l A2 c2 l2 w hr hr2 (.inl h1)
  | false =>
    cases h2 : overT l2 with
    | true => exact terrs_big k A c l A2 c2 l2 w hr hr2 (.inr (.inl h2))
    | false =>
      by_cases hk : 200 < k
      · exact terrs_big k A c l A2 c2 l2 w hr hr2 (.inr (.inr hk))
      · exact terrs_main k A c l A2 c2 l2 w hr hr2 hT h1 h2 hk
end Go.Proofs.YtpfplojkiloldaaGreatDoor
namespace Go.Proofs.YtpfplojkiloldaaGreatDoor
open Go.RowKit Go.ChangeShapes Go.WideShapes Go.Deep
section
variable {H : Type} {enc : TypeId × Value -> H} {P : Program} {w : World} {base : Nat} {spare : Nat -> Bool} {held : Bool}
theorem open_slice_fields {t e : TypeId} {fs : Array Field} {fuel : Nat} {cs : List Value} {x : DataW H × List MemPlace} (ht : P.underlying t = some (.slice e)) (he : P.underlying e = some (.struct fs))
    (hone : oneCellFields P fs = true) (hC : P.cellsOf e = fs.size) (h : DataW.trod enc P w base spare held fuel t cs = some x) :
    (cs = [.slice none 0 0] /\ x = (.nil, [])) \/
    ∃ (a : Addr) (len cap m : Nat) (D : Nat -> DataW H) (Pl : Nat -> List MemPlace), cs = [.slice (some a) len cap] /\ base <= a.block /\ len <= cap /\ cap <= maxLen /\ m = (if spare a.block then cap else len) /\
      x = (.slice ((List.range len).map D) ((List.range (m - len)).map fun j => D (len + j)), MemPlace.row a (m * fs.size) ++ (List.range m).flatMap Pl) /\
      ∀ i, i < m -> ∃ (ys : List (DataW H × List MemPlace)) (n : Nat), D i = .agg (ys.map (·.1)) /\ Pl i = ys.flatMap (·.2) /\ ys.length = fs.size /\
        ∀ (j : Nat) (f : Field), fs[j]? = some f -> ∃ (v : Value) (y : DataW H × List MemPlace), w.cell? (a.add (i * fs.size + j)) = some v /\ ys[j]? = some y /\ DataW.trod enc P w base spare held n f.type [v] = some y := by
  rcases open_slice ht h with h0 | ⟨a, len, cap, m, n, D, Pl, hcs, hb, hl, hm, hmm, hx, hi⟩
  · exact .inl h0
  · refine .inr ⟨a, len, cap, m, D, Pl, hcs, hb, hl, hm, hmm, by rw [hC] at hx; exact hx, fun i him => ?_⟩
    obtain ⟨cs', hc, ht'⟩ := hi i him
    rw [hC] at hc
    obtain ⟨ys, n', hn', hy, hlen, hyl, hf⟩ := DataW.trod_struct he ht'
    obtain ⟨_, hcl, hat⟩ := World.cells?_some hc
    simp only [Prod.mk.injEq] at hy
    refine ⟨ys, n', hy.1, hy.2, hyl, fun j f hj => ?_⟩
    obtain ⟨ho, hk⟩ := hone_of hone j f hj
    have hjl : j < fs.size := (Array.getElem?_eq_some_iff.1 hj).1
    have hcell := hat j hjl
    have hv : cs'[j]? = some (cs'[j]'(by omega)) := List.getElem?_eq_getElem (by omega)
    have h1 := hf j f hj
    rw [ho, hk] at h1
    have hone' : (cs'.drop j).take 1 = [cs'[j]'(by omega)] := by
      rw [List.drop_eq_getElem_cons (by omega)]
      rfl
    rw [hone'] at h1
    have hys : ys[j]? = some (ys[j]'(by omega)) := List.getElem?_eq_getElem (by omega)
    refine ⟨_, _, ?_, hys, h1.trans hys⟩
    rw [<- Go.Deep.add_add, hcell, hv]
end
end Go.Proofs.YtpfplojkiloldaaGreatDoor
namespace Go.Proofs.YtpfplojkiloldaaGreatDoor
open Go.RowKit Go.ChangeShapes Go.WideShapes Go.Deep
section
variable {H : Type} {enc : TypeId × Value -> H}
theorem open_tacts {W : World} {A : Option Addr} {len cap : Nat} {d : DataW H} {p : List MemPlace} (h : DataW.Trod enc Tryz.prog W 0 (fun _ => true) true 22 (.slice A len cap) d p) :
    ∃ l : List TAct, l.length = len /\ LS tactE W W.heap.size A l /\ ∀ x ∈ l, (Lit.int .i64 x.1).wf = true := by
  obtain ⟨fuel, hf⟩ := h
  rcases open_slice_fields Tryz.underlying22 Tryz.underlying29 (by kernel_rfl) (by kernel_rfl) hf with ⟨hcs, _⟩ | ⟨a, len', cap', m, D, Pl, hcs, _, hl, hm, hmm, hx, hi⟩
  · simp [Value.cells] at hcs
    obtain ⟨rfl, rfl, rfl⟩ := hcs
    exact ⟨[], rfl, LS.nil_, fun x hx => by cases hx⟩
  · simp [Value.cells] at hcs
    obtain ⟨rfl, rfl, rfl⟩ := hcs
    simp only [if_true] at hmm
    subst hmm
    have key : ∀ i, ∃ r : TAct, i < len -> (W.cell? (a.add (i * 3)) = some (.int .i64 r.1) /\ W.cell? (a.add (i * 3 + 1)) = some (.string r.2.1) /\ W.cell? (a.add (i * 3 + 2)) = some (.string r.2.2)) /\ (Lit.int .i64 r.1).wf = true := by
      intro i
      by_cases hil : i < len
      · obtain ⟨ys, n, _, _, hys, hfld⟩ := hi i (by omega)
        obtain ⟨v0, y0, hc0, _, t0⟩ := hfld 0 _ rfl
        obtain ⟨v1, y1, hc1, _, t1⟩ := hfld 1 _ rfl
        obtain ⟨v2, y2, hc2, _, t2⟩ := hfld 2 _ rfl
        obtain ⟨x0, e0, _, w0⟩ := DataW.trod_int Tryz.underlying3 t0
        obtain ⟨x1, e1, _⟩ := DataW.trod_string Tryz.underlying9 t1
        obtain ⟨x2, e2, _⟩ := DataW.trod_string Tryz.underlying9 t2
        simp at e0 e1 e2
        subst e0 e1 e2
        exact ⟨⟨x0, x1, x2⟩, fun _ => ⟨⟨hc0, hc1, hc2⟩, w0⟩⟩
      · exact ⟨⟨0, ⟨#[]⟩, ⟨#[]⟩⟩, fun h => absurd h hil⟩
    obtain ⟨f, hfs⟩ : ∃ f : Nat -> TAct, ∀ i, i < len -> (W.cell? (a.add (i * 3)) = some (.int .i64 (f i).1) /\ W.cell? (a.add (i * 3 + 1)) = some (.string (f i).2.1) /\ W.cell? (a.add (i * 3 + 2)) = some (.string (f i).2.2)) /\ (Lit.int .i64 (f i).1).wf = true := ⟨fun i => Classical.choose (key i), fun i => Classical.choose_spec (key i)⟩
    clear key
    refine ⟨(List.range len).map f, by simp, ⟨tactE.cells_length _, fun hpos => ⟨a, rfl, ?_, ?_⟩⟩, ?_⟩
    · have := (hfs 0 (by simpa using hpos)).1.1
      have hb := World.block_lt_of_cell? W _ this
      rwa [block_of_add] at hb
    · intro j u hu
      have hjl : j < len * 3 := by
        have := (List.getElem?_eq_some_iff.1 hu).1
        rw [tactE.cells_length] at this; simpa [tactE] using this
      have h0 := tactE.cells_at ((List.range len).map f) (j / 3) (by simp; omega) (j % 3) (by show j % 3 < 3; omega)
      have e : j / 3 * tactE.size + j % 3 = j := by show j / 3 * 3 + j % 3 = j; omega
      rw [e, hu] at h0
      simp only [List.getElem_map, List.getElem_range] at h0
      have hs := (hfs (j / 3) (by omega)).1
      have hm : j % 3 = 0 \/ j % 3 = 1 \/ j % 3 = 2 := by omega
      rcases hm with hm | hm | hm
      · rw [hm] at h0; injection h0 with h0; subst h0; rw [<- hs.1, show j / 3 * 3 = j by omega]
      · rw [hm] at h0; injection h0 with h0; subst h0; rw [<- hs.2.1, show j / 3 * 3 + 1 = j by omega]
      · rw [hm] at h0; injection h0 with h0; subst h0; rw [<- hs.2.2, show j / 3 * 3 + 2 = j by omega]
    · intro x hx
      obtain ⟨i, hi', rfl⟩ := List.mem_map.1 hx
      exact (hfs i (List.mem_range.1 hi')).2
end
end Go.Proofs.YtpfplojkiloldaaGreatDoor
namespace Go.Proofs.YtpfplojkiloldaaGreatDoor
open Go.ChangeShapes Go.WideShapes Go.ChangeAt Go.RowKit
def laid3 : List (String × DataW Unit) := [("rootstock/crc.halves", Rows.laid_rootstock_crc_halves), ("unicode/utf8.acceptRanges", Rows.laid_unicode_utf8_acceptRanges), ("unicode/utf8.first", Rows.laid_unicode_utf8_first)]
theorem halves_hv : (Rows.laid_rootstock_crc_halves : DataW Unit) = .agg (Cc.hv.map fun n : Nat => .lit (.int .u32 (n : Int))) := by kernel_rfl
theorem ht_of {W : World} (h : laidMetH Tryz.prog laid3 W) : HT W := by
  rw [MakeChecks.laidMetH_plain _ _ _ (by kernel_rfl)] at h
  obtain ⟨ps, ⟨g, t, cs, fuel, p, q, hg, ht, hv, hd, _, _⟩, _⟩ := h
  obtain rfl := Option.some.inj ((show Tryz.prog.globalNamed "rootstock/crc.halves" = some 0 by kernel_rfl).symm.trans hg)
  obtain rfl := Option.some.inj ((show (Tryz.prog.globals[0]?).map (·.type) = some 229 by kernel_rfl).symm.trans ht)
  obtain ⟨xs, m, _, ex, _, hl, hel⟩ := DataW.trod_array Tryz.underlying229 hd
  have hc : ∀ r, r < 16 -> W.cell? ⟨0, r, none⟩ = some (.int .u32 ((Cc.hv.getD r 0 : Nat) : Int)) := by
    intro r hr
    have c5 : Tryz.prog.cellsOf 192 = 1 := by kernel_rfl
    have hE := hel r hr
    rw [c5, Nat.mul_one, List.getElem?_eq_getElem (by omega)] at hE
    obtain ⟨z, e1, e2, _⟩ := DataW.trod_int Tryz.underlying192 hE
    have hlen : Cc.hv.length = 16 := by decide
    rw [halves_hv] at ex
    have e3 : (xs.map (·.1)) = Cc.hv.map fun n : Nat => (DataW.lit (.int .u32 (n : Int)) : DataW Unit) := (DataW.agg.inj (Prod.mk.inj ex).1).symm
    have e4 : (xs.map (·.1))[r]? = (Cc.hv.map fun n : Nat => (DataW.lit (.int .u32 (n : Int)) : DataW Unit))[r]? := by rw [e3]
    rw [List.getElem?_map, List.getElem?_map, List.getElem?_eq_getElem (by omega : r < xs.length), List.getElem?_eq_getElem (by omega : r < Cc.hv.length), e2] at e4
    have hz : z = ((Cc.hv.getD r 0 : Nat) : Int) := by
      simp only [Option.map_some, Option.some.injEq, DataW.lit.injEq, Lit.int.injEq, true_and] at e4
      rw [e4, List.getD, List.getElem?_eq_getElem (by omega : r < Cc.hv.length)]; rfl
    rw [World.var?_cell hg hv r, <- hz]
    have : cs.toList[r]? = some (.int .u32 z) := by
      have h0 : ((cs.toList.drop r).take 1)[0]? = some (.int .u32 z) := by rw [e1]; rfl
      simpa using h0
    simpa using this
  exact ⟨World.block_lt_of_cell? W _ (hc 0 (by decide)), hc⟩
end Go.Proofs.YtpfplojkiloldaaGreatDoor
