/- The walk of rootstocklaw13.TreeDoes: it returns true at every input. -/
import Derived.Deep.CutBlock
import Derived.Deep.CutRange
import Derived.Test.YtpfplojkiloldaaGreatDoorQ43
import Derived.Test.YtpfplojkiloldaaGreatDoorQ45
namespace Go.Proofs.YtpfplojkiloldaaGreatDoor
open Go.RowKit Go.Shelf
theorem tst_putno {n : Nat} {a : TAd} {es : List Ent} {tok : Nat} {w : World} (h : TAt n a es tok w) {k v : ByteArray} (hm : En.may k v = false) :
    Calls Tryz.prog 15 #[.pointer (some ⟨a.u, 0, none⟩), .string k, .string v] w fun e w' => e = .returned (.int .i64 110) ∧ TAt n a es tok w' ∧ Below w.heap.size w w' := by
  obtain ⟨root, σ, ids, h⟩ := h
  refine (ctput_no h.mach a.u root k v hm 0 σ w h.on.any).mono ?_
  rintro e w' ⟨rfl, ho, hb⟩
  exact ⟨rfl, ⟨root, σ, ids, h.with_ ho⟩, hb⟩
structure DoSt (w : World) (b0 : Nat) (a : TAd) (j : Nat) (es : List Ent) (A : Option Addr) (c : Nat) (W : World) : Prop where
  at_ : ∃ tok, TAt 600 a es tok W ∧ tok ≤ j
  row : LO entE 38 W b0 (.slice A es.length c) es
  below : Below w.heap.size w W
  hb : b0 ≤ W.heap.size
theorem DoSt.up {w W W' : World} {b0 : Nat} {a : TAd} {j : Nat} {es : List Ent} {A : Option Addr} {c : Nat} (h : DoSt w b0 a j es A c W) (hb : Below W.heap.size W W') : DoSt w b0 a j es A c W' := by
  obtain ⟨⟨tok, h1, h2⟩, h3, h4, h5⟩ := h
  exact ⟨⟨tok, h1.below hb, h2⟩, h3.below hb, h4.trans (hb.mono h4.size), Nat.le_trans h5 hb.size⟩
theorem DoSt.more {w W : World} {b0 : Nat} {a : TAd} {j j' : Nat} {es : List Ent} {A : Option Addr} {c : Nat} (h : DoSt w b0 a j es A c W) (hj : j ≤ j') : DoSt w b0 a j' es A c W := by
  obtain ⟨⟨tok, h1, h2⟩, h3, h4, h5⟩ := h
  exact ⟨⟨tok, h1, by omega⟩, h3, h4, h5⟩
set_option maxRecDepth 100000 in
set_option maxHeartbeats 1000000 in
theorem tdoes_big (A : Option Addr) (c : Nat) (l : List TAct) (w : World) (hr : LS tactE w w.heap.size A l) (h : overT l = true) :
    Calls Tryz.prog 4 #[.slice A l.length c] w (TrueEnd w) := by
  have HW := Lib.hid (works13_any w)
  have ho := fun W h => over_any A c l W h
  rw [h] at ho
  have HO := Lib.hid ho
  have HR := Lib.hid hr
  clear hr h ho
  go_enter Tryz.func4, Tryz.ntmps4
  go_wp2_with fail
  refine Calls.mono HW.out ?_
  rintro e w1 ⟨rfl, b1⟩
  have HC := Lib.hid (HO.out w1 ((HR.out.below b1).more b1.size))
  have HB := Lib.hid b1
  clear HO b1 HW
  go_wp2_with fail
  refine Calls.mono HC.out ?_
  rintro e _ ⟨rfl, rfl⟩
  go_wp2
  go_ret
  exact ⟨rfl, HB.out⟩
set_option maxRecDepth 100000 in
set_option maxHeartbeats 8000000 in
theorem tdoes_main (A : Option Addr) (c : Nat) (l : List TAct) (w : World) (hr : LS tactE w w.heap.size A l) (h0 : overT l = false) :
    Calls Tryz.prog 4 #[.slice A l.length c] w (TrueEnd w) := by
  have hll := overT_no h0
  have HW := Lib.hid (works13_any w)
  have hov := fun W h => over_any A c l W h
  rw [h0] at hov
  have HO := Lib.hid hov
  have HR := Lib.hid hr
  have HT := Lib.hid (fun W => tst_new 600 W)
  clear hr hov h0
  go_enter Tryz.func4, Tryz.ntmps4
  go_wp2_with fail
  refine Calls.mono HW.out ?_
  rintro e w1 ⟨rfl, b1⟩
  have HC := Lib.hid (HO.out w1 ((HR.out.below b1).more b1.size))
  have HB := Lib.hid b1
  clear HO b1 HW
  go_wp2_with fail
  refine Calls.mono HC.out ?_
  rintro e _ ⟨rfl, rfl⟩
  go_wp2_with fail
  refine (HT.out _).mono ?_
  rintro e w2 ⟨a, rfl, ht, b2, hF⟩
  rw [show diskN 600 = 600 by decide] at ht
  have HF := Lib.hid (fun x hx => Nat.le_trans HB.out.size (hF x hx) : ∀ x, a.F x → w.heap.size ≤ x)
  obtain ⟨b0, hb0⟩ : ∃ b, b = w2.heap.size := ⟨_, rfl⟩
  have hsl : ∀ k, a.F k → k < b0 := by rw [hb0]; exact ht.at_.low
  have HSL := Lib.hid hsl
  have HS0 := Lib.hid (show DoSt w b0 a 0 [] none 0 w2 from ⟨⟨0, ht.at_, Nat.le_refl _⟩, LO.nil_ _ _, HB.out.trans (b2.mono HB.out.size), by omega⟩)
  clear HC HT ht b2 hF hsl hb0 HB
  go_wp2
  go_loopg [6, 7] l.length (fun g s6 s7 wr => ∃ (j : Nat) (es : List Ent) (A1 : Option Addr) (c1 : Nat), s6 = .slice A1 es.length c1 ∧ s7 = .int .i64 (j : Nat) ∧ j ≤ l.length ∧ l.length - j ≤ g ∧ es.length ≤ j ∧ Hid (DoSt w b0 a j es A1 c1 wr))
  case atStart => exact ⟨0, [], none, 0, rfl, rfl, Nat.zero_le _, by omega, Nat.le_refl _, HS0⟩
  case round =>
    clear HS0
    obtain ⟨j, es, A1, c1, rfl, rfl, hjl, hjg, hel, HS⟩ := hrel
    have hwj : IntKind.i64.wrap ((j : Int) + 1) = (j : Int) + 1 := IntWalk.i64_in _ (by omega)
    by_cases hj : j < l.length
    · have hji : (j : Int) < (l.length : Nat) := by omega
      obtain ⟨bb, oo, rfl, hbb, c0, k1, k2⟩ := (HR.out.below HS.out.below).tact hj
      have hbz : bb < wr.heap.size := Nat.lt_of_lt_of_le hbb HS.out.below.size
      generalize l[j] = x at *
      obtain ⟨xk, s, v⟩ := x
      simp only at c0 k1 k2
      go_upto_block 2 with fail
      have hbA : Below wr.heap.size wr (wr.alloc (.cells #[.int .i64 xk, .string s, .string v] 29)) := (Below.refl _ wr).alloc (Nat.le_refl _) _
      have hXA := Blk.new wr 29 #[.int .i64 xk, .string s, .string v]
      have HSA := Lib.hid (HS.out.up hbA)
      have hgF : ¬ a.F wr.heap.size := fun h => by have := HSL.out _ h; have := HS.out.hb; omega
      have HGF := Lib.hid hgF
      have y1 : (wr.alloc (.cells #[.int .i64 xk, .string s, .string v] 29)).cell? ⟨wr.heap.size, 1, none⟩ = some (.string s) := hXA.cell 1
      have y2 : (wr.alloc (.cells #[.int .i64 xk, .string s, .string v] 29)).cell? ⟨wr.heap.size, 2, none⟩ = some (.string v) := hXA.cell 2
      have yl := hXA.lt
      have HXA := Lib.hid hXA
      clear hXA hgF hbA HS hbz c0 k1 k2 hbb
      generalize wr.alloc (.cells #[.int .i64 xk, .string s, .string v] 29) = wA at *
      generalize wr.heap.size = gA at *
      generalize xk.tmod 6 = kk at *
      go_cut [6, 9, 10, 11, 12, 13, 14, 15, 16, 17, 18, 19, 20, 21, 22, 23, 24, 25, 26] from 38 to 236 (fun v6 _ _ _ _ _ _ _ _ _ _ _ _ _ _ _ _ _ _ wx => ∃ (es' : List Ent) (A' : Option Addr) (c' : Nat), v6 = .slice A' es'.length c' ∧ es'.length ≤ j + 1 ∧ Hid (DoSt w b0 a (j + 1) es' A' c' wx))
      case first =>
        obtain ⟨tok, h1, h2⟩ := HSA.out.at_
        have hRm : Rm 600 tok := by unfold Rm; omega
        have H1 := Lib.hid h1
        clear h1
        by_cases h01 : kk = 0 ∨ kk = 1
        · cases hm : En.may s v with
          | true =>
            have HP := Lib.hid (tst_put H1.out hm hRm)
            have hma := fun W => may_any s v W
            rw [hm] at hma
            have HMAY := Lib.hid hma
            have HRP : Hid (∀ W, LO entE 38 W b0 (.slice A1 es.length c1) es → Calls Tryz.prog 20 #[.slice A1 es.length c1, .string s, .string v] W (LEnd entE 38 (En.put es s v) W)) := Lib.hid fun W h => rput_any A1 c1 es s v W (LO.sv h).ls (by omega)
            clear hma hm hRm H1
            rcases h01 with rfl | rfl
            all_goals as_aux_lemma =>
              go_wp2_with fail
              refine HP.out.mono ?_
              rintro e w5 ⟨rfl, h5, f5⟩
              have hx5 := f5.blk HXA.out HGF.out
              have x1 : w5.cell? ⟨gA, 1, none⟩ = some (.string s) := hx5.cell 1
              have x2 : w5.cell? ⟨gA, 2, none⟩ = some (.string v) := hx5.cell 2
              have xl := hx5.lt
              have HC := Lib.hid (HRP.out w5 (HSA.out.row.fr f5 HSL.out))
              have HB5 := Lib.hid (And.intro (HSA.out.below.trans (f5.low HSA.out.below.size HF.out)) (Nat.le_trans HSA.out.hb f5.size))
              have H5 := Lib.hid h5
              clear h5 f5 hx5 HP HRP
              go_wp2_with fail
              refine (HMAY.out _).mono ?_
              rintro e _ ⟨rfl, rfl⟩
              go_wp2_with fail
              refine Calls.mono HC.out ?_
              intro e w6 he
              obtain ⟨A6, c6, rfl, r6, _, b6⟩ := he.open_
              have HE := Lib.hid (show DoSt w b0 a (j + 1) (En.put es s v) A6 c6 w6 from ⟨⟨_, H5.out.below b6, by have := dput_le es s; omega⟩, r6.lower HB5.out.2, HB5.out.1.trans (b6.mono HB5.out.1.size), Nat.le_trans HB5.out.2 b6.size⟩)
              have hl6 : (En.put es s v).length ≤ j + 1 := by have := eput_len (k := s) (v := v) es; have := dput_le es s; omega
              clear he r6 b6 H5 HC HB5
              generalize En.put es s v = es6 at *
              go_wp2
              go_meet
              exact ⟨es6, A6, c6, rfl, hl6, HE⟩
          | false =>
            have HP := Lib.hid (tst_putno H1.out hm)
            have hma := fun W => may_any s v W
            rw [hm] at hma
            have HMAY := Lib.hid hma
            clear hma hm hRm H1
            rcases h01 with rfl | rfl
            all_goals as_aux_lemma =>
              go_wp2_with fail
              refine HP.out.mono ?_
              rintro e w5 ⟨rfl, h5, b5⟩
              have hx5 := HXA.out.below b5 yl
              have x1 : w5.cell? ⟨gA, 1, none⟩ = some (.string s) := hx5.cell 1
              have x2 : w5.cell? ⟨gA, 2, none⟩ = some (.string v) := hx5.cell 2
              have xl := hx5.lt
              have HE := Lib.hid (show DoSt w b0 a (j + 1) es A1 c1 w5 from ⟨⟨_, h5, by omega⟩, HSA.out.row.below b5, HSA.out.below.trans (b5.mono HSA.out.below.size), Nat.le_trans HSA.out.hb b5.size⟩)
              clear h5 b5 hx5 HP
              go_wp2_with fail
              refine (HMAY.out _).mono ?_
              rintro e _ ⟨rfl, rfl⟩
              go_wp2
              go_meet
              exact ⟨es, A1, c1, rfl, by omega, HE⟩
        · obtain ⟨k0, k1⟩ : ¬ kk = 0 ∧ ¬ kk = 1 := by omega
          clear h01
          by_cases h2k : kk = 2
          · subst h2k
            have HD := tst_del H1.out s hRm
            have HRD : Hid (∀ W, LO entE 38 W b0 (.slice A1 es.length c1) es → Calls Tryz.prog 23 #[.slice A1 es.length c1, .string s] W (LEnd entE 38 (En.del es s) W)) := Lib.hid fun W h => rdelete_any A1 c1 es s W (LO.sv h).ls (by omega)
            have HRG : ∀ W, LO entE 38 W b0 (.slice A1 es.length c1) es → Calls Tryz.prog 22 #[.slice A1 es.length c1, .string s] W (GetEnd (En.get es s) W) := fun W h => rget_any A1 c1 es s W (LO.sv h).ls (by omega)
            have hdl := del_len es s
            clear hRm H1 k0 k1
            cases hgk : En.get es s
            all_goals as_aux_lemma =>
              rw [hgk] at HD HRG
              simp only [Option.isSome_none, Option.isSome_some] at HD
              have HD := Lib.hid HD
              have HRG := Lib.hid HRG
              clear hgk
              go_wp2_with fail
              refine HD.out.mono ?_
              rintro e w5 ⟨rfl, h5, f5⟩
              have hx5 := f5.blk HXA.out HGF.out
              have x1 : w5.cell? ⟨gA, 1, none⟩ = some (.string s) := hx5.cell 1
              have xl := hx5.lt
              have HR5 := Lib.hid (HSA.out.row.fr f5 HSL.out)
              have HG := Lib.hid (HRG.out w5 HR5.out)
              have HC := Lib.hid (HRD.out w5 HR5.out)
              have HB5 := Lib.hid (And.intro (HSA.out.below.trans (f5.low HSA.out.below.size HF.out)) (Nat.le_trans HSA.out.hb f5.size))
              have H5 := Lib.hid h5
              clear h5 f5 hx5 HD HRG HRD HR5
              go_wp2_with fail
              refine Calls.mono HG.out ?_
              rintro e _ ⟨rfl, rfl⟩
              go_wp2_with fail
              refine Calls.mono HC.out ?_
              intro e w6 he
              obtain ⟨A6, c6, rfl, r6, _, b6⟩ := he.open_
              have HE := Lib.hid (show DoSt w b0 a (j + 1) (En.del es s) A6 c6 w6 from ⟨⟨_, H5.out.below b6, by omega⟩, r6.lower HB5.out.2, HB5.out.1.trans (b6.mono HB5.out.1.size), Nat.le_trans HB5.out.2 b6.size⟩)
              have hl6 : (En.del es s).length ≤ j + 1 := by omega
              clear he r6 b6 H5 HC HB5 HG hdl
              generalize En.del es s = es6 at *
              go_wp2
              go_meet
              exact ⟨es6, A6, c6, rfl, hl6, HE⟩
          · obtain ⟨root, σ, ids, hst⟩ := H1.out
            have HST := Lib.hid hst
            have HSLS : Hid (∀ k, a.S k → k < b0) := Lib.hid fun k hk => HSL.out k (.inl hk)
            have HFS : Hid (∀ k, a.S k → w.heap.size ≤ k) := Lib.hid fun k hk => HF.out k (.inl hk)
            clear hst H1 hRm
            by_cases h3k : kk = 3
            · subst h3k
              have HD := tst_get HST.out s
              have HRG : ∀ W, LO entE 38 W b0 (.slice A1 es.length c1) es → Calls Tryz.prog 22 #[.slice A1 es.length c1, .string s] W (GetEnd (En.get es s) W) := fun W h => rget_any A1 c1 es s W (LO.sv h).ls (by omega)
              clear h2k k0 k1
              cases hgk : En.get es s
              all_goals as_aux_lemma =>
                rw [hgk] at HD HRG
                simp only [getV] at HD
                have HD := Lib.hid HD
                have HRG := Lib.hid HRG
                clear hgk
                go_wp2_with fail
                refine HD.out.mono ?_
                rintro e w5 ⟨rfl, h5, f5⟩
                have hx5 := f5.blk HXA.out (fun h => HGF.out (.inl h))
                have x1 : w5.cell? ⟨gA, 1, none⟩ = some (.string s) := hx5.cell 1
                have xl := hx5.lt
                have HR5 := Lib.hid (HSA.out.row.fr f5 HSLS.out)
                have HG := Lib.hid (HRG.out w5 HR5.out)
                have HE := Lib.hid (show DoSt w b0 a (j + 1) es A1 c1 w5 from ⟨⟨tok, ⟨_, _, _, h5⟩, by omega⟩, HR5.out, HSA.out.below.trans (f5.low HSA.out.below.size HFS.out), Nat.le_trans HSA.out.hb f5.size⟩)
                clear h5 f5 hx5 HD HRG HR5
                go_wp2_with fail
                refine Calls.mono HG.out ?_
                rintro e _ ⟨rfl, rfl⟩
                go_wp2
                go_meet
                exact ⟨es, A1, c1, rfl, by omega, HE⟩
            · by_cases h4k : kk = 4
              · as_aux_lemma =>
                subst h4k
                have hsc := tst_scan HST.out s v
                have HRS : ∀ W, LO entE 38 W b0 (.slice A1 es.length c1) es → Calls Tryz.prog 18 #[.slice A1 es.length c1, .string s, .string v] W (LEnd entE 38 (Tp.scanF es s v) W) := fun W h => rscan_any A1 c1 es s v W (LO.sv h).ls (by omega)
                obtain ⟨rs, hrs⟩ : ∃ x, x = Tp.scanF es s v := ⟨_, rfl⟩
                rw [← hrs] at hsc HRS
                have hrl : rs.length ≤ 200 := by rw [hrs]; unfold Tp.scanF; exact Nat.le_trans (List.length_filter_le _ _) (by omega)
                have HD := Lib.hid hsc
                have HRS := Lib.hid HRS
                clear hsc hrs h2k h3k k0 k1
                go_wp2_with fail
                refine Calls.mono HD.out ?_
                rintro e w5 ⟨A5, c5, rfl, r5, h5, f5⟩
                have hx5 := f5.blk HXA.out (fun h => HGF.out (.inl h))
                have x1 : w5.cell? ⟨gA, 1, none⟩ = some (.string s) := hx5.cell 1
                have x2 : w5.cell? ⟨gA, 2, none⟩ = some (.string v) := hx5.cell 2
                have xl := hx5.lt
                have HR5 := Lib.hid (HSA.out.row.fr f5 HSLS.out)
                have HG := Lib.hid (HRS.out w5 HR5.out)
                have HE := Lib.hid (show DoSt w b0 a (j + 1) es A1 c1 w5 from ⟨⟨tok, ⟨_, _, _, h5⟩, by omega⟩, HR5.out, HSA.out.below.trans (f5.low HSA.out.below.size HFS.out), Nat.le_trans HSA.out.hb f5.size⟩)
                have HQ5 := Lib.hid (LO.sv r5).ls
                clear h5 f5 hx5 HD HRS HR5 r5
                go_wp2_with fail
                refine Calls.mono HG.out ?_
                intro e w6 he
                obtain ⟨A6, c6, rfl, _, l6, b6⟩ := he.open_
                have HC := Lib.hid (rsame_yes A5 A6 rs c5 c6 w6 (HQ5.out.up b6) l6 (by omega))
                have HE := Lib.hid (HE.out.up b6)
                clear he l6 b6 HG HQ5
                go_wp2_with fail
                refine HC.out.mono ?_
                rintro e w7 ⟨rfl, b7⟩
                have HE := Lib.hid (HE.out.up b7)
                clear b7 HC
                go_wp2
                go_meet
                exact ⟨es, A1, c1, rfl, by omega, HE⟩
              · by_cases h5k : kk = 5
                · as_aux_lemma =>
                  subst h5k
                  have hnx := tst_next HST.out s
                  have HRS : ∀ W, LO entE 38 W b0 (.slice A1 es.length c1) es → Calls Tryz.prog 18 #[.slice A1 es.length c1, .string s, .string ⟨#[]⟩] W (LEnd entE 38 (Tp.scanF es s ⟨#[]⟩) W) := fun W h => rscan_any A1 c1 es s ⟨#[]⟩ W (LO.sv h).ls (by omega)
                  obtain ⟨rs, hrs⟩ : ∃ x, x = Tp.scanF es s ⟨#[]⟩ := ⟨_, rfl⟩
                  rw [← hrs] at hnx HRS
                  have hrl : rs.length ≤ 200 := by rw [hrs]; unfold Tp.scanF; exact Nat.le_trans (List.length_filter_le _ _) (by omega)
                  have HD := Lib.hid hnx
                  have HRS := Lib.hid HRS
                  clear hnx hrs h2k h3k h4k k0 k1
                  go_wp2_with fail
                  refine Calls.mono HD.out ?_
                  rintro e w5 ⟨rfl, h5, f5⟩
                  have hx5 := f5.blk HXA.out (fun h => HGF.out (.inl h))
                  have x1 : w5.cell? ⟨gA, 1, none⟩ = some (.string s) := hx5.cell 1
                  have xl := hx5.lt
                  have HR5 := Lib.hid (HSA.out.row.fr f5 HSLS.out)
                  have HE5 := Lib.hid (show DoSt w b0 a (j + 1) es A1 c1 w5 from ⟨⟨tok, ⟨_, _, _, h5⟩, by omega⟩, HR5.out, HSA.out.below.trans (f5.low HSA.out.below.size HFS.out), Nat.le_trans HSA.out.hb f5.size⟩)
                  clear h5 f5 hx5 HD
                  obtain ⟨nx, hnx⟩ : ∃ x, x = nextV rs := ⟨_, rfl⟩
                  rw [← hnx]
                  obtain ⟨⟨nk, nv⟩, nb⟩ := nx
                  simp only
                  have hbA := (Below.refl w5.heap.size w5).alloc (Nat.le_refl _) (.cells #[.string nk, .string nv] 38)
                  have HG := Lib.hid (HRS.out _ (HR5.out.below hbA))
                  have HX8 := Lib.hid (Blk.new w5 38 #[.string nk, .string nv])
                  have HE8 := Lib.hid (HE5.out.up hbA)
                  clear HE5
                  have HNX := Lib.hid hnx
                  clear hbA hnx HR5 HRS
                  go_wp2_with fail
                  refine Calls.mono HG.out ?_
                  intro e w6 he
                  obtain ⟨A6, c6, rfl, _, l6, b6⟩ := he.open_
                  have HE9 := Lib.hid (HE8.out.up b6)
                  clear HE8
                  have hx9 := HX8.out.below b6 HX8.out.lt
                  have hx0 : w6.cell? ⟨w5.heap.size, 0, none⟩ = some (.string nk) := hx9.cell 0
                  have hx1 : w6.cell? ⟨w5.heap.size, 1, none⟩ = some (.string nv) := hx9.cell 1
                  have hxl := hx9.lt
                  have hq := HNX.out
                  clear he b6 HG HX8 hx9
                  generalize hn5 : rs.length = n5
                  have HN5 := Lib.hid hn5
                  have hn5l : n5 ≤ 200 := by omega
                  clear hn5 hrl
                  by_cases hr0 : n5 = 0
                  · as_aux_lemma =>
                    have e0 : rs = [] := List.eq_nil_of_length_eq_zero (by rw [HN5.out]; exact hr0)
                    rw [e0] at hq
                    simp only [nextV, Prod.mk.injEq] at hq
                    obtain ⟨⟨rfl, rfl⟩, rfl⟩ := hq
                    clear HNX l6 e0 HN5
                    subst hr0
                    go_wp2
                    go_quiet (fail)
                    go_wp2
                    go_meet
                    exact ⟨es, A1, c1, rfl, by omega, Lib.hid (HE9.out.up (below_drewN (Below.refl _ _) _))⟩
                  · as_aux_lemma =>
                    have hr1 : 0 < n5 := by omega
                    have hr2 : 0 < rs.length := by rw [HN5.out]; exact hr1
                    obtain ⟨bb, oo, rfl, hbb, q0, q1⟩ := l6.ent hr2
                    have hq3 : nextV rs = (rs[0], true) := by
                      cases rs with
                      | nil => simp at hr2
                      | cons a b => rfl
                    rw [hq3] at hq
                    simp only [Prod.mk.injEq] at hq
                    obtain ⟨hq1, rfl⟩ := hq
                    rw [← hq1] at q0 q1
                    have q0 : w6.cell? ⟨bb, oo, none⟩ = some (.string nk) := by simpa using q0
                    have q1 : w6.cell? ⟨bb, oo + 1, none⟩ = some (.string nv) := by simpa using q1
                    clear HNX l6 hq1 hr0 hr2 HN5 hq3
                    go_wp2
                    go_quiet (fail)
                    go_wp2
                    go_meet
                    exact ⟨es, A1, c1, rfl, by omega, Lib.hid (HE9.out.up (below_drewN (Below.refl _ _) _))⟩
                · as_aux_lemma =>
                  have HE := Lib.hid (HSA.out.more (Nat.le_succ j))
                  have q0 : (kk == 0) = false := by simpa using k0
                  have q1 : (kk == 1) = false := by simpa using k1
                  have q2 : (kk == 2) = false := by simpa using h2k
                  have q3 : (kk == 3) = false := by simpa using h3k
                  have q4 : (kk == 4) = false := by simpa using h4k
                  have q5 : (kk == 5) = false := by simpa using h5k
                  go_wp2
                  go_meet
                  exact ⟨es, A1, c1, rfl, by omega, HE⟩
      case rest => as_aux_lemma =>
        clear HSA HXA y1 y2 yl HGF
        obtain ⟨es2, A2, c2, rfl, hel2, HS2⟩ := hcut
        obtain ⟨wd, rfl⟩ : ∃ z, z = wc := ⟨_, rfl⟩
        go_upto_region 43 with fail
        go_cut [217] from 38 to 236 (fun c wx => c = .bool (decide (j % 8 = 0 ∨ j + 1 = l.length)) ∧ wd = wx)
        case first =>
          by_cases h8 : j % 8 = 0
          · have hb1 : ((j : Int) % 8 == 0) = true := by simp; omega
            have hb2 : (j : Int) % 8 = 0 := by omega
            go_wp2
            go_meet
            exact ⟨by simp [h8], rfl⟩
          · have hb1 : ((j : Int) % 8 == 0) = false := by simp; omega
            have hb2 : ¬ (j : Int) % 8 = 0 := by omega
            by_cases h9 : j + 1 = l.length
            · have hb3 : ((j : Int) + 1 == (l.length : Nat)) = true := by simp; omega
              go_wp2
              go_meet
              exact ⟨by simp [h9], rfl⟩
            · have hb3 : ((j : Int) + 1 == (l.length : Nat)) = false := by simp; omega
              go_wp2
              go_meet
              exact ⟨by simp [h8, h9], rfl⟩
        case rest => as_aux_lemma =>
          obtain ⟨rfl, rfl⟩ := hcut
          cases decide (j % 8 = 0 ∨ j + 1 = l.length) with
          | false =>
            go_wp2
            go_roundg (l.length - (j + 1))
            case measure => omega
            case rel => exact ⟨j + 1, es2, A2, c2, rfl, by go_num, by omega, Nat.le_refl _, hel2, HS2⟩
          | true =>
            obtain ⟨tok, ⟨root, σ, ids, hst⟩, htok⟩ := HS2.out.at_
            have HC1 := Lib.hid (whole13_any hst (by omega))
            clear hst
            go_wp2_with fail
            refine HC1.out.mono ?_
            rintro e w5 ⟨A5, c5, rfl, r5, h5, f5⟩
            have hrow := HS2.out.row.fr f5 (fun k hk => HSL.out k (.inl hk))
            have HC2 := Lib.hid (rsame_yes A5 A2 es2 c5 c2 w5 (LO.sv r5).ls (LO.sv hrow).ls (by omega))
            have H5 := Lib.hid h5
            have HE := Lib.hid (show DoSt w b0 a (j + 1) es2 A2 c2 w5 from ⟨⟨tok, ⟨_, _, _, h5⟩, htok⟩, hrow, HS2.out.below.trans (f5.low HS2.out.below.size (fun k hk => HF.out k (.inl hk))), Nat.le_trans HS2.out.hb f5.size⟩)
            clear r5 h5 f5 hrow HC1
            go_wp2_with fail
            refine HC2.out.mono ?_
            rintro e w6 ⟨rfl, b6⟩
            have HC3 := Lib.hid (terr_any a.u root 0 w6 (H5.out.below b6).on.self)
            have HE := Lib.hid (HE.out.up b6)
            clear b6 HC2 H5
            go_wp2_with fail
            refine HC3.out.mono ?_
            rintro e _ ⟨rfl, rfl⟩
            clear HC3
            go_wp2
            go_roundg (l.length - (j + 1))
            case measure => omega
            case rel => exact ⟨j + 1, es2, A2, c2, rfl, by go_num, by omega, Nat.le_refl _, hel2, HE⟩
    · obtain rfl : j = l.length := by omega
      have hji : ¬ (l.length : Int) < (l.length : Nat) := by omega
      have HB := Lib.hid HS.out.below
      go_wp2
      go_ret
      exact ⟨rfl, HB.out⟩
theorem tdoes_any (A : Option Addr) (len c : Nat) (l : List TAct) (w : World) (he : l.length = len) (hr : LS tactE w w.heap.size A l) :
    Calls Tryz.prog 4 #[.slice A len c] w (TrueEnd w) := by
  subst he
  cases h0 : overT l with
  | true => exact tdoes_big A c l w hr h0
  | false => exact tdoes_main A c l w hr h0
end Go.Proofs.YtpfplojkiloldaaGreatDoor
