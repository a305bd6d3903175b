/- The walk of rootstocklaw10.AllocKeeps: it returns true at every input. -/
import Derived.Deep.CutBlock
import Derived.Deep.RegionWith
import Derived.Test.YtlgbcogdogpihaaGreatDoorQKFlush
import Derived.Test.YtlgbcogdogpihaaGreatDoorQFreshD
import Derived.Test.YtlgbcogdogpihaaGreatDoorQPendg
namespace Go.Proofs.YtlgbcogdogpihaaGreatDoor
open Go.RowKit Go.Shelf
def TrueEnd (w : World) (e : Ending) (w' : World) : Prop := e = .returned (.bool true) ∧ Below w.heap.size w w'
set_option maxRecDepth 100000 in
set_option maxHeartbeats 1000000 in
theorem akeeps_big (A1 A2 : Option Addr) (n1 c1 n2 c2 : Nat) (pages : Int) (w : World) (h : 100 < n1 ∨ 30 < n2) :
    Calls Tryz.prog 6 #[.slice A1 n1 c1, .int .i64 pages, .slice A2 n2 c2] w (TrueEnd w) := by
  have hW := hid_calls (works_any taken_said w)
  by_cases h1 : 100 < n1
  · clear h
    go_enter Tryz.func6, Tryz.ntmps6
    go_wp2_with fail
    refine hW.out.mono ?_
    rintro e w1 ⟨rfl, b1⟩
    go_wp2
    go_ret
    exact ⟨rfl, b1⟩
  · have h2 : 30 < n2 := by omega
    clear h
    go_enter Tryz.func6, Tryz.ntmps6
    go_wp2_with fail
    refine hW.out.mono ?_
    rintro e w1 ⟨rfl, b1⟩
    go_wp2
    go_ret
    exact ⟨rfl, b1⟩
theorem eiStr : EI Tryz.prog 9 (.string ⟨#[]⟩) 1 16 := EI.mk (by kernel_rfl)
theorem txn_rowS {t m f n k : Nat} {free : List Run} {pages : Int} {D : DataW Value} {w w' : World} (h : Txn w t m f n free pages k D) {base2 size2 c2 : Nat} {v2 : Value} {xs2 : List Value} (h2 : w.ownsRow base2 9 size2 v2 c2 xs2) (hg : w.grownBy w' v2.ownBlock) : Txn w' t m f n free pages k D :=
  h.keep hg fun r hr => by
    obtain ⟨cs, hcs⟩ := own_obj h2 hr
    refine ⟨_, hcs, ?_, ?_, ?_, ?_, ?_⟩
    all_goals intro cs' e
    · injection e with _ e; cases e
    · injection e with _ e; cases e
    · injection e with _ e; cases e
    · injection e with _ e; cases e
    · intro e; cases e
/-- what AllocKeeps's rounds keep -/
structure KeepSt (w wr : World) (t m f : Nat) (used : List Run) (vu vi vp : Value) (fr : List Run) (ids : List Int) (puts : List Bs) (p : Int) (k : Nat) (D : DataW Value) : Prop where
  txn : Txn wr t m f 16 fr p k D
  ap : Rp.Ap (max ((16 : Nat) : Int) 2) fr used ids p
  own : LO intE 3 wr w.heap.size vi ids
  pown : LO strE 9 wr w.heap.size vp puts
  uown : wr.ownsRow w.heap.size 62 2 vu used.length (cellsR used)
  keys : KeysAre D ids
  conts : Conts D 2 ids puts
  short : ∀ b ∈ puts, b.length ≤ 240
  frl : fr.length ≤ 200 + 10 * ids.length
  kl : k ≤ 2 * ids.length
  below : Below w.heap.size w wr
/-- the first pages, written -/
def inL (i : Int) : Bs := [UInt8.ofNat i.toNat]
set_option maxRecDepth 100000 in
set_option maxHeartbeats 1000000 in
theorem akeeps_main (A1 A2 : Option Addr) (c1 c2 : Nat) (pages : Int) (l : List Run) (bodies : List Bs) (w : World) (hr : RS w w.heap.size A1 l) (hb : LS strE w w.heap.size A2 bodies) (h1 : l.length ≤ 100) (h2 : bodies.length ≤ 30) (hT : HT w) :
    Calls Tryz.prog 6 #[.slice A1 l.length c1, .int .i64 pages, .slice A2 bodies.length c2] w (TrueEnd w) := by
  have hB0 := hT.1
  have hW := hid_calls (works_any taken_said w)
  have hd1 : decide (100 < (l.length : Int)) = false := by simp; omega
  have hd2 : decide (30 < (bodies.length : Int)) = false := by simp; omega
  go_enter Tryz.func6, Tryz.ntmps6
  go_wp2_with fail
  refine hW.out.mono ?_
  rintro e w1 ⟨rfl, b1⟩
  go_wp2_with fail
  refine Calls.mono (dfresh_any 16 w1) ?_
  rintro e w2 ⟨d, rfl, hd2, b2⟩
  rw [show diskN 16 = 16 by decide] at hd2
  go_wp2_with fail
  refine Calls.mono (ffresh_any hd2 b2.size) ?_
  rintro e w3 ⟨f, rfl, hF3, b3⟩
  have b13 : Below w.heap.size w w3 := (b1.trans (b2.mono b1.size)).trans (b3.mono (Nat.le_trans b1.size b2.size))
  have hF3 : FAt w3 w.heap.size f d 0 (fresh 16) := by
    obtain ⟨q1, q2, s, mm, pv, Dm, q3⟩ := hF3
    exact ⟨Nat.le_trans b1.size q1, q2, s, mm, pv, Dm, ⟨Nat.le_trans b1.size q3.le.1, Nat.le_trans b1.size q3.le.2.1, Nat.le_trans b1.size q3.le.2.2⟩, q3.self, q3.sure, q3.map, q3.now, q3.pend.lower b1.size⟩
  clear hd2 b2 b3 b1 hW
  go_wp2
  go_loopw [10] (fun i wr => ∃ (q : Nat) (D : Dk) (c : Int → Option (Nat × Bs)), 2 ≤ q ∧ q ≤ 16 ∧ i = .int .i64 q ∧ FAt wr w.heap.size f d q D ∧ DkC D 16 c ∧ Lim D q ∧ (∀ i : Int, 2 ≤ i → i < (q : Int) → c i = some (1, inL i)) ∧ Below w.heap.size w wr) (fun i _ => 16 - (intOf i).toNat)
  case atStart => exact ⟨2, _, _, by omega, by omega, rfl, hF3.mono (by omega), fresh_c, (fresh_lim (by decide)).mono (by omega), fun i a b => by omega, b13⟩
  case round =>
    obtain ⟨q, D, c, hq2, hq, rfl, hF, hC, hL, hc, hbe⟩ := hrel
    by_cases hlt : q < 16
    · have hno : noPage 16 (q : Int) = false := by unfold noPage; simp; omega
      obtain ⟨x1, x2, x3⟩ := hC.fput hno (kind := 1) (by decide) (b := inL q) (by simp [inL])
      have hfw := fun W (h1 : FAt W w.heap.size f d q D) (h2 : HT W) (h3 : w.heap.size ≤ W.heap.size) => fwrite_any2 h1 (hL.fine (by omega)) (by unfold maxLen; omega) h2 h3 (q : Int) 1 (by decide) (inL q)
      rw [x1] at hfw
      unfold FWEnd2 str at hfw
      have HFW := Lib.hid hfw
      clear hfw
      have hcv := str_of_new (P := Tryz.prog) (src := 57) (dst := 9) wr (q : Int) 5 1 Tryz.underlying57 Tryz.underlying5 Tryz.underlying9
      have hbA : Below w.heap.size wr (wr.alloc (.cells #[.int .u8 (q : Int)] 5)) := (Below.refl _ wr).alloc hbe.size _
      have hFa := hF.keep ((Below.refl _ wr).alloc (Nat.le_refl _) (.cells #[.int .u8 (q : Int)] 5))
      have hTa := (hT.below hbe hB0).below hbA hB0
      have hba := hbe.trans hbA
      have hcont := HFW.out _ hFa hTa hba.size
      unfold inL at hcont
      go_wp2_with fail
      refine Calls.mono hcont ?_
      rintro e w4 ⟨rfl, gF, gB, gK, gM⟩
      go_wp2
      go_roundw
      case rel => exact ⟨q + 1, _, _, by omega, by omega, by go_num, gF, x2, (hL.fput _ _ _), fun i a b => by unfold updP; by_cases e : i = (q : Int); (subst e; simp); (rw [if_neg e]; exact hc i a (by omega)), hba.trans gB⟩
      case measure => simp [intOf]; omega
    · obtain rfl : q = 16 := by omega
      have b5 := hbe
      obtain ⟨w5, rfl⟩ : ∃ w5, w5 = wr := ⟨_, rfl⟩
      have hfo := hF.fileOf
      rw [hC.ok.size] at hfo
      obtain ⟨s, m0, pv, Dm, hDA⟩ := id hF.disk
      have hs5 := hDA.sure.lt
      have hm5 := hDA.map.lt
      have hc0 : w5.cell? ⟨d, 0, none⟩ = some (.slice (some ⟨s, 0, none⟩) 16 16) := by have e : w5.cell? ⟨d, 0, none⟩ = some (.slice (some ⟨s, 0, none⟩) D.sure.length D.sure.length) := hDA.self.cell 0; rw [hC.ok.size] at e; exact e
      have hc1 : w5.cell? ⟨d, 1, none⟩ = some (.map (some m0)) := hDA.self.cell 1
      have hd5 := hDA.self.lt
      have hsb := hDA.sure
      clear hDA
      have hr5 := (hr.below b5).more b5.size
      have hb5 := (hb.below b5).more b5.size
      have hB5 := b5.size
      clear hr hb
      go_wp2_with fail
      refine (tnew_any f 16 A1 c1 l pages (by decide) w5 hfo hr5 (by omega)).mono ?_
      rintro e w6 ⟨t, m, rfl, htm, hTx, b6⟩
      have hml := meet_len l [(2, pagesN pages 16 - 1)]
      have hpg : 2 ≤ pagesN pages 16 ∧ pagesN pages 16 ≤ max ((16 : Nat) : Int) 2 ∧ max ((16 : Nat) : Int) 2 ≤ 100000 := by unfold pagesN; omega
      have hap := Rp.Ap.start l hpg
      have hul := minus_len [(2, pagesN pages 16 - 1)] l
      generalize pagesN pages 16 = p0 at *
      go_wp2_with fail
      refine (tpages_any t m f 16 _ _ _ _ _ hTx).mono ?_
      rintro e w' ⟨rfl, hw⟩; replace hw := hw.symm; subst hw
      have hT7 := hTx.alloc (.cells #[.int .i64 2, .int .i64 (p0 - 1)] 62)
      have b7 := b6.alloc b6.size (.cells #[.int .i64 2, .int .i64 (p0 - 1)] 62)
      have r7 := (hr5.below b7).more b7.size
      have hMi := hid_calls (minus_any (some ⟨w6.heap.size, 0, none⟩) A1 1 c1 [(2, p0 - 1)] l _ (RS.single w6 2 (p0 - 1) 62) r7 (by simp) (by omega))
      change Hid (Calls Tryz.prog 28 #[.slice (some ⟨w6.heap.size, 0, none⟩) 1 1, .slice A1 l.length c1] _ _) at hMi
      generalize Rp.minus [(2, p0 - 1)] l = used at *
      generalize Rp.meet l [(2, p0 - 1)] = fr0 at *
      go_wp2_with fail
      refine hMi.out.mono ?_
      intro e w8 he
      obtain ⟨Au, cu, rfl, ho8, r8, b8⟩ := he.open_
      clear he hMi r7
      have hT8 := hT7.below b8
      have b18 := b7.trans (b8.mono b7.size)
      have hst : KeepSt w5 w8 t m f used (.slice Au used.length cu) (.slice none 0 0) (.slice none 0 0) fr0 [] [] p0 0 (.map []) :=
        ⟨hT8, hap, World.ownsRow_nil _ _ _ _, World.ownsRow_nil _ _ _ _, own_lower ho8 b7.size, KeysAre.nil_, Conts.nil_ _ _, fun b hb => absurd hb List.not_mem_nil, by simp at hml; simp; omega, by simp, b18⟩
      have hul2 : used.length ≤ 1000 := by simp at hul; omega
      clear hTx hT7 hT8 b6 b7 b8 b18 r8 ho8 hml hul hap hpg hr5 hbe
      go_upto_block 2 with fail
      go_cut [14, 15] from 72 to 110 (fun vi vp wx => ∃ fr ids puts p k D, ids.length ≤ 30 ∧ KeepSt w5 wx t m f used (.slice Au used.length cu) vi vp fr ids puts p k D)
      case first =>
        go_wp2_with fail
        go_loopw [14, 15, 16] (fun vi vp i wr => ∃ j fr ids puts p k D, j ≤ bodies.length ∧ ids.length = j ∧ i = .int .i64 (j : Nat) ∧ KeepSt w5 wr t m f used (.slice Au used.length cu) vi vp fr ids puts p k D) (fun _ _ i _ => bodies.length - (intOf i).toNat)
        case atStart => exact ⟨0, fr0, [], [], p0, 0, _, by omega, rfl, rfl, hst⟩
        case round =>
          obtain ⟨j, fr, ids, puts, p, k, D2, hj, hij, rfl, hS⟩ := hrel
          have HIJ := Lib.hid hij
          have hi30 : ids.length ≤ 30 := by omega
          clear hij
          obtain ⟨Ai, ci, rfl⟩ := hS.own.form
          obtain ⟨Ap, cp, rfl⟩ := hS.pown.form
          by_cases hlt : j < bodies.length
          · obtain ⟨b2, o2, rfl, hb2, g0⟩ := (hb5.below hS.below).at_ hlt
            have g0 : wr.cell? ⟨b2, o2 + j, none⟩ = some (.string ⟨bodies[j].toArray⟩) := by have := g0 0 (by decide); simpa [strE, str] using this
            have gw := (hS.below.cell (p := ⟨b2, o2 + j, none⟩) hb2).symm.trans g0
            generalize bodies[j] = bd at *
            have hsz : (⟨bd.toArray⟩ : ByteArray).size = bd.length := by simp [ByteArray.size]
            by_cases hbl : bd.length ≤ 240
            · have hpl : puts.length ≤ 30 := by have := hS.conts.1; omega
              have hk0 := hS.kl
              have hf0 := hS.frl
              rcases keeps_alloc t m f 16 k fr used ids p D2 (by omega) (by unfold maxLen; omega) hS.ap hS.keys with ⟨id, fr1, p1, D1, hD1, hA, ⟨n1, n2, n3, n4⟩, hap1, hkm1, hl1⟩ | hA
              · have HS := Lib.hid hS
                have hA := hid_calls (hA wr hS.txn)
                clear hS
                have HCO := Lib.hid (HS.out.conts.snoc_ hkm1 n1 _ hD1 bd)
                have HKM := Lib.hid (hkm1.reput (id := id) (by simp) (.held (content true 2 ⟨bd.toArray⟩)))
                have hh1 : Maps.has D1 (.int .i64 id) = true := by rw [hkm1.has]; simp
                have hwid : (Lit.int .i64 id).wf = true := wfI (by omega)
                go_wp2_with fail
                refine hA.out.mono ?_
                rintro e w9 ⟨rfl, to9, hT9⟩
                have own9 := keep_touch HS.out.own HS.out.txn to9 (by decide)
                have pown9 := keep_touch HS.out.pown HS.out.txn to9 (by decide)
                have uown9 := keep_touch HS.out.uown HS.out.txn to9 (by decide)
                have be9 := HS.out.below.trans (to9.below htm.1 htm.2 HS.out.below.size)
                have g9 := (be9.cell (p := ⟨b2, o2 + j, none⟩) hb2).trans gw
                have hpu := fun W h => hid_calls (tput_yes t m f 16 (k + 1) fr1 p1 D1 id 2 ⟨bd.toArray⟩ hwid (by unfold maxLen; omega) hh1 (by omega) W h)
                clear to9 hA g0
                go_wp2_with fail
                refine (hpu _ hT9).out.mono ?_
                rintro e w10 ⟨rfl, to10, hT10⟩
                have own10 := keep_touch own9 hT9 to10 (by decide)
                have pown10 := keep_touch pown9 hT9 to10 (by decide)
                have uown10 := keep_touch uown9 hT9 to10 (by decide)
                have be10 := be9.trans (to10.below htm.1 htm.2 be9.size)
                clear to10 own9 pown9 uown9 hpu
                have row10 := LO.raw (E := intE) (show LO intE 3 _ _ _ ids from own10) rfl rfl
                go_upto_region 28 with (at_builtin; refine wpList_app1 rfl _ _ 28 rfl eiInt Tryz.underlying28 rfl (by decide) rfl row10 rfl (by simp) rfl (by simp [Value.oneCell']) (by unfold maxLen; omega) (by omega) be10.size ?_; intro v' w11 hown' hgrow hbel _ _)
                have own11 := LO.snoc (E := intE) rfl rfl rfl hown'
                have pown11 := keep_row pown10 own10 (by decide) hgrow
                have uown11 := keep_row uown10 own10 (by decide) hgrow
                have hT11 := txn_row hT10 own10 hgrow
                have be11 := be10.trans hbel
                have g11 := (be11.cell (p := ⟨b2, o2 + j, none⟩) hb2).trans gw
                have row11 := LO.raw (E := strE) (show LO strE 9 _ _ _ puts from pown11) rfl rfl
                clear hgrow hbel hown' row10 own10 pown10 uown10 hT10 hT9
                go_wp2_with (at_builtin; refine wpList_app1 rfl _ _ 56 rfl eiStr Tryz.underlying56 rfl (by decide) rfl row11 rfl (by simp) rfl (by simp [Value.oneCell']) (by unfold maxLen; omega) (by omega) be11.size ?_; intro v' w12 hown' hgrow hbel _ _)
                go_roundw
                case rel => exact ⟨j + 1, fr1, ids ++ [id], puts ++ [bd], p1, k + 1 + 1, _, by omega, by rw [List.length_append, HIJ.out]; rfl, by go_num, txn_rowS hT11 pown11 hgrow, hap1, keep_row own11 pown11 (by decide) hgrow, LO.snoc (E := strE) rfl rfl rfl hown', keep_row uown11 pown11 (by decide) hgrow, HKM.out, HCO.out, fun b hb => (by rcases List.mem_append.1 hb with h | h; exact HS.out.short b h; rw [List.mem_singleton.1 h]; exact hbl), by rw [List.length_append, List.length_singleton]; omega, by rw [List.length_append, List.length_singleton]; omega, be11.trans hbel⟩
                case measure => simp [intOf]; omega
              · have HS := Lib.hid hS
                have hA := hid_calls (hA wr hS.txn)
                clear hS
                go_wp2_with fail
                refine hA.out.mono ?_
                rintro e w9 ⟨rfl, to9, hT9⟩
                have own9 := keep_touch HS.out.own HS.out.txn to9 (by decide)
                have pown9 := keep_touch HS.out.pown HS.out.txn to9 (by decide)
                have uown9 := keep_touch HS.out.uown HS.out.txn to9 (by decide)
                have be9 := HS.out.below.trans (to9.below htm.1 htm.2 HS.out.below.size)
                go_wp2
                go_meet
                exact ⟨fr, ids, puts, p, k, D2, by omega, hT9, HS.out.ap, own9, pown9, uown9, HS.out.keys, HS.out.conts, HS.out.short, HS.out.frl, HS.out.kl, be9⟩
            · have hbl2 : 240 < bd.length := by omega
              go_wp2
              go_ret
              exact ⟨rfl, b5.trans (hS.below.mono hB5)⟩
          · go_wp2
            go_meet
            exact ⟨fr, ids, puts, p, k, D2, by omega, hS⟩
      case rest =>
        obtain ⟨fr, ids, puts, p, k, D2, hi30, hS⟩ := hcut
        obtain ⟨wa, rfl⟩ : ∃ wa, wa = wc := ⟨_, rfl⟩
        obtain ⟨Ai, ci, rfl⟩ := hS.own.form
        obtain ⟨Aq, cq, rfl⟩ := hS.pown.form
        have hF9 := hF.keep hS.below
        have hbw := hS.below
        have HS := Lib.hid hS
        have hpl : puts.length ≤ 30 := by have := hS.conts.1; omega
        clear hS hst hfo
        go_wp2_with fail
        refine Calls.mono (writes_any hF9.disk) ?_
        rintro e w' ⟨rfl, hw⟩; replace hw := hw.symm; subst hw
        have HWR := Lib.hid (rfl : D.writes = D.writes)
        go_upto_block 4 with fail
        go_cut [20] from 113 to 150 (fun _ wx => Below wa.heap.size wa wx)
        case first =>
          go_wp2_with fail
          go_loopw [20] (fun i wr => ∃ j : Nat, j ≤ ids.length ∧ i = .int .i64 j ∧ Below wa.heap.size wa wr) (fun i _ => ids.length - (intOf i).toNat)
          case atStart => exact ⟨0, by omega, rfl, Below.refl _ _⟩
          case round =>
            obtain ⟨j, hj, rfl, hbr⟩ := hrel
            by_cases hlt : j < ids.length
            · have hjp : j < puts.length := by have := HS.out.conts.1; omega
              have hown := (LO.ls (HS.out.own)).below hbr
              have hpown := (LO.ls (HS.out.pown)).below hbr
              obtain ⟨b2, o2, rfl, hb2, g0⟩ := hown.at_ hlt
              obtain ⟨b3, o3, rfl, hb3, g1⟩ := hpown.at_ hjp
              have g0 : wr.cell? ⟨b2, o2 + j, none⟩ = some (.int .i64 ids[j]) := by have := g0 0 (by decide); simpa [intE] using this
              have g1 : wr.cell? ⟨b3, o3 + j, none⟩ = some (.string ⟨puts[j].toArray⟩) := by have := g1 0 (by decide); simpa [strE, str] using this
              have hdat := HS.out.conts.2 j hlt hjp
              have hidm : ids[j] ∈ ids := List.getElem_mem hlt
              generalize ids[j] = y at *
              generalize puts[j] = bd at *
              have hhas : Maps.has D2 (.int .i64 y) = true := by rw [HS.out.keys.has]; simpa using hidm
              have hyr := HS.out.ap.hm y hidm
              have hpg := HS.out.ap.pg
              have hwid : (Lit.int .i64 y).wf = true := wfI (by omega)
              have G1 := Lib.hid (fun W h => tget_fresh t m f 16 k fr p D2 y 2 2 ⟨bd.toArray⟩ hwid hhas hdat W h)
              have G2 := Lib.hid (fun W h => tget_fresh t m f 16 k fr p D2 y 2 1 ⟨bd.toArray⟩ hwid hhas hdat W h)
              have hT1 := HS.out.txn.below hbr
              clear hdat hidm hhas hyr hpg hown hpown
              go_wp2_with fail
              refine Calls.mono (G1.out wr hT1) ?_
              rintro e w10 ⟨he, b10⟩
              replace he : e = .returned (.tuple #[.string ⟨bd.toArray⟩, .int .i64 0]) := by rw [he]; simp
              subst he
              have g0b := (b10.cell (p := ⟨b2, o2 + j, none⟩) (Nat.lt_of_lt_of_le hb2 hbr.size)).trans g0
              have hT2 := hT1.below b10
              go_wp2_with fail
              refine Calls.mono (G2.out w10 hT2) ?_
              rintro e w11 ⟨he, b11⟩
              replace he : e = .returned (.tuple #[.string ⟨#[]⟩, .int .i64 3]) := by rw [he]; simp
              subst he
              have b12 := b10.trans (b11.mono b10.size)
              have g1b := (b12.cell (p := ⟨b3, o3 + j, none⟩) (Nat.lt_of_lt_of_le hb3 hbr.size)).trans g1
              have hbe := hbr.trans (b12.mono hbr.size)
              go_wp2
              go_roundw
              case rel => exact ⟨j + 1, by omega, by go_num, hbe⟩
              case measure => simp [intOf]; omega
            · go_wp2
              go_meet
              exact hbr
        case rest =>
          have hbb := hcut
          obtain ⟨wb, rfl⟩ : ∃ wb, wb = wc := ⟨_, rfl⟩
          have hTb := HS.out.txn.below hbb
          have hFb := hF9.keep hbb
          have b5b := hbw.trans (hbb.mono hbw.size)
          have hbb0 := b5.trans (b5b.mono hB5)
          have hfl := keeps_flush hTb hFb hC hL (by omega) HS.out.ap HS.out.keys HS.out.conts HS.out.short hi30 (by have := HS.out.kl; omega) ((b5b.cell hd5).trans hc0) ((b5b.cell hd5).trans hc1) (by omega) (hT.below hbb0 hB0) hB0 hbb0.size
          have hw0 := hL.writes
          clear hcut
          go_wp2_with fail
          refine Calls.mono (writes_any hFb.disk) ?_
          rintro e w' ⟨rfl, hw⟩; replace hw := hw.symm; subst hw
          go_wp2_with fail
          refine Calls.mono hfl ?_
          rintro e wf ⟨rfl, D3, c3, gF, gW, gP, gC, gc, gL, gB, gK, gM⟩
          have hPe := pending_any gF.disk
          rw [gP] at hPe
          have hWf := writes_any gF.disk
          rw [gW] at hWf
          go_wp2_with fail
          refine Calls.mono hWf ?_
          rintro e w' ⟨rfl, hw⟩; replace hw := hw.symm; subst hw
          go_wp2_with fail
          refine Calls.mono hPe ?_
          rintro e w' ⟨rfl, hw⟩; replace hw := hw.symm; subst hw
          have hmm : m ≠ m0 := by omega
          have hTf := hTb.keepS (hsb.below b5b hs5) gK gM hmm gF gC.ok.size
          have ownf : LO intE 3 wf w5.heap.size (.slice Ai ids.length ci) ids := row_keepS gK (LO.below HS.out.own hbb) (by decide) (by decide) (fun g cs _ hg => by omega)
          have pownf : LO strE 9 wf w5.heap.size (.slice Aq puts.length cq) puts := row_keepS gK (LO.below HS.out.pown hbb) (by decide) (by decide) (fun g cs _ hg => by omega)
          have uownf := row_keepS gK (own_below HS.out.uown hbb) (by decide) (by decide) (fun g cs _ hg => by omega)
          have hrd0 : RdSt w.heap.size f d 100 c3 wf wf := ⟨D3, gF, gC, gL, Kept.refl _, Oth_.refl _, Below.refl _ _⟩
          have hbf0 := hbb0.trans gB
          have hTh := hT.below hbf0 hB0
          have hsf := hbf0.size
          have HGC := Lib.hid gc
          clear gF gW gP gC gL gB gK gM hTb hFb hfl gc hPe hWf
          go_upto_block 6 with fail
          go_cut [25] from 174 to 198 (fun _ wx => RdSt w.heap.size f d 130 c3 wf wx)
          case first =>
            go_wp2_with fail
            go_loopw [25] (fun i wr => ∃ j : Nat, j ≤ ids.length ∧ i = .int .i64 j ∧ RdSt w.heap.size f d (100 + j) c3 wf wr) (fun i _ => ids.length - (intOf i).toNat)
            case atStart => exact ⟨0, by omega, rfl, hrd0⟩
            case round =>
              obtain ⟨j, hj, rfl, hR⟩ := hrel
              by_cases hlt : j < ids.length
              · have hjp : j < puts.length := by have := HS.out.conts.1; omega
                obtain ⟨_, _, _, _, hKr, _, hbr⟩ := id hR
                have hown := LO.ls (LO.kept ownf hKr (by decide) (by decide))
                have hpown := LO.ls (LO.kept pownf hKr (by decide) (by decide))
                obtain ⟨b2, o2, rfl, hb2, g0⟩ := hown.at_ hlt
                obtain ⟨b3, o3, rfl, hb3, g1⟩ := hpown.at_ hjp
                have g0 : wr.cell? ⟨b2, o2 + j, none⟩ = some (.int .i64 ids[j]) := by have := g0 0 (by decide); simpa [intE] using this
                have hcy : c3 ids[j] = some (2, puts[j]) := by rw [HGC.out, updL, if_pos (List.getElem_mem hlt), bdOf_at HS.out.conts.1 HS.out.ap.nd j hlt]
                have hyr := HS.out.ap.hm _ (List.getElem_mem hlt)
                have hpg := HS.out.ap.pg
                have hid2 : 2 ≤ ids[j] ∧ ids[j] < 16 := by omega
                have hkr := kread hR (by omega) (hTh.below hbr hB0) hB0 (Nat.le_trans hsf hbr.size) hid2 2 puts[j] hcy
                have HP := Lib.hid (fun (W : World) (hk : Kept wf W) => ((LO.ls (LO.kept pownf hk (by decide) (by decide))).at_ hjp))
                clear hR hcy hyr hpg hid2 hown hpown g1 hb3
                generalize ids[j] = y at *
                generalize puts[j] = bd at *
                go_wp2_with fail
                refine Calls.mono hkr ?_
                rintro e w10 ⟨rfl, hR2⟩
                obtain ⟨_, _, _, _, hKr2, _, _⟩ := id hR2
                obtain ⟨b4, o4, e4, _, g1⟩ := HP.out w10 hKr2
                injection e4 with e4
                injection e4 with e5 e6
                subst e5 e6
                have g1 : w10.cell? ⟨b3, o3 + j, none⟩ = some (.string ⟨bd.toArray⟩) := by have := g1 0 (by decide); simpa [strE, str] using this
                go_wp2
                go_roundw
                case rel => exact ⟨j + 1, by omega, by go_num, hR2⟩
                case measure => simp [intOf]; omega
              · go_wp2
                go_meet
                exact hR.mono (by omega)
          case rest =>
            have hrd2 := hcut
            obtain ⟨wd, rfl⟩ : ∃ wd, wd = wc := ⟨_, rfl⟩
            have HC := Lib.hid hc
            clear hcut hrd0 hc
            go_upto_block 8 with fail
            go_wp2_with fail
            go_loopw [28] (fun i wr => ∃ q : Nat, 2 ≤ q ∧ q ≤ 16 ∧ i = .int .i64 q ∧ RdSt w.heap.size f d (130 + 2 * q) c3 wf wr) (fun i _ => 16 - (intOf i).toNat)
            case atStart => exact ⟨2, by omega, by omega, rfl, hrd2.mono (by omega)⟩
            case round =>
              obtain ⟨q, hq2, hq, rfl, hR⟩ := hrel
              obtain ⟨_, _, _, _, hKr, _, hbr⟩ := id hR
              have hbr0 := Nat.le_trans hsf hbr.size
              by_cases hlt : q < 16
              · have hu : wr.ownsRow w5.heap.size 62 2 (.slice Au used.length cu) used.length (cellsR used) := row_keepS (s := s) (fun g t cs hb n1 n2 _ => hKr g t cs hb n1 n2) uownf (by decide) (by decide) (fun g cs _ hg => by omega)
                have hH := has_any Au cu used q wr (Own.rs (show Own _ _ _ used from hu)) (by omega)
                cases hus : Rp.has used (q : Int) with
                | false =>
                  rw [hus] at hH
                  go_wp2_with fail
                  refine Calls.mono hH ?_
                  rintro e w10 ⟨rfl, b10⟩
                  have hR2 := (hR.below hbr0 b10).mono (M := 130 + 2 * (q + 1)) (by omega)
                  go_wp2
                  go_roundw
                  case rel => exact ⟨q + 1, by omega, by omega, by go_num, hR2⟩
                  case measure => simp [intOf]; omega
                | true =>
                  rw [hus] at hH
                  have hmu : Rp.Mem used (q : Int) := ((Rp.has_iff _ _).1 hus).2.2
                  have hqp := HS.out.ap.hu _ hmu
                  have hqi := HS.out.ap.um _ hmu
                  have hqf : ¬ Rp.Mem fr (q : Int) := fun hf => HS.out.ap.fu _ hf hmu
                  have hcq : c3 (q : Int) = some (1, inL q) := by rw [HGC.out, updL, if_neg hqi]; exact HC.out q (by omega) (by omega)
                  have hhq : Maps.has D2 (.int .i64 (q : Int)) = false := by rw [HS.out.keys.has]; simpa using hqi
                  have hfl := HS.out.frl
                  go_wp2_with fail
                  refine Calls.mono hH ?_
                  rintro e w10 ⟨rfl, b10⟩
                  have hR2 := hR.below hbr0 b10
                  have hs10 := Nat.le_trans hbr0 b10.size
                  have hT10 := (hTh.below hbr hB0).below (b10.mono hbr0) hB0
                  have hkr := kread hR2 (by omega) hT10 hB0 hs10 ⟨by omega, by omega⟩ 1 (inL q) hcq
                  go_wp2_with fail
                  refine Calls.mono hkr ?_
                  rintro e w11 ⟨rfl, hR3⟩
                  obtain ⟨_, _, _, _, _, _, hb11⟩ := id hR3
                  have hs11 := Nat.le_trans hsf hb11.size
                  have hkg := kget hR3 (hR3.txn hTf hmm) (by omega) (hTh.below hb11 hB0) hB0 hs11 ⟨by omega, by omega⟩ hqp.2 hhq (Rp.has_used hqf) (by omega) 1 (inL q) hcq
                  go_wp2_with fail
                  refine Calls.mono hkg ?_
                  rintro e w12 ⟨rfl, hR4⟩
                  obtain ⟨_, _, _, _, _, _, hb12⟩ := id hR4
                  have hs12 := Nat.le_trans hsf hb12.size
                  have hcv := str_of_new (P := Tryz.prog) (src := 57) (dst := 9) w12 (q : Int) 5 1 Tryz.underlying57 Tryz.underlying5 Tryz.underlying9
                  have hR5 := (hR4.below hs12 ((Below.refl _ w12).alloc (Nat.le_refl _) (.cells #[.int .u8 (q : Int)] 5))).mono (M := 130 + 2 * (q + 1)) (by omega)
                  unfold inL
                  go_wp2
                  go_roundw
                  case rel => exact ⟨q + 1, by omega, by omega, by go_num, hR5⟩
                  case measure => simp [intOf]; omega
              · have hfin := hbf0.trans hbr
                go_wp2
                go_ret
                exact ⟨rfl, hfin⟩
theorem akeeps_any (A1 A2 : Option Addr) (n1 c1 n2 c2 : Nat) (pages : Int) (l : List Run) (bodies : List Bs) (w : World) (e1 : l.length = n1) (e2 : bodies.length = n2) (hr : RS w w.heap.size A1 l) (hb : LS strE w w.heap.size A2 bodies) (hT : HT w) :
    Calls Tryz.prog 6 #[.slice A1 n1 c1, .int .i64 pages, .slice A2 n2 c2] w (TrueEnd w) := by
  subst e1 e2
  by_cases h : 100 < l.length ∨ 30 < bodies.length
  · exact akeeps_big A1 A2 _ c1 _ c2 pages w h
  · exact akeeps_main A1 A2 c1 c2 pages l bodies w hr hb (by omega) (by omega) hT
end Go.Proofs.YtlgbcogdogpihaaGreatDoor
