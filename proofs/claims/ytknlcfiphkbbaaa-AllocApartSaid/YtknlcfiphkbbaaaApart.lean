/- The walk of rootstocklaw10.AllocApart. -/
import Derived.Test.YtknlcfiphkbbaaaApart1
import Derived.Deep.RegionLaw
import Derived.Deep.DeepCutAuto
import Derived.Deep.CutRange
namespace Go.Proofs.Ytknlcfiphkbbaaa
open Go.RowKit Go.Shelf
structure ActG where
  k : Int
  id : Int
  kind : Int
  body : ByteArray
def actE : Enc ActG := ⟨fun a => [.int .i64 a.k, .int .i64 a.id, .int .u8 a.kind, .string a.body], 4, fun _ => rfl, by decide, fun x u hu => by simp at hu; rcases hu with rfl | rfl | rfl | rfl <;> rfl⟩
theorem LS.act_at {w : World} {B : Nat} {A : Option Addr} {l : List ActG} (h : LS actE w B A l) {k : Nat} (hk : k < l.length) : ∃ b off, A = some ⟨b, off, none⟩ ∧ b < B ∧ w.cell? ⟨b, off + k * 4, none⟩ = some (.int .i64 l[k].k) ∧ w.cell? ⟨b, off + k * 4 + 1, none⟩ = some (.int .i64 l[k].id) ∧ w.cell? ⟨b, off + k * 4 + 2, none⟩ = some (.int .u8 l[k].kind) ∧ w.cell? ⟨b, off + k * 4 + 3, none⟩ = some (.string l[k].body) := by
  obtain ⟨b, off, rfl, hb, hc⟩ := h.at_ hk
  exact ⟨b, off, rfl, hb, hc 0 (by decide), hc 1 (by decide), hc 2 (by decide), hc 3 (by decide)⟩
/-- what AllocApart's rounds keep -/
structure ApSt (base : Nat) (w wr : World) (t m f n : Nat) (used : List Run) (vu v : Value) (q : Nat) (fr : List Run) (mine : List Int) (p : Int) (k : Nat) (D : DataW Value) : Prop where
  txn : Txn wr t m f n fr p k D
  ap : Rp.Ap (max (n : Int) 2) fr used mine p
  own : wr.ownsRow base 3 1 v mine.length (intE.cells mine)
  uown : wr.ownsRow base 55 2 vu used.length (cellsR used)
  keys : KeysAre D mine
  frl : fr.length ≤ 200 + 10 * q
  kl : k ≤ 2 * q
  ml : mine.length ≤ q
  below : Below base w wr
theorem ApSt.below_ {base : Nat} {w wr w' : World} {t m f n : Nat} {used : List Run} {vu v : Value} {q : Nat} {fr : List Run} {mine : List Int} {p : Int} {k : Nat} {D : DataW Value} (h : ApSt base w wr t m f n used vu v q fr mine p k D) (hB : base ≤ w.heap.size) (hb : Below wr.heap.size wr w') : ApSt base w w' t m f n used vu v q fr mine p k D :=
  ⟨h.txn.below hb, h.ap, own_below h.own hb, own_below h.uown hb, h.keys, h.frl, h.kl, h.ml, h.below.trans (hb.mono (by have := h.below.size; omega))⟩
/-- what the tail of a round carries -/
structure TailSt (base : Nat) (w W : World) (t m f n : Nat) (fr : List Run) (p : Int) (k : Nat) (D : DataW Value) (Af : Option Addr) (fs : List Run) (Au : Option Addr) (used : List Run) (An : Option Addr) : Prop where
  txn : Txn W t m f n fr p k D
  rf : RS W W.heap.size Af fs
  ru : RS W W.heap.size Au used
  rn : RS W W.heap.size An [(2, p - 1)]
  bel : Below base w W
theorem TailSt.go {base : Nat} {w W W' : World} {t m f n : Nat} {fr : List Run} {p : Int} {k : Nat} {D : DataW Value} {Af : Option Addr} {fs : List Run} {Au : Option Addr} {used : List Run} {An : Option Addr} (h : TailSt base w W t m f n fr p k D Af fs Au used An) (hB : base ≤ w.heap.size) (hb : Below W.heap.size W W') : TailSt base w W' t m f n fr p k D Af fs Au used An :=
  ⟨h.txn.below hb, (h.rf.below hb).more hb.size, (h.ru.below hb).more hb.size, (h.rn.below hb).more hb.size, h.bel.trans (hb.mono (by have := h.bel.size; omega))⟩
set_option maxRecDepth 100000 in
set_option maxHeartbeats 40000000 in
theorem apart_small (s : Int) (A A2 : Option Addr) (c c2 : Nat) (l : List Run) (ac : List ActG) (pages : Int) (w : World) (hr : RS w w.heap.size A l) (hac : LS actE w w.heap.size A2 ac) (hwf : ∀ x ∈ ac, (Lit.int .i64 x.k).wf = true ∧ (Lit.int .i64 x.id).wf = true) (h1 : s ≤ 24) (h2 : l.length ≤ 100) (h3 : ac.length ≤ 100) :
    Calls Try.prog 5 #[.int .i64 s, .slice A l.length c, .int .i64 pages, .slice A2 ac.length c2] w fun e w' => e = .returned (.bool true) ∧ Below w.heap.size w w' := by
  have hW := hid_calls (works_any taken_said w)
  have hd1 : decide (24 < s) = false := by simp; omega
  have hd2 : decide (100 < (l.length : Int)) = false := by simp; omega
  have hd3 : decide (100 < (ac.length : Int)) = false := by simp; omega
  go_enter Try.func5, Try.ntmps5
  go_wp2_with fail
  refine hW.out.mono ?_
  rintro e w1 ⟨rfl, b1⟩
  go_wp2_with fail
  refine (dnew_of s _).mono ?_
  rintro e w2 ⟨d, rfl, hdk, b2⟩
  have b12 := b1.trans (b2.mono b1.size)
  clear b1 b2 hW
  go_wp2_with fail
  refine (fnew_any d _ _ hdk).mono ?_
  rintro e w3 ⟨f, rfl, hf, b3⟩
  have b13 := b12.trans (b3.mono b12.size)
  clear b12 b3 hdk
  go_wp2_with fail
  have hn : diskN s ≤ 24 := by unfold diskN; omega
  generalize diskN s = n at *
  refine (tnew_any f n A c l pages (by omega) _ hf ((hr.below b13).more b13.size) (by omega)).mono ?_
  rintro e w4 ⟨t, m, rfl, htm, hT, b4⟩
  have b14 := b13.trans (b4.mono b13.size)
  have htm2 : w.heap.size ≤ t ∧ w.heap.size ≤ m := by have := b13.size; omega
  have hml := meet_len l [(2, pagesN pages n - 1)]
  have hpg : 2 ≤ pagesN pages n ∧ pagesN pages n ≤ max (n : Int) 2 ∧ max (n : Int) 2 ≤ 100000 := by unfold pagesN; omega
  have hap := Rp.Ap.start l hpg
  have hul := minus_len [(2, pagesN pages n - 1)] l
  clear b13 b4 htm hf
  generalize pagesN pages n = p0 at *
  go_wp2_with fail
  refine (tpages_any t m f n _ _ _ _ _ hT).mono ?_
  rintro e w' ⟨rfl, hw⟩; replace hw := hw.symm; subst hw
  have hT5 := hT.alloc (.cells #[.int .i64 2, .int .i64 (p0 - 1)] 55)
  have b15 := b14.alloc b14.size (.cells #[.int .i64 2, .int .i64 (p0 - 1)] 55)
  have r5 := (hr.below b15).more b15.size
  have hMi := hid_calls (minus_any (some ⟨w4.heap.size, 0, none⟩) A 1 c [(2, p0 - 1)] l _ (RS.single w4 2 (p0 - 1) 55) r5 (by simp) (by omega))
  change Hid (Calls Try.prog 25 #[.slice (some ⟨w4.heap.size, 0, none⟩) 1 1, .slice A l.length c] _ _) at hMi
  generalize Rp.minus [(2, p0 - 1)] l = used at *
  generalize Rp.meet l [(2, p0 - 1)] = fr0 at *
  go_wp2_with fail
  refine hMi.out.mono ?_
  intro e w6 he
  obtain ⟨Au, cu, rfl, ho6, r6, b6⟩ := he.open_
  clear he hMi r5
  have hT6 := hT5.below b6
  have b16 := b15.trans (b6.mono b15.size)
  have hst : ApSt w.heap.size w w6 t m f n used (.slice Au used.length cu) (.slice none 0 0) 0 fr0 [] p0 0 (.map []) :=
    ⟨hT6, hap, World.ownsRow_nil _ _ _ _, own_lower ho6 b15.size, KeysAre.nil_, by simp at hml; omega, by omega, by simp, b16⟩
  have hul2 : used.length ≤ 1000 := by simp at hul; omega
  clear hT hT5 hT6 b14 b15 b16 b6 r6 ho6 hml hul hap hpg hr
  go_wp2
  go_loopw [15, 16] (fun v i wr => ∃ (q : Nat) (fr : List Run) (mine : List Int) (p : Int) (k : Nat) (D : DataW Value), q ≤ ac.length ∧ i = .int .i64 q ∧ ApSt w.heap.size w wr t m f n used (.slice Au used.length cu) v q fr mine p k D) (fun _ i _ => ac.length - (intOf i).toNat)
  case atStart => exact ⟨0, fr0, [], p0, 0, _, by omega, rfl, hst⟩
  case round =>
    obtain ⟨q, fr, mine, p, k, D, hq, rfl, hS⟩ := hrel
    by_cases hlt : q < ac.length
    · obtain ⟨bq, oq, rfl, hbq, a0, a1, a2, a3⟩ := (hac.below hS.below).act_at hlt
      have hwq := hwf _ (List.getElem_mem hlt)
      generalize ac[q] = x at *
      obtain ⟨xk, xid, xkind, xbody⟩ := x
      simp only at hwq a0 a1 a2 a3
      have hbx : Below wr.heap.size wr (wr.alloc (.cells #[.int .i64 xk, .int .i64 xid, .int .u8 xkind, .string xbody] 59)) := (Below.refl _ wr).alloc (Nat.le_refl _) _
      have hS1 := hS.below_ (Nat.le_refl _) hbx
      have hB1 := Blk.new wr 59 #[.int .i64 xk, .int .i64 xid, .int .u8 xkind, .string xbody]
      obtain ⟨Am, cm, rfl⟩ := own_form hS.own
      have hm1 := (show LO intE 3 _ _ _ mine from hS1.own).ls
      have hal := apart_alloc t m f n k fr used mine p D (by have := hS.frl; omega) (by have := hS.kl; unfold maxLen; omega) hS.ap hS.keys
      have hml := hS.ml
      have hkl := hS.kl
      have hfl := hS.frl
      clear hS hbx
      go_upto_if 75 with fail
      go_cut [15] from 62 to 150 (fun v wx => ∃ (fr : List Run) (mine : List Int) (p : Int) (k : Nat) (D : DataW Value), ApSt w.heap.size w wx t m f n used (.slice Au used.length cu) v (q + 1) fr mine p k D)
      case first =>
        generalize hw1 : wr.alloc (.cells #[.int .i64 xk, .int .i64 xid, .int .u8 xkind, .string xbody] 59) = wa at *
        generalize hg : wr.heap.size = gx at *
        clear hw1 hg
        have hbe1 := hS1.below
        cases hb3 : (xk.tmod 3 != 0) with
        | true =>
          rcases hal with ⟨id, fr1, p1, k1, D1, hA, ⟨n1, n2, n3, n4⟩, hap1, hkm1, hl1, hk2⟩ | ⟨hc0, hpr, hA⟩
          · have hA := fun w h => hid_calls (hA w h)
            go_wp2_with fail
            refine (hA _ hS1.txn).out.mono ?_
            rintro e w7 ⟨rfl, to7, hT7⟩
            have own7 := keep_touch hS1.own hS1.txn to7 (by decide)
            have uown7 := keep_touch hS1.uown hS1.txn to7 (by decide)
            have hbe7 := hbe1.trans (to7.below htm2.1 htm2.2 hbe1.size)
            have hm7 := (show LO intE 3 _ _ _ mine from own7).ls
            have hne : ∀ (j : Nat) (hj : j < mine.length), (mine[j] == id) = false := fun j hj => beq_eq_false_iff_ne.2 (fun e => n1 (e ▸ List.getElem_mem hj))
            have HNE := Lib.hid hne
            have HN1 := Lib.hid n1
            have HN2 := Lib.hid n2
            clear hA hne n1 n2 hm1 hB1 to7
            go_wp2
            go_loop [20] (fun i => ∃ j : Nat, j ≤ mine.length ∧ i = .int .i64 j) (fun i => mine.length - (intOf i).toNat)
            case atStart => exact ⟨0, Nat.zero_le _, rfl⟩
            case round =>
              obtain ⟨j, hj, rfl⟩ := hrel
              by_cases hjl : j < mine.length
              · obtain ⟨bm, om, rfl, hbm, cj⟩ := hm7.int_at hjl
                have hne := HNE.out j hjl
                generalize mine[j] = y at *
                go_wp2
                go_round
                case rel => exact ⟨j + 1, by omega, by go_num⟩
                case measure => simp [intOf]; omega
              · obtain rfl : j = mine.length := by omega
                have hH := hid_calls (has_any Au cu used id w7 (Own.rs (show Own _ _ _ used from uown7)) (by omega))
                rw [HN2.out] at hH
                go_wp2_with fail
                refine hH.out.mono ?_
                rintro e w8 ⟨rfl, b8⟩
                have hT8 := hT7.below b8
                have own8 := own_below own7 b8
                have uown8 := own_below uown7 b8
                have hbe8 := hbe7.trans (b8.mono hbe7.size)
                clear b8 own7 uown7 hT7 hbe7 hH
                go_wp2_with fail
                refine (room_any f n w8 hT8.file).mono ?_
                rintro e w' ⟨rfl, hw⟩; replace hw := hw.symm; subst hw
                go_wp2_with (at_builtin; refine wpList_app1 rfl _ _ 36 rfl eiInt Try.underlying36 rfl (by decide) rfl own8 rfl (by simp) rfl (by simp [Value.oneCell']) (by unfold maxLen; omega) (by omega) hbe8.size ?_; intro v' w9 hown' hgrow hbel _ _)
                go_meet
                case rel => exact ⟨fr1, mine ++ [id], p1, k1, D1, txn_row hT8 own8 hgrow, hap1, LO.snoc (E := intE) rfl rfl rfl hown', keep_row uown8 own8 (by decide) hgrow, hkm1, by omega, by omega, by simp; omega, hbe8.trans hbel⟩
          · have hA := fun w h => hid_calls (hA w h)
            go_wp2_with fail
            refine (hA _ hS1.txn).out.mono ?_
            rintro e w7 ⟨rfl, to7, hT7⟩
            have own7 := keep_touch hS1.own hS1.txn to7 (by decide)
            have uown7 := keep_touch hS1.uown hS1.txn to7 (by decide)
            have hbe7 := hbe1.trans (to7.below htm2.1 htm2.2 hbe1.size)
            have hap1 := hS1.ap
            have hkm1 := hS1.keys
            have HC0 := Lib.hid hc0
            have HPR := Lib.hid hpr
            clear hA hm1 hB1 to7 hc0 hpr hS1
            go_wp2_with fail
            refine (tfree_any t m f n _ _ _ _ _ hT7 (by omega)).mono ?_
            intro e w8 he
            obtain ⟨A8, c8, rfl, _, r8, b8⟩ := he.open_
            clear he
            have hT8 := hT7.below b8
            have own8 := own_below own7 b8
            have uown8 := own_below uown7 b8
            have hbe8 := hbe7.trans (b8.mono hbe7.size)
            have hC := hid_calls (count_any A8 c8 fr w8 r8 (by omega))
            rw [HC0.out] at hC
            clear b8 own7 uown7 hT7 hbe7 r8
            go_wp2_with fail
            refine hC.out.mono ?_
            rintro e w9 ⟨rfl, b9⟩
            have hT9 := hT8.below b9
            have own9 := own_below own8 b9
            have uown9 := own_below uown8 b9
            have hbe9 := hbe8.trans (b9.mono hbe8.size)
            have hR := hid_calls (room_any f n w9 hT9.file)
            clear b9 own8 uown8 hT8 hbe8 hC
            have hP := tpages_any t m f n _ _ _ _ _ hT9
            rw [HPR.out] at hP
            have hP := hid_calls hP
            go_wp2_with fail
            refine hP.out.mono ?_
            rintro e w' ⟨rfl, hw⟩; replace hw := hw.symm; subst hw
            go_wp2_with fail
            refine hR.out.mono ?_
            rintro e w' ⟨rfl, hw⟩; replace hw := hw.symm; subst hw
            go_wp2_with fail
            go_meet
            case rel => exact ⟨fr, mine, p, k, D, hT9, hap1, own9, uown9, hkm1, by omega, by omega, by omega, hbe9⟩
        | false =>
          have hD := hid_calls (tdrop_any t m f n k fr p D xid hwq.2 (by omega) wa hS1.txn)
          have hap1 := ap_drop hS1.ap hS1.keys xid
          have hkm1 := hS1.keys.drop_ hS1.ap.nd xid
          have hfl1 := dropF_len fr D xid
          have hlt1 := hB1.lt
          have hc1 := hB1.cell 1
          go_wp2_with fail
          refine hD.out.mono ?_
          rintro e w7 ⟨rfl, to7, hT7⟩
          have own7 := keep_touch hS1.own hS1.txn to7 (by decide)
          have uown7 := keep_touch hS1.uown hS1.txn to7 (by decide)
          have hbe7 := hbe1.trans (to7.below htm2.1 htm2.2 hbe1.size)
          have hcx : w7.cell? ⟨gx, 1, none⟩ = some (.int .i64 xid) := by
            have hb := to7.block gx hB1.lt
            obtain ⟨_, hbt, _⟩ := hS1.txn.self
            have h1 : gx ≠ t := fun e => by subst e; unfold Blk at hbt hB1; rw [hB1] at hbt; injection hbt with hbt; injection hbt with _ hbt; cases hbt
            obtain ⟨es, cl, hmm, _⟩ := hS1.txn.map
            have h2 : gx ≠ m := fun e => by subst e; unfold Blk at hB1; rw [hB1] at hmm; cases hmm
            exact (World.cell?_of_block (a := ⟨gx, 1, none⟩) (hb h1 h2)).trans hc1
          have hltx : gx < w7.heap.size := Nat.lt_of_lt_of_le hlt1 to7.size
          have hm7 := (show LO intE 3 _ _ _ mine from own7).ls
          clear hD hm1 hB1 to7 hS1 hc1 hlt1
          go_wp2
          go_loopw [21, 22] (fun v i wx => ∃ j : Nat, j ≤ mine.length ∧ i = .int .i64 j ∧ LO intE 3 wx w7.heap.size v ((mine.take j).filter fun x => x != xid) ∧ Below w7.heap.size w7 wx) (fun _ i _ => mine.length - (intOf i).toNat)
          case atStart => exact ⟨0, Nat.zero_le _, rfl, LO.nil_ _ _, Below.refl _ _⟩
          case round =>
            obtain ⟨j, hj, rfl, ho, hb⟩ := hrel
            by_cases hjl : j < mine.length
            · obtain ⟨bm, om, rfl, hbm, cj⟩ := (hm7.below hb).int_at hjl
              have hcy := (hb.cell (p := ⟨gx, 1, none⟩) hltx).trans hcx
              have hlty : gx < wr.heap.size := Nat.lt_of_lt_of_le hltx hb.size
              have hfs : (mine.take (j + 1)).filter (fun x => x != xid) = (mine.take j).filter (fun x => x != xid) ++ if mine[j] = xid then [] else [mine[j]] := by
                rw [List.take_succ_eq_append_getElem hjl, List.filter_append]
                by_cases e : mine[j] = xid <;> simp [e]
              have HFS := Lib.hid hfs
              have hfl2 : ((mine.take j).filter fun x => x != xid).length ≤ 200 := by
                have h1 := List.length_filter_le (fun x => x != xid) (mine.take j); have h2 := List.length_take_le j mine; omega
              generalize (mine.take j).filter (fun x => x != xid) = o at *
              clear hfs
              by_cases e : mine[j] = xid
              · have hbq : (mine[j] != xid) = false := by simp [e]
                rw [if_pos e, List.append_nil] at HFS
                generalize mine[j] = y at *
                clear e
                go_wp2_with fail
                go_quiet (fail)
                go_wp2
                go_roundw
                case rel => exact ⟨j + 1, by omega, by go_num, by rw [HFS.out]; exact ho.drewN _, below_drewN hb _⟩
                case measure => simp [intOf]; omega
              · have hbq : (mine[j] != xid) = true := by simpa using e
                rw [if_neg e] at HFS
                generalize mine[j] = y at *
                clear e
                obtain ⟨Ao, co, rfl⟩ := ho.form
                have ho1 := fun nq => (ho.drewN nq).raw rfl (s := 1) rfl
                go_wp2_with fail
                go_quiet (fail)
                go_wp2_with (at_builtin; refine wpList_app1 rfl (.tmp 144) (.tmp 149) 36 rfl eiInt Try.underlying36 rfl (by decide) rfl (ho1 _) rfl (by simp) rfl (by simp [Value.oneCell']) (by unfold maxLen; omega) (by omega) (below_drewN hb _).size ?_; intro v' w9 hown' hgrow hbel _ _)
                go_roundw
                case rel => exact ⟨j + 1, by omega, by go_num, by rw [HFS.out]; exact LO.snoc (E := intE) rfl rfl rfl hown', (below_drewN hb _).trans hbel⟩
                case measure => simp [intOf]; omega
            · obtain rfl : j = mine.length := by omega
              rw [List.take_of_length_le (Nat.le_refl _)] at ho
              have hfl2 : (mine.filter fun x => x != xid).length ≤ mine.length := List.length_filter_le _ _
              generalize mine.filter (fun x => x != xid) = o at *
              go_wp2_with fail
              go_meet
              case rel => exact ⟨dropF fr D xid, o, p, k, dropD D xid, hT7.below hb, hap1, (ho.lower hbe7.size), own_below uown7 hb, hkm1, by omega, by omega, by omega, hbe7.trans (hb.mono hbe7.size)⟩
      case rest =>
        clear hal hml hkl hfl hm1 hS1 hB1 a0 a1 a2 a3
        obtain ⟨fr2, mine2, p2, k2, D2, hAp⟩ := hcut
        obtain ⟨Am2, cm2, rfl⟩ := own_form hAp.own
        have hmR := (show LO intE 3 _ _ _ mine2 from hAp.own).ls
        have hml2 := hAp.ml
        have hfl2 := hAp.frl
        have hkl2 := hAp.kl
        have hbec := hAp.below
        have hTc := hAp.txn
        have hsz2 := hAp.keys.size
        have hFr : ∀ (j : Nat) (hj : j < mine2.length) (W : World), Txn W t m f n fr2 p2 k2 D2 → Hid (Calls Try.prog 22 #[.pointer (some ⟨t, 0, none⟩), .int .i64 mine2[j]] W fun e w' => e = .returned (.bool true) ∧ Below W.heap.size W w') := fun j hj W hW => by
          have hr := hAp.ap.hm _ (List.getElem_mem hj)
          have hpg := hAp.ap.pg
          have h := tfresh_any t m f n k2 fr2 p2 D2 mine2[j] (wfI (by omega)) W hW
          rw [hAp.keys.has, decide_eq_true (List.getElem_mem hj)] at h
          exact h
        have hpg := hAp.ap.pg
        have hsum := hAp.ap.sum
        have hboth := hAp.ap.both
        have hnn : ∀ l : List Run, 0 ≤ Rp.count l := fun l => by rw [Rp.count_nums]; omega
        have hn1 := hnn fr2
        have hn2 := hnn (Rp.ones mine2)
        have hn3 := hnn used
        have hn4 : Rp.count [(2, p2 - 1)] ≤ 4294967296 := by
          have h1 := sAt_bd (Rp.norm [(2, p2 - 1)]) (canon_run _ 0 (Int.le_refl _) (Rp.norm_ok [(2, p2 - 1)]).1) 1
          have h2 : sAt (Rp.norm [(2, p2 - 1)]) 1 = Rp.count [(2, p2 - 1)] := by
            unfold sAt Rp.count; rw [List.take_of_length_le (by have := norm_len [(2, p2 - 1)]; simpa using this)]
          omega
        have huown := hAp.uown
        have hol : (Rp.ones mine2).length = mine2.length := by simp [Rp.ones]
        clear hnn
        go_wp2
        go_loopw [23, 24, 25] (fun v i _ wx => ∃ j : Nat, j ≤ mine2.length ∧ i = .int .i64 j ∧ Own wx wc.heap.size v (Rp.ones (mine2.take j)) ∧ Below wc.heap.size wc wx) (fun _ i _ _ => mine2.length - (intOf i).toNat)
        case atStart => exact ⟨0, Nat.zero_le _, rfl, Own.nil_ _ _, Below.refl _ _⟩
        case round =>
          obtain ⟨j, hj, rfl, ho, hb⟩ := hrel
          by_cases hjl : j < mine2.length
          · obtain ⟨bm, om, rfl, hbm, cc⟩ := hmR.int_at hjl
            have hF := hFr j hjl
            have hos : Rp.ones (mine2.take (j + 1)) = Rp.ones (mine2.take j) ++ [(mine2[j], mine2[j])] := by
              rw [List.take_succ_eq_append_getElem hjl]; unfold Rp.ones; rw [List.map_append]; rfl
            have HOS := Lib.hid hos
            have hll : (Rp.ones (mine2.take j)).length ≤ 200 := by simp [Rp.ones]; omega
            generalize Rp.ones (mine2.take j) = o at *
            generalize mine2[j] = y at *
            clear hos
            have cj := (hb.cell (p := ⟨bm, om + j, none⟩) hbm).trans cc
            obtain ⟨Ao, co, rfl⟩ := ho.form
            have hown3 : wr.drew.ownsRow wc.heap.size 55 2 (.slice Ao o.length co) o.length (cellsR o) := ho
            have hb3 : wc.heap.size ≤ wr.drew.heap.size := hb.size
            have hTr := hTc.below hb
            go_wp2_with fail
            go_region_law (first | (refine step_app1 rfl (.tmp 158) (.tmp 168) 22 rfl eiRun Try.underlying22 rfl (by decide) rfl hown3 rfl (by simp) rfl (by simp [Value.oneCell']) (by unfold maxLen; omega) (by omega) hb3 ?_; intro v' w6 hown' hgrow hbel))
            all_goals
              have hT6 := hTc.below (hb.drew.trans hbel)
              have ho6 := push_own (y := (y, y)) hown'
              have hb6 := hb.drew.trans hbel
              have c6 := (hb6.cell (p := ⟨bm, om + j, none⟩) hbm).trans cc
              clear hTr hown3 hown' hgrow hbel
              go_wp2_with fail
              refine (hF _ hT6).out.mono ?_
              rintro e w7 ⟨rfl, b7⟩
              go_wp2
              go_roundw
              case rel => exact ⟨j + 1, by omega, by go_num, by rw [HOS.out]; exact ho6.below b7, hb6.trans (b7.mono hb6.size)⟩
              case measure => simp [intOf]; omega
          · obtain rfl : j = mine2.length := by omega
            rw [List.take_of_length_le (Nat.le_refl _)] at ho
            have hT1 := hTc.below hb
            have hu1 := own_below huown hb
            have HSUM := Lib.hid hsum
            have HBOTH := Lib.hid hboth
            have HSZ := Lib.hid hsz2
            clear hsum hboth hsz2 hTc hbec huown hFr hmR
            generalize hfs : Rp.ones mine2 = fs at *
            clear hfs
            obtain ⟨Af, cf, rfl⟩ := ho.form
            have hbA : Below wr.heap.size wr (wr.alloc (.cells #[.int .i64 2, .int .i64 (p2 - 1)] 55)) := (Below.refl _ wr).alloc (Nat.le_refl _) _
            have hS0 : TailSt wc.heap.size wc (wr.alloc (.cells #[.int .i64 2, .int .i64 (p2 - 1)] 55)) t m f n fr2 p2 k2 D2 Af fs Au used (some ⟨wr.heap.size, 0, none⟩) :=
              ⟨hT1.below hbA, (ho.rs.below hbA).more hbA.size, ((Own.rs (show Own _ _ _ used from hu1)).below hbA).more hbA.size, RS.single wr 2 (p2 - 1) 55, hb.trans (hbA.mono hb.size)⟩
            have hPg := hid_calls (tpages_any t m f n _ _ _ _ _ hT1)
            have hfsl : fs.length ≤ 200 := by omega
            have hle : Rp.count fr2 + Rp.count fs + Rp.count used ≤ 4294967296 := by rw [HSUM.out]; exact hn4
            have hne : (Rp.count fr2 + Rp.count fs + Rp.count used != Rp.count [(2, p2 - 1)]) = false := by rw [HSUM.out]; simp
            have hC1 := fun A c W h => hid_calls (count_any A c fr2 W h (by omega))
            have hC2 := fun A c W h => hid_calls (count_any A c fs W h (by omega))
            have hC3 := fun A c W h => hid_calls (count_any A c used W h (by omega))
            have hC4 := fun A c W h => hid_calls (count_any A c [(2, p2 - 1)] W h (by simp))
            have hl1 := union_len fs used
            have hU1 := fun A B a b W h h' => hid_calls (union_any A B a b fs used W h h' (by omega) (by omega))
            have hU2 := fun A B a b W h h' => hid_calls (union_any A B a b fr2 (Rp.union fs used) W h h' (by omega) (by omega))
            have hN := fun A c W h => hid_calls (norm_end A c [(2, p2 - 1)] W h (by simp))
            have hnl := norm_len [(2, p2 - 1)]
            rw [HBOTH.out] at hU2
            have hSm := fun A B c d W h h' => hid_calls (same_yes A B (Rp.norm [(2, p2 - 1)]) c d W h h' (by simp at hnl; omega))
            have hTk := fun W h => taken_said t m f n k2 fr2 p2 D2 W (by omega) h
            unfold TakenEnd at hTk
            rw [HSZ.out] at hTk
            have hTk := fun W h => hid_calls (hTk W h)
            rw [hol] at hC2 hU1
            simp only [List.length_cons, List.length_nil, Nat.zero_add] at hC4 hN
            generalize Rp.union fs used = u1 at *
            generalize Rp.norm [(2, p2 - 1)] = nm at *
            generalize Rp.count fr2 = c1 at *
            generalize Rp.count fs = c2 at *
            generalize Rp.count used = c3 at *
            generalize Rp.count [(2, p2 - 1)] = c4 at *
            clear ho hT1 hu1 hbA hl1 hnl HSUM HBOTH HSZ
            go_wp2_with fail
            refine hPg.out.mono ?_
            rintro e w' ⟨rfl, hw⟩; replace hw := hw.symm; subst hw
            go_wp2_with fail
            generalize wr.alloc (.cells #[.int .i64 2, .int .i64 (p2 - 1)] 55) = wb at *
            generalize wr.heap.size = gn at *
            refine (tfree_any t m f n _ _ _ _ _ hS0.txn (by omega)).mono ?_
            intro e x1 he
            obtain ⟨A8, c8, rfl, _, r8, b8⟩ := he.open_
            clear he
            have hS1 := hS0.go (Nat.le_refl _) b8
            clear hS0 b8
            go_wp2_with fail
            refine (hC1 A8 c8 x1 r8).out.mono ?_
            rintro e x2 ⟨rfl, b8⟩
            have hS2 := hS1.go (Nat.le_refl _) b8
            clear hS1 b8 r8
            go_wp2_with fail
            refine (hC2 Af cf x2 hS2.rf).out.mono ?_
            rintro e x3 ⟨rfl, b8⟩
            have hS3 := hS2.go (Nat.le_refl _) b8
            clear hS2 b8
            go_wp2_with fail
            refine (hC3 Au cu x3 hS3.ru).out.mono ?_
            rintro e x4 ⟨rfl, b8⟩
            have hS4 := hS3.go (Nat.le_refl _) b8
            clear hS3 b8
            go_wp2_with fail
            refine (tfree_any t m f n _ _ _ _ _ hS4.txn (by omega)).mono ?_
            intro e x5 he
            obtain ⟨A9, c9, rfl, _, r9, b8⟩ := he.open_
            clear he
            have hS5 := hS4.go (Nat.le_refl _) b8
            clear hS4 b8
            go_wp2_with fail
            refine (hU1 Af Au cf cu x5 hS5.rf hS5.ru).out.mono ?_
            intro e x6 he
            obtain ⟨A10, c10, rfl, _, r10, b8⟩ := he.open_
            clear he
            have hS6 := hS5.go (Nat.le_refl _) b8
            have r96 := (r9.below b8).more b8.size
            clear hS5 b8 r9
            go_wp2_with fail
            refine (hU2 A9 A10 c9 c10 x6 r96 r10).out.mono ?_
            intro e x7 he
            obtain ⟨A11, c11, rfl, _, r11, b8⟩ := he.open_
            clear he
            have hS7 := hS6.go (Nat.le_refl _) b8
            clear hS6 b8 r96 r10
            go_wp2_with fail
            refine (hN _ 1 x7 hS7.rn).out.mono ?_
            intro e x8 he
            obtain ⟨A12, c12, rfl, _, r12, b8⟩ := he.open_
            clear he
            have hS8 := hS7.go (Nat.le_refl _) b8
            have r118 := (r11.below b8).more b8.size
            clear hS7 b8 r11
            go_wp2_with fail
            refine (hSm A11 A12 c11 c12 x8 r118 r12).out.mono ?_
            rintro e x9 ⟨rfl, b8⟩
            have hS9 := hS8.go (Nat.le_refl _) b8
            clear hS8 b8 r118 r12
            go_wp2_with fail
            refine (hC4 _ 1 x9 hS9.rn).out.mono ?_
            rintro e x10 ⟨rfl, b8⟩
            have hS10 := hS9.go (Nat.le_refl _) b8
            clear hS9 b8
            go_wp2_with fail
            refine (hTk x10 hS10.txn).out.mono ?_
            rintro e x11 ⟨A13, c13, rfl, b8⟩
            have hS11 := hS10.go (Nat.le_refl _) b8
            have hApE := hAp.below_ (Nat.le_refl _) hS11.bel
            go_wp2
            go_roundw
            case rel => exact ⟨q + 1, fr2, mine2, p2, k2, D2, by omega, by go_num, hApE⟩
            case measure => simp [intOf]; omega
    · obtain rfl : q = ac.length := by omega
      go_wp2
      go_ret
      exact ⟨rfl, hS.below⟩
set_option maxRecDepth 100000 in
set_option maxHeartbeats 1000000 in
theorem apart_big (s : Int) (A A2 : Option Addr) (c c2 n n2 : Nat) (pages : Int) (w : World) (hbig : ¬ (s ≤ 24 ∧ n ≤ 100 ∧ n2 ≤ 100)) :
    Calls Try.prog 5 #[.int .i64 s, .slice A n c, .int .i64 pages, .slice A2 n2 c2] w fun e w' => e = .returned (.bool true) ∧ Below w.heap.size w w' := by
  have hW := hid_calls (works_any taken_said w)
  go_enter Try.func5, Try.ntmps5
  by_cases h1 : 24 < s
  · have hd1 : decide (24 < s) = true := by simp [h1]
    go_wp2_with fail
    refine hW.out.mono ?_
    rintro e w1 ⟨rfl, b1⟩
    go_wp2
    go_ret
    exact ⟨rfl, b1⟩
  · have hd1 : decide (24 < s) = false := by simp [h1]
    by_cases h2 : 100 < n
    · have hd2 : decide (100 < (n : Int)) = true := by simp; omega
      go_wp2_with fail
      refine hW.out.mono ?_
      rintro e w1 ⟨rfl, b1⟩
      go_wp2
      go_ret
      exact ⟨rfl, b1⟩
    · have hd2 : decide (100 < (n : Int)) = false := by simp; omega
      have hd3 : decide (100 < (n2 : Int)) = true := by simp; omega
      go_wp2_with fail
      refine hW.out.mono ?_
      rintro e w1 ⟨rfl, b1⟩
      go_wp2
      go_ret
      exact ⟨rfl, b1⟩
theorem allocApart_any (s : Int) (A A2 : Option Addr) (n c n2 c2 : Nat) (l : List Run) (ac : List ActG) (pages : Int) (w : World) (hln : l.length = n) (hdn : ac.length = n2) (hr : RS w w.heap.size A l) (hac : LS actE w w.heap.size A2 ac) (hwf : ∀ x ∈ ac, (Lit.int .i64 x.k).wf = true ∧ (Lit.int .i64 x.id).wf = true) :
    Calls Try.prog 5 #[.int .i64 s, .slice A n c, .int .i64 pages, .slice A2 n2 c2] w fun e w' => e = .returned (.bool true) ∧ Below w.heap.size w w' := by
  subst hln hdn
  by_cases h : s ≤ 24 ∧ l.length ≤ 100 ∧ ac.length ≤ 100
  · exact apart_small s A A2 c c2 l ac pages w hr hac hwf h.1 h.2.1 h.2.2
  · exact apart_big s A A2 c c2 _ _ pages w h
end Go.Proofs.Ytknlcfiphkbbaaa
