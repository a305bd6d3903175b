/- The walk of rootstocklaw09.ChainKeeps: it returns true at every input. -/
import Derived.Deep.CutRange
import Derived.Test.YtlgbcogdogpihaaGreatDoorQKeep1
namespace Go.Proofs.YtlgbcogdogpihaaGreatDoor
open Go.RowKit Go.Shelf
set_option maxRecDepth 100000 in
set_option maxHeartbeats 1000000 in
theorem keep_big (A1 A2 A3 : Option Addr) (n1 c1 n2 c2 n3 c3 : Nat) (w : World) (h : 100 < n1 ∨ 30 < n2 ∨ 30 < n3) :
    Calls Tryz.prog 5 #[.slice A1 n1 c1, .slice A2 n2 c2, .slice A3 n3 c3] w (TrueEnd w) := by
  by_cases h1 : 100 < n1
  · clear h
    go_enter Tryz.func5, Tryz.ntmps5
    go_wp2_with (go_at_call 7; refine (works_any _).mono ?_; rintro e w1 ⟨rfl, b1⟩)
    go_ret
    exact ⟨rfl, b1⟩
  · by_cases h2 : 30 < n2
    · clear h
      go_enter Tryz.func5, Tryz.ntmps5
      go_wp2_with (go_at_call 7; refine (works_any _).mono ?_; rintro e w1 ⟨rfl, b1⟩)
      go_ret
      exact ⟨rfl, b1⟩
    · have h3 : 30 < n3 := by omega
      clear h
      go_enter Tryz.func5, Tryz.ntmps5
      go_wp2_with (go_at_call 7; refine (works_any _).mono ?_; rintro e w1 ⟨rfl, b1⟩)
      go_ret
      exact ⟨rfl, b1⟩
set_option maxRecDepth 100000 in
set_option maxHeartbeats 1000000 in
theorem keep_main (A1 A2 A3 : Option Addr) (c1 c2 c3 : Nat) (la : List Run) (ids other : List Int) (w : World) (ha : RS w w.heap.size A1 la) (hi : LS intE w w.heap.size A2 ids) (ho : LS intE w w.heap.size A3 other) (hla : la.length ≤ 100) (hli : ids.length ≤ 30) (hlo : other.length ≤ 30) (hT : HT w) (hwo : ∀ x ∈ other, (Lit.int .i64 x).wf = true) :
    Calls Tryz.prog 5 #[.slice A1 la.length c1, .slice A2 ids.length c2, .slice A3 other.length c3] w (TrueEnd w) := by
  have hB0 := hT.1
  go_enter Tryz.func5, Tryz.ntmps5
  go_wp2_with fail
  refine Calls.mono (works_any w) ?_
  rintro e w1 ⟨rfl, b1⟩
  go_wp2_with fail
  refine Calls.mono (dfresh_any 40 w1) ?_
  rintro e w2 ⟨d, rfl, hd2, b2⟩
  rw [show diskN 40 = 40 by decide] at hd2
  go_wp2_with fail
  refine Calls.mono (ffresh_any hd2 b2.size) ?_
  rintro e w3 ⟨f, rfl, hF3, b3⟩
  have b13 : Below w.heap.size w w3 := (b1.trans (b2.mono b1.size)).trans (b3.mono (Nat.le_trans b1.size b2.size))
  have hF3 : FAt w3 w.heap.size f d 0 (fresh 40) := by
    obtain ⟨q1, q2, s, mm, pv, Dm, q3⟩ := hF3
    exact ⟨Nat.le_trans b1.size q1, q2, s, mm, pv, Dm, ⟨Nat.le_trans b1.size q3.le.1, Nat.le_trans b1.size q3.le.2.1, Nat.le_trans b1.size q3.le.2.2⟩, q3.self, q3.sure, q3.map, q3.now, q3.pend.lower b1.size⟩
  clear hd2 b2 b3 b1
  go_wp2
  go_loopw [10, 11, 12] (fun tw rt i wr => ∃ n : Nat, n ≤ ids.length ∧ i = .int .i64 n ∧ tw = .bool (twF ids n) ∧ rt = .bool (rightF ids n) ∧ Below w3.heap.size w3 wr) (fun _ _ i _ => ids.length - (intOf i).toNat)
  case atStart => exact ⟨0, by omega, rfl, by simp [twF], by simp [rightF], Below.refl _ _⟩
  case round =>
    obtain ⟨n, hn, rfl, rfl, rfl, hbe⟩ := hrel
    have b14 := b13.trans (hbe.mono b13.size)
    obtain ⟨w4, rfl⟩ : ∃ w4, w4 = wr := ⟨_, rfl⟩
    by_cases hlt : n < ids.length
    · obtain ⟨bi, oi, rfl, hbi, gi⟩ := (hi.below b14).int hlt
      have hrs := rightF_succ ids n hlt
      have htz := twI_zero ids n
      have hte := twI_end ids n hlt
      have hts := fun k (hk : k < ids.length) => twI_succ ids n k hk
      have hgd : ids.getD n 0 = ids[n] := by simp [List.getD, hlt]
      rw [hgd] at hts
      have HRS := Lib.hid hrs
      have HTZ := Lib.hid htz
      have HTE := Lib.hid hte
      have HTS := Lib.hid hts
      have HI := Lib.hid (hi.below b14)
      have hidx := Lib.hid (rfl : ids[n] = ids[n])
      clear hrs htz hte hts hgd
      generalize rightF ids n = r at *
      generalize twF ids n = t at *
      generalize ids[n] = y at *
      go_upto_region 13 with fail
      go_cut [11] from 50 to 64 (fun v wx => v = .bool (rightF ids (n + 1)) ∧ w4 = wx)
      case first =>
        cases r with
        | false =>
          go_wp2_with fail
          go_meet
          exact ⟨by rw [HRS.out]; rfl, rfl⟩
        | true =>
          by_cases h1 : 2 ≤ y
          · by_cases h2 : y < 40
            · go_wp2_with fail
              go_meet
              exact ⟨by rw [HRS.out, decide_eq_true h1, decide_eq_true h2]; rfl, rfl⟩
            · go_wp2_with fail
              go_meet
              exact ⟨by rw [HRS.out, decide_eq_true h1, decide_eq_false (show ¬ y < 40 by omega)]; rfl, rfl⟩
          · go_wp2_with fail
            go_meet
            exact ⟨by rw [HRS.out, decide_eq_false (show ¬ 2 ≤ y by omega)]; rfl, rfl⟩
      case rest =>
        obtain ⟨rfl, rfl⟩ := hcut
        go_wp2_with fail
        go_loopw [10, 13] (fun tw k wr => ∃ m : Nat, m ≤ n ∧ k = .int .i64 m ∧ tw = .bool (twI ids n m) ∧ Below w4.heap.size w4 wr) (fun _ k _ => n - (intOf k).toNat)
        case atStart => exact ⟨0, by omega, rfl, congrArg Value.bool HTZ.out.symm, Below.refl _ _⟩
        case round =>
          obtain ⟨m, hm, rfl, rfl, hb4⟩ := hrel
          have hb4s := hb4.size
          by_cases hlt2 : m < n
          · have hml : m < ids.length := by omega
            obtain ⟨b2, o2, e2, _, g2⟩ := (HI.out.below (hb4.mono b14.size)).int hml
            injection e2 with e2
            injection e2 with e3 e4
            subst e3 e4
            have gn := (hb4.cell (p := ⟨bi, oi + n, none⟩) (Nat.lt_of_lt_of_le hbi b14.size)).trans gi
            have hst := HTS.out m hml
            generalize ids[m] = z at *
            generalize twI ids n m = q1 at *
            have HST := Lib.hid hst
            clear hst
            cases q1 with
            | true =>
              go_wp2
              go_quiet (fail)
              go_wp2
              go_roundw
              case rel => exact ⟨m + 1, by omega, by go_num, by rw [HST.out]; rfl, below_drewN hb4 _⟩
              case measure => simp [intOf]; omega
            | false =>
              have hqf : decide (false = true) = false := rfl
              go_wp2
              go_quiet (fail)
              go_wp2
              go_roundw
              case rel => exact ⟨m + 1, by omega, by go_num, by rw [HST.out]; rfl, below_drewN hb4 _⟩
              case measure => simp [intOf]; omega
          · obtain rfl : m = n := by omega
            rw [HTE.out]
            go_wp2
            go_roundw
            case rel => exact ⟨m + 1, by omega, by go_num, rfl, rfl, hbe.trans (hb4.mono hbe.size)⟩
            case measure => simp [intOf]; omega
    · obtain rfl : n = ids.length := by omega
      have hF4 := hF3.keep hbe
      have htw := twF_end ids
      have hcw := cwrite_law2 A1 A2 c1 c2 la ids (by omega) (by omega) hF4 (fresh_ok 40) (by decide) (fresh_lim (by decide)) (by decide) (by decide) (hT.below b14 hB0) hB0 b14.size ((ha.below b14).more b14.size) (hi.below b14)
      have hpg := fun W (h : RS W W.heap.size A1 la) => pages_any sort_said A1 c1 la W h (by omega)
      unfold PagesEnd at hpg
      have hgood := fun h => rightF_page (ids := ids) h
      have hbadr := fun h => rightF_bad (ids := ids) h
      have hread := fun W D c (n : Nat) (h1 : FAt W w.heap.size f d (0 + ids.length + n) D) (h2 : DkOk D 40 c) (h3 : Lim D (0 + ids.length + n)) (hn : n ≤ 30) (h4 : HT W) (h5 : w.heap.size ≤ W.heap.size) (hc : ChainC c (Rp.norm la) ids) (hv : ∀ id ∈ ids, noPage 40 id = false) (hd : ids.Nodup) (hp : pg la ≤ (ids.length : Int)) => cread_law la ids h1 h2 (by decide) h3 (by omega) h4 hB0 h5 hc hv hd hp
      have hnorm := fun W (h : RS W W.heap.size A1 la) => norm_any A1 c1 la W h (by omega)
      have hnlen := norm_len la
      generalize rightF ids ids.length = r at *
      generalize twF ids ids.length = t at *
      generalize Rp.norm la = sa at *
      generalize pg la = P at *
      have HREAD := Lib.hid hread
      have HNORM := Lib.hid hnorm
      clear hread hnorm
      have HPG := Lib.hid hpg
      have HTW := Lib.hid htw
      have HGOOD := Lib.hid hgood
      have HBAD := Lib.hid hbadr
      clear hpg htw hgood hbadr hF3 hbe
      go_wp2_with fail
      refine Calls.mono hcw ?_
      clear hcw
      rintro e w5 ⟨x, y, D1, k1, rfl, hF5, hL5, hb5, hk5, hres⟩
      have b15 := b14.trans hb5
      have hHP := HPG.out w5 ((ha.below b15).more b15.size)
      rcases hres with ⟨hbad, rfl, rfl, rfl⟩ | ⟨⟨hnd, hp⟩, hpages, rfl, rfl⟩ | ⟨⟨hnd, hp⟩, hpages, rfl, hx, hO5, hc5, hwr⟩
      · have hwa := fun W (h : DkAt W w.heap.size d (0 + ids.length) (fresh 40)) => writes_any h
        have HWA := Lib.hid hwa
        clear hwa
        by_cases hnd : ids.Nodup
        · have htf : t = false := by rw [HTW.out, decide_eq_true hnd]; rfl
          have hP : (ids.length : Int) < P := by
            rcases hbad with h | h
            · exact absurd hnd h
            · omega
          have hq : decide ((ids.length : Int) < P) = true := decide_eq_true (by omega)
          subst htf
          clear hbad hnd
          go_wp2_with fail
          refine Calls.mono hHP ?_
          rintro e w6 ⟨rfl, b6⟩
          have b16 := b15.trans (b6.mono b15.size)
          go_wp2_with fail
          refine Calls.mono (HWA.out _ (hF5.keep b6).disk) ?_
          rintro e w7 ⟨rfl, rfl⟩
          have hfw : (fresh 40).writes = 0 := rfl
          rw [hfw]
          go_wp2
          go_ret
          exact ⟨rfl, b16⟩
        · have htf : t = true := by rw [HTW.out, decide_eq_false hnd]; rfl
          subst htf
          clear hbad hnd
          go_wp2_with fail
          refine Calls.mono (HWA.out _ hF5.disk) ?_
          rintro e w7 ⟨rfl, rfl⟩
          have hfw : (fresh 40).writes = 0 := rfl
          rw [hfw]
          go_wp2
          go_ret
          exact ⟨rfl, b15⟩
      · have htf : t = false := by rw [HTW.out, decide_eq_true hnd]; rfl
        have hq : decide ((ids.length : Int) < P) = false := decide_eq_false (by omega)
        have hrf : r = false := by
          cases r with
          | false => rfl
          | true =>
            obtain ⟨z, hz, hzn⟩ := hpages
            rw [HGOOD.out rfl z hz] at hzn
            cases hzn
        subst htf hrf
        clear hnd hpages
        go_wp2_with fail
        refine Calls.mono hHP ?_
        rintro e w6 ⟨rfl, b6⟩
        have b16 := b15.trans (b6.mono b15.size)
        go_wp2
        go_ret
        exact ⟨rfl, b16⟩
      · have htf : t = false := by rw [HTW.out, decide_eq_true hnd]; rfl
        have hq : decide ((ids.length : Int) < P) = false := decide_eq_false (by omega)
        have hrf : r = true := by
          cases r with
          | true => rfl
          | false =>
            obtain ⟨z, hz, hzn⟩ := HBAD.out rfl
            rw [hpages z hz] at hzn
            cases hzn
        subst htf hrf
        have hwr1 : D1.writes = (ids.length : Int) := by rw [hwr]; show (0 : Int) + _ = _; omega
        have hwa := fun W (h : DkAt W w.heap.size d (0 + ids.length) D1) => writes_any h
        rw [hwr1] at hwa
        have HWA := Lib.hid hwa
        have HX := Lib.hid hx
        have HND := Lib.hid hnd
        have HPA := Lib.hid hpages
        clear hwa hwr hx hnd hpages HGOOD HBAD HTW
        go_wp2_with fail
        refine Calls.mono hHP ?_
        rintro e w6 ⟨rfl, b6⟩
        have b16 := b15.trans (b6.mono b15.size)
        have hF6 := hF5.keep b6
        go_wp2_with fail
        refine Calls.mono (HWA.out _ hF6.disk) ?_
        rintro e w7 ⟨rfl, rfl⟩
        clear hF5 hb5 hk5 hHP
        go_wp2
        go_loopw [16] (fun i wr => ∃ (n : Nat) (D : Dk) (c : Int → Option (Nat × Bs)), n ≤ other.length ∧ i = .int .i64 n ∧ FAt wr w.heap.size f d (0 + ids.length + n) D ∧ Hid (DkOk D 40 c) ∧ Hid (ChainC c sa ids) ∧ Lim D (0 + ids.length + n) ∧ Below w.heap.size w wr) (fun i _ => other.length - (intOf i).toNat)
        case atStart => exact ⟨0, D1, k1, by omega, rfl, hF6, Lib.hid hO5, Lib.hid hc5, hL5, b16⟩
        case round =>
          obtain ⟨n, D2, k2, hn, rfl, hF7, HO7, HC7, hL7, b17⟩ := hrel
          obtain ⟨w8, rfl⟩ : ∃ w8, w8 = wr := ⟨_, rfl⟩
          by_cases hlt : n < other.length
          · obtain ⟨bo, oo, rfl, hbo, go_⟩ := (ho.below b17).int hlt
            have hwx := hwo _ (List.getElem_mem hlt)
            have hms := fun k (hk : k < ids.length) => mineF_succ ids other[n] k hk
            have hme : mineF ids other[n] ids.length = false → other[n] ∉ ids := mineF_end
            generalize other[n] = y at *
            have HMS := Lib.hid hms
            have HME := Lib.hid hme
            clear hms hme
            go_wp2
            go_loopw [17, 18] (fun mv k wr => ∃ m : Nat, m ≤ ids.length ∧ k = .int .i64 m ∧ mv = .bool (mineF ids y m) ∧ Below w8.heap.size w8 wr) (fun _ k _ => ids.length - (intOf k).toNat)
            case atStart => exact ⟨0, by omega, rfl, rfl, Below.refl _ _⟩
            case round =>
              obtain ⟨m, hm, rfl, rfl, hb9⟩ := hrel
              have hb9s := hb9.size
              by_cases hlt2 : m < ids.length
              · obtain ⟨bi, oi, rfl, hbi, gi⟩ := ((hi.below b17).below (hb9.mono b17.size)).int hlt2
                have gy := (hb9.cell (p := ⟨bo, oo + n, none⟩) (Nat.lt_of_lt_of_le hbo b17.size)).trans go_
                have hst := HMS.out m hlt2
                generalize ids[m] = z at *
                generalize mineF ids y m = q1 at *
                have HST := Lib.hid hst
                clear hst
                cases q1 with
                | true =>
                  go_wp2
                  go_quiet (fail)
                  go_wp2
                  go_roundw
                  case rel => exact ⟨m + 1, by omega, by go_num, by rw [HST.out]; rfl, below_drewN hb9 _⟩
                  case measure => simp [intOf]; omega
                | false =>
                  have hqf : decide (false = true) = false := rfl
                  go_wp2
                  go_quiet (fail)
                  go_wp2
                  go_roundw
                  case rel => exact ⟨m + 1, by omega, by go_num, by rw [HST.out]; rfl, below_drewN hb9 _⟩
                  case measure => simp [intOf]; omega
              · obtain rfl : m = ids.length := by omega
                have b18 := b17.trans (hb9.mono b17.size)
                have hF8 := hF7.keep hb9
                have gy := (hb9.cell (p := ⟨bo, oo + n, none⟩) (Nat.lt_of_lt_of_le hbo b17.size)).trans go_
                have hme := HME.out
                generalize mineF ids y ids.length = q1 at *
                have HM := Lib.hid hme
                clear hme
                cases q1 with
                | true =>
                  go_wp2
                  go_roundw
                  case rel => exact ⟨n + 1, D2, k2, by omega, by go_num, hF8.mono (by omega), HO7, HC7, hL7.mono (by omega), b18⟩
                  case measure => simp [intOf]; omega
                | false =>
                  have hfw := fwrite_any hF8 (hL7.fine (by omega)) (by unfold maxLen; omega) (hT.below b18 hB0) b18.size y 3 (by decide) [120]
                  obtain ⟨k3, hO9, hC9⟩ := HO7.out.other HC7.out (HM.out rfl) (b := [120]) (by decide)
                  have HO9 := Lib.hid hO9
                  have HC9 := Lib.hid hC9
                  have hL9 := hL7.fput y 3 [120]
                  clear hO9 hC9
                  generalize D2.fputE y [120] = er at *
                  generalize D2.fput y 3 [120] = D3 at *
                  unfold str at hfw
                  go_wp2_with fail
                  refine Calls.mono hfw ?_
                  rintro e w9 ⟨rfl, hF9, hb9b, hk9⟩
                  go_wp2
                  go_roundw
                  case rel => exact ⟨n + 1, D3, k3, by omega, by go_num, hF9, HO9, HC9, hL9, b18.trans hb9b⟩
                  case measure => simp [intOf]; omega
          · obtain rfl : n = other.length := by omega
            have hrd := HREAD.out _ _ _ _ hF7 HO7.out hL7 hlo (hT.below b17 hB0) b17.size HC7.out HPA.out HND.out hp
            rw [← HX.out] at hrd
            go_wp2_with fail
            refine Calls.mono hrd ?_
            clear hrd
            rintro e w9 ⟨v9, u9, D9, rfl, hr9, ho9, hF9, hO9, hL9, hb9, hk9⟩
            have b19 := b17.trans hb9
            obtain ⟨A9, c9, rfl⟩ := hr9.form
            obtain ⟨B9, e9, rfl⟩ := ho9.form
            have rr := hr9.rs
            have oo := ho9.ls
            clear hr9 ho9 hF9 hO9 hL9 hb9 hk9 hF7 HO7 HC7 hL7
            go_wp2_with fail
            refine Calls.mono (HNORM.out _ ((ha.below b19).more b19.size)) ?_
            rintro e w10 ⟨v10, rfl, hr10, hb10⟩
            obtain ⟨A10, c10, rfl⟩ := hr10.form
            have b110 := b19.trans (hb10.mono b19.size)
            go_wp2_with fail
            refine Calls.mono (same_yes A9 A10 sa c9 c10 w10 ((rr.below hb10).more hb10.size) hr10.rs (by omega)) ?_
            rintro e w11 ⟨rfl, b11⟩
            have b111 := b110.trans (b11.mono b110.size)
            have bx := hb10.trans (b11.mono hb10.size)
            go_wp2_with fail
            refine Calls.mono (samei_yes B9 A2 ids e9 c2 w11 ((oo.below bx).more bx.size) ((hi.below b111).more b111.size) (by omega)) ?_
            rintro e w12 ⟨rfl, b12⟩
            go_wp2
            go_ret
            exact ⟨rfl, b111.trans (b12.mono b111.size)⟩
theorem keep_any (A1 A2 A3 : Option Addr) (n1 c1 n2 c2 n3 c3 : Nat) (la : List Run) (ids other : List Int) (w : World) (e1 : la.length = n1) (e2 : ids.length = n2) (e3 : other.length = n3) (ha : RS w w.heap.size A1 la) (hi : LS intE w w.heap.size A2 ids) (ho : LS intE w w.heap.size A3 other) (hT : HT w) (hwo : ∀ x ∈ other, (Lit.int .i64 x).wf = true) :
    Calls Tryz.prog 5 #[.slice A1 n1 c1, .slice A2 n2 c2, .slice A3 n3 c3] w (TrueEnd w) := by
  subst e1 e2 e3
  by_cases h : 100 < la.length ∨ 30 < ids.length ∨ 30 < other.length
  · exact keep_big A1 A2 A3 la.length c1 ids.length c2 other.length c3 w h
  · exact keep_main A1 A2 A3 c1 c2 c3 la ids other w ha hi ho (by omega) (by omega) (by omega) hT hwo
end Go.Proofs.YtlgbcogdogpihaaGreatDoor
