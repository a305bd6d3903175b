/- The walk of rootstocklaw09.ChainOver: it returns true at every input. -/
import Derived.Test.YtlgbcogdogpihaaGreatDoorQOver1
namespace Go.Proofs.YtlgbcogdogpihaaGreatDoor
open Go.RowKit Go.Shelf
set_option maxRecDepth 100000 in
set_option maxHeartbeats 1000000 in
theorem over_main (A1 A2 : Option Addr) (c1 c2 : Nat) (la lb : List Run) (n m : Nat) (w : World) (ha : RS w w.heap.size A1 la) (hb : RS w w.heap.size A2 lb) (hla : la.length ≤ 100) (hlb : lb.length ≤ 100) (hn : n ≤ 15) (hm : m ≤ 15) (hT : HT w) :
    Calls Tryz.prog 3 #[.slice A1 la.length c1, .slice A2 lb.length c2, .int .i64 n, .int .i64 m] w (TrueEnd w) := by
  have hB0 := hT.1
  go_enter Tryz.func3, Tryz.ntmps3
  go_wp2_with fail
  refine Calls.mono (works_any w) ?_
  rintro e w1 ⟨rfl, b1⟩
  go_wp2_with fail
  refine Calls.mono (dfresh_any 40 w1) ?_
  rintro e w2 ⟨d, rfl, hd2, b2⟩
  rw [diskN40] at hd2
  go_wp2_with fail
  refine Calls.mono (ffresh_any hd2 b2.size) ?_
  rintro e w3 ⟨f, rfl, hF3, b3⟩
  have b13 : Below w.heap.size w w3 := (b1.trans (b2.mono b1.size)).trans (b3.mono (Nat.le_trans b1.size b2.size))
  have hF3 : FAt w3 w.heap.size f d 0 (fresh 40) := by
    obtain ⟨q1, q2, s, mm, pv, Dm, q3⟩ := hF3
    exact ⟨Nat.le_trans b1.size q1, q2, s, mm, pv, Dm, ⟨Nat.le_trans b1.size q3.le.1, Nat.le_trans b1.size q3.le.2.1, Nat.le_trans b1.size q3.le.2.2⟩, q3.self, q3.sure, q3.map, q3.now, q3.pend.lower b1.size⟩
  clear hd2 b2 b3 b1
  go_wp2
  go_loopw [11, 13] (fun v i wr => ∃ k : Nat, k ≤ n ∧ i = .int .i64 k ∧ LO intE 3 wr w3.heap.size v (evens 2 k) ∧ Below w3.heap.size w3 wr) (fun _ i _ => n - (intOf i).toNat)
  case atStart => exact ⟨0, by omega, rfl, LO.nil_ _ _, Below.refl _ _⟩
  case round =>
    obtain ⟨k, hk, rfl, ho, hbe⟩ := hrel
    by_cases hlt : k < n
    · have hraw := ho.raw (evens_len 2 k) (s := 1) rfl
      have hsc := evens_succ 2 k
      have hel := evens_len 2 k
      generalize evens 2 k = E1 at *
      have HSC := Lib.hid hsc
      clear hsc
      go_wp2_with (at_builtin; refine wpList_app1 rfl (.tmp 62) (.tmp 66) 28 rfl eiInt Tryz.underlying28 rfl (by decide) rfl hraw rfl (by simp) rfl (by simp [Value.oneCell']) (by unfold maxLen; omega) (by omega) hbe.size ?_; intro v' w6 hown' hgrow hbel _ _)
      go_roundw
      case rel => exact ⟨k + 1, by omega, by go_num, by rw [HSC.out]; exact LO.snoc (E := intE) hel rfl rfl hown', hbe.trans hbel⟩
      case measure => simp [intOf]; omega
    · obtain rfl : k = n := by omega
      obtain ⟨Ap, cp, rfl⟩ := ho.form
      have hF4 := hF3.keep hbe
      have b14 := b13.trans (hbe.mono b13.size)
      have hp4 := ho
      rw [evens_len] at hp4 ⊢
      clear ho
      obtain ⟨w4, rfl⟩ : ∃ w4, w4 = wr := ⟨_, rfl⟩
      go_wp2
      go_loopw [12, 14] (fun v i wr => ∃ j : Nat, j ≤ m ∧ i = .int .i64 j ∧ LO intE 3 wr w4.heap.size v (evens 3 j) ∧ Below w4.heap.size w4 wr) (fun _ i _ => m - (intOf i).toNat)
      case atStart => exact ⟨0, by omega, rfl, LO.nil_ _ _, Below.refl _ _⟩
      case round =>
        obtain ⟨j, hj, rfl, ho, hbf⟩ := hrel
        by_cases hlt2 : j < m
        · have hraw := ho.raw (evens_len 3 j) (s := 1) rfl
          have hsc := evens_succ 3 j
          have hel := evens_len 3 j
          generalize evens 3 j = E1 at *
          have HSC := Lib.hid hsc
          clear hsc
          go_wp2_with (at_builtin; refine wpList_app1 rfl (.tmp 73) (.tmp 77) 28 rfl eiInt Tryz.underlying28 rfl (by decide) rfl hraw rfl (by simp) rfl (by simp [Value.oneCell']) (by unfold maxLen; omega) (by omega) hbf.size ?_; intro v' w6 hown' hgrow hbel _ _)
          go_roundw
          case rel => exact ⟨j + 1, by omega, by go_num, by rw [HSC.out]; exact LO.snoc (E := intE) hel rfl rfl hown', hbf.trans hbel⟩
          case measure => simp [intOf]; omega
        · obtain rfl : j = m := by omega
          obtain ⟨Aq, cq, rfl⟩ := ho.form
          have hF5 := hF4.keep hbf
          have b15 := b14.trans (hbf.mono b14.size)
          have hp5 := hp4.below hbf
          have hq5 := ho
          rw [evens_len] at hq5 ⊢
          clear ho
          obtain ⟨w5, rfl⟩ : ∃ w5, w5 = wr := ⟨_, rfl⟩
          have hPl := evens_len 2 k
          have hPd := evens_nodup 2 k
          have hPv := fun x (hx : x ∈ evens 2 k) => evens_page (by decide) (by omega) hx
          have hQl := evens_len 3 j
          have hQd := evens_nodup 3 j
          have hQv := fun x (hx : x ∈ evens 3 j) => evens_page (by decide) (by omega) hx
          have hPQ : ∀ x ∈ evens 2 k, x ∉ evens 3 j := fun x hx hy => by
            obtain ⟨i, _, rfl⟩ := evens_mem hx
            obtain ⟨i2, _, h⟩ := evens_mem hy
            omega
          generalize evens 2 k = P at *
          generalize evens 3 j = Q at *
          subst hPl hQl
          have HPQ := Lib.hid hPQ
          clear hPQ hp4 hF4 hF3 b13 b14 hbe hbf
          have hcw := cwrite_law (b2 := w3.heap.size) A1 Ap c1 cp la P (by omega) (by omega) hF5 (fresh_ok 40) (by decide) (fresh_lim (by decide)) (by decide) (by decide) (hT.below b15 hB0) hB0 b15.size ((ha.below b15).more b15.size) hp5 hPv hPd
          go_wp2_with fail
          refine Calls.mono hcw ?_
          clear hcw
          rintro e w6 ⟨x1, y1, D1, k1, rfl, hF6, hO6, hL6, hb6, hk6, hres1⟩
          have b16 := b15.trans hb6
          have hq6 := hq5.kept hk6 (by decide) (by decide)
          have hp6 := hp5.kept hk6 (by decide) (by decide)
          have hcw := cwrite_law (b2 := w4.heap.size) A2 Aq c2 cq lb Q (by omega) (by omega) hF6 hO6 (by decide) hL6 (by omega) (by unfold maxLen; omega) (hT.below b16 hB0) hB0 b16.size ((hb.below b16).more b16.size) hq6 hQv hQd
          have HR1 := Lib.hid hres1
          clear hres1
          go_wp2_with fail
          refine Calls.mono hcw ?_
          clear hcw
          rintro e w7 ⟨x2, y2, D2, k2, rfl, hF7, hO7, hL7, hb7, hk7, hres2⟩
          have b17 := b16.trans hb7
          have hp7 := hp6.kept hk7 (by decide) (by decide)
          have hq7 := hq6.kept hk7 (by decide) (by decide)
          clear hF5 hF6 hp5 hq5 hp6 hq6 hO6 hL6 hk6 hb6 hb7 hk7
          rcases HR1.out with ⟨rfl, _⟩ | ⟨rfl, hx1, rfl, hpa⟩
          · rcases hres2 with ⟨rfl, _⟩ | ⟨rfl, hx2, rfl, hpb⟩
            · go_wp2
              go_ret
              exact ⟨rfl, b17⟩
            · go_wp2
              go_ret
              exact ⟨rfl, b17⟩
          · have HX1 := Lib.hid hx1
            clear hx1
            rcases hres2 with ⟨rfl, _⟩ | ⟨rfl, hx2, rfl, hpb⟩
            · go_wp2
              go_ret
              exact ⟨rfl, b17⟩
            · have HX2 := Lib.hid hx2
              clear HR1 hx2
              have hca : ChainC (cwC (cwC (fun _ => none) (Rp.norm la) P) (Rp.norm lb) Q) (Rp.norm la) P := (cwC_chain (n := 40) (by decide) P _ _ hPd hPv (norm_okRun la)).congr (fun x hx => cwC_other Q _ _ x (HPQ.out x hx))
              have hcb : ChainC (cwC (cwC (fun _ => none) (Rp.norm la) P) (Rp.norm lb) Q) (Rp.norm lb) Q := cwC_chain (n := 40) (by decide) Q _ _ hQd hQv (norm_okRun lb)
              generalize cwC (cwC (fun _ => none) (Rp.norm la) P) (Rp.norm lb) Q = cc at *
              have hra := cread_law (N := 0 + P.length + Q.length) la P hF7 hO7 (by decide) hL7 (by omega) (hT.below b17 hB0) hB0 b17.size hca hPv hPd hpa
              have hrb := fun W D (h1 : FAt W w.heap.size f d (0 + P.length + Q.length) D) (h2 : DkOk D 40 cc) (h3 : Lim D (0 + P.length + Q.length + (40 + 1))) (h4 : HT W) (h5 : w.heap.size ≤ W.heap.size) => cread_law lb Q h1 h2 (by decide) h3 (by omega) h4 hB0 h5 hcb hQv hQd hpb
              rw [← HX1.out] at hra
              rw [← HX2.out] at hrb
              have hna := fun W (h : RS W W.heap.size A1 la) => norm_end A1 c1 la W h (by omega)
              have hnb := fun W (h : RS W W.heap.size A2 lb) => norm_end A2 c2 lb W h (by omega)
              have hla2 := norm_len la
              have hlb2 := norm_len lb
              generalize Rp.norm la = sa at *
              generalize Rp.norm lb = sb at *
              have HRA := Lib.hid hra
              have HRB := Lib.hid hrb
              have HNA := Lib.hid hna
              have HNB := Lib.hid hnb
              clear hra hrb hna hnb hca hcb hPv hQv hPd hQd HPQ hpa hpb
              go_wp2_with fail
              refine Calls.mono HRA.out ?_
              rintro e w8 ⟨v8, u8, D8, rfl, hr8, ho8, hF8, hO8, hL8, hb8, hk8⟩
              have b18 := b17.trans hb8
              go_wp2_with fail
              refine Calls.mono (HRB.out _ _ hF8 hO8 hL8 (hT.below b18 hB0) b18.size) ?_
              rintro e w9 ⟨v9, u9, D9, rfl, hr9, ho9, hF9, hO9, hL9, hb9, hk9⟩
              have b19 := b18.trans hb9
              have hr89 := LS.keptI hr8 hk9
              have ho89 := ho8.kept hk9 (by decide) (by decide)
              have hp9 := (hp7.kept hk8 (by decide) (by decide)).kept hk9 (by decide) (by decide)
              have hq9 := (hq7.kept hk8 (by decide) (by decide)).kept hk9 (by decide) (by decide)
              clear hF7 hO7 hL7 hF8 hO8 hL8 hF9 hO9 hL9 hr8 ho8 hp7 hq7 hb8 hk8 hb9 hk9
              obtain ⟨A8, c8, rfl⟩ := hr89.form
              obtain ⟨A9, c9, rfl⟩ := hr9.form
              obtain ⟨B8, e8, rfl⟩ := ho89.form
              obtain ⟨B9, e9, rfl⟩ := ho9.form
              have ra := hr89.rs
              have rb := hr9.rs
              have oa := ho89.ls
              have ob := ho9.ls
              have op := hp9.ls
              have oq := hq9.ls
              clear hr89 hr9 ho89 ho9 hp9 hq9
              go_wp2_with fail
              refine Calls.mono (HNA.out _ ((ha.below b19).more b19.size)) ?_
              intro e w10 h10
              obtain ⟨A10, c10, rfl, _, r10, b10⟩ := h10.open_
              clear h10
              have b110 := b19.trans (b10.mono b19.size)
              go_wp2_with fail
              refine Calls.mono (same_yes A8 A10 sa c8 c10 w10 ((ra.below b10).more b10.size) r10 (by omega)) ?_
              rintro e w11 ⟨rfl, b11⟩
              have b111 := b110.trans (b11.mono b110.size)
              have bx := b10.trans (b11.mono b10.size)
              go_wp2_with fail
              refine Calls.mono (samei_yes B8 Ap P e8 cp w11 ((oa.below bx).more bx.size) ((op.below bx).more bx.size) (by omega)) ?_
              rintro e w12 ⟨rfl, b12⟩
              have b112 := b111.trans (b12.mono b111.size)
              have by_ := bx.trans (b12.mono bx.size)
              go_wp2_with fail
              refine Calls.mono (HNB.out _ ((hb.below b112).more b112.size)) ?_
              intro e w13 h13
              obtain ⟨A13, c13, rfl, _, r13, b13⟩ := h13.open_
              clear h13
              have b113 := b112.trans (b13.mono b112.size)
              have bz := by_.trans (b13.mono by_.size)
              go_wp2_with fail
              refine Calls.mono (same_yes A9 A13 sb c9 c13 w13 ((rb.below bz).more bz.size) r13 (by omega)) ?_
              rintro e w14 ⟨rfl, b14⟩
              have b114 := b113.trans (b14.mono b113.size)
              have bt := bz.trans (b14.mono bz.size)
              go_wp2_with fail
              refine Calls.mono (samei_yes B9 Aq Q e9 cq w14 ((ob.below bt).more bt.size) ((oq.below bt).more bt.size) (by omega)) ?_
              rintro e w15 ⟨rfl, b15⟩
              go_wp2
              go_ret
              exact ⟨rfl, b114.trans (b15.mono b114.size)⟩
theorem over_any (A1 A2 : Option Addr) (n1 c1 n2 c2 : Nat) (la lb : List Run) (n m : Int) (w : World) (h1 : la.length = n1) (h2 : lb.length = n2) (ha : RS w w.heap.size A1 la) (hb : RS w w.heap.size A2 lb) (hT : HT w) :
    Calls Tryz.prog 3 #[.slice A1 n1 c1, .slice A2 n2 c2, .int .i64 n, .int .i64 m] w (TrueEnd w) := by
  subst h1 h2
  by_cases h : 100 < la.length ∨ 100 < lb.length ∨ n < 0 ∨ m < 0 ∨ 15 < n ∨ 15 < m
  · exact over_big A1 A2 la.length c1 lb.length c2 n m w h
  · obtain ⟨n', rfl⟩ := Int.eq_ofNat_of_zero_le (show 0 ≤ n by omega)
    obtain ⟨m', rfl⟩ := Int.eq_ofNat_of_zero_le (show 0 ≤ m by omega)
    exact over_main A1 A2 c1 c2 la lb n' m' w ha hb (by omega) (by omega) (by omega) (by omega) hT
end Go.Proofs.YtlgbcogdogpihaaGreatDoor
