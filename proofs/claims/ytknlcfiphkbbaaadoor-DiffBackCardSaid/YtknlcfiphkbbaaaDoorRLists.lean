/- The walk of rootstockref14.Lists. -/
import Derived.Test.YtknlcfiphkbbaaaDoorRef11
namespace Go.Proofs.YtknlcfiphkbbaaaDoor
open Go.RowKit
theorem eiRDl : EI Tryd.prog 27 (.agg #[.string ⟨#[]⟩, .string ⟨#[]⟩, .string ⟨#[]⟩, .bool false, .bool false]) 5 56 := EI.mk (by kernel_rfl)
def rdlE : Enc En.Dl := ⟨fun d => [.string d.key, .string d.old, .string d.new, .bool d.was, .bool d.is], 5, fun _ => rfl, by decide, fun x u hu => by simp at hu; rcases hu with rfl | rfl | rfl | rfl | rfl <;> rfl⟩
def kF (ks l : List Ent) : List Ent := l.foldl (fun ks x => En.put ks x.1 ⟨#[]⟩) ks
theorem kF_succ (ks l : List Ent) (j : Nat) (hj : j < l.length) : kF ks (l.take (j + 1)) = En.put (kF ks (l.take j)) l[j].1 ⟨#[]⟩ := by
  unfold kF; rw [List.take_succ_eq_append_getElem hj, List.foldl_append]; rfl
theorem kF_keysE (a b : List Ent) : kF (kF [] a) b = En.keysE a b := by unfold kF En.keysE; rw [List.foldl_append]; rfl
def rtold (a b : List Ent) : List En.Dl := if En.right a && En.right b then En.refD a b else []
def rD (a b ks : List Ent) : List En.Dl := ks.filterMap fun e => En.dAt a b e.1
theorem rD_succ (a b ks : List Ent) (j : Nat) (hj : j < ks.length) : rD a b (ks.take (j + 1)) = rD a b (ks.take j) ++ (En.dAt a b ks[j].1).toList := by
  unfold rD
  rw [List.take_succ_eq_append_getElem hj, List.filterMap_append, List.filterMap_cons]
  cases En.dAt a b ks[j].1 <;> rfl
set_option maxRecDepth 100000 in
set_option maxHeartbeats 1000000 in
theorem rlists_no (A1 A2 : Option Addr) (c1 c2 : Nat) (a b : List Ent) (w : World) (h1 : LS entE w w.heap.size A1 a) (h2 : LS entE w w.heap.size A2 b) (ha : a.length ≤ 1000) (hb : b.length ≤ 1000) (hn : (En.right a && En.right b) = false) (o : List En.Dl) (ho : o = []) :
    Calls Tryd.prog 9 #[.slice A1 a.length c1, .slice A2 b.length c2] w (LEnd rdlE 27 o w) := by
  subst ho
  have e1 := hid_calls (rright_any A1 c1 a w h1 (by omega))
  have e2 := fun W h => hid_calls (rright_any A2 c2 b W h (by omega))
  cases hra : En.right a with
  | false =>
    rw [hra] at e1
    generalize En.right b = rb at *
    clear hra hn
    go_enter Tryd.func9, Tryd.ntmps9
    go_wp2_with fail
    refine e1.out.mono ?_
    rintro e w1 ⟨rfl, b1⟩
    have r2 := h2.up b1
    go_wp2_with fail
    refine (e2 _ r2).out.mono ?_
    rintro e w2 ⟨rfl, b2⟩
    go_wp2
    all_goals
      go_ret
      exact ⟨_, rfl, LO.nil_ _ _, b1.trans (b2.mono b1.size)⟩
  | true =>
    rw [hra] at hn e1
    have hrb : En.right b = false := by simpa using hn
    rw [hrb] at e2
    clear hra hn hrb
    go_enter Tryd.func9, Tryd.ntmps9
    go_wp2_with fail
    refine e1.out.mono ?_
    rintro e w1 ⟨rfl, b1⟩
    have r2 := h2.up b1
    go_wp2_with fail
    refine (e2 _ r2).out.mono ?_
    rintro e w2 ⟨rfl, b2⟩
    go_wp2
    all_goals
      go_ret
      exact ⟨_, rfl, LO.nil_ _ _, b1.trans (b2.mono b1.size)⟩
theorem dAt_nn {a b : List Ent} {k : ByteArray} (h1 : En.get a k = none) (h2 : En.get b k = none) : En.dAt a b k = none := by unfold En.dAt; rw [h1, h2]
theorem dAt_sn {a b : List Ent} {k x : ByteArray} (h1 : En.get a k = some x) (h2 : En.get b k = none) : En.dAt a b k = some ⟨k, x, ⟨#[]⟩, true, false⟩ := by unfold En.dAt; rw [h1, h2]; rfl
theorem dAt_ns {a b : List Ent} {k y : ByteArray} (h1 : En.get a k = none) (h2 : En.get b k = some y) : En.dAt a b k = some ⟨k, ⟨#[]⟩, y, false, true⟩ := by unfold En.dAt; rw [h1, h2]; rfl
theorem dAt_se {a b : List Ent} {k x y : ByteArray} (h1 : En.get a k = some x) (h2 : En.get b k = some y) (h : En.eqs x y = true) : En.dAt a b k = none := by unfold En.dAt; rw [h1, h2]; simp [h]
theorem dAt_sd {a b : List Ent} {k x y : ByteArray} (h1 : En.get a k = some x) (h2 : En.get b k = some y) (h : En.eqs x y = false) : En.dAt a b k = some ⟨k, x, y, true, true⟩ := by unfold En.dAt; rw [h1, h2]; simp [h]
theorem nil_eq : ((⟨#[]⟩ : ByteArray).toList == (⟨#[]⟩ : ByteArray).toList) = true := by simp
set_option maxRecDepth 100000 in
set_option maxHeartbeats 4000000 in
theorem rlists_yes (A1 A2 : Option Addr) (c1 c2 : Nat) (a b : List Ent) (w : World) (h1 : LS entE w w.heap.size A1 a) (h2 : LS entE w w.heap.size A2 b) (ha : a.length ≤ 1000) (hb : b.length ≤ 1000) (hra : En.right a = true) (hrb : En.right b = true) (o : List En.Dl) (ho : o = En.refD a b) :
    Calls Tryd.prog 9 #[.slice A1 a.length c1, .slice A2 b.length c2] w (LEnd rdlE 27 o w) := by
  have HO := Lib.hid ho
  clear ho
  have e1 := hid_calls (rright_any A1 c1 a w h1 (by omega))
  have e2 := fun W h => hid_calls (rright_any A2 c2 b W h (by omega))
  rw [hra] at e1
  rw [hrb] at e2
  clear hra hrb
  go_enter Tryd.func9, Tryd.ntmps9
  go_wp2_with fail
  refine e1.out.mono ?_
  rintro e w1 ⟨rfl, b1⟩
  have r2 := h2.up b1
  have r1 := h1.up b1
  go_wp2_with fail
  refine (e2 _ r2).out.mono ?_
  rintro e w2 ⟨rfl, b2⟩
  have q2 := r2.up b2
  have q1 := r1.up b2
  have bb := b1.trans (b2.mono b1.size)
  clear e1 e2 b1 b2 r1 r2 h1 h2
  go_wp2
  go_loopw [7, 8] (fun v i wr => ∃ (j : Nat) (ks : List Ent) (A : Option Addr) (c : Nat), j ≤ a.length ∧ i = .int .i64 j ∧ v = .slice A ks.length c ∧ LS entE wr wr.heap.size A ks ∧ Hid (ks = kF [] (a.take j)) ∧ ks.length ≤ j ∧ Below w2.heap.size w2 wr) (fun _ i _ => a.length - (intOf i).toNat)
  case atStart => exact ⟨0, [], none, 0, by omega, rfl, rfl, LS.nil_, Lib.hid rfl, by simp, Below.refl _ _⟩
  case round =>
    obtain ⟨j, ks, A, c, hj, rfl, rfl, hks, HK, hkl, hbe⟩ := hrel
    by_cases hlt : j < a.length
    · obtain ⟨b3, o3, rfl, hb3, g0, g1⟩ := (q1.below hbe).ent hlt
      have hd := Lib.hid (kF_succ [] a j hlt)
      generalize a[j] = x at *
      have hp := hid_calls (rput_any A c ks x.1 ⟨#[]⟩ wr hks (by omega))
      have hpl := En.put_len ks x.1 ⟨#[]⟩
      obtain ⟨ks2, hks2⟩ : ∃ k, k = En.put ks x.1 ⟨#[]⟩ := ⟨_, rfl⟩
      rw [← hks2] at hp hpl
      have HK2 := Lib.hid hks2
      clear hks2
      go_wp2_with fail
      refine hp.out.mono ?_
      intro e w3 he
      obtain ⟨A4, c4, rfl, _, r4, b4⟩ := he.open_
      clear he
      go_wp2
      go_roundw
      case rel => exact ⟨j + 1, ks2, A4, c4, by omega, by go_num, rfl, r4, Lib.hid (by rw [HK2.out, HK.out, hd.out]), by omega, hbe.trans (b4.mono hbe.size)⟩
      case measure => simp [intOf]; omega
    · obtain rfl : j = a.length := by omega
      have hka := HK.out
      rw [List.take_of_length_le (Nat.le_refl _)] at hka
      have HKA := Lib.hid hka
      clear hka HK
      have q2b := q2.up hbe
      have q1b := q1.up hbe
      have bb2 := bb.trans (hbe.mono bb.size)
      clear q2 q1 bb hbe
      obtain ⟨wa, rfl⟩ : ∃ wa : World, wa = wr := ⟨_, rfl⟩
      go_wp2
      go_loopw [7, 9] (fun v i wr => ∃ (j : Nat) (ks2 : List Ent) (A : Option Addr) (c : Nat), j ≤ b.length ∧ i = .int .i64 j ∧ v = .slice A ks2.length c ∧ LS entE wr wr.heap.size A ks2 ∧ Hid (ks2 = kF ks (b.take j)) ∧ ks2.length ≤ a.length + j ∧ Below wa.heap.size wa wr) (fun _ i _ => b.length - (intOf i).toNat)
      case atStart => exact ⟨0, ks, A, c, by omega, rfl, rfl, hks, Lib.hid rfl, by omega, Below.refl _ _⟩
      case round =>
        obtain ⟨j, ks1, A, c, hj, rfl, rfl, hks1, HK, hkl1, hbe⟩ := hrel
        by_cases hlt : j < b.length
        · obtain ⟨b3, o3, rfl, hb3, g0, g1⟩ := (q2b.below hbe).ent hlt
          have hd := Lib.hid (kF_succ ks b j hlt)
          generalize b[j] = x at *
          have hp := hid_calls (rput_any A c ks1 x.1 ⟨#[]⟩ wr hks1 (by omega))
          have hpl := En.put_len ks1 x.1 ⟨#[]⟩
          obtain ⟨ks2, hks2⟩ : ∃ k, k = En.put ks1 x.1 ⟨#[]⟩ := ⟨_, rfl⟩
          rw [← hks2] at hp hpl
          have HK2 := Lib.hid hks2
          clear hks2
          go_wp2_with fail
          refine hp.out.mono ?_
          intro e w3 he
          obtain ⟨A4, c4, rfl, _, r4, b4⟩ := he.open_
          clear he
          go_wp2
          go_roundw
          case rel => exact ⟨j + 1, ks2, A4, c4, by omega, by go_num, rfl, r4, Lib.hid (by rw [HK2.out, HK.out, hd.out]), by omega, hbe.trans (b4.mono hbe.size)⟩
          case measure => simp [intOf]; omega
        · obtain rfl : j = b.length := by omega
          have hkb := HK.out
          rw [List.take_of_length_le (Nat.le_refl _), HKA.out, kF_keysE] at hkb
          have HKB := Lib.hid hkb
          clear hkb HK HKA
          have q2c := q2b.up hbe
          have q1c := q1b.up hbe
          have bb3 := bb2.trans (hbe.mono bb2.size)
          clear q2b q1b bb2 hbe hks
          obtain ⟨wb, rfl⟩ : ∃ wb : World, wb = wr := ⟨_, rfl⟩
          go_wp2
          go_loopw [10, 11, 12, 13, 14, 15] (fun v i _ _ _ _ wr => ∃ (j : Nat) (out : List En.Dl), j ≤ ks1.length ∧ i = .int .i64 j ∧ LO rdlE 27 wr wb.heap.size v out ∧ Hid (out = rD a b (ks1.take j)) ∧ out.length ≤ j ∧ Below wb.heap.size wb wr) (fun _ i _ _ _ _ _ => ks1.length - (intOf i).toNat)
          case atStart => exact ⟨0, [], by omega, rfl, LO.nil_ _ _, Lib.hid rfl, by simp, Below.refl _ _⟩
          case round =>
            obtain ⟨j, out, hj, rfl, hout, HD, hol, hbe⟩ := hrel
            by_cases hlt : j < ks1.length
            · obtain ⟨b3, o3, rfl, hb3, g0, g1⟩ := (hks1.below hbe).ent hlt
              have hd := Lib.hid (rD_succ a b ks1 j hlt)
              generalize ks1[j] = x at *
              have ga := hid_calls (rget_any A1 c1 a x.1 wr (q1c.up hbe) (by omega))
              have gb := hid_calls (rget_any A2 c2 b x.1 wr (q2c.up hbe) (by omega))
              obtain ⟨Ao, co, rfl⟩ := hout.form
              have hraw := hout.raw rfl (s := 5) rfl
              have hna := nil_eq
              cases hga : En.get a x.1 with
              | none =>
                rw [hga] at ga
                cases hgb : En.get b x.1 with
                | none =>
                  rw [hgb] at gb
                  have HDA := Lib.hid (dAt_nn hga hgb)
                  clear hga hgb
                  go_wp2_with fail
                  refine ga.out.mono ?_
                  rintro e w' ⟨rfl, hw⟩; replace hw := hw.symm; subst hw
                  go_wp2_with fail
                  refine gb.out.mono ?_
                  rintro e w' ⟨rfl, hw⟩; replace hw := hw.symm; subst hw
                  go_wp2
                  go_roundw
                  case rel => exact ⟨j + 1, out, by omega, by go_num, hout, Lib.hid (by rw [hd.out, HDA.out, HD.out]; simp), by omega, hbe⟩
                  case measure => simp [intOf]; omega
                | some y =>
                  rw [hgb] at gb
                  have HDA := Lib.hid (dAt_ns hga hgb)
                  clear hga hgb
                  go_wp2_with fail
                  refine ga.out.mono ?_
                  rintro e w' ⟨rfl, hw⟩; replace hw := hw.symm; subst hw
                  go_wp2_with fail
                  refine gb.out.mono ?_
                  rintro e w' ⟨rfl, hw⟩; replace hw := hw.symm; subst hw
                  go_wp2_with (at_builtin; refine wpList_app1 rfl (.tmp 86) (.tmp 97) 23 rfl eiRDl Tryd.underlying23 rfl (by decide) rfl hraw rfl (by simp) rfl (by simp [Value.oneCell']) (by unfold maxLen; omega) (by omega) hbe.size ?_; intro v' w2 hown' hgrow hbel _ _)
                  go_roundw
                  case rel => exact ⟨j + 1, out ++ [⟨x.1, ⟨#[]⟩, y, false, true⟩], by omega, by go_num, LO.snoc (E := rdlE) (x := ⟨x.1, ⟨#[]⟩, y, false, true⟩) rfl rfl rfl hown', Lib.hid (by rw [hd.out, HDA.out, HD.out]; rfl), by simp; omega, hbe.trans hbel⟩
                  case measure => simp [intOf]; omega
              | some xv =>
                rw [hga] at ga
                cases hgb : En.get b x.1 with
                | none =>
                  rw [hgb] at gb
                  have HDA := Lib.hid (dAt_sn hga hgb)
                  clear hga hgb
                  go_wp2_with fail
                  refine ga.out.mono ?_
                  rintro e w' ⟨rfl, hw⟩; replace hw := hw.symm; subst hw
                  go_wp2_with fail
                  refine gb.out.mono ?_
                  rintro e w' ⟨rfl, hw⟩; replace hw := hw.symm; subst hw
                  go_wp2_with (at_builtin; refine wpList_app1 rfl (.tmp 86) (.tmp 97) 23 rfl eiRDl Tryd.underlying23 rfl (by decide) rfl hraw rfl (by simp) rfl (by simp [Value.oneCell']) (by unfold maxLen; omega) (by omega) hbe.size ?_; intro v' w2 hown' hgrow hbel _ _)
                  go_roundw
                  case rel => exact ⟨j + 1, out ++ [⟨x.1, xv, ⟨#[]⟩, true, false⟩], by omega, by go_num, LO.snoc (E := rdlE) (x := ⟨x.1, xv, ⟨#[]⟩, true, false⟩) rfl rfl rfl hown', Lib.hid (by rw [hd.out, HDA.out, HD.out]; rfl), by simp; omega, hbe.trans hbel⟩
                  case measure => simp [intOf]; omega
                | some y =>
                  rw [hgb] at gb
                  cases heq : En.eqs xv y with
                  | true =>
                    have HDA := Lib.hid (dAt_se hga hgb heq)
                    have he : (xv.toList == y.toList) = true := heq
                    have hne : (!(xv.toList == y.toList)) = false := by rw [he]; rfl
                    clear hga hgb heq
                    go_wp2_with fail
                    refine ga.out.mono ?_
                    rintro e w' ⟨rfl, hw⟩; replace hw := hw.symm; subst hw
                    go_wp2_with fail
                    refine gb.out.mono ?_
                    rintro e w' ⟨rfl, hw⟩; replace hw := hw.symm; subst hw
                    go_wp2
                    go_roundw
                    case rel => exact ⟨j + 1, out, by omega, by go_num, hout, Lib.hid (by rw [hd.out, HDA.out, HD.out]; simp), by omega, hbe⟩
                    case measure => simp [intOf]; omega
                  | false =>
                    have HDA := Lib.hid (dAt_sd hga hgb heq)
                    have he : (xv.toList == y.toList) = false := heq
                    have hne : (!(xv.toList == y.toList)) = true := by rw [he]; rfl
                    clear hga hgb heq
                    go_wp2_with fail
                    refine ga.out.mono ?_
                    rintro e w' ⟨rfl, hw⟩; replace hw := hw.symm; subst hw
                    go_wp2_with fail
                    refine gb.out.mono ?_
                    rintro e w' ⟨rfl, hw⟩; replace hw := hw.symm; subst hw
                    go_wp2_with (at_builtin; refine wpList_app1 rfl (.tmp 86) (.tmp 97) 23 rfl eiRDl Tryd.underlying23 rfl (by decide) rfl hraw rfl (by simp) rfl (by simp [Value.oneCell']) (by unfold maxLen; omega) (by omega) hbe.size ?_; intro v' w2 hown' hgrow hbel _ _)
                    go_roundw
                    case rel => exact ⟨j + 1, out ++ [⟨x.1, xv, y, true, true⟩], by omega, by go_num, LO.snoc (E := rdlE) (x := ⟨x.1, xv, y, true, true⟩) rfl rfl rfl hown', Lib.hid (by rw [hd.out, HDA.out, HD.out]; rfl), by simp; omega, hbe.trans hbel⟩
                    case measure => simp [intOf]; omega
            · obtain rfl : j = ks1.length := by omega
              have hfin := HD.out
              rw [List.take_of_length_le (Nat.le_refl _)] at hfin
              have HF := Lib.hid hfin
              clear hfin
              go_wp2
              go_ret
              refine ⟨_, rfl, ?_, bb3.trans (hbe.mono bb3.size)⟩
              have e : out = En.refD a b := by rw [HF.out, HKB.out]; rfl
              rw [HO.out, ← e]
              exact hout.lower bb3.size
theorem rlists_any (A1 A2 : Option Addr) (c1 c2 : Nat) (a b : List Ent) (w : World) (h1 : LS entE w w.heap.size A1 a) (h2 : LS entE w w.heap.size A2 b) (ha : a.length ≤ 1000) (hb : b.length ≤ 1000) :
    Calls Tryd.prog 9 #[.slice A1 a.length c1, .slice A2 b.length c2] w (LEnd rdlE 27 (rtold a b) w) := by
  cases h : En.right a && En.right b with
  | false => exact rlists_no A1 A2 c1 c2 a b w h1 h2 ha hb h _ (by unfold rtold; rw [h]; rfl)
  | true =>
    have h' : En.right a = true ∧ En.right b = true := by simpa using h
    exact rlists_yes A1 A2 c1 c2 a b w h1 h2 ha hb h'.1 h'.2 _ (by unfold rtold; rw [h]; rfl)
theorem rtold_len (a b : List Ent) : (rtold a b).length ≤ a.length + b.length := by
  unfold rtold
  split
  · have h1 := List.length_filterMap_le (fun e : Ent => En.dAt a b e.1) (En.keysE a b)
    have h2 := En.keysE_len a b
    exact Nat.le_trans h1 h2
  · simp
end Go.Proofs.YtknlcfiphkbbaaaDoor
