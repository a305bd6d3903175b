/- The walks of treediff.Apply, rootstockref14.Apply; rootstocklaw14's of, same, over. -/
import Derived.Test.YtknlcfiphkbbaaaDoorEPut
import Derived.Test.YtknlcfiphkbbaaaDoorRLists
import Derived.Test.YtknlcfiphkbbaaaDoorPair
namespace Go.Proofs.YtknlcfiphkbbaaaDoor
open Go.RowKit Go.Shelf
theorem LS.dl {w : World} {B : Nat} {A : Option Addr} {l : List Dl} (h : LS dlE w B A l) {k : Nat} (hk : k < l.length) : ∃ b off, A = some ⟨b, off, none⟩ ∧ b < B ∧ w.cell? ⟨b, off + k * 5, none⟩ = some (.string l[k].key) ∧ w.cell? ⟨b, off + k * 5 + 1, none⟩ = some (.string l[k].old) ∧ w.cell? ⟨b, off + k * 5 + 2, none⟩ = some (.string l[k].new) ∧ w.cell? ⟨b, off + k * 5 + 3, none⟩ = some (.bool l[k].was) ∧ w.cell? ⟨b, off + k * 5 + 4, none⟩ = some (.bool l[k].is) := by
  obtain ⟨b, off, rfl, hb, hc⟩ := h.at_ hk
  exact ⟨b, off, rfl, hb, hc 0 (by decide), hc 1 (by decide), hc 2 (by decide), hc 3 (by decide), hc 4 (by decide)⟩
theorem LS.rdl {w : World} {B : Nat} {A : Option Addr} {l : List Dl} (h : LS rdlE w B A l) : LS dlE w B A l := h
theorem ap1_put {l : List Ent} {d : Dl} (h : d.is = true) : En.ap1 l d = putS l d.key d.new := by
  unfold En.ap1 putS; rw [h]
  cases En.right l <;> cases En.may d.key d.new <;> rfl
theorem ap1_del {l : List Ent} {d : Dl} (h : d.is = false) : En.ap1 l d = delS l d.key := by
  unfold En.ap1 delS; rw [h]
  cases En.right l <;> rfl
def apAt (l : List Ent) (d : List Dl) (j : Nat) : List Ent := En.ap l (d.take j)
theorem apAt_succ (l : List Ent) (d : List Dl) (j : Nat) (hj : j < d.length) : apAt l d (j + 1) = En.ap1 (apAt l d j) d[j] := by
  unfold apAt; rw [List.take_succ_eq_append_getElem hj, En.ap_append]; rfl
theorem apAt_len (l : List Ent) (d : List Dl) (j : Nat) : (apAt l d j).length ≤ l.length + j := by
  have h1 := En.ap_len (d.take j) l
  have h2 := List.length_take_le j d
  unfold apAt; omega
set_option maxRecDepth 100000 in
set_option maxHeartbeats 2000000 in
theorem apply_any (A : Option Addr) (c : Nat) (l : List Ent) (A2 : Option Addr) (c2 : Nat) (d : List Dl) (w : World) (hr : SV entE w A c l) (hd : LS dlE w w.heap.size A2 d) (hl : l.length ≤ 40000) (hdl : d.length ≤ 40000) :
    Calls Tryd.prog 11 #[.slice A l.length c, .slice A2 d.length c2] w (GiveEnd entE (En.ap l d) w) := by
  obtain ⟨o, ho⟩ : ∃ o, o = En.ap l d := ⟨_, rfl⟩
  rw [← ho]
  have HO := Lib.hid ho
  clear ho
  go_enter Tryd.func11, Tryd.ntmps11
  go_wp2
  go_loopw [0, 6, 9] (fun v _ i wr => ∃ (j : Nat) (cur : List Ent) (A : Option Addr) (c : Nat), j ≤ d.length ∧ i = .int .i64 j ∧ v = .slice A cur.length c ∧ SV entE wr A c cur ∧ Hid (cur = apAt l d j) ∧ cur.length ≤ l.length + j ∧ Below w.heap.size w wr) (fun _ _ i _ => d.length - (intOf i).toNat)
  case atStart => exact ⟨0, l, A, c, by omega, rfl, rfl, hr, Lib.hid rfl, by omega, Below.refl _ _⟩
  case round =>
    obtain ⟨j, cur, A, c, hj, rfl, rfl, hcur, HC, hcl, hbe⟩ := hrel
    by_cases hlt : j < d.length
    · obtain ⟨b3, o3, rfl, hb3, g0, g1, g2, g3, g4⟩ := (hd.below hbe).dl hlt
      have hst := Lib.hid (apAt_succ l d j hlt)
      generalize d[j] = x at *
      have hal1 := apAt_len l d (j + 1)
      have hB1 := Blk.new wr 37 #[.string x.key, .string x.old, .string x.new, .bool x.was, .bool x.is]
      have hb1 : Below wr.heap.size wr (wr.alloc (.cells #[.string x.key, .string x.old, .string x.new, .bool x.was, .bool x.is] 37)) := (Below.refl _ wr).alloc (Nat.le_refl _) _
      have hcur1 := hcur.up hb1
      have hbe1 := hbe.trans (hb1.mono hbe.size)
      have hb3' : b3 < wr.heap.size := by have := hbe.size; omega
      cases his : x.is with
      | true =>
        have hp := fun W h => hid_calls (eput_any A c cur x.key x.new W h (by omega))
        have hap := Lib.hid (ap1_put (l := cur) his)
        obtain ⟨nx, hnx⟩ : ∃ n, n = putS cur x.key x.new := ⟨_, rfl⟩
        rw [← hnx] at hp
        have HN := Lib.hid hnx
        clear hnx hb1 hB1
        go_wp2_with fail
        rw [his] at hcur1 hbe1
        refine (hp _ hcur1).out.mono ?_
        rintro e w3 ⟨A4, c4, rfl, hs4, b4⟩
        have hfin : nx = apAt l d (j + 1) := by rw [HN.out, hst.out, ← HC.out, hap.out]
        have HF := Lib.hid hfin
        clear hfin
        go_wp2
        go_roundw
        case rel => exact ⟨j + 1, nx, A4, c4, by omega, by go_num, rfl, hs4, HF, by rw [HF.out]; omega, hbe1.trans (b4.mono hbe1.size)⟩
        case measure => simp [intOf]; omega
      | false =>
        have hp := fun W h => hid_calls (edel_any A c cur x.key W h (by omega))
        have hap := Lib.hid (ap1_del (l := cur) his)
        obtain ⟨nx, hnx⟩ : ∃ n, n = delS cur x.key := ⟨_, rfl⟩
        rw [← hnx] at hp
        have HN := Lib.hid hnx
        clear hnx hb1 hB1
        go_wp2_with fail
        rw [his] at hcur1 hbe1
        refine (hp _ hcur1).out.mono ?_
        rintro e w3 ⟨A4, c4, rfl, hs4, b4⟩
        have hfin : nx = apAt l d (j + 1) := by rw [HN.out, hst.out, ← HC.out, hap.out]
        have HF := Lib.hid hfin
        clear hfin
        go_wp2
        go_roundw
        case rel => exact ⟨j + 1, nx, A4, c4, by omega, by go_num, rfl, hs4, HF, by rw [HF.out]; omega, hbe1.trans (b4.mono hbe1.size)⟩
        case measure => simp [intOf]; omega
    · obtain rfl : j = d.length := by omega
      have hfin : cur = o := by rw [HC.out, HO.out]; unfold apAt; rw [List.take_of_length_le (Nat.le_refl _)]
      have HF := Lib.hid hfin
      clear hfin
      go_wp2
      go_ret
      exact GiveEnd.of_eq (by rw [HF.out]) (by rw [← HF.out]; exact hcur) hbe
theorem ap_rest (l : List Ent) (d : List Dl) (j : Nat) : En.ap l d = En.ap (apAt l d j) (d.drop j) := by
  unfold apAt; rw [← En.ap_append, List.take_append_drop]
theorem ap1_put2 {l : List Ent} {d : Dl} (h : d.is = true) (hr : En.right l = true) (hm : En.may d.key d.new = true) : En.ap1 l d = En.put l d.key d.new := by unfold En.ap1; rw [h, hr, hm]; rfl
theorem ap1_stay {l : List Ent} {d : Dl} (h : d.is = true) (hm : En.may d.key d.new = false) : En.ap1 l d = l := by unfold En.ap1; rw [h, hm]; simp
theorem ap1_del2 {l : List Ent} {d : Dl} (h : d.is = false) (hr : En.right l = true) : En.ap1 l d = En.del l d.key := by unfold En.ap1; rw [h, hr]; rfl
set_option maxRecDepth 100000 in
set_option maxHeartbeats 4000000 in
theorem rapply_any (A : Option Addr) (c : Nat) (l : List Ent) (A2 : Option Addr) (c2 : Nat) (d : List Dl) (w : World) (hr : LS entE w w.heap.size A l) (hd : LS rdlE w w.heap.size A2 d) (hl : l.length ≤ 20000) (hdl : d.length ≤ 20000) (o : List Ent) (ho : o = En.ap l d) :
    Calls Tryd.prog 13 #[.slice A l.length c, .slice A2 d.length c2] w fun e w' => ∃ A' c', e = .returned (.slice A' o.length c') ∧ LS entE w' w'.heap.size A' o ∧ Below w.heap.size w w' := by
  have HO := Lib.hid ho
  clear ho
  go_enter Tryd.func13, Tryd.ntmps13
  go_wp2
  go_loopw [0, 5, 6] (fun v i _ wr => ∃ (j : Nat) (cur : List Ent) (A : Option Addr) (c : Nat), j ≤ d.length ∧ i = .int .i64 j ∧ v = .slice A cur.length c ∧ LS entE wr wr.heap.size A cur ∧ Hid (cur = apAt l d j) ∧ cur.length ≤ l.length + j ∧ Below w.heap.size w wr) (fun _ i _ _ => d.length - (intOf i).toNat)
  case atStart => exact ⟨0, l, A, c, by omega, rfl, rfl, hr, Lib.hid rfl, by omega, Below.refl _ _⟩
  case round =>
    obtain ⟨j, cur, A, c, hj, rfl, rfl, hcur, HC, hcl, hbe⟩ := hrel
    by_cases hlt : j < d.length
    · obtain ⟨b3, o3, rfl, hb3, g0, g1, g2, g3, g4⟩ := (hd.rdl.below hbe).dl hlt
      have hst := Lib.hid (apAt_succ l d j hlt)
      have har := Lib.hid (ap_rest l d j)
      generalize d[j] = x at *
      have hal1 := apAt_len l d (j + 1)
      have hR := hid_calls (rright_any A c cur wr hcur (by omega))
      have hb3' : b3 < wr.heap.size := by have := hbe.size; omega
      cases hrt : En.right cur with
      | false =>
        rw [hrt] at hR
        have hfin : o = cur := by
          have h := HC.out
          rw [HO.out, har.out, ← h, En.ap_bad hrt]
        have HF := Lib.hid hfin
        clear hfin hrt
        go_wp2_with fail
        refine hR.out.mono ?_
        rintro e w2 ⟨rfl, b2⟩
        go_wp2
        go_ret
        exact ⟨A, c, by rw [HF.out]; rfl, by rw [HF.out]; exact hcur.up b2, hbe.trans (b2.mono hbe.size)⟩
      | true =>
        rw [hrt] at hR
        have HRT := Lib.hid hrt
        clear hrt
        have key : ∀ w2 : World, Below wr.heap.size wr w2 → LS entE w2 w2.heap.size A cur ∧ Below w.heap.size w w2 ∧ b3 < w2.heap.size ∧ w2.cell? ⟨b3, o3 + j * 5, none⟩ = some (.string x.key) ∧ w2.cell? ⟨b3, o3 + j * 5 + 2, none⟩ = some (.string x.new) ∧ w2.cell? ⟨b3, o3 + j * 5 + 4, none⟩ = some (.bool x.is) := fun w2 b2 =>
          ⟨hcur.up b2, hbe.trans (b2.mono hbe.size), Nat.lt_of_lt_of_le hb3' b2.size, (b2.cell (p := ⟨b3, _, none⟩) hb3').trans g0, (b2.cell (p := ⟨b3, _, none⟩) hb3').trans g2, (b2.cell (p := ⟨b3, _, none⟩) hb3').trans g4⟩
        cases his : x.is with
        | false =>
          have hp := fun W h => hid_calls (rdelete_any A c cur x.key W h (by omega))
          have hap := Lib.hid (ap1_del2 (l := cur) his HRT.out)
          obtain ⟨nx, hnx⟩ : ∃ n, n = En.del cur x.key := ⟨_, rfl⟩
          rw [← hnx] at hp
          have hfin : nx = apAt l d (j + 1) := by rw [hnx, hst.out, ← HC.out, hap.out]
          have HF := Lib.hid hfin
          rw [his] at key g4
          clear hnx hfin
          go_wp2_with fail
          refine hR.out.mono ?_
          rintro e w2 ⟨rfl, b2⟩
          obtain ⟨k1, k2, k3, k4, k5, k6⟩ := key _ b2
          clear key
          go_wp2_with fail
          refine (hp _ k1).out.mono ?_
          intro e w3 he
          obtain ⟨A4, c4, rfl, _, r4, b4⟩ := he.open_
          clear he
          go_wp2
          go_roundw
          case rel => exact ⟨j + 1, nx, A4, c4, by omega, by go_num, rfl, r4, HF, by rw [HF.out]; omega, k2.trans (b4.mono k2.size)⟩
          case measure => simp [intOf]; omega
        | true =>
          have hmy := fun W => hid_calls (may_any x.key x.new W)
          cases hm : En.may x.key x.new with
          | true =>
            rw [hm] at hmy
            have hp := fun W h => hid_calls (rput_any A c cur x.key x.new W h (by omega))
            have hap := Lib.hid (ap1_put2 (l := cur) his HRT.out hm)
            obtain ⟨nx, hnx⟩ : ∃ n, n = En.put cur x.key x.new := ⟨_, rfl⟩
            rw [← hnx] at hp
            have hfin : nx = apAt l d (j + 1) := by rw [hnx, hst.out, ← HC.out, hap.out]
            have HF := Lib.hid hfin
            rw [his] at key g4
            clear hnx hfin hm
            go_wp2_with fail
            refine hR.out.mono ?_
            rintro e w2 ⟨rfl, b2⟩
            have k6 := (key _ b2).2.2.2.2.2
            have k5 := (key _ b2).2.2.2.2.1
            have k4 := (key _ b2).2.2.2.1
            have k3 := (key _ b2).2.2.1
            go_wp2_with fail
            go_quiet ((go_at_call 23; exact Calls.quiet_of_same (hmy _).out))
            clear k3 k4 k5 k6
            obtain ⟨k1, k2, k3, k4, k5, k6⟩ := key _ (below_drewN b2 nq)
            clear key hmy
            generalize w2.drewN nq = w3 at *
            have hk1 := k1.up (Below.refl _ w3).drew
            have hS0 : w3.drew.cell? ⟨b3, o3 + j * 5, none⟩ = some (.string x.key) ∧ w3.drew.cell? ⟨b3, o3 + j * 5 + 2, none⟩ = some (.string x.new) := ⟨k4, k5⟩
            have hz3 : b3 < w3.drew.heap.size := k3
            go_wp2_with fail
            go_region_held3 (fun W => W.cell? ⟨b3, o3 + j * 5, none⟩ = some (.string x.key) ∧ W.cell? ⟨b3, o3 + j * 5 + 2, none⟩ = some (.string x.new)) (first | exact hS0 | exact ⟨(b4.cell (p := ⟨b3, o3 + j * 5, none⟩) hz3).trans hS0.1, (b4.cell (p := ⟨b3, o3 + j * 5 + 2, none⟩) hz3).trans hS0.2⟩)
              (first | (go_at_call 18; refine (hp _ hk1).out.mono ?_; intro e w4 he; obtain ⟨A4, c4, rfl, _, r4, b4⟩ := he.open_))
            all_goals
              go_wp2
              go_roundw
              case rel => exact ⟨j + 1, nx, A4, c4, by omega, by go_num, rfl, r4, HF, by rw [HF.out]; omega, (k2.trans (Below.drew (Below.refl _ _))).trans (b4.mono (by have := k2.size; simp; omega))⟩
              case measure => simp [intOf]; omega
          | false =>
            rw [hm] at hmy
            have hap := Lib.hid (ap1_stay (l := cur) his hm)
            have hfin : cur = apAt l d (j + 1) := by rw [hst.out, ← HC.out, hap.out]
            have HF := Lib.hid hfin
            rw [his] at key g4
            clear hfin hm
            go_wp2_with fail
            refine hR.out.mono ?_
            rintro e w2 ⟨rfl, b2⟩
            obtain ⟨k1, k2, k3, k4, k5, k6⟩ := key _ b2
            clear key
            go_wp2_with fail
            go_quiet ((go_at_call 23; exact Calls.quiet_of_same (hmy _).out))
            go_wp2
            go_roundw
            case rel => exact ⟨j + 1, cur, A, c, by omega, by go_num, rfl, k1.drewN nq, HF, by omega, below_drewN k2 nq⟩
            case measure => simp [intOf]; omega
    · obtain rfl : j = d.length := by omega
      have hfin : cur = o := by rw [HC.out, HO.out]; unfold apAt; rw [List.take_of_length_le (Nat.le_refl _)]
      have HF := Lib.hid hfin
      clear hfin
      go_wp2
      go_ret
      exact ⟨A, c, by rw [← HF.out]; rfl, by rw [← HF.out]; exact hcur, hbe⟩
end Go.Proofs.YtknlcfiphkbbaaaDoor
