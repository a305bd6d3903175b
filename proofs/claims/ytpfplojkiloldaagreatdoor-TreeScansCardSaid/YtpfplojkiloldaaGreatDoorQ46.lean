/- The walks of rootstockref11.Delete, Get, Put. The walk of rootstockref13.Scan. The walk of rootstocklaw13.TreeScans: it returns true at every input. -/
import Derived.Deep.RegionHeld3
import Derived.Deep.CutBlock
import Derived.BigQuiet
import Derived.BigRegion
import Derived.Test.YtpfplojkiloldaaGreatDoorQ01
import Derived.Test.YtpfplojkiloldaaGreatDoorQ03
import Derived.Test.YtpfplojkiloldaaGreatDoorQ43
import Derived.Test.YtpfplojkiloldaaGreatDoorQ44
import Derived.Test.YtpfplojkiloldaaGreatDoorQ45
namespace Go.Proofs.YtpfplojkiloldaaGreatDoor
open Go.RowKit
theorem LO.ents {w : World} {base : Nat} {v : Value} {o : List Ent} {x : Ent} {n : Nat} (hn : o.length = n) (h : w.ownsRow base 38 2 v (n + 1) (entE.cells o ++ #[Value.string x.1, Value.string x.2].toList)) : LO entE 38 w base v (o ++ [x]) := LO.snoc hn rfl rfl h
theorem del_take (l : List Ent) (k : ByteArray) (j : Nat) (hj : j < l.length) : En.del (l.take (j + 1)) k = En.del (l.take j) k ++ if En.eqs l[j].1 k then [] else [l[j]] := by
  unfold En.del
  rw [List.take_succ_eq_append_getElem hj, List.filter_append]
  cases h : En.eqs l[j].1 k <;> simp [h]
set_option maxRecDepth 100000 in
set_option maxHeartbeats 800000 in
theorem rdelete_any (A : Option Addr) (c : Nat) (l : List Ent) (k : ByteArray) (w : World) (hr : LS entE w w.heap.size A l) (hl : l.length ≤ 100000) :
    Calls Tryz.prog 23 #[.slice A l.length c, .string k] w (LEnd entE 38 (En.del l k) w) := by
  obtain ⟨R, hR⟩ : ∃ R, R = En.del l k := ⟨_, rfl⟩
  rw [← hR]
  have HR := Lib.hid hR
  clear hR
  go_enter Tryz.func23, Tryz.ntmps23
  go_wp2
  go_loopw [5, 6] (fun v i wr => ∃ (j : Nat) (o : List Ent), j ≤ l.length ∧ i = .int .i64 j ∧ Hid (En.del (l.take j) k = o) ∧ o.length ≤ j ∧ LO entE 38 wr w.heap.size v o ∧ Below w.heap.size w wr) (fun _ i _ => l.length - (intOf i).toNat)
  case atStart => exact ⟨0, [], by omega, rfl, Lib.hid rfl, by simp, LO.nil_ _ _, Below.refl _ _⟩
  case round =>
    obtain ⟨j, o, hj, rfl, HO, hol, ho, hbe⟩ := hrel
    by_cases hlt : j < l.length
    · obtain ⟨b2, o2, rfl, hb2, g0, g1⟩ := (hr.below hbe).ent hlt
      have hd := Lib.hid (del_take l k j hlt)
      generalize l[j] = x at *
      obtain ⟨Ao, co, rfl⟩ := ho.form
      have hraw := ho.raw rfl (s := 2) rfl
      have hb2' : b2 < wr.heap.size := by have := hbe.size; omega
      cases heq : En.eqs x.1 k with
      | true =>
        have he : (x.1.toList == k.toList) = true := heq
        have hne : (!(x.1.toList == k.toList)) = false := by rw [he]; rfl
        have HQ := Lib.hid heq
        clear heq
        go_wp2
        go_roundw
        case rel => exact ⟨j + 1, o, by omega, by go_num, Lib.hid (by rw [hd.out, HO.out, HQ.out]; simp), by omega, ho, hbe⟩
        case measure => simp [intOf]; omega
      | false =>
        have he : (x.1.toList == k.toList) = false := heq
        have hne : (!(x.1.toList == k.toList)) = true := by rw [he]; rfl
        have HQ := Lib.hid heq
        clear heq
        go_wp2_with (at_builtin; refine wpList_app1 rfl (.tmp 20) (.tmp 25) 32 rfl eiEnt Tryz.underlying32 rfl (by decide) rfl hraw rfl (by simp) rfl (by simp [Value.oneCell']) (by unfold maxLen; omega) (by omega) hbe.size ?_; intro v' w2 hown' hgrow hbel _ _)
        go_roundw
        case rel => exact ⟨j + 1, o ++ [x], by omega, by go_num, Lib.hid (by rw [hd.out, HO.out, HQ.out]; rfl), by simp; omega, LO.ents rfl hown', hbe.trans hbel⟩
        case measure => simp [intOf]; omega
    · obtain rfl : j = l.length := by omega
      go_wp2
      go_ret
      have e := HO.out
      rw [List.take_of_length_le (Nat.le_refl _)] at e
      exact ⟨_, rfl, by rw [HR.out, e]; exact ho, hbe⟩
/-- how Get ends -/
def GetEnd (o : Option ByteArray) (w : World) (e : Ending) (w' : World) : Prop := (match o with | some v => e = .returned (.tuple #[.string v, .bool true]) | none => e = .returned (.tuple #[.string ⟨#[]⟩, .bool false])) ∧ w' = w
theorem GetEnd.some_ {o : Option ByteArray} {v : ByteArray} {w : World} (h : o = some v) : GetEnd o w (.returned (.tuple #[.string v, .bool true])) w := by subst h; exact ⟨rfl, rfl⟩
theorem GetEnd.none_ {o : Option ByteArray} {w : World} (h : o = none) : GetEnd o w (.returned (.tuple #[.string ⟨#[]⟩, .bool false])) w := by subst h; exact ⟨rfl, rfl⟩
theorem get_drop (l : List Ent) (k : ByteArray) (j : Nat) (hj : j < l.length) : En.get (l.drop j) k = if En.eqs l[j].1 k then some l[j].2 else En.get (l.drop (j + 1)) k := by
  rw [List.drop_eq_getElem_cons hj]
  unfold En.get
  rw [List.find?_cons]
  cases En.eqs l[j].1 k <;> simp
set_option maxRecDepth 100000 in
set_option maxHeartbeats 800000 in
theorem rget_any (A : Option Addr) (c : Nat) (l : List Ent) (k : ByteArray) (w : World) (hr : LS entE w w.heap.size A l) (hl : l.length ≤ 100000) :
    Calls Tryz.prog 22 #[.slice A l.length c, .string k] w (GetEnd (En.get l k) w) := by
  obtain ⟨R, hR⟩ : ∃ R, R = En.get l k := ⟨_, rfl⟩
  rw [← hR]
  have HR := Lib.hid hR
  clear hR
  go_enter Tryz.func22, Tryz.ntmps22
  go_wp2
  go_loop [6] (fun i => ∃ j : Nat, j ≤ l.length ∧ i = .int .i64 j ∧ Hid (R = En.get (l.drop j) k)) (fun i => l.length - (intOf i).toNat)
  case atStart => exact ⟨0, by omega, rfl, Lib.hid HR.out⟩
  case round =>
    obtain ⟨j, hj, rfl, HJ⟩ := hrel
    by_cases hlt : j < l.length
    · obtain ⟨b2, o2, rfl, hb2, g0, g1⟩ := hr.ent hlt
      have hd := Lib.hid (get_drop l k j hlt)
      generalize l[j] = x at *
      cases heq : En.eqs x.1 k with
      | true =>
        have he : (x.1.toList == k.toList) = true := heq
        have HQ := Lib.hid heq
        clear heq
        go_wp2
        go_ret2
        exact GetEnd.some_ (by rw [HJ.out, hd.out, HQ.out]; rfl)
      | false =>
        have he : (x.1.toList == k.toList) = false := heq
        have HQ := Lib.hid heq
        clear heq
        go_wp2
        go_round
        case rel => exact ⟨j + 1, by omega, by go_num, Lib.hid (by rw [HJ.out, hd.out, HQ.out]; rfl)⟩
        case measure => simp [intOf]; omega
    · obtain rfl : j = l.length := by omega
      go_wp2
      go_ret2
      refine GetEnd.none_ ?_
      rw [HJ.out, List.drop_of_length_le (Nat.le_refl _)]; rfl
theorem gt_iff (r k : ByteArray) : (!(Op.bytesLess r.toList k.toList || r.toList == k.toList)) = En.lt k r := by
  rcases En.lt_tri r k with h | h | h
  · have h1 : Op.bytesLess r.toList k.toList = true := h
    rw [h1, En.lt_not h]; rfl
  · subst h
    rw [En.lt_irrefl]; simp
  · have h1 : Op.bytesLess r.toList k.toList = false := En.lt_not h
    have h2 : (r.toList == k.toList) = false := En.eqs_no (En.lt_ne h).symm
    rw [h1, h2, h]; rfl
/-- what is still to come of a Put -/
def toCome (x : Ent) (done : Bool) (rest : List Ent) : List Ent := if done then rest else En.ins x rest
set_option maxRecDepth 100000 in
set_option maxHeartbeats 2000000 in
theorem rput_any (A : Option Addr) (c : Nat) (l : List Ent) (k v : ByteArray) (w : World) (hr : LS entE w w.heap.size A l) (hl : l.length ≤ 50000) :
    Calls Tryz.prog 20 #[.slice A l.length c, .string k, .string v] w (LEnd entE 38 (En.put l k v) w) := by
  obtain ⟨R, hR⟩ : ∃ R, R = En.put l k v := ⟨_, rfl⟩
  rw [← hR]
  have hD := hid_calls (rdelete_any A c l k w hr (by omega))
  have hdl := En.del_len l k
  have hR2 : R = En.ins (k, v) (En.del l k) := hR
  have HR := Lib.hid hR2
  clear hR hR2
  generalize En.del l k = rest at *
  go_enter Tryz.func20, Tryz.ntmps20
  go_wp2_with fail
  refine hD.out.mono ?_
  intro e w1 he
  obtain ⟨A1, c1, rfl, ho1, r1, b1⟩ := he.open_
  clear he ho1 hr
  go_wp2
  go_loopw [8, 9, 10] (fun u d i wr => ∃ (j : Nat) (dn : Bool) (o : List Ent), j ≤ rest.length ∧ i = .int .i64 j ∧ d = .bool dn ∧ Hid (R = o ++ toCome (k, v) dn (rest.drop j)) ∧ o.length ≤ j + (if dn then 1 else 0) ∧ LO entE 38 wr w1.heap.size u o ∧ Below w1.heap.size w1 wr) (fun _ _ i _ => rest.length - (intOf i).toNat)
  case atStart => exact ⟨0, false, [], by omega, rfl, rfl, Lib.hid (by rw [HR.out]; rfl), by simp, LO.nil_ _ _, Below.refl _ _⟩
  case round =>
    obtain ⟨j, dn, o, hj, rfl, rfl, HO, hol, ho, hbe⟩ := hrel
    by_cases hlt : j < rest.length
    · obtain ⟨b2, o2, rfl, hb2, g0, g1⟩ := (r1.below hbe).ent hlt
      have hd := Lib.hid (List.drop_eq_getElem_cons hlt)
      generalize rest[j] = x at *
      obtain ⟨Ao, co, rfl⟩ := ho.form
      have hraw := ho.raw rfl (s := 2) rfl
      have hb2' : b2 < wr.heap.size := by have := hbe.size; omega
      cases dn with
      | true =>
        simp only [if_true] at hol
        go_wp2_with (at_builtin; refine wpList_app1 rfl (.tmp 37) (.tmp 42) 32 rfl eiEnt Tryz.underlying32 rfl (by decide) rfl hraw rfl (by simp) rfl (by simp [Value.oneCell']) (by unfold maxLen; omega) (by omega) hbe.size ?_; intro v' w2 hown' hgrow hbel _ _)
        go_roundw
        case rel => exact ⟨j + 1, true, o ++ [x], by omega, by go_num, rfl, Lib.hid (by rw [HO.out, hd.out]; unfold toCome; simp), by simp at hol ⊢; omega, LO.ents rfl hown', hbe.trans hbel⟩
        case measure => simp [intOf]; omega
      | false =>
        cases hgt : En.lt k x.1 with
        | true =>
          have hg : (!(Op.bytesLess x.1.toList k.toList || x.1.toList == k.toList)) = true := (gt_iff x.1 k).trans hgt
          have HQ := Lib.hid hgt
          clear hgt
          simp only [Bool.false_eq_true, if_false, Nat.add_zero] at hol
          have hl2 : (o ++ [(k, v)]).length = o.length + 1 := by simp
          go_wp2_with (first | (at_builtin; refine wpList_app1 rfl (.tmp 31) (.tmp 35) 32 rfl eiEnt Tryz.underlying32 rfl (by decide) rfl hraw rfl (by simp) rfl (by simp [Value.oneCell']) (by unfold maxLen; omega) (by omega) hbe.size ?_; intro v' w2 hown' hgrow hbel _ _; have d0 := (hbel.cell (p := ⟨b2, o2 + j * 2, none⟩) hb2).trans g0; have d1 := (hbel.cell (p := ⟨b2, o2 + j * 2 + 1, none⟩) hb2).trans g1; have hb3 : b2 < w2.heap.size := (by have := (hbe.trans hbel).size; omega)) | (at_builtin; refine wpList_app1 rfl (.tmp 37) (.tmp 42) 32 rfl eiEnt Tryz.underlying32 rfl (by decide) rfl (LO.raw (LO.ents (x := (k, v)) rfl hown') hl2 (s := 2) rfl) rfl (by simp) rfl (by simp [Value.oneCell']) (by unfold maxLen; omega) (by omega) (hbe.trans hbel).size ?_; intro v2 w3 hown2 hgrow2 hbel2 _ _))
          go_roundw
          case rel => exact ⟨j + 1, true, o ++ [(k, v)] ++ [x], by omega, by go_num, rfl, Lib.hid (by rw [HO.out, hd.out]; unfold toCome En.ins; simp only; rw [HQ.out]; simp), by simp; omega, LO.ents hl2 hown2, (hbe.trans hbel).trans hbel2⟩
          case measure => simp [intOf]; omega
        | false =>
          have hg : (!(Op.bytesLess x.1.toList k.toList || x.1.toList == k.toList)) = false := (gt_iff x.1 k).trans hgt
          have HQ := Lib.hid hgt
          clear hgt
          simp only [Bool.false_eq_true, if_false, Nat.add_zero] at hol
          go_wp2_with (at_builtin; refine wpList_app1 rfl (.tmp 37) (.tmp 42) 32 rfl eiEnt Tryz.underlying32 rfl (by decide) rfl hraw rfl (by simp) rfl (by simp [Value.oneCell']) (by unfold maxLen; omega) (by omega) hbe.size ?_; intro v' w3 hown' hgrow hbel _ _)
          go_roundw
          case rel => exact ⟨j + 1, false, o ++ [x], by omega, by go_num, rfl, Lib.hid (by rw [HO.out, hd.out]; unfold toCome; simp only [Bool.false_eq_true, if_false]; rw [En.ins]; rw [HQ.out]; simp), by simp; omega, LO.ents rfl hown', hbe.trans hbel⟩
          case measure => simp [intOf]; omega
    · obtain rfl : j = rest.length := by omega
      have hnil := Lib.hid (List.drop_of_length_le (Nat.le_refl rest.length))
      obtain ⟨Ao, co, rfl⟩ := ho.form
      have hraw := ho.raw rfl (s := 2) rfl
      cases dn with
      | true =>
        go_wp2
        go_ret
        exact ⟨_, rfl, by rw [HO.out, hnil.out]; unfold toCome; simp only [if_true, List.append_nil]; exact ho.lower b1.size, b1.trans (hbe.mono b1.size)⟩
      | false =>
        simp only [Bool.false_eq_true, if_false, Nat.add_zero] at hol
        go_wp2_with (at_builtin; refine wpList_app1 rfl (.tmp 46) (.tmp 50) 32 rfl eiEnt Tryz.underlying32 rfl (by decide) rfl hraw rfl (by simp) rfl (by simp [Value.oneCell']) (by unfold maxLen; omega) (by omega) hbe.size ?_; intro v' w3 hown' hgrow hbel _ _)
        go_ret
        refine ⟨_, rfl, ?_, b1.trans ((hbe.trans hbel).mono b1.size)⟩
        rw [HO.out, hnil.out]
        exact (LO.ents (x := (k, v)) rfl hown').lower b1.size
end Go.Proofs.YtpfplojkiloldaaGreatDoor
namespace Go.Proofs.YtpfplojkiloldaaGreatDoor
open Go.RowKit
def inF (frm hi : ByteArray) (x : Ent) : Bool := Tp.inB hi x && Tp.ge_ frm x
theorem scan_take (l : List Ent) (frm hi : ByteArray) (j : Nat) (hj : j < l.length) : Tp.scanF (l.take (j + 1)) frm hi = Tp.scanF (l.take j) frm hi ++ if inF frm hi l[j] then [l[j]] else [] := by
  unfold Tp.scanF
  rw [List.take_succ_eq_append_getElem hj, List.filter_append]
  unfold inF
  cases h : (Tp.inB hi l[j] && Tp.ge_ frm l[j]) <;> simp [h]
set_option maxRecDepth 100000 in
set_option maxHeartbeats 800000 in
theorem rscan_any (A : Option Addr) (c : Nat) (l : List Ent) (frm hi : ByteArray) (w : World) (hr : LS entE w w.heap.size A l) (hl : l.length ≤ 100000) :
    Calls Tryz.prog 18 #[.slice A l.length c, .string frm, .string hi] w (LEnd entE 38 (Tp.scanF l frm hi) w) := by
  obtain ⟨R, hR⟩ : ∃ R, R = Tp.scanF l frm hi := ⟨_, rfl⟩
  rw [← hR]
  have HR := Lib.hid hR
  clear hR
  go_enter Tryz.func18, Tryz.ntmps18
  go_wp2
  go_loopw [7, 8] (fun v i wr => ∃ (j : Nat) (o : List Ent), j ≤ l.length ∧ i = .int .i64 j ∧ Hid (Tp.scanF (l.take j) frm hi = o) ∧ o.length ≤ j ∧ LO entE 38 wr w.heap.size v o ∧ Below w.heap.size w wr) (fun _ i _ => l.length - (intOf i).toNat)
  case atStart => exact ⟨0, [], by omega, rfl, Lib.hid rfl, by simp, LO.nil_ _ _, Below.refl _ _⟩
  case round =>
    obtain ⟨j, o, hj, rfl, HO, hol, ho, hbe⟩ := hrel
    by_cases hlt : j < l.length
    · obtain ⟨b2, o2, rfl, hb2, g0, g1⟩ := (hr.below hbe).ent hlt
      have hd := Lib.hid (scan_take l frm hi j hlt)
      generalize l[j] = x at *
      obtain ⟨Ao, co, rfl⟩ := ho.form
      have hraw := ho.raw rfl (s := 2) rfl
      have hb2' : b2 < wr.heap.size := by have := hbe.size; omega
      cases hge : Op.bytesLess x.1.toList frm.toList with
      | true =>
        have HQ := Lib.hid (show inF frm hi x = false by unfold inF Tp.ge_ En.lt; rw [hge]; simp)
        go_wp2
        go_roundw
        case rel => exact ⟨j + 1, o, by omega, by go_num, Lib.hid (by rw [hd.out, HO.out, HQ.out]; simp), by omega, ho, hbe⟩
        case measure => simp [intOf]; omega
      | false =>
        cases hem : hi.toList.isEmpty with
        | true =>
          have HQ := Lib.hid (show inF frm hi x = true by unfold inF Tp.inB Tp.ge_ En.lt; rw [hge, hem]; simp)
          have hem2 : hi.toList = [] := by simpa using hem
          go_wp2_with (at_builtin; refine wpList_app1 rfl (.tmp 35) (.tmp 40) 32 rfl eiEnt Tryz.underlying32 rfl (by decide) rfl hraw rfl (by simp) rfl (by simp [Value.oneCell']) (by unfold maxLen; omega) (by omega) hbe.size ?_; intro v' w2 hown' hgrow hbel _ _)
          go_roundw
          case rel => exact ⟨j + 1, o ++ [x], by omega, by go_num, Lib.hid (by rw [hd.out, HO.out, HQ.out]; rfl), by simp; omega, LO.ents rfl hown', hbe.trans hbel⟩
          case measure => simp [intOf]; omega
        | false =>
          have hem2 : ¬ hi.toList = [] := by simpa using hem
          cases hin : Op.bytesLess x.1.toList hi.toList with
          | true =>
            have HQ := Lib.hid (show inF frm hi x = true by unfold inF Tp.inB Tp.ge_ En.lt; rw [hge, hin]; simp)
            go_wp2_with (at_builtin; refine wpList_app1 rfl (.tmp 35) (.tmp 40) 32 rfl eiEnt Tryz.underlying32 rfl (by decide) rfl hraw rfl (by simp) rfl (by simp [Value.oneCell']) (by unfold maxLen; omega) (by omega) hbe.size ?_; intro v' w2 hown' hgrow hbel _ _)
            go_roundw
            case rel => exact ⟨j + 1, o ++ [x], by omega, by go_num, Lib.hid (by rw [hd.out, HO.out, HQ.out]; rfl), by simp; omega, LO.ents rfl hown', hbe.trans hbel⟩
            case measure => simp [intOf]; omega
          | false =>
            have HQ := Lib.hid (show inF frm hi x = false by unfold inF Tp.inB Tp.ge_ En.lt; rw [hge, hin, hem]; simp)
            go_wp2
            go_roundw
            case rel => exact ⟨j + 1, o, by omega, by go_num, Lib.hid (by rw [hd.out, HO.out, HQ.out]; simp), by omega, ho, hbe⟩
            case measure => simp [intOf]; omega
    · obtain rfl : j = l.length := by omega
      go_wp2
      go_ret
      have e := HO.out
      rw [List.take_of_length_le (Nat.le_refl _)] at e
      exact ⟨_, rfl, by rw [HR.out, e]; exact ho, hbe⟩
end Go.Proofs.YtpfplojkiloldaaGreatDoor
namespace Tp
open En
def lo_ (mid : Str) (x : Ent) : Bool := lt x.1 mid
theorem scan_two {mid : Str} : ∀ {es : List Ent}, Srt es → es.filter (lo_ mid) ++ es.filter (ge_ mid) = es
  | [], _ => rfl
  | x :: l, h => by
    obtain ⟨h1, h2⟩ := srt_cons.1 h
    cases hx : lt x.1 mid with
    | true =>
      rw [List.filter_cons_of_pos (show lo_ mid x = true from hx), List.filter_cons_of_neg (by simp [ge_, hx]), List.cons_append, scan_two h2]
    | false =>
      have hall : ∀ y ∈ l, lt y.1 mid = false := fun y hy => by
        cases hy2 : lt y.1 mid with
        | false => rfl
        | true => rw [lt_trans (h1 y hy) hy2] at hx; cases hx
      rw [List.filter_cons_of_neg (by simp [lo_, hx]), List.filter_cons_of_pos (by simp [ge_, hx]), List.filter_eq_nil_iff.2 (fun y hy => by simp [lo_, hall y hy]), List.filter_eq_self.2 (fun y hy => by simp [ge_, hall y hy])]
      rfl
theorem scan_parts {es : List Ent} (h : Srt es) {mid : Str} (hm : mid.toList.isEmpty = false) : scanF es ⟨#[]⟩ mid ++ scanF es mid ⟨#[]⟩ = es := by
  have e1 : scanF es ⟨#[]⟩ mid = es.filter (lo_ mid) := by
    unfold scanF
    congr 1
    funext x
    have : ge_ ⟨#[]⟩ x = true := by
      unfold ge_ lt
      rw [Go.Lib.toList_data (⟨#[]⟩ : ByteArray)]
      cases x.1.toList <;> rfl
    rw [this, Bool.and_true]
    unfold inB
    rw [hm, Bool.false_or]
    rfl
  have e2 : scanF es mid ⟨#[]⟩ = es.filter (ge_ mid) := by
    unfold scanF
    congr 1
    funext x
    rw [inB_nil, Bool.true_and]
  rw [e1, e2]
  exact scan_two h
end Tp
namespace Go.Proofs.YtpfplojkiloldaaGreatDoor
open Go.RowKit Go.Shelf
/-- a law's tree that was put to -/
structure TPuts (w : World) (n : Nat) (a : TAd) (m : Nat) (W : World) : Prop where
  at_ : ∃ es tok, TAt n a es tok W ∧ tok ≤ m
  below : Below w.heap.size w W
theorem Rm.mono {n t t' : Nat} (h : Rm n t) (ht : t' ≤ t) : Rm n t' := by unfold Rm at *; omega
theorem TPuts.up {w W W' : World} {n m : Nat} {a : TAd} (h : TPuts w n a m W) (hb : Below W.heap.size W W') : TPuts w n a m W' := by
  obtain ⟨⟨es, tok, h1, h2⟩, h3⟩ := h
  exact ⟨⟨es, tok, h1.below hb, h2⟩, h3.trans (hb.mono h3.size)⟩
theorem put_round {w W : World} {n m : Nat} {a : TAd} (h : TPuts w n a m W) (hF : ∀ x, a.F x → w.heap.size ≤ x) {k v : ByteArray} (hm : En.may k v = true) (hr : Rm n m) :
    Calls Tryz.prog 15 #[.pointer (some ⟨a.u, 0, none⟩), .string k, .string v] W fun e w' => e = .returned (.int .i64 0) ∧ TPuts w n a (m + 1) w' ∧ Below w.heap.size W w' := by
  obtain ⟨⟨es, tok, h1, h2⟩, h3⟩ := h
  refine (tst_put h1 hm (hr.mono h2)).mono ?_
  rintro e w' ⟨rfl, h4, f⟩
  have hb := f.low h3.size hF
  exact ⟨rfl, ⟨⟨_, _, h4, by have := dput_le es k; omega⟩, h3.trans hb⟩, hb⟩
theorem LS.tact2 {w : World} {B : Nat} {A : Option Addr} {l : List TAct} (h : LS tactE w B A l) {k : Nat} (hk : k < l.length) : ∃ b off, A = some ⟨b, off, none⟩ ∧ b < B ∧ w.cell? ⟨b, off + k * 3, none⟩ = some (.int .i64 l[k].1) ∧ w.cell? ⟨b, off + k * 3 + 1, none⟩ = some (.string l[k].2.1) ∧ w.cell? ⟨b, off + k * 3 + 2, none⟩ = some (.string l[k].2.2) := h.tact hk
set_option maxRecDepth 100000 in
set_option maxHeartbeats 1000000 in
theorem tscans_big (A : Option Addr) (c : Nat) (l : List TAct) (frm mid to_ : ByteArray) (w : World) (hr : LS tactE w w.heap.size A l) (h : overT l = true ∨ 60 < frm.size ∨ 60 < mid.size ∨ 60 < to_.size) :
    Calls Tryz.prog 3 #[.slice A l.length c, .string frm, .string mid, .string to_] w (TrueEnd w) := by
  have HW := Lib.hid (works13_any w)
  have HO := Lib.hid (fun W h => over_any A c l W h)
  generalize overT l = ov at *
  have HR := Lib.hid hr
  clear hr
  go_enter Tryz.func3, Tryz.ntmps3
  go_wp2_with fail
  refine Calls.mono HW.out ?_
  rintro e w1 ⟨rfl, b1⟩
  have HC := Lib.hid (HO.out w1 ((HR.out.below b1).more b1.size))
  have HB := Lib.hid b1
  clear HO b1 HW
  go_wp2_with fail
  refine Calls.mono HC.out ?_
  rintro e _ ⟨rfl, rfl⟩
  cases ov with
  | true =>
    go_wp2
    go_ret
    exact ⟨rfl, HB.out⟩
  | false =>
    by_cases h1 : 60 < frm.size
    · have d1 : (60 : Int) < (frm.size : Nat) := by omega
      go_wp2
      go_ret
      exact ⟨rfl, HB.out⟩
    · have d1 : ¬ (60 : Int) < (frm.size : Nat) := by omega
      by_cases h2 : 60 < mid.size
      · have d2 : (60 : Int) < (mid.size : Nat) := by omega
        go_wp2
        go_ret
        exact ⟨rfl, HB.out⟩
      · have d2 : ¬ (60 : Int) < (mid.size : Nat) := by omega
        have h3 : 60 < to_.size := by
          rcases h with h | h | h | h
          · cases h
          · exact absurd h h1
          · exact absurd h h2
          · exact h
        have d3 : (60 : Int) < (to_.size : Nat) := by omega
        clear h
        go_wp2
        go_ret
        exact ⟨rfl, HB.out⟩
end Go.Proofs.YtpfplojkiloldaaGreatDoor
