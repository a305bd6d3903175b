/- The walks of rootstockref11.Delete, Get, Put. The walk of rootstockref13.Scan. The walk of rootstocklaw13.TreeScans: it returns true at every input. The walk of rootstocklaw13.TreeLow: it returns true at every input. Two laws' trees at once: what is put to either, deleted from either. The walk of rootstocklaw13.TreeOrder: it returns true at every input. A slice of structs that came in, opened. The guide's own lemma to copy (extra-structs). A slice of a tree's acts that came in, opened to a list. What the row lists of crc's table, as cells. -/
import Derived.Deep.RegionHeld3
import Derived.Deep.CutBlock
import Derived.BigQuiet
import Derived.BigRegion
import Derived.Deep.Slices
import Derived.Deep.Fields
import Derived.ChangeSame
import Derived.ProofKit
import Derived.LaidMore
import Derived.Lay
import Derived.OpenShut
import Derived.Test.YtpfplojkiloldaaGreatDoorQ00
import Derived.Test.YtpfplojkiloldaaGreatDoorQ01
import Derived.Test.YtpfplojkiloldaaGreatDoorQ03
import Derived.Test.YtpfplojkiloldaaGreatDoorQ24
import Derived.Test.YtpfplojkiloldaaGreatDoorQ40
import Derived.Test.YtpfplojkiloldaaGreatDoorQ41
import Derived.Test.YtpfplojkiloldaaGreatDoorQ42
import Derived.Test.YtpfplojkiloldaaGreatDoorQ43
import Derived.Test.YtpfplojkiloldaaGreatDoorQ44
import Derived.Test.YtpfplojkiloldaaGreatDoorRows
namespace Go.Proofs.YtpfplojkiloldaaGreatDoor
open Go.RowKit
theorem LO.ents {w : World} {base : Nat} {v : Value} {o : List Ent} {x : Ent} {n : Nat} (hn : o.length = n) (h : w.ownsRow base 38 2 v (n + 1) (entE.cells o ++ #[Value.string x.1, Value.string x.2].toList)) : LO entE 38 w base v (o ++ [x]) := LO.snoc hn rfl rfl h
theorem del_take (l : List Ent) (k : ByteArray) (j : Nat) (hj : j < l.length) : En.del (l.take (j + 1)) k = En.del (l.take j) k ++ if En.eqs l[j].1 k then [] else [l[j]] := by
  unfold En.del
  rw [List.take_succ_eq_append_getElem hj, List.filter_append]
  cases h : En.eqs l[j].1 k <;> simp [h]
set_option maxRecDepth 100000 in
set_option maxHeartbeats 800000 in
theorem rdelete_any (A : Option Addr) (c : Nat) (l : List Ent) (k : ByteArray) (w : World) (hr : LS entE w w.heap.size A l) (hl : l.length ≤ 100000) :
    Calls Tryz.prog 23 #[.slice A l.length c, .string k] w (LEnd entE 38 (En.del l k) w) := by
  obtain ⟨R, hR⟩ : ∃ R, R = En.del l k := ⟨_, rfl⟩
  rw [← hR]
  have HR := Lib.hid hR
  clear hR
  go_enter Tryz.func23, Tryz.ntmps23
  go_wp2
  go_loopw [5, 6] (fun v i wr => ∃ (j : Nat) (o : List Ent), j ≤ l.length ∧ i = .int .i64 j ∧ Hid (En.del (l.take j) k = o) ∧ o.length ≤ j ∧ LO entE 38 wr w.heap.size v o ∧ Below w.heap.size w wr) (fun _ i _ => l.length - (intOf i).toNat)
  case atStart => exact ⟨0, [], by omega, rfl, Lib.hid rfl, by simp, LO.nil_ _ _, Below.refl _ _⟩
  case round =>
    obtain ⟨j, o, hj, rfl, HO, hol, ho, hbe⟩ := hrel
    by_cases hlt : j < l.length
    · obtain ⟨b2, o2, rfl, hb2, g0, g1⟩ := (hr.below hbe).ent hlt
      have hd := Lib.hid (del_take l k j hlt)
      generalize l[j] = x at *
      obtain ⟨Ao, co, rfl⟩ := ho.form
      have hraw := ho.raw rfl (s := 2) rfl
      have hb2' : b2 < wr.heap.size := by have := hbe.size; omega
      cases heq : En.eqs x.1 k with
      | true =>
        have he : (x.1.toList == k.toList) = true := heq
        have hne : (!(x.1.toList == k.toList)) = false := by rw [he]; rfl
        have HQ := Lib.hid heq
        clear heq
        go_wp2
        go_roundw
        case rel => exact ⟨j + 1, o, by omega, by go_num, Lib.hid (by rw [hd.out, HO.out, HQ.out]; simp), by omega, ho, hbe⟩
        case measure => simp [intOf]; omega
      | false =>
        have he : (x.1.toList == k.toList) = false := heq
        have hne : (!(x.1.toList == k.toList)) = true := by rw [he]; rfl
        have HQ := Lib.hid heq
        clear heq
        go_wp2_with (at_builtin; refine wpList_app1 rfl (.tmp 20) (.tmp 25) 32 rfl eiEnt Tryz.underlying32 rfl (by decide) rfl hraw rfl (by simp) rfl (by simp [Value.oneCell']) (by unfold maxLen; omega) (by omega) hbe.size ?_; intro v' w2 hown' hgrow hbel _ _)
        go_roundw
        case rel => exact ⟨j + 1, o ++ [x], by omega, by go_num, Lib.hid (by rw [hd.out, HO.out, HQ.out]; rfl), by simp; omega, LO.ents rfl hown', hbe.trans hbel⟩
        case measure => simp [intOf]; omega
    · obtain rfl : j = l.length := by omega
      go_wp2
      go_ret
      have e := HO.out
      rw [List.take_of_length_le (Nat.le_refl _)] at e
      exact ⟨_, rfl, by rw [HR.out, e]; exact ho, hbe⟩
def GetEnd (o : Option ByteArray) (w : World) (e : Ending) (w' : World) : Prop := (match o with | some v => e = .returned (.tuple #[.string v, .bool true]) | none => e = .returned (.tuple #[.string ⟨#[]⟩, .bool false])) ∧ w' = w
theorem GetEnd.some_ {o : Option ByteArray} {v : ByteArray} {w : World} (h : o = some v) : GetEnd o w (.returned (.tuple #[.string v, .bool true])) w := by subst h; exact ⟨rfl, rfl⟩
theorem GetEnd.none_ {o : Option ByteArray} {w : World} (h : o = none) : GetEnd o w (.returned (.tuple #[.string ⟨#[]⟩, .bool false])) w := by subst h; exact ⟨rfl, rfl⟩
theorem get_drop (l : List Ent) (k : ByteArray) (j : Nat) (hj : j < l.length) : En.get (l.drop j) k = if En.eqs l[j].1 k then some l[j].2 else En.get (l.drop (j + 1)) k := by
  rw [List.drop_eq_getElem_cons hj]
  unfold En.get
  rw [List.find?_cons]
  cases En.eqs l[j].1 k <;> simp
set_option maxRecDepth 100000 in
set_option maxHeartbeats 800000 in
theorem rget_any (A : Option Addr) (c : Nat) (l : List Ent) (k : ByteArray) (w : World) (hr : LS entE w w.heap.size A l) (hl : l.length ≤ 100000) :
    Calls Tryz.prog 22 #[.slice A l.length c, .string k] w (GetEnd (En.get l k) w) := by
  obtain ⟨R, hR⟩ : ∃ R, R = En.get l k := ⟨_, rfl⟩
  rw [← hR]
  have HR := Lib.hid hR
  clear hR
  go_enter Tryz.func22, Tryz.ntmps22
  go_wp2
  go_loop [6] (fun i => ∃ j : Nat, j ≤ l.length ∧ i = .int .i64 j ∧ Hid (R = En.get (l.drop j) k)) (fun i => l.length - (intOf i).toNat)
  case atStart => exact ⟨0, by omega, rfl, Lib.hid HR.out⟩
  case round =>
    obtain ⟨j, hj, rfl, HJ⟩ := hrel
    by_cases hlt : j < l.length
    · obtain ⟨b2, o2, rfl, hb2, g0, g1⟩ := hr.ent hlt
      have hd := Lib.hid (get_drop l k j hlt)
      generalize l[j] = x at *
      cases heq : En.eqs x.1 k with
      | true =>
        have he : (x.1.toList == k.toList) = true := heq
        have HQ := Lib.hid heq
        clear heq
        go_wp2
        go_ret2
        exact GetEnd.some_ (by rw [HJ.out, hd.out, HQ.out]; rfl)
      | false =>
        have he : (x.1.toList == k.toList) = false := heq
        have HQ := Lib.hid heq
        clear heq
        go_wp2
        go_round
        case rel => exact ⟨j + 1, by omega, by go_num, Lib.hid (by rw [HJ.out, hd.out, HQ.out]; rfl)⟩
        case measure => simp [intOf]; omega
    · obtain rfl : j = l.length := by omega
      go_wp2
      go_ret2
      refine GetEnd.none_ ?_
      rw [HJ.out, List.drop_of_length_le (Nat.le_refl _)]; rfl
theorem gt_iff (r k : ByteArray) : (!(Op.bytesLess r.toList k.toList || r.toList == k.toList)) = En.lt k r := by
  rcases En.lt_tri r k with h | h | h
  · have h1 : Op.bytesLess r.toList k.toList = true := h
    rw [h1, En.lt_not h]; rfl
  · subst h
    rw [En.lt_irrefl]; simp
  · have h1 : Op.bytesLess r.toList k.toList = false := En.lt_not h
    have h2 : (r.toList == k.toList) = false := En.eqs_no (En.lt_ne h).symm
    rw [h1, h2, h]; rfl
def toCome (x : Ent) (done : Bool) (rest : List Ent) : List Ent := if done then rest else En.ins x rest
set_option maxRecDepth 100000 in
set_option maxHeartbeats 2000000 in
theorem rput_any (A : Option Addr) (c : Nat) (l : List Ent) (k v : ByteArray) (w : World) (hr : LS entE w w.heap.size A l) (hl : l.length ≤ 50000) :
    Calls Tryz.prog 20 #[.slice A l.length c, .string k, .string v] w (LEnd entE 38 (En.put l k v) w) := by
  obtain ⟨R, hR⟩ : ∃ R, R = En.put l k v := ⟨_, rfl⟩
  rw [← hR]
  have hD := hid_calls (rdelete_any A c l k w hr (by omega))
  have hdl := En.del_len l k
  have hR2 : R = En.ins (k, v) (En.del l k) := hR
  have HR := Lib.hid hR2
  clear hR hR2
  generalize En.del l k = rest at *
  go_enter Tryz.func20, Tryz.ntmps20
  go_wp2_with fail
  refine hD.out.mono ?_
  intro e w1 he
  obtain ⟨A1, c1, rfl, ho1, r1, b1⟩ := he.open_
  clear he ho1 hr
  go_wp2
  go_loopw [8, 9, 10] (fun u d i wr => ∃ (j : Nat) (dn : Bool) (o : List Ent), j ≤ rest.length ∧ i = .int .i64 j ∧ d = .bool dn ∧ Hid (R = o ++ toCome (k, v) dn (rest.drop j)) ∧ o.length ≤ j + (if dn then 1 else 0) ∧ LO entE 38 wr w1.heap.size u o ∧ Below w1.heap.size w1 wr) (fun _ _ i _ => rest.length - (intOf i).toNat)
  case atStart => exact ⟨0, false, [], by omega, rfl, rfl, Lib.hid (by rw [HR.out]; rfl), by simp, LO.nil_ _ _, Below.refl _ _⟩
  case round =>
    obtain ⟨j, dn, o, hj, rfl, rfl, HO, hol, ho, hbe⟩ := hrel
    by_cases hlt : j < rest.length
    · obtain ⟨b2, o2, rfl, hb2, g0, g1⟩ := (r1.below hbe).ent hlt
      have hd := Lib.hid (List.drop_eq_getElem_cons hlt)
      generalize rest[j] = x at *
      obtain ⟨Ao, co, rfl⟩ := ho.form
      have hraw := ho.raw rfl (s := 2) rfl
      have hb2' : b2 < wr.heap.size := by have := hbe.size; omega
      cases dn with
      | true =>
        simp only [if_true] at hol
        go_wp2_with (at_builtin; refine wpList_app1 rfl (.tmp 37) (.tmp 42) 32 rfl eiEnt Tryz.underlying32 rfl (by decide) rfl hraw rfl (by simp) rfl (by simp [Value.oneCell']) (by unfold maxLen; omega) (by omega) hbe.size ?_; intro v' w2 hown' hgrow hbel _ _)
        go_roundw
        case rel => exact ⟨j + 1, true, o ++ [x], by omega, by go_num, rfl, Lib.hid (by rw [HO.out, hd.out]; unfold toCome; simp), by simp at hol ⊢; omega, LO.ents rfl hown', hbe.trans hbel⟩
        case measure => simp [intOf]; omega
      | false =>
        cases hgt : En.lt k x.1 with
        | true =>
          have hg : (!(Op.bytesLess x.1.toList k.toList || x.1.toList == k.toList)) = true := (gt_iff x.1 k).trans hgt
          have HQ := Lib.hid hgt
          clear hgt
          simp only [Bool.false_eq_true, if_false, Nat.add_zero] at hol
          have hl2 : (o ++ [(k, v)]).length = o.length + 1 := by simp
          go_wp2_with (first | (at_builtin; refine wpList_app1 rfl (.tmp 31) (.tmp 35) 32 rfl eiEnt Tryz.underlying32 rfl (by decide) rfl hraw rfl (by simp) rfl (by simp [Value.oneCell']) (by unfold maxLen; omega) (by omega) hbe.size ?_; intro v' w2 hown' hgrow hbel _ _; have d0 := (hbel.cell (p := ⟨b2, o2 + j * 2, none⟩) hb2).trans g0; have d1 := (hbel.cell (p := ⟨b2, o2 + j * 2 + 1, none⟩) hb2).trans g1; have hb3 : b2 < w2.heap.size := (by have := (hbe.trans hbel).size; omega)) | (at_builtin; refine wpList_app1 rfl (.tmp 37) (.tmp 42) 32 rfl eiEnt Tryz.underlying32 rfl (by decide) rfl (LO.raw (LO.ents (x := (k, v)) rfl hown') hl2 (s := 2) rfl) rfl (by simp) rfl (by simp [Value.oneCell']) (by unfold maxLen; omega) (by omega) (hbe.trans hbel).size ?_; intro v2 w3 hown2 hgrow2 hbel2 _ _))
          go_roundw
          case rel => exact ⟨j + 1, true, o ++ [(k, v)] ++ [x], by omega, by go_num, rfl, Lib.hid (by rw [HO.out, hd.out]; unfold toCome En.ins; simp only; rw [HQ.out]; simp), by simp; omega, LO.ents hl2 hown2, (hbe.trans hbel).trans hbel2⟩
          case measure => simp [intOf]; omega
        | false =>
          have hg : (!(Op.bytesLess x.1.toList k.toList || x.1.toList == k.toList)) = false := (gt_iff x.1 k).trans hgt
          have HQ := Lib.hid hgt
          clear hgt
          simp only [Bool.false_eq_true, if_false, Nat.add_zero] at hol
          go_wp2_with (at_builtin; refine wpList_app1 rfl (.tmp 37) (.tmp 42) 32 rfl eiEnt Tryz.underlying32 rfl (by decide) rfl hraw rfl (by simp) rfl (by simp [Value.oneCell']) (by unfold maxLen; omega) (by omega) hbe.size ?_; intro v' w3 hown' hgrow hbel _ _)
          go_roundw
          case rel => exact ⟨j + 1, false, o ++ [x], by omega, by go_num, rfl, Lib.hid (by rw [HO.out, hd.out]; unfold toCome; simp only [Bool.false_eq_true, if_false]; rw [En.ins]; rw [HQ.out]; simp), by simp; omega, LO.ents rfl hown', hbe.trans hbel⟩
          case measure => simp [intOf]; omega
    · obtain rfl : j = rest.length := by omega
      have hnil := Lib.hid (List.drop_of_length_le (Nat.le_refl rest.length))
      obtain ⟨Ao, co, rfl⟩ := ho.form
      have hraw := ho.raw rfl (s := 2) rfl
      cases dn with
      | true =>
        go_wp2
        go_ret
        exact ⟨_, rfl, by rw [HO.out, hnil.out]; unfold toCome; simp only [if_true, List.append_nil]; exact ho.lower b1.size, b1.trans (hbe.mono b1.size)⟩
      | false =>
        simp only [Bool.false_eq_true, if_false, Nat.add_zero] at hol
        go_wp2_with (at_builtin; refine wpList_app1 rfl (.tmp 46) (.tmp 50) 32 rfl eiEnt Tryz.underlying32 rfl (by decide) rfl hraw rfl (by simp) rfl (by simp [Value.oneCell']) (by unfold maxLen; omega) (by omega) hbe.size ?_; intro v' w3 hown' hgrow hbel _ _)
        go_ret
        refine ⟨_, rfl, ?_, b1.trans ((hbe.trans hbel).mono b1.size)⟩
        rw [HO.out, hnil.out]
        exact (LO.ents (x := (k, v)) rfl hown').lower b1.size
end Go.Proofs.YtpfplojkiloldaaGreatDoor
namespace Go.Proofs.YtpfplojkiloldaaGreatDoor
open Go.RowKit
def inF (frm hi : ByteArray) (x : Ent) : Bool := Tp.inB hi x && Tp.ge_ frm x
theorem scan_take (l : List Ent) (frm hi : ByteArray) (j : Nat) (hj : j < l.length) : Tp.scanF (l.take (j + 1)) frm hi = Tp.scanF (l.take j) frm hi ++ if inF frm hi l[j] then [l[j]] else [] := by
  unfold Tp.scanF
  rw [List.take_succ_eq_append_getElem hj, List.filter_append]
  unfold inF
  cases h : (Tp.inB hi l[j] && Tp.ge_ frm l[j]) <;> simp [h]
set_option maxRecDepth 100000 in
set_option maxHeartbeats 800000 in
theorem rscan_any (A : Option Addr) (c : Nat) (l : List Ent) (frm hi : ByteArray) (w : World) (hr : LS entE w w.heap.size A l) (hl : l.length ≤ 100000) :
    Calls Tryz.prog 18 #[.slice A l.length c, .string frm, .string hi] w (LEnd entE 38 (Tp.scanF l frm hi) w) := by
  obtain ⟨R, hR⟩ : ∃ R, R = Tp.scanF l frm hi := ⟨_, rfl⟩
  rw [← hR]
  have HR := Lib.hid hR
  clear hR
  go_enter Tryz.func18, Tryz.ntmps18
  go_wp2
  go_loopw [7, 8] (fun v i wr => ∃ (j : Nat) (o : List Ent), j ≤ l.length ∧ i = .int .i64 j ∧ Hid (Tp.scanF (l.take j) frm hi = o) ∧ o.length ≤ j ∧ LO entE 38 wr w.heap.size v o ∧ Below w.heap.size w wr) (fun _ i _ => l.length - (intOf i).toNat)
  case atStart => exact ⟨0, [], by omega, rfl, Lib.hid rfl, by simp, LO.nil_ _ _, Below.refl _ _⟩
  case round =>
    obtain ⟨j, o, hj, rfl, HO, hol, ho, hbe⟩ := hrel
    by_cases hlt : j < l.length
    · obtain ⟨b2, o2, rfl, hb2, g0, g1⟩ := (hr.below hbe).ent hlt
      have hd := Lib.hid (scan_take l frm hi j hlt)
      generalize l[j] = x at *
      obtain ⟨Ao, co, rfl⟩ := ho.form
      have hraw := ho.raw rfl (s := 2) rfl
      have hb2' : b2 < wr.heap.size := by have := hbe.size; omega
      cases hge : Op.bytesLess x.1.toList frm.toList with
      | true =>
        have HQ := Lib.hid (show inF frm hi x = false by unfold inF Tp.ge_ En.lt; rw [hge]; simp)
        go_wp2
        go_roundw
        case rel => exact ⟨j + 1, o, by omega, by go_num, Lib.hid (by rw [hd.out, HO.out, HQ.out]; simp), by omega, ho, hbe⟩
        case measure => simp [intOf]; omega
      | false =>
        cases hem : hi.toList.isEmpty with
        | true =>
          have HQ := Lib.hid (show inF frm hi x = true by unfold inF Tp.inB Tp.ge_ En.lt; rw [hge, hem]; simp)
          have hem2 : hi.toList = [] := by simpa using hem
          go_wp2_with (at_builtin; refine wpList_app1 rfl (.tmp 35) (.tmp 40) 32 rfl eiEnt Tryz.underlying32 rfl (by decide) rfl hraw rfl (by simp) rfl (by simp [Value.oneCell']) (by unfold maxLen; omega) (by omega) hbe.size ?_; intro v' w2 hown' hgrow hbel _ _)
          go_roundw
          case rel => exact ⟨j + 1, o ++ [x], by omega, by go_num, Lib.hid (by rw [hd.out, HO.out, HQ.out]; rfl), by simp; omega, LO.ents rfl hown', hbe.trans hbel⟩
          case measure => simp [intOf]; omega
        | false =>
          have hem2 : ¬ hi.toList = [] := by simpa using hem
          cases hin : Op.bytesLess x.1.toList hi.toList with
          | true =>
            have HQ := Lib.hid (show inF frm hi x = true by unfold inF Tp.inB Tp.ge_ En.lt; rw [hge, hin]; simp)
            go_wp2_with (at_builtin; refine wpList_app1 rfl (.tmp 35) (.tmp 40) 32 rfl eiEnt Tryz.underlying32 rfl (by decide) rfl hraw rfl (by simp) rfl (by simp [Value.oneCell']) (by unfold maxLen; omega) (by omega) hbe.size ?_; intro v' w2 hown' hgrow hbel _ _)
            go_roundw
            case rel => exact ⟨j + 1, o ++ [x], by omega, by go_num, Lib.hid (by rw [hd.out, HO.out, HQ.out]; rfl), by simp; omega, LO.ents rfl hown', hbe.trans hbel⟩
            case measure => simp [intOf]; omega
          | false =>
            have HQ := Lib.hid (show inF frm hi x = false by unfold inF Tp.inB Tp.ge_ En.lt; rw [hge, hin, hem]; simp)
            go_wp2
            go_roundw
            case rel => exact ⟨j + 1, o, by omega, by go_num, Lib.hid (by rw [hd.out, HO.out, HQ.out]; simp), by omega, ho, hbe⟩
            case measure => simp [intOf]; omega
    · obtain rfl : j = l.length := by omega
      go_wp2
      go_ret
      have e := HO.out
      rw [List.take_of_length_le (Nat.le_refl _)] at e
      exact ⟨_, rfl, by rw [HR.out, e]; exact ho, hbe⟩
end Go.Proofs.YtpfplojkiloldaaGreatDoor
namespace Tp
open En
end Tp
namespace Go.Proofs.YtpfplojkiloldaaGreatDoor
open Go.RowKit Go.Shelf
theorem Rm.mono {n t t' : Nat} (h : Rm n t) (ht : t' ≤ t) : Rm n t' := by unfold Rm at *; omega
end Go.Proofs.YtpfplojkiloldaaGreatDoor
namespace Go.Proofs.YtpfplojkiloldaaGreatDoor
open Go.RowKit Go.Shelf
theorem overT_no {l : List TAct} (h : overT l = false) : l.length ≤ 200 := by
  unfold overT at h
  rw [Bool.or_eq_false_iff, decide_eq_false_iff_not] at h
  omega
end Go.Proofs.YtpfplojkiloldaaGreatDoor
namespace Go.Proofs.YtpfplojkiloldaaGreatDoor
open Go.RowKit Go.Shelf
structure TwoT (w0 : World) (a b : TAd) (ea eb : List Ent) (na nb : Nat) (W : World) : Prop where
  ha : ∃ t, TAt 900 a ea t W ∧ t ≤ na
  hb : ∃ t, TAt 900 b eb t W ∧ t ≤ nb
  ne : ∀ k, b.F k → ¬ a.F k
  fa : ∀ x, a.F x → w0.heap.size ≤ x
  fb : ∀ x, b.F x → w0.heap.size ≤ x
  below : Below w0.heap.size w0 W
variable {w0 W W' : World} {a b : TAd} {ea eb : List Ent} {na nb : Nat}
theorem TwoT.up (h : TwoT w0 a b ea eb na nb W) (hb : Below W.heap.size W W') : TwoT w0 a b ea eb na nb W' := by
  obtain ⟨⟨t, h1, h2⟩, ⟨u, h3, h4⟩, h5, h6, h7, h8⟩ := h
  exact ⟨⟨t, h1.below hb, h2⟩, ⟨u, h3.below hb, h4⟩, h5, h6, h7, h8.trans (hb.mono h8.size)⟩
theorem TwoT.more {na' nb' : Nat} (h : TwoT w0 a b ea eb na nb W) (h1 : na ≤ na') (h2 : nb ≤ nb') : TwoT w0 a b ea eb na' nb' W := by
  obtain ⟨⟨t, x1, x2⟩, ⟨u, x3, x4⟩, h5, h6, h7, h8⟩ := h
  exact ⟨⟨t, x1, by omega⟩, ⟨u, x3, by omega⟩, h5, h6, h7, h8⟩
theorem TwoT.start {w1 w2 : World} (ha : TOne (diskN 900) a [] 0 w1) (b1 : Below w0.heap.size w0 w1) (fa : ∀ x, a.F x → w0.heap.size ≤ x) (hb : TOne (diskN 900) b [] 0 w2) (b2 : Below w1.heap.size w1 w2) (fb : ∀ x, b.F x → w1.heap.size ≤ x) : TwoT w0 a b [] [] 0 0 w2 := by
  rw [show diskN 900 = 900 by decide] at ha hb
  have h1 := ha.at_
  obtain ⟨_, _, _, h2⟩ := h1
  have hl := h2.low
  exact ⟨⟨0, TAt.below ⟨_, _, _, h2⟩ b2, Nat.le_refl _⟩, ⟨0, hb.at_, Nat.le_refl _⟩, fun k hk hk2 => by have := hl k hk2; have := fb k hk; omega, fa, fun x hx => Nat.le_trans b1.size (fb x hx), b1.trans (b2.mono b1.size)⟩
theorem TwoT.putA (h : TwoT w0 a b ea eb na nb W) {k v : ByteArray} (hm : En.may k v = true) (hr : Rm 900 na) :
    Calls Tryz.prog 15 #[.pointer (some ⟨a.u, 0, none⟩), .string k, .string v] W fun e w' => e = .returned (.int .i64 0) ∧ TwoT w0 a b (En.put ea k v) eb (na + 1) nb w' ∧ Fr a.F W w' ∧ Below w0.heap.size W w' := by
  obtain ⟨⟨t, h1, h2⟩, ⟨u, h3, h4⟩, h5, h6, h7, h8⟩ := h
  refine (tst_put h1 hm (hr.mono h2)).mono ?_
  rintro e w' ⟨rfl, x4, f⟩
  have hb := f.low h8.size h6
  exact ⟨rfl, ⟨⟨_, x4, by have := dput_le ea k; omega⟩, ⟨u, h3.other h1 (fun k hk hk2 => h5 k hk2 hk) f, h4⟩, h5, h6, h7, h8.trans hb⟩, f, hb⟩
theorem TwoT.putB (h : TwoT w0 a b ea eb na nb W) {k v : ByteArray} (hm : En.may k v = true) (hr : Rm 900 nb) :
    Calls Tryz.prog 15 #[.pointer (some ⟨b.u, 0, none⟩), .string k, .string v] W fun e w' => e = .returned (.int .i64 0) ∧ TwoT w0 a b ea (En.put eb k v) na (nb + 1) w' ∧ Fr b.F W w' ∧ Below w0.heap.size W w' := by
  obtain ⟨⟨t, h1, h2⟩, ⟨u, h3, h4⟩, h5, h6, h7, h8⟩ := h
  refine (tst_put h3 hm (hr.mono h4)).mono ?_
  rintro e w' ⟨rfl, x4, f⟩
  have hb := f.low h8.size h7
  exact ⟨rfl, ⟨⟨t, h1.other h3 h5 f, h2⟩, ⟨_, x4, by have := dput_le eb k; omega⟩, h5, h6, h7, h8.trans hb⟩, f, hb⟩
theorem TwoT.delB (h : TwoT w0 a b ea eb na nb W) (k : ByteArray) (hr : Rm 900 nb) :
    Calls Tryz.prog 21 #[.pointer (some ⟨b.u, 0, none⟩), .string k] W fun e w' => e = .returned (.tuple #[.bool (En.get eb k).isSome, .int .i64 0]) ∧ TwoT w0 a b ea (En.del eb k) na nb w' ∧ Fr b.F W w' ∧ Below w0.heap.size W w' := by
  obtain ⟨⟨t, h1, h2⟩, ⟨u, h3, h4⟩, h5, h6, h7, h8⟩ := h
  refine (tst_del h3 k (hr.mono h4)).mono ?_
  rintro e w' ⟨rfl, x4, f⟩
  have hb := f.low h8.size h7
  exact ⟨rfl, ⟨⟨t, h1.other h3 h5 f, h2⟩, ⟨_, x4, h4⟩, h5, h6, h7, h8.trans hb⟩, f, hb⟩
theorem TwoT.srtB (h : TwoT w0 a b ea eb na nb W) : En.Srt eb := by
  obtain ⟨_, ⟨t, ⟨_, _, _, h1⟩, h2⟩, _⟩ := h
  exact Tp.srt_right h1.rt.right
theorem TwoT.lowA (h : TwoT w0 a b ea eb na nb W) : ∀ x, a.F x → x < W.heap.size := by
  obtain ⟨⟨t, ⟨_, _, _, h1⟩, h2⟩, _⟩ := h
  exact h1.low
theorem TwoT.lowB (h : TwoT w0 a b ea eb na nb W) : ∀ x, b.F x → x < W.heap.size := by
  obtain ⟨_, ⟨t, ⟨_, _, _, h1⟩, h2⟩, _⟩ := h
  exact h1.low
end Go.Proofs.YtpfplojkiloldaaGreatDoor
namespace Go.Proofs.YtpfplojkiloldaaGreatDoor
open Go.RowKit Go.Shelf
structure S20 (W : World) (bb o g : Nat) (x y : Ent) : Prop where
  one : W.cell? ⟨bb, o, none⟩ = some (.string x.1)
  two : W.cell? ⟨bb, o + 1, none⟩ = some (.string x.2)
  blk : Blk W g 38 #[.string y.1, .string y.2]
theorem S20.three {W : World} {bb o g : Nat} {x y : Ent} (h : S20 W bb o g x y) : W.cell? ⟨bb, o, none⟩ = some (.string x.1) ∧ W.cell? ⟨bb, o + 1, none⟩ = some (.string x.2) ∧ W.cell? ⟨g, 0, none⟩ = some (.string y.1) := ⟨h.one, h.two, h.blk.cell 0⟩
theorem S20.drew {W : World} {bb o g : Nat} {x y : Ent} (h : S20 W bb o g x y) : S20 W.drew bb o g x y := ⟨h.one, h.two, h.blk⟩
theorem S20.step {W W' : World} {B bb o g : Nat} {x y : Ent} {F : Nat → Prop} (h : S20 W bb o g x y) (hb : bb < B) (hg : ¬ F g) (hB : Below B W W') (f : Fr F W W') : S20 W' bb o g x y := ⟨(hB.cell (p := ⟨bb, o, none⟩) hb).trans h.one, (hB.cell (p := ⟨bb, o + 1, none⟩) hb).trans h.two, f.blk h.blk hg⟩
set_option maxRecDepth 100000 in
set_option maxHeartbeats 1000000 in
theorem torder_big (A : Option Addr) (c : Nat) (l : List TAct) (w : World) (hr : LS tactE w w.heap.size A l) (h : overT l = true) :
    Calls Tryz.prog 5 #[.slice A l.length c] w (TrueEnd w) := by
  have HW := Lib.hid (works13_any w)
  have ho := fun W h => over_any A c l W h
  rw [h] at ho
  have HO := Lib.hid ho
  have HR := Lib.hid hr
  clear hr h ho
  go_enter Tryz.func5, Tryz.ntmps5
  go_wp2_with fail
  refine Calls.mono HW.out ?_
  rintro e w1 ⟨rfl, b1⟩
  have HC := Lib.hid (HO.out w1 ((HR.out.below b1).more b1.size))
  have HB := Lib.hid b1
  clear HO b1 HW
  go_wp2_with fail
  refine Calls.mono HC.out ?_
  rintro e _ ⟨rfl, rfl⟩
  go_wp2
  go_ret
  exact ⟨rfl, HB.out⟩
set_option maxRecDepth 100000 in
set_option maxHeartbeats 8000000 in
theorem torder_main (A : Option Addr) (c : Nat) (l : List TAct) (w : World) (hr : LS tactE w w.heap.size A l) (h0 : overT l = false) :
    Calls Tryz.prog 5 #[.slice A l.length c] w (TrueEnd w) := by
  have hll := overT_no h0
  have HW := Lib.hid (works13_any w)
  have hov := fun W h => over_any A c l W h
  rw [h0] at hov
  have HO := Lib.hid hov
  have HR := Lib.hid hr
  have HT := Lib.hid (fun W => tst_new 900 W)
  clear hr hov h0
  go_enter Tryz.func5, Tryz.ntmps5
  go_wp2_with fail
  refine Calls.mono HW.out ?_
  rintro e w1 ⟨rfl, b1⟩
  have HC := Lib.hid (HO.out w1 ((HR.out.below b1).more b1.size))
  have HB := Lib.hid b1
  clear HO b1 HW
  go_wp2_with fail
  refine Calls.mono HC.out ?_
  rintro e _ ⟨rfl, rfl⟩
  clear HC
  go_wp2
  go_loopg [5, 6] l.length (fun g s5 s6 wr => ∃ (j : Nat) (m : List Ent) (A1 : Option Addr) (c1 : Nat), s5 = .slice A1 m.length c1 ∧ s6 = .int .i64 (j : Nat) ∧ j ≤ l.length ∧ l.length - j ≤ g ∧ m.length ≤ j ∧ Hid (LS entE wr wr.heap.size A1 m) ∧ Hid (En.right m = true) ∧ Hid (Below w.heap.size w wr))
  case atStart => exact ⟨0, [], none, 0, rfl, rfl, Nat.zero_le _, by omega, Nat.le_refl _, Lib.hid LS.nil_, Lib.hid (by decide), HB⟩
  case round =>
    obtain ⟨j, m, A1, c1, rfl, rfl, hjl, hjg, hmj, HM, HMR, HBE⟩ := hrel
    have hwj : IntKind.i64.wrap ((j : Int) + 1) = (j : Int) + 1 := IntWalk.i64_in _ (by omega)
    by_cases hj : j < l.length
    · have hji : (j : Int) < (l.length : Nat) := by omega
      obtain ⟨bb, oo, rfl, hbb, c0, k1, k2⟩ := (HR.out.below HBE.out).tact hj
      have hbz : bb < wr.heap.size := Nat.lt_of_lt_of_le hbb HBE.out.size
      generalize l[j] = x at *
      obtain ⟨xk, s, v⟩ := x
      simp only at c0 k1 k2
      have hg := rget_any A1 c1 m s wr HM.out (by omega)
      have HM' := Lib.hid (fun W (h : Below wr.heap.size wr W) => rput_any A1 c1 m s v W (HM.out.up h) (by omega))
      clear c0
      cases hgk : En.get m s with
      | some u =>
        rw [hgk] at hg
        have HG := Lib.hid hg
        clear hg hgk HM'
        go_wp2_with fail
        refine Calls.mono HG.out ?_
        rintro e _ ⟨rfl, rfl⟩
        clear HG
        go_wp2
        go_quiet (fail)
        go_wp2
        go_roundg (l.length - (j + 1))
        case measure => omega
        case rel => exact ⟨j + 1, m, A1, c1, rfl, by go_num, by omega, Nat.le_refl _, by omega, Lib.hid (HM.out.up (below_drewN (Below.refl _ _) _)), HMR, Lib.hid (below_drewN HBE.out _)⟩
      | none =>
        rw [hgk] at hg
        have HG := Lib.hid hg
        have hma := fun W => may_any s v W
        cases hm : En.may s v with
        | true =>
          rw [hm] at hma
          have HMAY := Lib.hid hma
          have HMM := Lib.hid hm
          clear hg hma hm hgk
          go_wp2_with fail
          refine Calls.mono HG.out ?_
          rintro e wr ⟨rfl, rfl⟩
          clear HG
          go_wp2
          go_quiet (first | (go_at_call 14; exact Calls.quiet_of_same (HMAY.out _)))
          go_wp2
          have hS0 : wr.cell? ⟨bb, oo + j * 3 + 1, none⟩ = some (.string s) ∧ wr.cell? ⟨bb, oo + j * 3 + 2, none⟩ = some (.string v) := ⟨k1, k2⟩
          go_region_held3 (fun W => W.cell? ⟨bb, oo + j * 3 + 1, none⟩ = some (.string s) ∧ W.cell? ⟨bb, oo + j * 3 + 2, none⟩ = some (.string v)) (first | exact hS0 | exact hS2)
            (first | (go_at_call 20; refine Calls.mono (HM'.out _ (by first | exact (below_drewN (Below.refl _ _) _).drew | exact below_drewN (Below.refl _ _) _ | exact (Below.refl _ _).drew)) ?_; intro e w5 he5; obtain ⟨A5, c5, rfl, ho5, r5, hb5⟩ := he5.open_; have hS2 : w5.cell? ⟨bb, oo + j * 3 + 1, none⟩ = some (.string s) ∧ w5.cell? ⟨bb, oo + j * 3 + 2, none⟩ = some (.string v) := ⟨(hb5.cell (p := ⟨bb, oo + j * 3 + 1, none⟩) hbz).trans hS0.1, (hb5.cell (p := ⟨bb, oo + j * 3 + 2, none⟩) hbz).trans hS0.2⟩; clear he5 ho5; have R5 := Lib.hid r5; have HB5 := Lib.hid hb5; clear r5 hb5))
          all_goals
            go_wp2
            go_roundg (l.length - (j + 1))
            case measure => omega
            case rel => exact ⟨j + 1, En.put m s v, A5, c5, rfl, by go_num, by omega, Nat.le_refl _, by rw [eput_len2 (Tp.srt_right HMR.out)]; have := dput_le m s; omega, R5, Lib.hid (En.right_put HMR.out HMM.out), Lib.hid (HBE.out.trans ((below_drewN (Below.refl _ _) _).trans (HB5.out.mono HBE.out.size)))⟩
        | false =>
          rw [hm] at hma
          have HMAY := Lib.hid hma
          clear hg hma hm hgk HM'
          go_wp2_with fail
          refine Calls.mono HG.out ?_
          rintro e wr ⟨rfl, rfl⟩
          clear HG
          go_wp2
          go_quiet (first | (go_at_call 14; exact Calls.quiet_of_same (HMAY.out _)))
          go_wp2
          go_roundg (l.length - (j + 1))
          case measure => omega
          case rel => exact ⟨j + 1, m, A1, c1, rfl, by go_num, by omega, Nat.le_refl _, by omega, Lib.hid (HM.out.up (below_drewN (Below.refl _ _) _)), HMR, Lib.hid (below_drewN HBE.out _)⟩
    · obtain rfl : j = l.length := by omega
      have hji : ¬ (l.length : Int) < (l.length : Nat) := by omega
      obtain ⟨w0, rfl⟩ : ∃ w0, w0 = wr := ⟨_, rfl⟩
      have hm2 : m.length ≤ 200 := by omega
      have HSR := Lib.hid (Tp.srt_right HMR.out)
      have HMAY : Hid (∀ j (h : j < m.length), En.may m[j].1 m[j].2 = true) := Lib.hid fun j h => ((En.right_iff m).1 HMR.out).1 _ (List.getElem_mem h)
      clear HMR hjg hwj hj hjl hmj HR HB
      go_wp2_with fail
      refine (HT.out _).mono ?_
      rintro e wa ⟨a, rfl, hta, b2, hFa⟩
      have HTA := Lib.hid hta
      have HB2 := Lib.hid b2
      have HFA := Lib.hid hFa
      clear hta b2 hFa
      go_wp2_with fail
      refine (HT.out _).mono ?_
      rintro e wb ⟨b, rfl, htb, b3, hFb⟩
      have HTW := Lib.hid (TwoT.start (w0 := w0) HTA.out HB2.out HFA.out htb b3 hFb)
      clear htb b3 hFb HTA HB2 HFA HT
      have hbz0 : w0.heap.size ≤ wb.heap.size := HTW.out.below.size
      go_wp2
      go_loopg [11] m.length (fun g s11 wr => ∃ (i nb : Nat) (eb : List Ent), s11 = .int .i64 (i : Nat) ∧ i ≤ m.length ∧ m.length - i ≤ g ∧ nb ≤ i ∧ Hid (TwoT w0 a b (m.take i) eb i nb wr) ∧ Hid (Tp.KeysIn eb m) ∧ Hid (∀ j (h : j < m.length), m.length - i ≤ j → Tp.HasK eb m[j].1))
      case atStart => exact ⟨0, 0, [], rfl, Nat.zero_le _, by omega, Nat.le_refl _, HTW, Lib.hid (Tp.KeysIn.nil_ m), Lib.hid fun j h1 h2 => by omega⟩
      case round =>
        obtain ⟨i, nb, eb, rfl, hil, hig, hnb, HTZ, HKI, HHK⟩ := hrel
        have hwi : IntKind.i64.wrap ((i : Int) + 1) = (i : Int) + 1 := IntWalk.i64_in _ (by omega)
        by_cases hi : i < m.length
        · have hii : (i : Int) < (m.length : Nat) := by omega
          obtain ⟨q, hq⟩ : ∃ q, q = m.length - 1 - i := ⟨_, rfl⟩
          have hw1 : IntKind.i64.wrap ((m.length : Int) - 1) = (m.length : Int) - 1 := IntWalk.i64_in _ (by omega)
          have hw2 : IntKind.i64.wrap ((m.length : Int) - 1 - (i : Int)) = ((q : Nat) : Int) := by rw [IntWalk.i64_in _ (by omega)]; omega
          have hql : q < m.length := by omega
          have hLS := HM.out.below HTZ.out.below
          obtain ⟨bb, oo, e1, hbb, k1, k2⟩ := hLS.ent hi
          subst e1
          obtain ⟨bb2, oo2, e2, _, q1, q2⟩ := hLS.ent hql
          cases e2
          have hz0 : w0.heap.size ≤ wr.heap.size := HTZ.out.below.size
          have hbz : bb < wr.heap.size := by omega
          have hmx := HMAY.out i hi
          have hmy := Tp.may_other (HMAY.out q hql)
          have hLA := HTZ.out.lowA
          have hLB := HTZ.out.lowB
          have hpa := fun W (h : Below wr.heap.size wr W) => (HTZ.out.up h).putA hmx (by unfold Rm; omega)
          rw [Tp.put_take HSR.out hi] at hpa
          have HKQ := Lib.hid (⟨m[q], List.getElem_mem hql, rfl⟩ : Tp.HasK m m[q].1)
          have HNX : Hid (∀ v, ∀ j (h : j < m.length), m.length - (i + 1) ≤ j → Tp.HasK (En.put eb m[q].1 v) m[j].1) := Lib.hid fun v j h1 h2 => by
            by_cases e : j = q
            · subst e; exact Tp.HasK.self _ _ _
            · exact Tp.HasK.put (HHK.out j h1 (by omega)) _ _
          have HPA : Hid (∀ W, Below wr.heap.size wr W → S20 W bb (oo + i * 2) wr.heap.size m[i] m[q] → Calls Tryz.prog 15 #[.pointer (some ⟨a.u, 0, none⟩), .string m[i].1, .string m[i].2] W fun e w' => e = .returned (.int .i64 0) ∧ Hid (TwoT w0 a b (m.take (i + 1)) eb (i + 1) nb w') ∧ S20 w' bb (oo + i * 2) wr.heap.size m[i] m[q]) := Lib.hid fun W hW hS => by
            refine (hpa W hW).mono ?_
            rintro e w' ⟨rfl, h1, h2, h3⟩
            exact ⟨rfl, Lib.hid h1, hS.step hbb (fun h => Nat.lt_irrefl _ (hLA _ h)) h3 h2⟩
          have HPB : Hid (∀ W, Hid (TwoT w0 a b (m.take (i + 1)) eb (i + 1) nb W) → S20 W bb (oo + i * 2) wr.heap.size m[i] m[q] → Calls Tryz.prog 15 #[.pointer (some ⟨b.u, 0, none⟩), .string m[q].1, .string ⟨#[111, 116, 104, 101, 114]⟩] W fun e w' => e = .returned (.int .i64 0) ∧ Hid (TwoT w0 a b (m.take (i + 1)) (En.put eb m[q].1 ⟨#[111, 116, 104, 101, 114]⟩) (i + 1) (nb + 1) w') ∧ S20 w' bb (oo + i * 2) wr.heap.size m[i] m[q]) := Lib.hid fun W hW hS => by
            refine (hW.out.putB hmy (by unfold Rm; omega)).mono ?_
            rintro e w' ⟨rfl, h1, h2, h3⟩
            exact ⟨rfl, Lib.hid h1, hS.step hbb (fun h => Nat.lt_irrefl _ (hLB _ h)) h3 h2⟩
          clear hLS hmx hmy hpa HTZ HHK hq hLA hLB
          generalize m[i] = x at *
          generalize m[q] = y at *
          go_wp2
          have hB1 : Below wr.heap.size wr (wr.alloc (.cells #[.string y.1, .string y.2] 38)) := (Below.refl _ wr).alloc (Nat.le_refl _) _
          have hK1 := Blk.new wr 38 #[.string y.1, .string y.2]
          generalize wr.alloc (.cells #[.string y.1, .string y.2] 38) = W1 at *
          have hS0 : S20 W1 bb (oo + i * 2) wr.heap.size x y := ⟨(hB1.cell (p := ⟨bb, oo + i * 2, none⟩) hbz).trans k1, (hB1.cell (p := ⟨bb, oo + i * 2 + 1, none⟩) hbz).trans k2, hK1⟩
          have HB1 := Lib.hid hB1
          clear hB1 hK1 k1 k2 q1 q2
          go_region_held3 (fun W => W.cell? ⟨bb, oo + i * 2, none⟩ = some (.string x.1) ∧ W.cell? ⟨bb, oo + i * 2 + 1, none⟩ = some (.string x.2) ∧ W.cell? ⟨wr.heap.size, 0, none⟩ = some (.string y.1)) (first | exact hS0.three | exact hS2.three | exact hS3.three)
            (first
            | (go_at_call 15; have hh := HPB.out _ HP5 hS2; refine Calls.mono hh ?_; clear hh; rintro e w6 ⟨rfl, HP6, hS3⟩)
            | (go_at_call 15; refine Calls.mono (HPA.out _ HB1.out.drew hS0.drew) ?_; rintro e w5 ⟨rfl, HP5, hS2⟩))
          all_goals
            go_wp2
            go_roundg (m.length - (i + 1))
            case measure => omega
            case rel => exact ⟨i + 1, nb + 1, _, by go_num, by omega, Nat.le_refl _, by omega, HP6, Lib.hid (HKI.out.put HKQ.out), HNX.out _ |> Lib.hid⟩
        · obtain rfl : i = m.length := by omega
          have hii : ¬ (m.length : Int) < (m.length : Nat) := by omega
          have hT3 := HTZ.out
          rw [List.take_of_length_le (Nat.le_refl _)] at hT3
          have HT3 := Lib.hid (hT3.more (Nat.le_refl m.length) hnb)
          clear hT3 HTZ
          go_wp2
          go_loopg [13] m.length (fun g s13 wy => ∃ (i : Nat) (ec : List Ent), s13 = .int .i64 (i : Nat) ∧ i ≤ m.length ∧ m.length - i ≤ g ∧ Hid (TwoT w0 a b m ec m.length m.length wy) ∧ Hid (Tp.KeysIn ec m) ∧ Hid (∀ j (h : j < m.length), i ≤ j → Tp.HasK ec m[j].1))
          case atStart => exact ⟨0, eb, rfl, Nat.zero_le _, by omega, HT3, HKI, Lib.hid fun j h _ => HHK.out j h (by omega)⟩
          case round =>
            clear HT3 HKI HHK hbz0 hig hnb hil
            obtain ⟨q, ec, rfl, hql, hqg, HTY, HKY, HHY⟩ := hrel
            have hwq : IntKind.i64.wrap ((q : Int) + 1) = (q : Int) + 1 := IntWalk.i64_in _ (by omega)
            by_cases hq : q < m.length
            · have hqi : (q : Int) < (m.length : Nat) := by omega
              by_cases h3 : (q : Int) % 3 = 0
              · have h3b : ((q : Int) % 3 == 0) = true := by simpa using h3
                have hd := HTY.out.delB m[q].1 (by unfold Rm; omega)
                rw [get_has (HHY.out q hq (Nat.le_refl _))] at hd
                have HD := Lib.hid hd
                have HKN := Lib.hid (HKY.out.del (k := m[q].1))
                have HNX : Hid (∀ j (h : j < m.length), q + 1 ≤ j → Tp.HasK (En.del ec m[q].1) m[j].1) := Lib.hid fun j h h2 =>
                  (HHY.out j h (by omega)).del (fun e => En.lt_ne (List.pairwise_iff_getElem.1 HSR.out q j hq h (by omega)) e.symm)
                obtain ⟨bb, oo, rfl, hbb, k1, k2⟩ := (HM.out.below HTY.out.below).ent hq
                have hbz : bb < wr.heap.size := Nat.lt_of_lt_of_le hbb HTY.out.below.size
                clear hd HTY HHY HKY k2
                generalize m[q] = x at *
                go_wp2_with fail
                refine Calls.mono HD.out ?_
                rintro e w7 ⟨rfl, hP7, _, _⟩
                have HP7 := Lib.hid hP7
                clear hP7
                go_wp2
                go_roundg (m.length - (q + 1))
                case measure => omega
                case rel => exact ⟨q + 1, _, by go_num, by omega, Nat.le_refl _, HP7, HKN, HNX⟩
              · have h3b : ((q : Int) % 3 == 0) = false := by simpa using h3
                go_wp2
                go_roundg (m.length - (q + 1))
                case measure => omega
                case rel => exact ⟨q + 1, ec, by go_num, by omega, Nat.le_refl _, HTY, HKY, Lib.hid fun j h h2 => HHY.out j h (by omega)⟩
            · obtain rfl : q = m.length := by omega
              have hqi : ¬ (m.length : Int) < (m.length : Nat) := by omega
              have HT4 := HTY
              clear HTY HHY
              go_wp2
              go_loopg [16] m.length (fun g s16 wx => ∃ (i : Nat) (ed : List Ent), s16 = .int .i64 (i : Nat) ∧ i ≤ m.length ∧ m.length - i ≤ g ∧ Hid (TwoT w0 a b m ed m.length (m.length + i) wx) ∧ Hid (Tp.KeysIn ed m) ∧ Hid (∀ j (h : j < m.length), j < i → m[j] ∈ ed))
              case atStart => exact ⟨0, ec, rfl, Nat.zero_le _, by omega, HT4, HKY, Lib.hid fun j h h2 => by omega⟩
              case round =>
                clear HT4 HKY hql hqg hq
                obtain ⟨p, ed, rfl, hpl, hpg, HTX, HKX, HIN⟩ := hrel
                have hwp : IntKind.i64.wrap ((p : Int) + 1) = (p : Int) + 1 := IntWalk.i64_in _ (by omega)
                by_cases hp : p < m.length
                · have hpi : (p : Int) < (m.length : Nat) := by omega
                  obtain ⟨bb, oo, rfl, hbb, k1, k2⟩ := (HM.out.below HTX.out.below).ent hp
                  have hbz : bb < wr.heap.size := Nat.lt_of_lt_of_le hbb HTX.out.below.size
                  have hmx := HMAY.out p hp
                  have HPUT : Hid (∀ W, Below wr.heap.size wr W → Calls Tryz.prog 15 #[.pointer (some ⟨b.u, 0, none⟩), .string m[p].1, .string m[p].2] W fun e w' => e = .returned (.int .i64 0) ∧ Hid (TwoT w0 a b m (En.put ed m[p].1 m[p].2) m.length (m.length + p + 1) w') ∧ Below w0.heap.size W w') := Lib.hid fun W hW => by
                    refine ((HTX.out.up hW).putB hmx (by unfold Rm; omega)).mono ?_
                    rintro e w' ⟨rfl, h1, _, h3⟩
                    exact ⟨rfl, Lib.hid h1, h3⟩
                  have HKN := Lib.hid (HKX.out.put (v := m[p].2) (⟨m[p], List.getElem_mem hp, rfl⟩ : Tp.HasK m m[p].1))
                  have HNX : Hid (∀ j (h : j < m.length), j < p + 1 → m[j] ∈ En.put ed m[p].1 m[p].2) := Lib.hid fun j h h2 => by
                    by_cases e : j = p
                    · subst e; exact En.mem_put.2 (.inl rfl)
                    · exact Tp.mem_put_ne (HIN.out j h (by omega)) (En.lt_ne (List.pairwise_iff_getElem.1 HSR.out j p h hp (by omega)))
                  clear hmx HTX HKX HIN
                  generalize m[p] = x at *
                  go_wp2
                  have hS0 : wr.cell? ⟨bb, oo + p * 2, none⟩ = some (.string x.1) ∧ wr.cell? ⟨bb, oo + p * 2 + 1, none⟩ = some (.string x.2) := ⟨k1, k2⟩
                  go_region_held3 (fun W => W.cell? ⟨bb, oo + p * 2, none⟩ = some (.string x.1) ∧ W.cell? ⟨bb, oo + p * 2 + 1, none⟩ = some (.string x.2)) (first | exact hS0 | exact hS2)
                    (first
                    | (go_at_call 15; refine Calls.mono (HPUT.out _ (by first | exact Below.refl _ _ | exact (Below.refl _ _).drew)) ?_; rintro e w5 ⟨rfl, HP5, hb5⟩; have hS2 : w5.cell? ⟨bb, oo + p * 2, none⟩ = some (.string x.1) ∧ w5.cell? ⟨bb, oo + p * 2 + 1, none⟩ = some (.string x.2) := ⟨(hb5.cell (p := ⟨bb, oo + p * 2, none⟩) hbb).trans hS0.1, (hb5.cell (p := ⟨bb, oo + p * 2 + 1, none⟩) hbb).trans hS0.2⟩))
                  all_goals
                    go_wp2
                    go_roundg (m.length - (p + 1))
                    case measure => omega
                    case rel => exact ⟨p + 1, _, by go_num, by omega, Nat.le_refl _, HP5, HKN, HNX⟩
                · obtain rfl : p = m.length := by omega
                  have hpi : ¬ (m.length : Int) < (m.length : Nat) := by omega
                  have he : ed = m := Tp.order_done HSR.out HTX.out.srtB HKX.out (fun y hy => by
                    obtain ⟨j, h, rfl⟩ := List.getElem_of_mem hy
                    exact HIN.out j h h)
                  rw [he] at HTX
                  obtain ⟨⟨ta, ⟨ra, sa, ia, hsa⟩, hta⟩, ⟨tb, htb, htb2⟩, hne, hfa, hfb, hbe⟩ := HTX.out
                  have HC1 := Lib.hid (whole13_any hsa (by omega))
                  have HNE := Lib.hid hne
                  have HFA := Lib.hid hfa
                  have HFB := Lib.hid hfb
                  have HBX := Lib.hid hbe
                  have HTB := Lib.hid htb
                  have HTA := Lib.hid (show TAt 900 a m ta wr from ⟨_, _, _, hsa⟩)
                  clear he HTX HKX HIN hsa hne hfa hfb hbe htb hpl hpg hp
                  obtain ⟨wq, hwq'⟩ : ∃ z, z = wr := ⟨_, rfl⟩
                  go_wp2_with fail
                  refine HC1.out.mono ?_
                  rintro e w5 ⟨A5, c5, rfl, r5, h5, f5⟩
                  have hb5 := HTB.out.other HTA.out (fun k hk hk2 => HNE.out k hk2 hk) (f5.more fun _ => .inl)
                  obtain ⟨rb, sb, ib, hsb⟩ := hb5
                  have HC2 := Lib.hid (whole13_any hsb (by omega))
                  have HB5 := Lib.hid (HBX.out.trans (f5.low HBX.out.size (fun k hk => HFA.out k (.inl hk))))
                  have hr5 : LO entE 38 w5 wr.heap.size (.slice A5 m.length c5) m := r5
                  have HR5 := Lib.hid hr5
                  have HLB : Hid (∀ k, b.S k → k < wr.heap.size) := Lib.hid fun k hk => HTB.out.low k (.inl hk)
                  clear r5 hr5 h5 f5 hsb HC1 HBX HTA HNE HFA
                  go_wp2_with fail
                  refine HC2.out.mono ?_
                  rintro e w6 ⟨A6, c6, rfl, r6, h6, f6⟩
                  have HB6 := Lib.hid (HB5.out.trans (f6.low HB5.out.size (fun k hk => HFB.out k (.inl hk))))
                  have hr5 := HR5.out.fr f6 HLB.out
                  have HC3 := Lib.hid (rsame_yes A5 A1 m c5 c1 w6 (LO.sv hr5).ls ((HM.out.below HB6.out).more HB6.out.size) (by omega))
                  have HR6 := Lib.hid r6
                  clear r6 h6 f6 hr5 HR5 HC2 HB5 HTB HFB HLB
                  go_wp2_with fail
                  refine HC3.out.mono ?_
                  rintro e w7 ⟨rfl, b7⟩
                  have HB7 := Lib.hid (HB6.out.trans (b7.mono HB6.out.size))
                  have HC4 := Lib.hid (rsame_yes A6 A1 m c6 c1 w7 (LO.sv (HR6.out.below b7)).ls ((HM.out.below HB7.out).more HB7.out.size) (by omega))
                  clear b7 HC3 HR6 HB6
                  go_wp2_with fail
                  refine HC4.out.mono ?_
                  rintro e w8 ⟨rfl, b8⟩
                  have HB8 := Lib.hid (HB7.out.trans (b8.mono HB7.out.size))
                  clear b8 HC4 HB7
                  go_wp2
                  go_ret
                  exact ⟨rfl, HBE.out.trans (HB8.out.mono HBE.out.size)⟩
theorem torder_any (A : Option Addr) (len c : Nat) (l : List TAct) (w : World) (he : l.length = len) (hr : LS tactE w w.heap.size A l) :
    Calls Tryz.prog 5 #[.slice A len c] w (TrueEnd w) := by
  subst he
  cases h0 : overT l with
  | true => exact torder_big A c l w hr h0
  | false => exact torder_main A c l w hr h0
end Go.Proofs.YtpfplojkiloldaaGreatDoor
namespace Go.Proofs.YtpfplojkiloldaaGreatDoor
open Go.RowKit Go.ChangeShapes Go.WideShapes Go.Deep
section
variable {H : Type} {enc : TypeId × Value → H} {P : Program} {w : World} {base : Nat} {spare : Nat → Bool} {held : Bool}
theorem open_slice_fields {t e : TypeId} {fs : Array Field} {fuel : Nat} {cs : List Value} {x : DataW H × List MemPlace} (ht : P.underlying t = some (.slice e)) (he : P.underlying e = some (.struct fs))
    (hone : oneCellFields P fs = true) (hC : P.cellsOf e = fs.size) (h : DataW.trod enc P w base spare held fuel t cs = some x) :
    (cs = [.slice none 0 0] ∧ x = (.nil, [])) ∨
    ∃ (a : Addr) (len cap m : Nat) (D : Nat → DataW H) (Pl : Nat → List MemPlace), cs = [.slice (some a) len cap] ∧ base ≤ a.block ∧ len ≤ cap ∧ cap ≤ maxLen ∧ m = (if spare a.block then cap else len) ∧
      x = (.slice ((List.range len).map D) ((List.range (m - len)).map fun j => D (len + j)), MemPlace.row a (m * fs.size) ++ (List.range m).flatMap Pl) ∧
      ∀ i, i < m → ∃ (ys : List (DataW H × List MemPlace)) (n : Nat), D i = .agg (ys.map (·.1)) ∧ Pl i = ys.flatMap (·.2) ∧ ys.length = fs.size ∧
        ∀ (j : Nat) (f : Field), fs[j]? = some f → ∃ (v : Value) (y : DataW H × List MemPlace), w.cell? (a.add (i * fs.size + j)) = some v ∧ ys[j]? = some y ∧ DataW.trod enc P w base spare held n f.type [v] = some y := by
  rcases open_slice ht h with h0 | ⟨a, len, cap, m, n, D, Pl, hcs, hb, hl, hm, hmm, hx, hi⟩
  · exact .inl h0
  · refine .inr ⟨a, len, cap, m, D, Pl, hcs, hb, hl, hm, hmm, by rw [hC] at hx; exact hx, fun i him => ?_⟩
    obtain ⟨cs', hc, ht'⟩ := hi i him
    rw [hC] at hc
    obtain ⟨ys, n', hn', hy, hlen, hyl, hf⟩ := DataW.trod_struct he ht'
    obtain ⟨_, hcl, hat⟩ := World.cells?_some hc
    simp only [Prod.mk.injEq] at hy
    refine ⟨ys, n', hy.1, hy.2, hyl, fun j f hj => ?_⟩
    obtain ⟨ho, hk⟩ := hone_of hone j f hj
    have hjl : j < fs.size := (Array.getElem?_eq_some_iff.1 hj).1
    have hcell := hat j hjl
    have hv : cs'[j]? = some (cs'[j]'(by omega)) := List.getElem?_eq_getElem (by omega)
    have h1 := hf j f hj
    rw [ho, hk] at h1
    have hone' : (cs'.drop j).take 1 = [cs'[j]'(by omega)] := by
      rw [List.drop_eq_getElem_cons (by omega)]
      rfl
    rw [hone'] at h1
    have hys : ys[j]? = some (ys[j]'(by omega)) := List.getElem?_eq_getElem (by omega)
    refine ⟨_, _, ?_, hys, h1.trans hys⟩
    rw [← Go.Deep.add_add, hcell, hv]
end
end Go.Proofs.YtpfplojkiloldaaGreatDoor
namespace Go.Proofs.YtpfplojkiloldaaGreatDoor
open Go.RowKit Go.ChangeShapes Go.WideShapes Go.Deep
section
variable {H : Type} {enc : TypeId × Value → H}
theorem open_tacts {W : World} {A : Option Addr} {len cap : Nat} {d : DataW H} {p : List MemPlace} (h : DataW.Trod enc Tryz.prog W 0 (fun _ => true) true 22 (.slice A len cap) d p) :
    ∃ l : List TAct, l.length = len ∧ LS tactE W W.heap.size A l ∧ ∀ x ∈ l, (Lit.int .i64 x.1).wf = true := by
  obtain ⟨fuel, hf⟩ := h
  rcases open_slice_fields Tryz.underlying22 Tryz.underlying29 (by kernel_rfl) (by kernel_rfl) hf with ⟨hcs, _⟩ | ⟨a, len', cap', m, D, Pl, hcs, _, hl, hm, hmm, hx, hi⟩
  · simp [Value.cells] at hcs
    obtain ⟨rfl, rfl, rfl⟩ := hcs
    exact ⟨[], rfl, LS.nil_, fun x hx => by cases hx⟩
  · simp [Value.cells] at hcs
    obtain ⟨rfl, rfl, rfl⟩ := hcs
    simp only [if_true] at hmm
    subst hmm
    have key : ∀ i, ∃ r : TAct, i < len → (W.cell? (a.add (i * 3)) = some (.int .i64 r.1) ∧ W.cell? (a.add (i * 3 + 1)) = some (.string r.2.1) ∧ W.cell? (a.add (i * 3 + 2)) = some (.string r.2.2)) ∧ (Lit.int .i64 r.1).wf = true := by
      intro i
      by_cases hil : i < len
      · obtain ⟨ys, n, _, _, hys, hfld⟩ := hi i (by omega)
        obtain ⟨v0, y0, hc0, _, t0⟩ := hfld 0 _ rfl
        obtain ⟨v1, y1, hc1, _, t1⟩ := hfld 1 _ rfl
        obtain ⟨v2, y2, hc2, _, t2⟩ := hfld 2 _ rfl
        obtain ⟨x0, e0, _, w0⟩ := DataW.trod_int Tryz.underlying3 t0
        obtain ⟨x1, e1, _⟩ := DataW.trod_string Tryz.underlying9 t1
        obtain ⟨x2, e2, _⟩ := DataW.trod_string Tryz.underlying9 t2
        simp at e0 e1 e2
        subst e0 e1 e2
        exact ⟨⟨x0, x1, x2⟩, fun _ => ⟨⟨hc0, hc1, hc2⟩, w0⟩⟩
      · exact ⟨⟨0, ⟨#[]⟩, ⟨#[]⟩⟩, fun h => absurd h hil⟩
    obtain ⟨f, hfs⟩ : ∃ f : Nat → TAct, ∀ i, i < len → (W.cell? (a.add (i * 3)) = some (.int .i64 (f i).1) ∧ W.cell? (a.add (i * 3 + 1)) = some (.string (f i).2.1) ∧ W.cell? (a.add (i * 3 + 2)) = some (.string (f i).2.2)) ∧ (Lit.int .i64 (f i).1).wf = true := ⟨fun i => Classical.choose (key i), fun i => Classical.choose_spec (key i)⟩
    clear key
    refine ⟨(List.range len).map f, by simp, ⟨tactE.cells_length _, fun hpos => ⟨a, rfl, ?_, ?_⟩⟩, ?_⟩
    · have := (hfs 0 (by simpa using hpos)).1.1
      have hb := World.block_lt_of_cell? W _ this
      rwa [block_of_add] at hb
    · intro j u hu
      have hjl : j < len * 3 := by
        have := (List.getElem?_eq_some_iff.1 hu).1
        rw [tactE.cells_length] at this; simpa [tactE] using this
      have h0 := tactE.cells_at ((List.range len).map f) (j / 3) (by simp; omega) (j % 3) (by show j % 3 < 3; omega)
      have e : j / 3 * tactE.size + j % 3 = j := by show j / 3 * 3 + j % 3 = j; omega
      rw [e, hu] at h0
      simp only [List.getElem_map, List.getElem_range] at h0
      have hs := (hfs (j / 3) (by omega)).1
      have hm : j % 3 = 0 ∨ j % 3 = 1 ∨ j % 3 = 2 := by omega
      rcases hm with hm | hm | hm
      · rw [hm] at h0; injection h0 with h0; subst h0; rw [← hs.1, show j / 3 * 3 = j by omega]
      · rw [hm] at h0; injection h0 with h0; subst h0; rw [← hs.2.1, show j / 3 * 3 + 1 = j by omega]
      · rw [hm] at h0; injection h0 with h0; subst h0; rw [← hs.2.2, show j / 3 * 3 + 2 = j by omega]
    · intro x hx
      obtain ⟨i, hi', rfl⟩ := List.mem_map.1 hx
      exact (hfs i (List.mem_range.1 hi')).2
end
end Go.Proofs.YtpfplojkiloldaaGreatDoor
namespace Go.Proofs.YtpfplojkiloldaaGreatDoor
open Go.ChangeShapes Go.WideShapes Go.ChangeAt Go.RowKit
end Go.Proofs.YtpfplojkiloldaaGreatDoor
