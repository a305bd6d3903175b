/- The walks of rootstockref11.Delete, Get, Put. The walk of rootstockref13.Scan. The walk of rootstocklaw13.TreeScans: it returns true at every input. The walk of rootstocklaw13.TreeTight: it returns true at every input. A slice of structs that came in, opened. The guide's own lemma to copy (extra-structs). A slice of a tree's acts that came in, opened to a list. What the row lists of crc's table, as cells. -/
import Derived.Deep.RegionHeld3
import Derived.Deep.CutBlock
import Derived.BigQuiet
import Derived.BigRegion
import Derived.Deep.CutRange
import Derived.Deep.Slices
import Derived.Deep.Fields
import Derived.ChangeSame
import Derived.ProofKit
import Derived.LaidMore
import Derived.Lay
import Derived.OpenShut
import Derived.Test.YtpfplojkiloldaaGreatDoorQ00
import Derived.Test.YtpfplojkiloldaaGreatDoorQ01
import Derived.Test.YtpfplojkiloldaaGreatDoorQ03
import Derived.Test.YtpfplojkiloldaaGreatDoorQ25
import Derived.Test.YtpfplojkiloldaaGreatDoorQ43
import Derived.Test.YtpfplojkiloldaaGreatDoorQ44
import Derived.Test.YtpfplojkiloldaaGreatDoorQ45
import Derived.Test.YtpfplojkiloldaaGreatDoorRows
namespace Go.Proofs.YtpfplojkiloldaaGreatDoor
open Go.RowKit
theorem LO.ents {w : World} {base : Nat} {v : Value} {o : List Ent} {x : Ent} {n : Nat} (hn : o.length = n) (h : w.ownsRow base 38 2 v (n + 1) (entE.cells o ++ #[Value.string x.1, Value.string x.2].toList)) : LO entE 38 w base v (o ++ [x]) := LO.snoc hn rfl rfl h
theorem del_take (l : List Ent) (k : ByteArray) (j : Nat) (hj : j < l.length) : En.del (l.take (j + 1)) k = En.del (l.take j) k ++ if En.eqs l[j].1 k then [] else [l[j]] := by
  unfold En.del
  rw [List.take_succ_eq_append_getElem hj, List.filter_append]
  cases h : En.eqs l[j].1 k <;> simp [h]
set_option maxRecDepth 100000 in
set_option maxHeartbeats 800000 in
theorem rdelete_any (A : Option Addr) (c : Nat) (l : List Ent) (k : ByteArray) (w : World) (hr : LS entE w w.heap.size A l) (hl : l.length ≤ 100000) :
    Calls Tryz.prog 23 #[.slice A l.length c, .string k] w (LEnd entE 38 (En.del l k) w) := by
  obtain ⟨R, hR⟩ : ∃ R, R = En.del l k := ⟨_, rfl⟩
  rw [← hR]
  have HR := Lib.hid hR
  clear hR
  go_enter Tryz.func23, Tryz.ntmps23
  go_wp2
  go_loopw [5, 6] (fun v i wr => ∃ (j : Nat) (o : List Ent), j ≤ l.length ∧ i = .int .i64 j ∧ Hid (En.del (l.take j) k = o) ∧ o.length ≤ j ∧ LO entE 38 wr w.heap.size v o ∧ Below w.heap.size w wr) (fun _ i _ => l.length - (intOf i).toNat)
  case atStart => exact ⟨0, [], by omega, rfl, Lib.hid rfl, by simp, LO.nil_ _ _, Below.refl _ _⟩
  case round =>
    obtain ⟨j, o, hj, rfl, HO, hol, ho, hbe⟩ := hrel
    by_cases hlt : j < l.length
    · obtain ⟨b2, o2, rfl, hb2, g0, g1⟩ := (hr.below hbe).ent hlt
      have hd := Lib.hid (del_take l k j hlt)
      generalize l[j] = x at *
      obtain ⟨Ao, co, rfl⟩ := ho.form
      have hraw := ho.raw rfl (s := 2) rfl
      have hb2' : b2 < wr.heap.size := by have := hbe.size; omega
      cases heq : En.eqs x.1 k with
      | true =>
        have he : (x.1.toList == k.toList) = true := heq
        have hne : (!(x.1.toList == k.toList)) = false := by rw [he]; rfl
        have HQ := Lib.hid heq
        clear heq
        go_wp2
        go_roundw
        case rel => exact ⟨j + 1, o, by omega, by go_num, Lib.hid (by rw [hd.out, HO.out, HQ.out]; simp), by omega, ho, hbe⟩
        case measure => simp [intOf]; omega
      | false =>
        have he : (x.1.toList == k.toList) = false := heq
        have hne : (!(x.1.toList == k.toList)) = true := by rw [he]; rfl
        have HQ := Lib.hid heq
        clear heq
        go_wp2_with (at_builtin; refine wpList_app1 rfl (.tmp 20) (.tmp 25) 32 rfl eiEnt Tryz.underlying32 rfl (by decide) rfl hraw rfl (by simp) rfl (by simp [Value.oneCell']) (by unfold maxLen; omega) (by omega) hbe.size ?_; intro v' w2 hown' hgrow hbel _ _)
        go_roundw
        case rel => exact ⟨j + 1, o ++ [x], by omega, by go_num, Lib.hid (by rw [hd.out, HO.out, HQ.out]; rfl), by simp; omega, LO.ents rfl hown', hbe.trans hbel⟩
        case measure => simp [intOf]; omega
    · obtain rfl : j = l.length := by omega
      go_wp2
      go_ret
      have e := HO.out
      rw [List.take_of_length_le (Nat.le_refl _)] at e
      exact ⟨_, rfl, by rw [HR.out, e]; exact ho, hbe⟩
/-- how Get ends -/
def GetEnd (o : Option ByteArray) (w : World) (e : Ending) (w' : World) : Prop := (match o with | some v => e = .returned (.tuple #[.string v, .bool true]) | none => e = .returned (.tuple #[.string ⟨#[]⟩, .bool false])) ∧ w' = w
theorem GetEnd.some_ {o : Option ByteArray} {v : ByteArray} {w : World} (h : o = some v) : GetEnd o w (.returned (.tuple #[.string v, .bool true])) w := by subst h; exact ⟨rfl, rfl⟩
theorem GetEnd.none_ {o : Option ByteArray} {w : World} (h : o = none) : GetEnd o w (.returned (.tuple #[.string ⟨#[]⟩, .bool false])) w := by subst h; exact ⟨rfl, rfl⟩
theorem get_drop (l : List Ent) (k : ByteArray) (j : Nat) (hj : j < l.length) : En.get (l.drop j) k = if En.eqs l[j].1 k then some l[j].2 else En.get (l.drop (j + 1)) k := by
  rw [List.drop_eq_getElem_cons hj]
  unfold En.get
  rw [List.find?_cons]
  cases En.eqs l[j].1 k <;> simp
set_option maxRecDepth 100000 in
set_option maxHeartbeats 800000 in
theorem rget_any (A : Option Addr) (c : Nat) (l : List Ent) (k : ByteArray) (w : World) (hr : LS entE w w.heap.size A l) (hl : l.length ≤ 100000) :
    Calls Tryz.prog 22 #[.slice A l.length c, .string k] w (GetEnd (En.get l k) w) := by
  obtain ⟨R, hR⟩ : ∃ R, R = En.get l k := ⟨_, rfl⟩
  rw [← hR]
  have HR := Lib.hid hR
  clear hR
  go_enter Tryz.func22, Tryz.ntmps22
  go_wp2
  go_loop [6] (fun i => ∃ j : Nat, j ≤ l.length ∧ i = .int .i64 j ∧ Hid (R = En.get (l.drop j) k)) (fun i => l.length - (intOf i).toNat)
  case atStart => exact ⟨0, by omega, rfl, Lib.hid HR.out⟩
  case round =>
    obtain ⟨j, hj, rfl, HJ⟩ := hrel
    by_cases hlt : j < l.length
    · obtain ⟨b2, o2, rfl, hb2, g0, g1⟩ := hr.ent hlt
      have hd := Lib.hid (get_drop l k j hlt)
      generalize l[j] = x at *
      cases heq : En.eqs x.1 k with
      | true =>
        have he : (x.1.toList == k.toList) = true := heq
        have HQ := Lib.hid heq
        clear heq
        go_wp2
        go_ret2
        exact GetEnd.some_ (by rw [HJ.out, hd.out, HQ.out]; rfl)
      | false =>
        have he : (x.1.toList == k.toList) = false := heq
        have HQ := Lib.hid heq
        clear heq
        go_wp2
        go_round
        case rel => exact ⟨j + 1, by omega, by go_num, Lib.hid (by rw [HJ.out, hd.out, HQ.out]; rfl)⟩
        case measure => simp [intOf]; omega
    · obtain rfl : j = l.length := by omega
      go_wp2
      go_ret2
      refine GetEnd.none_ ?_
      rw [HJ.out, List.drop_of_length_le (Nat.le_refl _)]; rfl
theorem gt_iff (r k : ByteArray) : (!(Op.bytesLess r.toList k.toList || r.toList == k.toList)) = En.lt k r := by
  rcases En.lt_tri r k with h | h | h
  · have h1 : Op.bytesLess r.toList k.toList = true := h
    rw [h1, En.lt_not h]; rfl
  · subst h
    rw [En.lt_irrefl]; simp
  · have h1 : Op.bytesLess r.toList k.toList = false := En.lt_not h
    have h2 : (r.toList == k.toList) = false := En.eqs_no (En.lt_ne h).symm
    rw [h1, h2, h]; rfl
/-- what is still to come of a Put -/
def toCome (x : Ent) (done : Bool) (rest : List Ent) : List Ent := if done then rest else En.ins x rest
set_option maxRecDepth 100000 in
set_option maxHeartbeats 2000000 in
theorem rput_any (A : Option Addr) (c : Nat) (l : List Ent) (k v : ByteArray) (w : World) (hr : LS entE w w.heap.size A l) (hl : l.length ≤ 50000) :
    Calls Tryz.prog 20 #[.slice A l.length c, .string k, .string v] w (LEnd entE 38 (En.put l k v) w) := by
  obtain ⟨R, hR⟩ : ∃ R, R = En.put l k v := ⟨_, rfl⟩
  rw [← hR]
  have hD := hid_calls (rdelete_any A c l k w hr (by omega))
  have hdl := En.del_len l k
  have hR2 : R = En.ins (k, v) (En.del l k) := hR
  have HR := Lib.hid hR2
  clear hR hR2
  generalize En.del l k = rest at *
  go_enter Tryz.func20, Tryz.ntmps20
  go_wp2_with fail
  refine hD.out.mono ?_
  intro e w1 he
  obtain ⟨A1, c1, rfl, ho1, r1, b1⟩ := he.open_
  clear he ho1 hr
  go_wp2
  go_loopw [8, 9, 10] (fun u d i wr => ∃ (j : Nat) (dn : Bool) (o : List Ent), j ≤ rest.length ∧ i = .int .i64 j ∧ d = .bool dn ∧ Hid (R = o ++ toCome (k, v) dn (rest.drop j)) ∧ o.length ≤ j + (if dn then 1 else 0) ∧ LO entE 38 wr w1.heap.size u o ∧ Below w1.heap.size w1 wr) (fun _ _ i _ => rest.length - (intOf i).toNat)
  case atStart => exact ⟨0, false, [], by omega, rfl, rfl, Lib.hid (by rw [HR.out]; rfl), by simp, LO.nil_ _ _, Below.refl _ _⟩
  case round =>
    obtain ⟨j, dn, o, hj, rfl, rfl, HO, hol, ho, hbe⟩ := hrel
    by_cases hlt : j < rest.length
    · obtain ⟨b2, o2, rfl, hb2, g0, g1⟩ := (r1.below hbe).ent hlt
      have hd := Lib.hid (List.drop_eq_getElem_cons hlt)
      generalize rest[j] = x at *
      obtain ⟨Ao, co, rfl⟩ := ho.form
      have hraw := ho.raw rfl (s := 2) rfl
      have hb2' : b2 < wr.heap.size := by have := hbe.size; omega
      cases dn with
      | true =>
        simp only [if_true] at hol
        go_wp2_with (at_builtin; refine wpList_app1 rfl (.tmp 37) (.tmp 42) 32 rfl eiEnt Tryz.underlying32 rfl (by decide) rfl hraw rfl (by simp) rfl (by simp [Value.oneCell']) (by unfold maxLen; omega) (by omega) hbe.size ?_; intro v' w2 hown' hgrow hbel _ _)
        go_roundw
        case rel => exact ⟨j + 1, true, o ++ [x], by omega, by go_num, rfl, Lib.hid (by rw [HO.out, hd.out]; unfold toCome; simp), by simp at hol ⊢; omega, LO.ents rfl hown', hbe.trans hbel⟩
        case measure => simp [intOf]; omega
      | false =>
        cases hgt : En.lt k x.1 with
        | true =>
          have hg : (!(Op.bytesLess x.1.toList k.toList || x.1.toList == k.toList)) = true := (gt_iff x.1 k).trans hgt
          have HQ := Lib.hid hgt
          clear hgt
          simp only [Bool.false_eq_true, if_false, Nat.add_zero] at hol
          have hl2 : (o ++ [(k, v)]).length = o.length + 1 := by simp
          go_wp2_with (first | (at_builtin; refine wpList_app1 rfl (.tmp 31) (.tmp 35) 32 rfl eiEnt Tryz.underlying32 rfl (by decide) rfl hraw rfl (by simp) rfl (by simp [Value.oneCell']) (by unfold maxLen; omega) (by omega) hbe.size ?_; intro v' w2 hown' hgrow hbel _ _; have d0 := (hbel.cell (p := ⟨b2, o2 + j * 2, none⟩) hb2).trans g0; have d1 := (hbel.cell (p := ⟨b2, o2 + j * 2 + 1, none⟩) hb2).trans g1; have hb3 : b2 < w2.heap.size := (by have := (hbe.trans hbel).size; omega)) | (at_builtin; refine wpList_app1 rfl (.tmp 37) (.tmp 42) 32 rfl eiEnt Tryz.underlying32 rfl (by decide) rfl (LO.raw (LO.ents (x := (k, v)) rfl hown') hl2 (s := 2) rfl) rfl (by simp) rfl (by simp [Value.oneCell']) (by unfold maxLen; omega) (by omega) (hbe.trans hbel).size ?_; intro v2 w3 hown2 hgrow2 hbel2 _ _))
          go_roundw
          case rel => exact ⟨j + 1, true, o ++ [(k, v)] ++ [x], by omega, by go_num, rfl, Lib.hid (by rw [HO.out, hd.out]; unfold toCome En.ins; simp only; rw [HQ.out]; simp), by simp; omega, LO.ents hl2 hown2, (hbe.trans hbel).trans hbel2⟩
          case measure => simp [intOf]; omega
        | false =>
          have hg : (!(Op.bytesLess x.1.toList k.toList || x.1.toList == k.toList)) = false := (gt_iff x.1 k).trans hgt
          have HQ := Lib.hid hgt
          clear hgt
          simp only [Bool.false_eq_true, if_false, Nat.add_zero] at hol
          go_wp2_with (at_builtin; refine wpList_app1 rfl (.tmp 37) (.tmp 42) 32 rfl eiEnt Tryz.underlying32 rfl (by decide) rfl hraw rfl (by simp) rfl (by simp [Value.oneCell']) (by unfold maxLen; omega) (by omega) hbe.size ?_; intro v' w3 hown' hgrow hbel _ _)
          go_roundw
          case rel => exact ⟨j + 1, false, o ++ [x], by omega, by go_num, rfl, Lib.hid (by rw [HO.out, hd.out]; unfold toCome; simp only [Bool.false_eq_true, if_false]; rw [En.ins]; rw [HQ.out]; simp), by simp; omega, LO.ents rfl hown', hbe.trans hbel⟩
          case measure => simp [intOf]; omega
    · obtain rfl : j = rest.length := by omega
      have hnil := Lib.hid (List.drop_of_length_le (Nat.le_refl rest.length))
      obtain ⟨Ao, co, rfl⟩ := ho.form
      have hraw := ho.raw rfl (s := 2) rfl
      cases dn with
      | true =>
        go_wp2
        go_ret
        exact ⟨_, rfl, by rw [HO.out, hnil.out]; unfold toCome; simp only [if_true, List.append_nil]; exact ho.lower b1.size, b1.trans (hbe.mono b1.size)⟩
      | false =>
        simp only [Bool.false_eq_true, if_false, Nat.add_zero] at hol
        go_wp2_with (at_builtin; refine wpList_app1 rfl (.tmp 46) (.tmp 50) 32 rfl eiEnt Tryz.underlying32 rfl (by decide) rfl hraw rfl (by simp) rfl (by simp [Value.oneCell']) (by unfold maxLen; omega) (by omega) hbe.size ?_; intro v' w3 hown' hgrow hbel _ _)
        go_ret
        refine ⟨_, rfl, ?_, b1.trans ((hbe.trans hbel).mono b1.size)⟩
        rw [HO.out, hnil.out]
        exact (LO.ents (x := (k, v)) rfl hown').lower b1.size
end Go.Proofs.YtpfplojkiloldaaGreatDoor
namespace Go.Proofs.YtpfplojkiloldaaGreatDoor
open Go.RowKit
def inF (frm hi : ByteArray) (x : Ent) : Bool := Tp.inB hi x && Tp.ge_ frm x
theorem scan_take (l : List Ent) (frm hi : ByteArray) (j : Nat) (hj : j < l.length) : Tp.scanF (l.take (j + 1)) frm hi = Tp.scanF (l.take j) frm hi ++ if inF frm hi l[j] then [l[j]] else [] := by
  unfold Tp.scanF
  rw [List.take_succ_eq_append_getElem hj, List.filter_append]
  unfold inF
  cases h : (Tp.inB hi l[j] && Tp.ge_ frm l[j]) <;> simp [h]
set_option maxRecDepth 100000 in
set_option maxHeartbeats 800000 in
theorem rscan_any (A : Option Addr) (c : Nat) (l : List Ent) (frm hi : ByteArray) (w : World) (hr : LS entE w w.heap.size A l) (hl : l.length ≤ 100000) :
    Calls Tryz.prog 18 #[.slice A l.length c, .string frm, .string hi] w (LEnd entE 38 (Tp.scanF l frm hi) w) := by
  obtain ⟨R, hR⟩ : ∃ R, R = Tp.scanF l frm hi := ⟨_, rfl⟩
  rw [← hR]
  have HR := Lib.hid hR
  clear hR
  go_enter Tryz.func18, Tryz.ntmps18
  go_wp2
  go_loopw [7, 8] (fun v i wr => ∃ (j : Nat) (o : List Ent), j ≤ l.length ∧ i = .int .i64 j ∧ Hid (Tp.scanF (l.take j) frm hi = o) ∧ o.length ≤ j ∧ LO entE 38 wr w.heap.size v o ∧ Below w.heap.size w wr) (fun _ i _ => l.length - (intOf i).toNat)
  case atStart => exact ⟨0, [], by omega, rfl, Lib.hid rfl, by simp, LO.nil_ _ _, Below.refl _ _⟩
  case round =>
    obtain ⟨j, o, hj, rfl, HO, hol, ho, hbe⟩ := hrel
    by_cases hlt : j < l.length
    · obtain ⟨b2, o2, rfl, hb2, g0, g1⟩ := (hr.below hbe).ent hlt
      have hd := Lib.hid (scan_take l frm hi j hlt)
      generalize l[j] = x at *
      obtain ⟨Ao, co, rfl⟩ := ho.form
      have hraw := ho.raw rfl (s := 2) rfl
      have hb2' : b2 < wr.heap.size := by have := hbe.size; omega
      cases hge : Op.bytesLess x.1.toList frm.toList with
      | true =>
        have HQ := Lib.hid (show inF frm hi x = false by unfold inF Tp.ge_ En.lt; rw [hge]; simp)
        go_wp2
        go_roundw
        case rel => exact ⟨j + 1, o, by omega, by go_num, Lib.hid (by rw [hd.out, HO.out, HQ.out]; simp), by omega, ho, hbe⟩
        case measure => simp [intOf]; omega
      | false =>
        cases hem : hi.toList.isEmpty with
        | true =>
          have HQ := Lib.hid (show inF frm hi x = true by unfold inF Tp.inB Tp.ge_ En.lt; rw [hge, hem]; simp)
          have hem2 : hi.toList = [] := by simpa using hem
          go_wp2_with (at_builtin; refine wpList_app1 rfl (.tmp 35) (.tmp 40) 32 rfl eiEnt Tryz.underlying32 rfl (by decide) rfl hraw rfl (by simp) rfl (by simp [Value.oneCell']) (by unfold maxLen; omega) (by omega) hbe.size ?_; intro v' w2 hown' hgrow hbel _ _)
          go_roundw
          case rel => exact ⟨j + 1, o ++ [x], by omega, by go_num, Lib.hid (by rw [hd.out, HO.out, HQ.out]; rfl), by simp; omega, LO.ents rfl hown', hbe.trans hbel⟩
          case measure => simp [intOf]; omega
        | false =>
          have hem2 : ¬ hi.toList = [] := by simpa using hem
          cases hin : Op.bytesLess x.1.toList hi.toList with
          | true =>
            have HQ := Lib.hid (show inF frm hi x = true by unfold inF Tp.inB Tp.ge_ En.lt; rw [hge, hin]; simp)
            go_wp2_with (at_builtin; refine wpList_app1 rfl (.tmp 35) (.tmp 40) 32 rfl eiEnt Tryz.underlying32 rfl (by decide) rfl hraw rfl (by simp) rfl (by simp [Value.oneCell']) (by unfold maxLen; omega) (by omega) hbe.size ?_; intro v' w2 hown' hgrow hbel _ _)
            go_roundw
            case rel => exact ⟨j + 1, o ++ [x], by omega, by go_num, Lib.hid (by rw [hd.out, HO.out, HQ.out]; rfl), by simp; omega, LO.ents rfl hown', hbe.trans hbel⟩
            case measure => simp [intOf]; omega
          | false =>
            have HQ := Lib.hid (show inF frm hi x = false by unfold inF Tp.inB Tp.ge_ En.lt; rw [hge, hin, hem]; simp)
            go_wp2
            go_roundw
            case rel => exact ⟨j + 1, o, by omega, by go_num, Lib.hid (by rw [hd.out, HO.out, HQ.out]; simp), by omega, ho, hbe⟩
            case measure => simp [intOf]; omega
    · obtain rfl : j = l.length := by omega
      go_wp2
      go_ret
      have e := HO.out
      rw [List.take_of_length_le (Nat.le_refl _)] at e
      exact ⟨_, rfl, by rw [HR.out, e]; exact ho, hbe⟩
end Go.Proofs.YtpfplojkiloldaaGreatDoor
namespace Tp
open En
def lo_ (mid : Str) (x : Ent) : Bool := lt x.1 mid
theorem scan_two {mid : Str} : ∀ {es : List Ent}, Srt es → es.filter (lo_ mid) ++ es.filter (ge_ mid) = es
  | [], _ => rfl
  | x :: l, h => by
    obtain ⟨h1, h2⟩ := srt_cons.1 h
    cases hx : lt x.1 mid with
    | true =>
      rw [List.filter_cons_of_pos (show lo_ mid x = true from hx), List.filter_cons_of_neg (by simp [ge_, hx]), List.cons_append, scan_two h2]
    | false =>
      have hall : ∀ y ∈ l, lt y.1 mid = false := fun y hy => by
        cases hy2 : lt y.1 mid with
        | false => rfl
        | true => rw [lt_trans (h1 y hy) hy2] at hx; cases hx
      rw [List.filter_cons_of_neg (by simp [lo_, hx]), List.filter_cons_of_pos (by simp [ge_, hx]), List.filter_eq_nil_iff.2 (fun y hy => by simp [lo_, hall y hy]), List.filter_eq_self.2 (fun y hy => by simp [ge_, hall y hy])]
      rfl
theorem scan_parts {es : List Ent} (h : Srt es) {mid : Str} (hm : mid.toList.isEmpty = false) : scanF es ⟨#[]⟩ mid ++ scanF es mid ⟨#[]⟩ = es := by
  have e1 : scanF es ⟨#[]⟩ mid = es.filter (lo_ mid) := by
    unfold scanF
    congr 1
    funext x
    have : ge_ ⟨#[]⟩ x = true := by
      unfold ge_ lt
      rw [Go.Lib.toList_data (⟨#[]⟩ : ByteArray)]
      cases x.1.toList <;> rfl
    rw [this, Bool.and_true]
    unfold inB
    rw [hm, Bool.false_or]
    rfl
  have e2 : scanF es mid ⟨#[]⟩ = es.filter (ge_ mid) := by
    unfold scanF
    congr 1
    funext x
    rw [inB_nil, Bool.true_and]
  rw [e1, e2]
  exact scan_two h
end Tp
namespace Go.Proofs.YtpfplojkiloldaaGreatDoor
open Go.RowKit Go.Shelf
/-- a law's tree that was put to -/
structure TPuts (w : World) (n : Nat) (a : TAd) (m : Nat) (W : World) : Prop where
  at_ : ∃ es tok, TAt n a es tok W ∧ tok ≤ m
  below : Below w.heap.size w W
theorem Rm.mono {n t t' : Nat} (h : Rm n t) (ht : t' ≤ t) : Rm n t' := by unfold Rm at *; omega
theorem TPuts.up {w W W' : World} {n m : Nat} {a : TAd} (h : TPuts w n a m W) (hb : Below W.heap.size W W') : TPuts w n a m W' := by
  obtain ⟨⟨es, tok, h1, h2⟩, h3⟩ := h
  exact ⟨⟨es, tok, h1.below hb, h2⟩, h3.trans (hb.mono h3.size)⟩
theorem put_round {w W : World} {n m : Nat} {a : TAd} (h : TPuts w n a m W) (hF : ∀ x, a.F x → w.heap.size ≤ x) {k v : ByteArray} (hm : En.may k v = true) (hr : Rm n m) :
    Calls Tryz.prog 15 #[.pointer (some ⟨a.u, 0, none⟩), .string k, .string v] W fun e w' => e = .returned (.int .i64 0) ∧ TPuts w n a (m + 1) w' ∧ Below w.heap.size W w' := by
  obtain ⟨⟨es, tok, h1, h2⟩, h3⟩ := h
  refine (tst_put h1 hm (hr.mono h2)).mono ?_
  rintro e w' ⟨rfl, h4, f⟩
  have hb := f.low h3.size hF
  exact ⟨rfl, ⟨⟨_, _, h4, by have := dput_le es k; omega⟩, h3.trans hb⟩, hb⟩
theorem LS.tact2 {w : World} {B : Nat} {A : Option Addr} {l : List TAct} (h : LS tactE w B A l) {k : Nat} (hk : k < l.length) : ∃ b off, A = some ⟨b, off, none⟩ ∧ b < B ∧ w.cell? ⟨b, off + k * 3, none⟩ = some (.int .i64 l[k].1) ∧ w.cell? ⟨b, off + k * 3 + 1, none⟩ = some (.string l[k].2.1) ∧ w.cell? ⟨b, off + k * 3 + 2, none⟩ = some (.string l[k].2.2) := h.tact hk
set_option maxRecDepth 100000 in
set_option maxHeartbeats 1000000 in
theorem tscans_big (A : Option Addr) (c : Nat) (l : List TAct) (frm mid to_ : ByteArray) (w : World) (hr : LS tactE w w.heap.size A l) (h : overT l = true ∨ 60 < frm.size ∨ 60 < mid.size ∨ 60 < to_.size) :
    Calls Tryz.prog 3 #[.slice A l.length c, .string frm, .string mid, .string to_] w (TrueEnd w) := by
  have HW := Lib.hid (works13_any w)
  have HO := Lib.hid (fun W h => over_any A c l W h)
  generalize overT l = ov at *
  have HR := Lib.hid hr
  clear hr
  go_enter Tryz.func3, Tryz.ntmps3
  go_wp2_with fail
  refine Calls.mono HW.out ?_
  rintro e w1 ⟨rfl, b1⟩
  have HC := Lib.hid (HO.out w1 ((HR.out.below b1).more b1.size))
  have HB := Lib.hid b1
  clear HO b1 HW
  go_wp2_with fail
  refine Calls.mono HC.out ?_
  rintro e _ ⟨rfl, rfl⟩
  cases ov with
  | true =>
    go_wp2
    go_ret
    exact ⟨rfl, HB.out⟩
  | false =>
    by_cases h1 : 60 < frm.size
    · have d1 : (60 : Int) < (frm.size : Nat) := by omega
      go_wp2
      go_ret
      exact ⟨rfl, HB.out⟩
    · have d1 : ¬ (60 : Int) < (frm.size : Nat) := by omega
      by_cases h2 : 60 < mid.size
      · have d2 : (60 : Int) < (mid.size : Nat) := by omega
        go_wp2
        go_ret
        exact ⟨rfl, HB.out⟩
      · have d2 : ¬ (60 : Int) < (mid.size : Nat) := by omega
        have h3 : 60 < to_.size := by
          rcases h with h | h | h | h
          · cases h
          · exact absurd h h1
          · exact absurd h h2
          · exact h
        have d3 : (60 : Int) < (to_.size : Nat) := by omega
        clear h
        go_wp2
        go_ret
        exact ⟨rfl, HB.out⟩
end Go.Proofs.YtpfplojkiloldaaGreatDoor
namespace Go.Proofs.YtpfplojkiloldaaGreatDoor
open Go.RowKit Go.Shelf
section
variable {n : Nat} {a : TAd} {root : Int} {σ : Tp.Pst} {ids : List Int} {es : List Ent} {tok : Nat} {w w' : World}
/-- Taken: as many as there are pages -/
theorem tst_taken (h : TSt n a root σ ids es tok w) :
    Calls Tryz.prog 36 #[.pointer (some ⟨a.t, 0, none⟩)] w fun e w' => ∃ A c, e = .returned (.slice A ids.length c) ∧ Below w.heap.size w w' := by
  obtain ⟨D, h4, h5, h6⟩ := h.on.tm.txn
  refine Calls.mono (taken_said a.t a.m a.f n _ _ _ D w (by have := (ap_small h.on.tm.ap).2; omega) h4) ?_
  rintro e w' ⟨A, c, rfl, hb⟩
  rw [h5.size, h.mineLen]
  exact ⟨A, c, rfl, hb⟩
theorem tst_fresh (h : TSt n a root σ ids es tok w) {id : Int} (hid : id ∈ ids) :
    Calls Tryz.prog 37 #[.pointer (some ⟨a.t, 0, none⟩), .int .i64 id] w fun e w' => e = .returned (.bool true) ∧ TSt n a root σ ids es tok w' ∧ Fr a.S w w' := by
  have hm := (h.mine id).2 hid
  refine (h.mach.fresh id h.on.tm (h.on.tm.idok hm)).mono ?_
  rintro e w' ⟨rfl, ht, hf⟩
  rw [decide_eq_true hm]
  exact ⟨rfl, h.with_ (h.on.step h.mach ht hf), hf⟩
theorem del_round {w W : World} {m : Nat} (h : TPuts w n a m W) (hF : ∀ x, a.F x → w.heap.size ≤ x) (k : ByteArray) (hr : Rm n m) :
    Calls Tryz.prog 21 #[.pointer (some ⟨a.u, 0, none⟩), .string k] W fun e w' => ∃ b, e = .returned (.tuple #[.bool b, .int .i64 0]) ∧ TPuts w n a m w' ∧ Below w.heap.size W w' := by
  obtain ⟨⟨es, tok, h1, h2⟩, h3⟩ := h
  refine (tst_del h1 k (hr.mono h2)).mono ?_
  rintro e w' ⟨rfl, h4, f⟩
  have hb := f.low h3.size hF
  exact ⟨_, rfl, ⟨⟨_, _, h4, h2⟩, h3.trans hb⟩, hb⟩
theorem TPuts.more {w W : World} {m m' : Nat} (h : TPuts w n a m W) (hm : m ≤ m') : TPuts w n a m' W := by
  obtain ⟨⟨es, tok, h1, h2⟩, h3⟩ := h
  exact ⟨⟨es, tok, h1, by omega⟩, h3⟩
end
theorem overT_no2 {l : List TAct} (h : overT l = false) : l.length ≤ 200 := by
  unfold overT at h
  rw [Bool.or_eq_false_iff, decide_eq_false_iff_not] at h
  omega
set_option maxRecDepth 100000 in
set_option maxHeartbeats 1000000 in
theorem ttight_big (A : Option Addr) (c : Nat) (l : List TAct) (w : World) (hr : LS tactE w w.heap.size A l) (h : overT l = true) :
    Calls Tryz.prog 8 #[.slice A l.length c] w (TrueEnd w) := by
  have HW := Lib.hid (works13_any w)
  have ho := fun W h => over_any A c l W h
  rw [h] at ho
  have HO := Lib.hid ho
  have HR := Lib.hid hr
  clear hr h ho
  go_enter Tryz.func8, Tryz.ntmps8
  go_wp2_with fail
  refine Calls.mono HW.out ?_
  rintro e w1 ⟨rfl, b1⟩
  have HC := Lib.hid (HO.out w1 ((HR.out.below b1).more b1.size))
  have HB := Lib.hid b1
  clear HO b1 HW
  go_wp2_with fail
  refine Calls.mono HC.out ?_
  rintro e _ ⟨rfl, rfl⟩
  go_wp2
  go_ret
  exact ⟨rfl, HB.out⟩
set_option maxRecDepth 100000 in
set_option maxHeartbeats 4000000 in
theorem ttight_main (A : Option Addr) (c : Nat) (l : List TAct) (w : World) (hr : LS tactE w w.heap.size A l) (h0 : overT l = false) :
    Calls Tryz.prog 8 #[.slice A l.length c] w (TrueEnd w) := by
  have hll := overT_no2 h0
  have HW := Lib.hid (works13_any w)
  have hov := fun W h => over_any A c l W h
  rw [h0] at hov
  have HO := Lib.hid hov
  have HR := Lib.hid hr
  have hD := fun W => dnew_of 600 W
  rw [show diskN 600 = 600 by decide] at hD
  have HD := Lib.hid hD
  clear hr hov h0 hD
  go_enter Tryz.func8, Tryz.ntmps8
  go_wp2_with fail
  refine Calls.mono HW.out ?_
  rintro e w1 ⟨rfl, b1⟩
  have HC := Lib.hid (HO.out w1 ((HR.out.below b1).more b1.size))
  have HB := Lib.hid b1
  clear HO b1 HW
  go_wp2_with fail
  refine Calls.mono HC.out ?_
  rintro e _ ⟨rfl, rfl⟩
  go_wp2_with fail
  refine (HD.out _).mono ?_
  rintro e w2 ⟨d, rfl, hd, b2⟩
  have HF2 := Lib.hid (fnew_any d 600 w2 hd)
  have HB2 := Lib.hid (HB.out.trans (b2.mono HB.out.size))
  clear hd b2 HC HD HB
  go_wp2_with fail
  refine HF2.out.mono ?_
  rintro e w3 ⟨f, rfl, hf, b3⟩
  have HA := Lib.hid (tnew_any f 600 none 0 [] 2 (by decide) w3 hf RS.nil_ (Nat.zero_le _))
  have HB3 := Lib.hid (HB2.out.trans (b3.mono HB2.out.size))
  clear hf b3 HF2 HB2
  go_wp2_with fail
  refine Calls.mono HA.out ?_
  rintro e w4 ⟨t, m, rfl, htm, hT, b4⟩
  have hB4 := HB3.out.trans (b4.mono HB3.out.size)
  have htl : t < w4.heap.size := by obtain ⟨_, ⟨v, h2, _⟩, _⟩ := hT; exact h2.lt
  have hml : m < w4.heap.size := by obtain ⟨_, _, es, c, h2, _⟩ := hT; exact (Array.getElem?_eq_some_iff.1 h2).1
  have HC := Lib.hid (ctnew_any (mach_fresh htl hml f 600) 0 0 Tp.none_ w4 (tmf_start (by decide) htl hml (Nat.le_refl _) hT))
  have HTM := Lib.hid (And.intro (Nat.le_trans HB3.out.size htm.1) (Nat.le_trans HB3.out.size htm.2))
  have HB4 := Lib.hid hB4
  clear hT b4 hB4 htm htl hml HA HB3
  go_wp2_with fail
  refine HC.out.mono ?_
  rintro e w5 ⟨u, rfl, ho, hu, b5⟩
  obtain ⟨a, ha⟩ : ∃ a : TAd, a = ⟨w4.heap.size, t, m, f, u⟩ := ⟨_, rfl⟩
  have hu2 := ho.hu
  have HF : Hid (∀ x, a.F x → w.heap.size ≤ x) := Lib.hid (by
    intro x hx
    subst ha
    rcases hx with (rfl | rfl) | rfl
    · exact HTM.out.1
    · exact HTM.out.2
    · exact Nat.le_trans HB4.out.size hu2)
  have HS0 : Hid (TPuts w 600 a 0 w5) := Lib.hid (by
    subst ha
    exact ⟨⟨[], 0, ⟨0, Tp.none_, [], ho, .inl ⟨rfl, rfl, rfl⟩, fun x => by simp [Tp.none_], by omega⟩, Nat.le_refl _⟩, HB4.out.trans (b5.mono HB4.out.size)⟩)
  have e1 : u = a.u := by rw [ha]
  have e2 : t = a.t := by rw [ha]
  clear ha ho hu b5 hu2 HC HTM HB4
  subst e1 e2
  go_wp2
  go_loopg [7] l.length (fun g s7 wr => ∃ j : Nat, s7 = .int .i64 (j : Nat) ∧ j ≤ l.length ∧ l.length - j ≤ g ∧ Hid (TPuts w 600 a j wr))
  case atStart => exact ⟨0, rfl, Nat.zero_le _, by omega, HS0⟩
  case round =>
    obtain ⟨j, rfl, hjl, hjg, HS⟩ := hrel
    have hwj : IntKind.i64.wrap ((j : Int) + 1) = (j : Int) + 1 := IntWalk.i64_in _ (by omega)
    by_cases hj : j < l.length
    · have hji : (j : Int) < (l.length : Nat) := by omega
      obtain ⟨bb, oo, rfl, hbb, c0, c1, c2⟩ := (HR.out.below HS.out.below).tact hj
      have hbz : bb < wr.heap.size := Nat.lt_of_lt_of_le hbb HS.out.below.size
      generalize l[j] = x at *
      obtain ⟨xk, s, v⟩ := x
      simp only at c0 c1 c2
      go_upto_if 39 with fail
      go_cut [8, 9] from 27 to 118 (fun v8 v9 wx => TPuts w 600 a (j + 1) wx)
      case first =>
        by_cases hq : xk.tmod 6 = 2
        · have hq1 : (xk.tmod 6 == 2) = true := by simpa using hq
          have HC := Lib.hid (del_round HS.out HF.out s (by unfold Rm; omega))
          clear hq
          go_wp2_with fail
          refine HC.out.mono ?_
          rintro e w6 ⟨b, rfl, hP, _⟩
          have HP := Lib.hid hP
          clear hP
          go_wp2
          go_meet
          exact HP.out.more (by omega)
        · have hq1 : (xk.tmod 6 == 2) = false := by simpa using hq
          clear hq
          cases hm : En.may s v with
          | true =>
            have hwd : Below wr.heap.size wr wr.drew := (Below.refl _ wr).drew
            have HPUT := Lib.hid (put_round (HS.out.up hwd) HF.out hm (by unfold Rm; omega))
            have hma := fun W => may_any s v W
            rw [hm] at hma
            have HMAY := Lib.hid hma
            have k1 : wr.drew.cell? ⟨bb, oo + j * 3 + 1, none⟩ = some (.string s) := c1
            have k2 : wr.drew.cell? ⟨bb, oo + j * 3 + 2, none⟩ = some (.string v) := c2
            have hbzd : bb < wr.drew.heap.size := hbz
            clear hma hwd hm
            go_wp2
            have hS0 : wr.drew.cell? ⟨bb, oo + j * 3 + 1, none⟩ = some (.string s) ∧ wr.drew.cell? ⟨bb, oo + j * 3 + 2, none⟩ = some (.string v) := ⟨k1, k2⟩
            go_region_held3 (fun W => W.cell? ⟨bb, oo + j * 3 + 1, none⟩ = some (.string s) ∧ W.cell? ⟨bb, oo + j * 3 + 2, none⟩ = some (.string v)) (first | exact hS0 | exact hS2)
              (first
              | (go_at_call 14; refine (HMAY.out _).mono ?_; rintro e _ ⟨rfl, rfl⟩)
              | (go_at_call 15; refine Calls.mono HPUT.out ?_; rintro e w5 ⟨rfl, hP5, hb5⟩; have hS2 : w5.cell? ⟨bb, oo + j * 3 + 1, none⟩ = some (.string s) ∧ w5.cell? ⟨bb, oo + j * 3 + 2, none⟩ = some (.string v) := ⟨(hb5.cell (p := ⟨bb, oo + j * 3 + 1, none⟩) hbb).trans hS0.1, (hb5.cell (p := ⟨bb, oo + j * 3 + 2, none⟩) hbb).trans hS0.2⟩; have HP5 := Lib.hid hP5))
            all_goals
              go_wp2
              go_meet
              exact HP5.out
          | false =>
            have hma := fun W => may_any s v W
            rw [hm] at hma
            have HMAY := Lib.hid hma
            clear hma hm
            go_wp2
            go_quiet (first | (go_at_call 14; exact Calls.quiet_of_same (HMAY.out _)))
            go_wp2
            go_meet
            exact (HS.out.up (below_drewN (Below.refl _ _) _)).more (by omega)
      case rest =>
        have HP := Lib.hid hcut
        clear hcut HS hbz c0 c1 c2
        have h3 : (((j : Int) % 10 != 0) = true ∧ j + 1 < l.length) ∨ ((j : Int) % 10 != 0) = false ∨ (((j : Int) % 10 != 0) = true ∧ ¬ j + 1 < l.length) := by
          cases hb : ((j : Int) % 10 != 0) with
          | false => exact .inr (.inl rfl)
          | true =>
            by_cases h2 : j + 1 < l.length
            · exact .inl ⟨rfl, h2⟩
            · exact .inr (.inr ⟨rfl, h2⟩)
        rcases h3 with ⟨hb1, hb2⟩ | hb1 | ⟨hb1, hb2⟩
        · have hb3 : (j : Int) + 1 < (l.length : Nat) := by omega
          have hb4 : ¬ (j : Int) % 10 = 0 := by simpa using hb1
          go_wp2
          go_roundg (l.length - (j + 1))
          case measure => omega
          case rel => exact ⟨j + 1, by go_num, by omega, Nat.le_refl _, HP⟩
        · have hb4 : (j : Int) % 10 = 0 := by simpa using hb1
          obtain ⟨es, tok, ⟨root, σ, ids, h6⟩, htk⟩ := HP.out.at_
          have HC := Lib.hid (tst_walk h6)
          have HB6 := Lib.hid HP.out.below
          have HLW : Hid (∀ W W', Below w.heap.size w W → Fr a.S W W' → Below w.heap.size w W') := Lib.hid fun W W' h f => h.trans (f.low h.size (fun k hk => HF.out k (.inl hk)))
          obtain ⟨b0, hb0⟩ : ∃ b, b = wc.heap.size := ⟨_, rfl⟩
          have hsl : ∀ k, a.S k → k < b0 := fun k hk => by rw [hb0]; exact h6.low k (.inl hk)
          have HSL := Lib.hid hsl
          have HB0 := Lib.hid hb0
          have hel : ids.length ≤ 100000 := by have := (ap_small h6.on.tm.ap).2; have := h6.mineLen; omega
          clear h6 hsl hb0
          go_wp2_with fail
          refine Calls.mono HC.out ?_
          rintro e w6 ⟨Aw, cw, xs, P, rfl, rw6, hp, hwk, h7, f6⟩
          rw [← HB0.out] at rw6
          have hxl : xs.length = ids.length := by rw [hp.1, hwk.len]
          have HID : Hid (∀ x ∈ xs, x.id ∈ ids) := Lib.hid fun x hx => by
            obtain ⟨k, h, rfl⟩ := List.getElem_of_mem hx
            have h2 : k < P.length := by have := hp.1; omega
            rw [(hp.2 k h h2).1, ← hwk.ids_]
            exact List.mem_map.2 ⟨_, List.getElem_mem h2, rfl⟩
          have HC2 := Lib.hid (tst_taken h7)
          have HR6 := Lib.hid rw6
          have HT7 := Lib.hid h7
          have HB7 := Lib.hid (HLW.out _ _ HB6.out f6)
          clear rw6 hp hwk h7 f6 HC HB6
          go_wp2_with fail
          refine HC2.out.mono ?_
          rintro e w7 ⟨A7, c7, rfl, b7⟩
          have HR7 := Lib.hid (HR6.out.below b7)
          have HT8 := Lib.hid (HT7.out.below b7)
          have HB8 := Lib.hid (HB7.out.trans (b7.mono HB7.out.size))
          rw [← hxl]
          clear b7 HC2 HR6 HT7 HB7
          have hxl2 : xs.length ≤ 100000 := by omega
          generalize hnx : xs.length = nx at *
          have HNX := Lib.hid hnx
          clear hnx hxl
          go_wp2
          go_loopg [13] nx (fun g s13 wz => ∃ k : Nat, s13 = .int .i64 (k : Nat) ∧ k ≤ nx ∧ nx - k ≤ g ∧ Hid (TSt 600 a root σ ids es tok wz) ∧ Hid (LO pgE 60 wz b0 (.slice Aw nx cw) xs) ∧ Hid (Below w.heap.size w wz))
          case atStart => exact ⟨0, rfl, Nat.zero_le _, by omega, HT8, HR7, HB8⟩
          case round =>
            obtain ⟨k, rfl, hkl, hkg, HTk, HRk, HBk⟩ := hrel
            have hwk : IntKind.i64.wrap ((k : Int) + 1) = (k : Int) + 1 := IntWalk.i64_in _ (by omega)
            by_cases hk : k < nx
            · have hki : (k : Int) < (nx : Nat) := by omega
              obtain ⟨bz, oz, rfl, hbz, q0, _⟩ := (LO.sv HRk.out).ls.pg (by rw [HNX.out]; exact hk)
              have hmem := HID.out _ (List.getElem_mem (show k < xs.length by rw [HNX.out]; exact hk))
              generalize (xs[k]'(by rw [HNX.out]; exact hk)).id = pid at *
              have HFC := Lib.hid (tst_fresh HTk.out hmem)
              clear hmem
              go_wp2_with fail
              refine Calls.mono HFC.out ?_
              rintro e w9 ⟨rfl, h9, f9⟩
              have HT9 := Lib.hid h9
              have HR9 := Lib.hid (HRk.out.fr f9 HSL.out)
              have HB9 := Lib.hid (HLW.out _ _ HBk.out f9)
              clear h9 f9 HFC HTk HRk HBk
              go_wp2
              go_roundg (nx - (k + 1))
              case measure => omega
              case rel => exact ⟨k + 1, by go_num, by omega, Nat.le_refl _, HT9, HR9, HB9⟩
            · obtain rfl : k = nx := by omega
              have hki : ¬ (k : Int) < (k : Nat) := by omega
              have HEND : Hid (TPuts w 600 a (j + 1) wr) := Lib.hid ⟨⟨es, tok, ⟨root, σ, ids, HTk.out⟩, htk⟩, HBk.out⟩
              clear HTk HRk HBk HID
              go_wp2
              go_roundg (l.length - (j + 1))
              case measure => omega
              case rel => exact ⟨j + 1, by go_num, by omega, Nat.le_refl _, HEND⟩
        · have hb3 : ¬ (j : Int) + 1 < (l.length : Nat) := by omega
          have hb4 : ¬ (j : Int) % 10 = 0 := by simpa using hb1
          obtain ⟨es, tok, ⟨root, σ, ids, h6⟩, htk⟩ := HP.out.at_
          have HC := Lib.hid (tst_walk h6)
          have HB6 := Lib.hid HP.out.below
          have HLW : Hid (∀ W W', Below w.heap.size w W → Fr a.S W W' → Below w.heap.size w W') := Lib.hid fun W W' h f => h.trans (f.low h.size (fun k hk => HF.out k (.inl hk)))
          obtain ⟨b0, hb0⟩ : ∃ b, b = wc.heap.size := ⟨_, rfl⟩
          have hsl : ∀ k, a.S k → k < b0 := fun k hk => by rw [hb0]; exact h6.low k (.inl hk)
          have HSL := Lib.hid hsl
          have HB0 := Lib.hid hb0
          have hel : ids.length ≤ 100000 := by have := (ap_small h6.on.tm.ap).2; have := h6.mineLen; omega
          clear h6 hsl hb0
          go_wp2_with fail
          refine Calls.mono HC.out ?_
          rintro e w6 ⟨Aw, cw, xs, P, rfl, rw6, hp, hwk, h7, f6⟩
          rw [← HB0.out] at rw6
          have hxl : xs.length = ids.length := by rw [hp.1, hwk.len]
          have HID : Hid (∀ x ∈ xs, x.id ∈ ids) := Lib.hid fun x hx => by
            obtain ⟨k, h, rfl⟩ := List.getElem_of_mem hx
            have h2 : k < P.length := by have := hp.1; omega
            rw [(hp.2 k h h2).1, ← hwk.ids_]
            exact List.mem_map.2 ⟨_, List.getElem_mem h2, rfl⟩
          have HC2 := Lib.hid (tst_taken h7)
          have HR6 := Lib.hid rw6
          have HT7 := Lib.hid h7
          have HB7 := Lib.hid (HLW.out _ _ HB6.out f6)
          clear rw6 hp hwk h7 f6 HC HB6
          go_wp2_with fail
          refine HC2.out.mono ?_
          rintro e w7 ⟨A7, c7, rfl, b7⟩
          have HR7 := Lib.hid (HR6.out.below b7)
          have HT8 := Lib.hid (HT7.out.below b7)
          have HB8 := Lib.hid (HB7.out.trans (b7.mono HB7.out.size))
          rw [← hxl]
          clear b7 HC2 HR6 HT7 HB7
          have hxl2 : xs.length ≤ 100000 := by omega
          generalize hnx : xs.length = nx at *
          have HNX := Lib.hid hnx
          clear hnx hxl
          go_wp2
          go_loopg [13] nx (fun g s13 wz => ∃ k : Nat, s13 = .int .i64 (k : Nat) ∧ k ≤ nx ∧ nx - k ≤ g ∧ Hid (TSt 600 a root σ ids es tok wz) ∧ Hid (LO pgE 60 wz b0 (.slice Aw nx cw) xs) ∧ Hid (Below w.heap.size w wz))
          case atStart => exact ⟨0, rfl, Nat.zero_le _, by omega, HT8, HR7, HB8⟩
          case round =>
            obtain ⟨k, rfl, hkl, hkg, HTk, HRk, HBk⟩ := hrel
            have hwk : IntKind.i64.wrap ((k : Int) + 1) = (k : Int) + 1 := IntWalk.i64_in _ (by omega)
            by_cases hk : k < nx
            · have hki : (k : Int) < (nx : Nat) := by omega
              obtain ⟨bz, oz, rfl, hbz, q0, _⟩ := (LO.sv HRk.out).ls.pg (by rw [HNX.out]; exact hk)
              have hmem := HID.out _ (List.getElem_mem (show k < xs.length by rw [HNX.out]; exact hk))
              generalize (xs[k]'(by rw [HNX.out]; exact hk)).id = pid at *
              have HFC := Lib.hid (tst_fresh HTk.out hmem)
              clear hmem
              go_wp2_with fail
              refine Calls.mono HFC.out ?_
              rintro e w9 ⟨rfl, h9, f9⟩
              have HT9 := Lib.hid h9
              have HR9 := Lib.hid (HRk.out.fr f9 HSL.out)
              have HB9 := Lib.hid (HLW.out _ _ HBk.out f9)
              clear h9 f9 HFC HTk HRk HBk
              go_wp2
              go_roundg (nx - (k + 1))
              case measure => omega
              case rel => exact ⟨k + 1, by go_num, by omega, Nat.le_refl _, HT9, HR9, HB9⟩
            · obtain rfl : k = nx := by omega
              have hki : ¬ (k : Int) < (k : Nat) := by omega
              have HEND : Hid (TPuts w 600 a (j + 1) wr) := Lib.hid ⟨⟨es, tok, ⟨root, σ, ids, HTk.out⟩, htk⟩, HBk.out⟩
              clear HTk HRk HBk HID
              go_wp2
              go_roundg (l.length - (j + 1))
              case measure => omega
              case rel => exact ⟨j + 1, by go_num, by omega, Nat.le_refl _, HEND⟩
    · obtain rfl : j = l.length := by omega
      have hji : ¬ (l.length : Int) < (l.length : Nat) := by omega
      have HB := Lib.hid HS.out.below
      go_wp2
      go_ret
      exact ⟨rfl, HB.out⟩
theorem ttight_any (A : Option Addr) (len c : Nat) (l : List TAct) (w : World) (he : l.length = len) (hr : LS tactE w w.heap.size A l) :
    Calls Tryz.prog 8 #[.slice A len c] w (TrueEnd w) := by
  subst he
  cases h0 : overT l with
  | true => exact ttight_big A c l w hr h0
  | false => exact ttight_main A c l w hr h0
end Go.Proofs.YtpfplojkiloldaaGreatDoor
namespace Go.Proofs.YtpfplojkiloldaaGreatDoor
open Go.RowKit Go.ChangeShapes Go.WideShapes Go.Deep
section
variable {H : Type} {enc : TypeId × Value → H} {P : Program} {w : World} {base : Nat} {spare : Nat → Bool} {held : Bool}
theorem open_slice_fields {t e : TypeId} {fs : Array Field} {fuel : Nat} {cs : List Value} {x : DataW H × List MemPlace} (ht : P.underlying t = some (.slice e)) (he : P.underlying e = some (.struct fs))
    (hone : oneCellFields P fs = true) (hC : P.cellsOf e = fs.size) (h : DataW.trod enc P w base spare held fuel t cs = some x) :
    (cs = [.slice none 0 0] ∧ x = (.nil, [])) ∨
    ∃ (a : Addr) (len cap m : Nat) (D : Nat → DataW H) (Pl : Nat → List MemPlace), cs = [.slice (some a) len cap] ∧ base ≤ a.block ∧ len ≤ cap ∧ cap ≤ maxLen ∧ m = (if spare a.block then cap else len) ∧
      x = (.slice ((List.range len).map D) ((List.range (m - len)).map fun j => D (len + j)), MemPlace.row a (m * fs.size) ++ (List.range m).flatMap Pl) ∧
      ∀ i, i < m → ∃ (ys : List (DataW H × List MemPlace)) (n : Nat), D i = .agg (ys.map (·.1)) ∧ Pl i = ys.flatMap (·.2) ∧ ys.length = fs.size ∧
        ∀ (j : Nat) (f : Field), fs[j]? = some f → ∃ (v : Value) (y : DataW H × List MemPlace), w.cell? (a.add (i * fs.size + j)) = some v ∧ ys[j]? = some y ∧ DataW.trod enc P w base spare held n f.type [v] = some y := by
  rcases open_slice ht h with h0 | ⟨a, len, cap, m, n, D, Pl, hcs, hb, hl, hm, hmm, hx, hi⟩
  · exact .inl h0
  · refine .inr ⟨a, len, cap, m, D, Pl, hcs, hb, hl, hm, hmm, by rw [hC] at hx; exact hx, fun i him => ?_⟩
    obtain ⟨cs', hc, ht'⟩ := hi i him
    rw [hC] at hc
    obtain ⟨ys, n', hn', hy, hlen, hyl, hf⟩ := DataW.trod_struct he ht'
    obtain ⟨_, hcl, hat⟩ := World.cells?_some hc
    simp only [Prod.mk.injEq] at hy
    refine ⟨ys, n', hy.1, hy.2, hyl, fun j f hj => ?_⟩
    obtain ⟨ho, hk⟩ := hone_of hone j f hj
    have hjl : j < fs.size := (Array.getElem?_eq_some_iff.1 hj).1
    have hcell := hat j hjl
    have hv : cs'[j]? = some (cs'[j]'(by omega)) := List.getElem?_eq_getElem (by omega)
    have h1 := hf j f hj
    rw [ho, hk] at h1
    have hone' : (cs'.drop j).take 1 = [cs'[j]'(by omega)] := by
      rw [List.drop_eq_getElem_cons (by omega)]
      rfl
    rw [hone'] at h1
    have hys : ys[j]? = some (ys[j]'(by omega)) := List.getElem?_eq_getElem (by omega)
    refine ⟨_, _, ?_, hys, h1.trans hys⟩
    rw [← Go.Deep.add_add, hcell, hv]
end

theorem wf_hi {x : Int} (h : (Lit.int .i64 x).wf = true) : -9223372036854775808 ≤ x ∧ x ≤ 9223372036854775807 := by
  simpa [Lit.wf, IntKind.min, IntKind.max, IntKind.signed, IntKind.bits] using h
end Go.Proofs.YtpfplojkiloldaaGreatDoor
namespace Go.Proofs.YtpfplojkiloldaaGreatDoor
open Go.RowKit Go.ChangeShapes Go.WideShapes Go.Deep
section
variable {H : Type} {enc : TypeId × Value → H}
theorem open_tacts {W : World} {A : Option Addr} {len cap : Nat} {d : DataW H} {p : List MemPlace} (h : DataW.Trod enc Tryz.prog W 0 (fun _ => true) true 22 (.slice A len cap) d p) :
    ∃ l : List TAct, l.length = len ∧ LS tactE W W.heap.size A l ∧ ∀ x ∈ l, (Lit.int .i64 x.1).wf = true := by
  obtain ⟨fuel, hf⟩ := h
  rcases open_slice_fields Tryz.underlying22 Tryz.underlying29 (by kernel_rfl) (by kernel_rfl) hf with ⟨hcs, _⟩ | ⟨a, len', cap', m, D, Pl, hcs, _, hl, hm, hmm, hx, hi⟩
  · simp [Value.cells] at hcs
    obtain ⟨rfl, rfl, rfl⟩ := hcs
    exact ⟨[], rfl, LS.nil_, fun x hx => by cases hx⟩
  · simp [Value.cells] at hcs
    obtain ⟨rfl, rfl, rfl⟩ := hcs
    simp only [if_true] at hmm
    subst hmm
    have key : ∀ i, ∃ r : TAct, i < len → (W.cell? (a.add (i * 3)) = some (.int .i64 r.1) ∧ W.cell? (a.add (i * 3 + 1)) = some (.string r.2.1) ∧ W.cell? (a.add (i * 3 + 2)) = some (.string r.2.2)) ∧ (Lit.int .i64 r.1).wf = true := by
      intro i
      by_cases hil : i < len
      · obtain ⟨ys, n, _, _, hys, hfld⟩ := hi i (by omega)
        obtain ⟨v0, y0, hc0, _, t0⟩ := hfld 0 _ rfl
        obtain ⟨v1, y1, hc1, _, t1⟩ := hfld 1 _ rfl
        obtain ⟨v2, y2, hc2, _, t2⟩ := hfld 2 _ rfl
        obtain ⟨x0, e0, _, w0⟩ := DataW.trod_int Tryz.underlying3 t0
        obtain ⟨x1, e1, _⟩ := DataW.trod_string Tryz.underlying9 t1
        obtain ⟨x2, e2, _⟩ := DataW.trod_string Tryz.underlying9 t2
        simp at e0 e1 e2
        subst e0 e1 e2
        exact ⟨⟨x0, x1, x2⟩, fun _ => ⟨⟨hc0, hc1, hc2⟩, w0⟩⟩
      · exact ⟨⟨0, ⟨#[]⟩, ⟨#[]⟩⟩, fun h => absurd h hil⟩
    obtain ⟨f, hfs⟩ : ∃ f : Nat → TAct, ∀ i, i < len → (W.cell? (a.add (i * 3)) = some (.int .i64 (f i).1) ∧ W.cell? (a.add (i * 3 + 1)) = some (.string (f i).2.1) ∧ W.cell? (a.add (i * 3 + 2)) = some (.string (f i).2.2)) ∧ (Lit.int .i64 (f i).1).wf = true := ⟨fun i => Classical.choose (key i), fun i => Classical.choose_spec (key i)⟩
    clear key
    refine ⟨(List.range len).map f, by simp, ⟨tactE.cells_length _, fun hpos => ⟨a, rfl, ?_, ?_⟩⟩, ?_⟩
    · have := (hfs 0 (by simpa using hpos)).1.1
      have hb := World.block_lt_of_cell? W _ this
      rwa [block_of_add] at hb
    · intro j u hu
      have hjl : j < len * 3 := by
        have := (List.getElem?_eq_some_iff.1 hu).1
        rw [tactE.cells_length] at this; simpa [tactE] using this
      have h0 := tactE.cells_at ((List.range len).map f) (j / 3) (by simp; omega) (j % 3) (by show j % 3 < 3; omega)
      have e : j / 3 * tactE.size + j % 3 = j := by show j / 3 * 3 + j % 3 = j; omega
      rw [e, hu] at h0
      simp only [List.getElem_map, List.getElem_range] at h0
      have hs := (hfs (j / 3) (by omega)).1
      have hm : j % 3 = 0 ∨ j % 3 = 1 ∨ j % 3 = 2 := by omega
      rcases hm with hm | hm | hm
      · rw [hm] at h0; injection h0 with h0; subst h0; rw [← hs.1, show j / 3 * 3 = j by omega]
      · rw [hm] at h0; injection h0 with h0; subst h0; rw [← hs.2.1, show j / 3 * 3 + 1 = j by omega]
      · rw [hm] at h0; injection h0 with h0; subst h0; rw [← hs.2.2, show j / 3 * 3 + 2 = j by omega]
    · intro x hx
      obtain ⟨i, hi', rfl⟩ := List.mem_map.1 hx
      exact (hfs i (List.mem_range.1 hi')).2
end
end Go.Proofs.YtpfplojkiloldaaGreatDoor
namespace Go.Proofs.YtpfplojkiloldaaGreatDoor
open Go.ChangeShapes Go.WideShapes Go.ChangeAt Go.RowKit
def laid3 : List (String × DataW Unit) := [("rootstock/crc.halves", Rows.laid_rootstock_crc_halves), ("unicode/utf8.acceptRanges", Rows.laid_unicode_utf8_acceptRanges), ("unicode/utf8.first", Rows.laid_unicode_utf8_first)]
theorem halves_hv : (Rows.laid_rootstock_crc_halves : DataW Unit) = .agg (Cc.hv.map fun n : Nat => .lit (.int .u32 (n : Int))) := by kernel_rfl
theorem ht_of {W : World} (h : laidMetH Tryz.prog laid3 W) : HT W := by
  rw [MakeChecks.laidMetH_plain _ _ _ (by kernel_rfl)] at h
  obtain ⟨ps, ⟨g, t, cs, fuel, p, q, hg, ht, hv, hd, _, _⟩, _⟩ := h
  obtain rfl := Option.some.inj ((show Tryz.prog.globalNamed "rootstock/crc.halves" = some 0 by kernel_rfl).symm.trans hg)
  obtain rfl := Option.some.inj ((show (Tryz.prog.globals[0]?).map (·.type) = some 229 by kernel_rfl).symm.trans ht)
  obtain ⟨xs, m, _, ex, _, hl, hel⟩ := DataW.trod_array Tryz.underlying229 hd
  have hc : ∀ r, r < 16 → W.cell? ⟨0, r, none⟩ = some (.int .u32 ((Cc.hv.getD r 0 : Nat) : Int)) := by
    intro r hr
    have c5 : Tryz.prog.cellsOf 192 = 1 := by kernel_rfl
    have hE := hel r hr
    rw [c5, Nat.mul_one, List.getElem?_eq_getElem (by omega)] at hE
    obtain ⟨z, e1, e2, _⟩ := DataW.trod_int Tryz.underlying192 hE
    have hlen : Cc.hv.length = 16 := by decide
    rw [halves_hv] at ex
    have e3 : (xs.map (·.1)) = Cc.hv.map fun n : Nat => (DataW.lit (.int .u32 (n : Int)) : DataW Unit) := (DataW.agg.inj (Prod.mk.inj ex).1).symm
    have e4 : (xs.map (·.1))[r]? = (Cc.hv.map fun n : Nat => (DataW.lit (.int .u32 (n : Int)) : DataW Unit))[r]? := by rw [e3]
    rw [List.getElem?_map, List.getElem?_map, List.getElem?_eq_getElem (by omega : r < xs.length), List.getElem?_eq_getElem (by omega : r < Cc.hv.length), e2] at e4
    have hz : z = ((Cc.hv.getD r 0 : Nat) : Int) := by
      simp only [Option.map_some, Option.some.injEq, DataW.lit.injEq, Lit.int.injEq, true_and] at e4
      rw [e4, List.getD, List.getElem?_eq_getElem (by omega : r < Cc.hv.length)]; rfl
    rw [World.var?_cell hg hv r, ← hz]
    have : cs.toList[r]? = some (.int .u32 z) := by
      have h0 : ((cs.toList.drop r).take 1)[0]? = some (.int .u32 z) := by rw [e1]; rfl
      simpa using h0
    simpa using this
  exact ⟨World.block_lt_of_cell? W _ (hc 0 (by decide)), hc⟩
end Go.Proofs.YtpfplojkiloldaaGreatDoor
