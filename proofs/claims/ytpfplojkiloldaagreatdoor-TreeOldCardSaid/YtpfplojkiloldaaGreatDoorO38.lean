/- Part of this proof. -/
import Derived.Deep.CutBlock
import Derived.Test.YtpfplojkiloldaaGreatDoorO37
set_option maxRecDepth 100000
set_option maxHeartbeats 8000000
namespace Go.Proofs.YtpfplojkiloldaaGreatDoor
open Go.RowKit
theorem LO.ents {w : World} {base : Nat} {v : Value} {o : List Ent} {x : Ent} {n : Nat} (hn : o.length = n) (h : w.ownsRow base 38 2 v (n + 1) (entE.cells o ++ #[Value.string x.1, Value.string x.2].toList)) : LO entE 38 w base v (o ++ [x]) := LO.snoc hn rfl rfl h
theorem del_take (l : List Ent) (k : ByteArray) (j : Nat) (hj : j < l.length) : En.del (l.take (j + 1)) k = En.del (l.take j) k ++ if En.eqs l[j].1 k then [] else [l[j]] := by
 unfold En.del
 rw [List.take_succ_eq_append_getElem hj, List.filter_append]
 cases h : En.eqs l[j].1 k <;> simp [h]
theorem rdelete_any (A : Option Addr) (c : Nat) (l : List Ent) (k : ByteArray) (w : World) (hr : LS entE w w.heap.size A l) (hl : l.length <= 100000) :
   Calls Tryz.prog 23 #[.slice A l.length c, .string k] w (LEnd entE 38 (En.del l k) w) := by
 obtain ⟨R, hR⟩ : ∃ R, R = En.del l k := ⟨_, rfl⟩
 rw [<- hR]
 have HR := Lib.hid hR
 clear hR
 go_enter Tryz.func23, Tryz.ntmps23
 go_wp2
 go_loopw [5, 6] (fun v i wr => ∃ (j : Nat) (o : List Ent), j <= l.length /\ i = .int .i64 j /\ Hid (En.del (l.take j) k = o) /\ o.length <= j /\ LO entE 38 wr w.heap.size v o /\ Below w.heap.size w wr) (fun _ i _ => l.length - (intOf i).toNat)
 case atStart => exact ⟨0, [], by omega, rfl, Lib.hid rfl, by simp, LO.nil_ _ _, Below.refl _ _⟩
 case round =>
   obtain ⟨j, o, hj, rfl, HO, hol, ho, hbe⟩ := hrel
   by_cases hlt : j < l.length
   · obtain ⟨b2, o2, rfl, hb2, g0, g1⟩ := (hr.below hbe).ent hlt
     have hd := Lib.hid (del_take l k j hlt)
     generalize l[j] = x at *
     obtain ⟨Ao, co, rfl⟩ := ho.form
     have hraw := ho.raw rfl (s := 2) rfl
     have hb2' : b2 < wr.heap.size := by have := hbe.size; omega
     cases heq : En.eqs x.1 k with
     | true =>
       have he : (x.1.toList == k.toList) = true := heq
       have hne : (!(x.1.toList == k.toList)) = false := by rw [he]; rfl
       have HQ := Lib.hid heq
       clear heq
       go_wp2
       go_roundw
       case rel => exact ⟨j + 1, o, by omega, by go_num, Lib.hid (by rw [hd.out, HO.out, HQ.out]; simp), by omega, ho, hbe⟩
       case measure => simp [intOf]; omega
     | false =>
       have he : (x.1.toList == k.toList) = false := heq
       have hne : (!(x.1.toList == k.toList)) = true := by rw [he]; rfl
       have HQ := Lib.hid heq
       clear heq
       go_wp2_with (at_builtin; refine wpList_app1 rfl (.tmp 20) (.tmp 25) 32 rfl eiEnt Tryz.underlying32 rfl (by decide) rfl hraw rfl (by simp) rfl (by simp [Value.oneCell']) (by unfold maxLen; omega) (by omega) hbe.size ?_; intro v' w2 hown' hgrow hbel _ _)
       go_roundw
       case rel => exact ⟨j + 1, o ++ [x], by omega, by go_num, Lib.hid (by rw [hd.out, HO.out, HQ.out]; rfl), by simp; omega, LO.ents rfl hown', hbe.trans hbel⟩
       case measure => simp [intOf]; omega
   · obtain rfl : j = l.length := by omega
     go_wp2
     go_ret
     have e := HO.out
     rw [List.take_of_length_le (Nat.le_refl _)] at e
     exact ⟨_, rfl, by rw [HR.out, e]; exact ho, hbe⟩
theorem gt_iff (r k : ByteArray) : (!(Op.bytesLess r.toList k.toList || r.toList == k.toList)) = En.lt k r := by
 rcases En.lt_tri r k with h | h | h
 · have h1 : Op.bytesLess r.toList k.toList = true := h
   rw [h1, En.lt_not h]; rfl
 · subst h
   rw [En.lt_irrefl]; simp
 · have h1 : Op.bytesLess r.toList k.toList = false := En.lt_not h
   have h2 : (r.toList == k.toList) = false := En.eqs_no (En.lt_ne h).symm
   rw [h1, h2, h]; rfl
def toCome (x : Ent) (done : Bool) (rest : List Ent) : List Ent := if done then rest else En.ins x rest
theorem rput_any (A : Option Addr) (c : Nat) (l : List Ent) (k v : ByteArray) (w : World) (hr : LS entE w w.heap.size A l) (hl : l.length <= 50000) :
   Calls Tryz.prog 20 #[.slice A l.length c, .string k, .string v] w (LEnd entE 38 (En.put l k v) w) := by
 obtain ⟨R, hR⟩ : ∃ R, R = En.put l k v := ⟨_, rfl⟩
 rw [<- hR]
 have hD := hid_calls (rdelete_any A c l k w hr (by omega))
 have hdl := En.del_len l k
 have hR2 : R = En.ins (k, v) (En.del l k) := hR
 have HR := Lib.hid hR2
 clear hR hR2
 generalize En.del l k = rest at *
 go_enter Tryz.func20, Tryz.ntmps20
 go_wp2_with fail
 refine hD.out.mono ?_
 intro e w1 he
 obtain ⟨A1, c1, rfl, ho1, r1, b1⟩ := he.open_
 clear he ho1 hr
 go_wp2
 go_loopw [8, 9, 10] (fun u d i wr => ∃ (j : Nat) (dn : Bool) (o : List Ent), j <= rest.length /\ i = .int .i64 j /\ d = .bool dn /\ Hid (R = o ++ toCome (k, v) dn (rest.drop j)) /\ o.length <= j + (if dn then 1 else 0) /\ LO entE 38 wr w1.heap.size u o /\ Below w1.heap.size w1 wr) (fun _ _ i _ => rest.length - (intOf i).toNat)
 case atStart => exact ⟨0, false, [], by omega, rfl, rfl, Lib.hid (by rw [HR.out]; rfl), by simp, LO.nil_ _ _, Below.refl _ _⟩
 case round =>
   obtain ⟨j, dn, o, hj, rfl, rfl, HO, hol, ho, hbe⟩ := hrel
   by_cases hlt : j < rest.length
   · obtain ⟨b2, o2, rfl, hb2, g0, g1⟩ := (r1.below hbe).ent hlt
     have hd := Lib.hid (List.drop_eq_getElem_cons hlt)
     generalize rest[j] = x at *
     obtain ⟨Ao, co, rfl⟩ := ho.form
     have hraw := ho.raw rfl (s := 2) rfl
     have hb2' : b2 < wr.heap.size := by have := hbe.size; omega
     cases dn with
     | true =>
       simp only [if_true] at hol
       go_wp2_with (at_builtin; refine wpList_app1 rfl (.tmp 37) (.tmp 42) 32 rfl eiEnt Tryz.underlying32 rfl (by decide) rfl hraw rfl (by simp) rfl (by simp [Value.oneCell']) (by unfold maxLen; omega) (by omega) hbe.size ?_; intro v' w2 hown' hgrow hbel _ _)
       go_roundw
       case rel => exact ⟨j + 1, true, o ++ [x], by omega, by go_num, rfl, Lib.hid (by rw [HO.out, hd.out]; unfold toCome; simp), by simp at hol ⊢; omega, LO.ents rfl hown', hbe.trans hbel⟩
       case measure => simp [intOf]; omega
     | false =>
       cases hgt : En.lt k x.1 with
       | true =>
         have hg : (!(Op.bytesLess x.1.toList k.toList || x.1.toList == k.toList)) = true := (gt_iff x.1 k).trans hgt
         have HQ := Lib.hid hgt
         clear hgt
         simp only [Bool.false_eq_true, if_false, Nat.add_zero] at hol
         have hl2 : (o ++ [(k, v)]).length = o.length + 1 := by simp
         go_wp2_with (first | (at_builtin; refine wpList_app1 rfl (.tmp 31) (.tmp 35) 32 rfl eiEnt Tryz.underlying32 rfl (by decide) rfl hraw rfl (by simp) rfl (by simp [Value.oneCell']) (by unfold maxLen; omega) (by omega) hbe.size ?_; intro v' w2 hown' hgrow hbel _ _; have d0 := (hbel.cell (p := ⟨b2, o2 + j * 2, none⟩) hb2).trans g0; have d1 := (hbel.cell (p := ⟨b2, o2 + j * 2 + 1, none⟩) hb2).trans g1; have hb3 : b2 < w2.heap.size := (by have := (hbe.trans hbel).size; omega)) | (at_builtin; refine wpList_app1 rfl (.tmp 37) (.tmp 42) 32 rfl eiEnt Tryz.underlying32 rfl (by decide) rfl (LO.raw (LO.ents (x := (k, v)) rfl hown') hl2 (s := 2) rfl) rfl (by simp) rfl (by simp [Value.oneCell']) (by unfold maxLen; omega) (by omega) (hbe.trans hbel).size ?_; intro v2 w3 hown2 hgrow2 hbel2 _ _))
         go_roundw
         case rel => exact ⟨j + 1, true, o ++ [(k, v)] ++ [x], by omega, by go_num, rfl, Lib.hid (by rw [HO.out, hd.out]; unfold toCome En.ins; simp only; rw [HQ.out]; simp), by simp; omega, LO.ents hl2 hown2, (hbe.trans hbel).trans hbel2⟩
         case measure => simp [intOf]; omega
       | false =>
         have hg : (!(Op.bytesLess x.1.toList k.toList || x.1.toList == k.toList)) = false := (gt_iff x.1 k).trans hgt
         have HQ := Lib.hid hgt
         clear hgt
         simp only [Bool.false_eq_true, if_false, Nat.add_zero] at hol
         go_wp2_with (at_builtin; refine wpList_app1 rfl (.tmp 37) (.tmp 42) 32 rfl eiEnt Tryz.underlying32 rfl (by decide) rfl hraw rfl (by simp) rfl (by simp [Value.oneCell']) (by unfold maxLen; omega) (by omega) hbe.size ?_; intro v' w3 hown' hgrow hbel _ _)
         go_roundw
         case rel => exact ⟨j + 1, false, o ++ [x], by omega, by go_num, rfl, Lib.hid (by rw [HO.out, hd.out]; unfold toCome; simp only [Bool.false_eq_true, if_false]; rw [En.ins]; rw [HQ.out]; simp), by simp; omega, LO.ents rfl hown', hbe.trans hbel⟩
         case measure => simp [intOf]; omega
   · obtain rfl : j = rest.length := by omega
     have hnil := Lib.hid (List.drop_of_length_le (Nat.le_refl rest.length))
     obtain ⟨Ao, co, rfl⟩ := ho.form
     have hraw := ho.raw rfl (s := 2) rfl
     cases dn with
     | true =>
       go_wp2
       go_ret
       exact ⟨_, rfl, by rw [HO.out, hnil.out]; unfold toCome; simp only [if_true, List.append_nil]; exact ho.lower b1.size, b1.trans (hbe.mono b1.size)⟩
     | false =>
       simp only [Bool.false_eq_true, if_false, Nat.add_zero] at hol
       go_wp2_with (at_builtin; refine wpList_app1 rfl (.tmp 46) (.tmp 50) 32 rfl eiEnt Tryz.underlying32 rfl (by decide) rfl hraw rfl (by simp) rfl (by simp [Value.oneCell']) (by unfold maxLen; omega) (by omega) hbe.size ?_; intro v' w3 hown' hgrow hbel _ _)
       go_ret
       refine ⟨_, rfl, ?_, b1.trans ((hbe.trans hbel).mono b1.size)⟩
       rw [HO.out, hnil.out]
       exact (LO.ents (x := (k, v)) rfl hown').lower b1.size
end Go.Proofs.YtpfplojkiloldaaGreatDoor
namespace Tp
open En
end Tp
namespace Go.Proofs.YtpfplojkiloldaaGreatDoor
open Go.RowKit Go.Shelf
end Go.Proofs.YtpfplojkiloldaaGreatDoor
