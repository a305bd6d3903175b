/- Part of this proof. -/
import Derived.Test.YtjoiajmbfbjnnaaGreatDoorT34
set_option maxRecDepth 100000
set_option maxHeartbeats 8000000
namespace Go.Proofs.YtjoiajmbfbjnnaaGreatDoor
open Go.RowKit Go.Shelf
def TrueEnd(w:World)(e:Ending)(w':World):Prop:=e= .returned (.bool true)/\Below w.heap.size w w'
def exT1:List Ent:= [(⟨#[98]⟩,⟨#[50]⟩)]
def exT2:List Ent:= [(⟨#[97]⟩,⟨#[49]⟩),(⟨#[98]⟩,⟨#[50]⟩)]
theorem ex_t1:En.put [] ⟨#[98]⟩ ⟨#[50]⟩=exT1:=by kernel_rfl
theorem ex_t2:En.put exT1 ⟨#[97]⟩ ⟨#[49]⟩=exT2:=by kernel_rfl
theorem ex_t3:En.del exT2 ⟨#[97]⟩=exT1:=by kernel_rfl
theorem ex_t4:nextV (Tp.scanF exT2 ⟨#[97,97]⟩ ⟨#[]⟩)=((⟨#[98]⟩,⟨#[50]⟩),true):=by kernel_rfl
theorem ex_t5:En.get exT2 ⟨#[97]⟩=some ⟨#[49]⟩:=by kernel_rfl
theorem ex_t6:En.get exT1 ⟨#[97]⟩=none:=by kernel_rfl
theorem ex_t7:Nd.esize exT1=4:=by kernel_rfl
theorem ex_t8:Nd.esize exT2=8:=by kernel_rfl
theorem ex_m1:En.may ⟨#[98]⟩ ⟨#[50]⟩=true:=by kernel_rfl
theorem ex_m2:En.may ⟨#[97]⟩ ⟨#[49]⟩=true:=by kernel_rfl
theorem ex_m3:En.may ⟨#[]⟩ ⟨#[]⟩=false:=by kernel_rfl
theorem one_pages{es:List Ent}{tok:Nat}{root:Int}{σ:Tp.Pst}{ids:List Int}{P:List (Int × Nat × Nd.Node)}(hi:ids.length<=1)(hne:es≠ [])(h:WalkP σ root ids es tok P):P.length=1:=by
 rw[h.len]
 rcases h with⟨_,h1,_,_⟩ | ⟨h,s,_,rfl,_,_,ht,_,_⟩
 ·exact absurd h1 hne
 ·have:=List.length_pos_of_mem (Tp.tr_id ht)
  omega
theorem works13_any(w:World):Calls Tryz.prog 14 #[] w (TrueEnd w):=by
 have HN:=Lib.hid (fun W=>tst_new 9 W)
 go_enter Tryz.func14,Tryz.ntmps14
 go_wp2_with fail
 refine(HN.out _).mono ?_
 rintro e w1 ⟨a,rfl,h1,b1,hF⟩
 rw[show diskN 9=9 by decide]at h1
 have HF:=Lib.hid hF
 have hl:∀ {W W'},Below w.heap.size w W->Fr a.F W W'->Below w.heap.size w W':=fun h f=>h.trans (f.low h.size hF)
 have HL:=Lib.hid (fun W W'=> @hl W W')
 have HB:=Lib.hid b1
 have HC:=Lib.hid (tst_put1 h1 ex_m1 (by rw[ex_t1,ex_t7];decide) (by decide) (by decide))
 clear h1 b1 hF hl HN
 go_wp2_with fail
 refine Calls.mono HC.out ?_
 rintro e w2 ⟨rfl,h2,f2⟩
 rw[ex_t1]at h2
 have HB2:=Lib.hid (HL.out _ _ HB.out f2)
 obtain⟨t2,ht2,h2⟩:∃t,t<=1/\TOne 9 a exT1 t w2:=⟨_,by have:=dput_le [] ⟨#[98]⟩;omega,h2⟩
 have HC2:=Lib.hid (tst_put1 h2 ex_m2 (by rw[ex_t2,ex_t8];decide) (by decide) (by omega))
 clear h2 f2 HC HB
 go_wp2_with fail
 refine Calls.mono HC2.out ?_
 rintro e w3 ⟨rfl,h3,f3⟩
 rw[ex_t2]at h3
 have HB3:=Lib.hid (HL.out _ _ HB2.out f3)
 generalize t2+dput exT1 ⟨#[97]⟩=t3 at*
 obtain⟨root,σ,ids,h3,hi⟩:=h3
 have hsc:=tst_scan h3 ⟨#[]⟩ ⟨#[]⟩
 rw[Tp.scan_whole]at hsc
 have HSC:=Lib.hid hsc
 have HI:=Lib.hid hi
 have hlo3:∀k,a.S k->k<w3.heap.size:=fun k hk=>h3.low k (.inl hk)
 have hlf3:=h3.low
 have HLO:=Lib.hid hlf3
 clear h3 f3 HC2 HB2 hsc hi hlo3 hlf3
 go_wp2_with fail
 refine Calls.mono HSC.out ?_
 rintro e w4 ⟨A,c,rfl,r4,h4,f4⟩
 have hle:exT2.length=2:=rfl
 rw[hle]at r4 ⊢
 have HB4:=Lib.hid (HL.out _ _ HB3.out (f4.more fun _=> .inl))
 have hz4:=f4.size
 have hnx:=tst_next h4 ⟨#[97,97]⟩
 rw[ex_t4]at hnx
 have HNX:=Lib.hid hnx
 have HR4:=Lib.hid r4
 clear h4 f4 HSC HB3 hnx r4 hle
 go_wp2_with fail
 refine Calls.mono HNX.out ?_
 rintro e w5 ⟨rfl,h5,f5⟩
 have hbA:=(Below.refl w5.heap.size w5).alloc (Nat.le_refl _) (.cells #[.string ⟨#[98]⟩, .string ⟨#[50]⟩] 34)
 have h6:=h5.below hbA
 have hz5:=f5.size
 have hS3:∀k,a.S k->k<w3.heap.size:=fun k hk=>HLO.out k (.inl hk)
 have HS3:=Lib.hid hS3
 have r6:=LO.below (HR4.out.fr f5 hS3) hbA
 have HB5:=Lib.hid (HL.out _ _ HB4.out (f5.more fun _=> .inl))
 have HB6:=Lib.hid (HB5.out.trans (hbA.mono HB5.out.size))
 have hX6:=Blk.new w5 34 #[.string ⟨#[98]⟩, .string ⟨#[50]⟩]
 have hgt:=tst_get h6 ⟨#[97]⟩
 rw[ex_t5]at hgt
 have HGT:=Lib.hid hgt
 have HR6:=Lib.hid r6
 have HX6:=Lib.hid hX6
 clear h5 f5 HNX hbA h6 hS3 r6 hX6 hgt HR4 HB4
 go_wp2_with fail
 refine Calls.mono HGT.out ?_
 rintro e w7 ⟨rfl,h7,f7⟩
 have HR7:=Lib.hid (HR6.out.fr f7 HS3.out)
 have HX7:=Lib.hid (f7.blk HX6.out (fun hk=>by have:=HS3.out _ hk;omega))
 have HB7:=Lib.hid (HL.out _ _ HB6.out (f7.more fun _=> .inl))
 have HD:=Lib.hid (tst_del1 ⟨root,σ,ids,h7,HI.out⟩ ⟨#[97]⟩ ex_t5 (by rw[ex_t3];simp[exT1]) (by rw[ex_t3,ex_t7];decide) (by decide))
 unfold getV
 clear h7 f7 HGT HR6 HX6 HB6
 go_wp2_with fail
 refine Calls.mono HD.out ?_
 rintro e w8 ⟨rfl,h8,f8⟩
 rw[ex_t3]at h8
 have HR8:=Lib.hid (HR7.out.fr f8 HLO.out)
 have HX8:=Lib.hid (f8.blk HX7.out (fun hk=>by have:=HLO.out _ hk;omega))
 have HB8:=Lib.hid (HL.out _ _ HB7.out f8)
 obtain⟨root2,σ2,ids2,h8,hi2⟩:=h8
 have hgt:=tst_get h8 ⟨#[97]⟩
 rw[ex_t6]at hgt
 have HGT:=Lib.hid hgt
 have HI2:=Lib.hid hi2
 clear h8 f8 HD HR7 HX7 HB7 hgt hi2 HI
 go_wp2_with fail
 refine Calls.mono HGT.out ?_
 rintro e w9 ⟨rfl,h9,f9⟩
 have HR9:=Lib.hid (HR8.out.fr f9 HS3.out)
 have HX9:=Lib.hid (f9.blk HX8.out (fun hk=>by have:=HS3.out _ hk;omega))
 have HB9:=Lib.hid (HL.out _ _ HB8.out (f9.more fun _=> .inl))
 have HWK:=Lib.hid (tst_walk h9)
 unfold getV
 clear h9 f9 HGT HR8 HX8 HB8
 go_wp2_with fail
 refine Calls.mono HWK.out ?_
 rintro e w10 ⟨Aw,cw,xs,P,rfl,_,hp,hwk,h10,f10⟩
 have hxl:xs.length=1:=by rw[hp.1];exact one_pages HI2.out (by simp[exT1]) hwk
 rw[hxl]
 have r10:=HR9.out.fr f10 HS3.out
 have x10:=f10.blk HX9.out (fun hk=>by have:=HS3.out _ hk;omega)
 have HB10:=Lib.hid (HL.out _ _ HB9.out (f10.more fun _=> .inl))
 have k0:w10.cell? ⟨w5.heap.size,0,none⟩=some (.string ⟨#[98]⟩):=x10.cell 0
 have kl:=x10.lt
 have hls:=LO.sv r10
 obtain⟨bb,oo,rfl,hbb,q0,q1⟩:=hls.ls.ent (k:=0) (by decide)
 obtain⟨bb',oo',hx',_,q2,q3⟩:=hls.ls.ent (k:=1) (by decide)
 cases hx'
 have q4:w10.cell? ⟨bb,oo,none⟩=some (.string ⟨#[97]⟩):=q0
 have q5:w10.cell? ⟨bb,oo+2,none⟩=some (.string ⟨#[98]⟩):=q2
 have HPT:=Lib.hid (ctput_no h10.mach a.u root2 ⟨#[]⟩ ⟨#[]⟩ ex_m3 0 σ2 w10 h10.on)
 have HER:=Lib.hid (fun W (h:On a.S a.B a.t a.u (TMf a.B a.t a.m a.f 9) root2 0 0 σ2 W)=>terr_any a.u root2 0 W h.self)
 clear hp hwk h10 f10 HWK HR9 HX9 HB9 r10 x10 hls hxl q0 q1 q2 q3
 go_wp2_with fail
 refine Calls.mono HPT.out ?_
 rintro e w11 ⟨rfl,h11,b11⟩
 have HE11:=Lib.hid (HER.out w11 h11)
 have HB11:=Lib.hid (HB10.out.trans (b11.mono HB10.out.size))
 clear h11 b11 HPT HER
 go_wp2_with fail
 refine Calls.mono HE11.out ?_
 rintro e _ ⟨rfl,rfl⟩
 go_wp2
 go_ret
 exact⟨rfl,HB11.out⟩
end Go.Proofs.YtjoiajmbfbjnnaaGreatDoor
