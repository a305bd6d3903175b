/- Part of this proof. -/
import Derived.Test.YtjoiajmbfbjnnaaGreatDoorM38
set_option maxRecDepth 100000
set_option maxHeartbeats 8000000
namespace Go.Proofs.YtjoiajmbfbjnnaaGreatDoor
open Go.RowKit Go.Shelf
def junkL(q:UInt8)(k:Nat):List UInt8:= [110,111,32,112,97,103,101]++List.replicate k q
def junk(q:UInt8)(k:Nat):ByteArray:=⟨(junkL q k).toArray⟩
theorem junk_size(q:UInt8)(k:Nat):(junk q k).size=7+k:=by
 show(junkL q k).toArray.size=_
 unfold junkL
 simp
 omega
theorem junk_succ(q:UInt8)(k:Nat):junk q k++⟨#[q]⟩=junk q (k+1):=by
 unfold junk junkL
 apply ByteArray.ext
 simp[List.replicate_succ']
theorem junk_bad{q:UInt8}(hq:q=63\/q=33){i:Int}(hi:i<=16384):BadPg i (junkL q 249):=by
 refine⟨by unfold junkL;rw[List.length_append,List.length_replicate];rfl, ?_⟩
 rcases hq with rfl | rfl
 ·have e:Cp.num (((junkL 63 249).drop 4).take 4)=1634166079:=by decide +kernel
  rw[e];omega
 ·have e:Cp.num (((junkL 33 249).drop 4).take 4)=1634166049:=by decide +kernel
  rw[e];omega
end Go.Proofs.YtjoiajmbfbjnnaaGreatDoor
namespace Go.Proofs.YtjoiajmbfbjnnaaGreatDoor
open Go.RowKit Go.Shelf Go.Maps
theorem mharm_main(A:Option Addr)(c:Nat)(rl:List Sl)(fl:List (List Ent))(page:Int)(w:World)(hr:LS slE w w.heap.size A rl)(hlen:fl.length=rl.length)(hx:∀i (h1:i<rl.length) (h2:i<fl.length),fl[i].length=rl[i].2.1/\LS entE w w.heap.size rl[i].1 fl[i])(hT:HT w):
  Calls Tryz.prog 5 #[.slice A rl.length c, .int .i64 page] w (TrueEnd21 w):=by
 have HW:=Lib.hid (works21_any w hT)
 have HOV:=Lib.hid (fun W (hb:Below w.heap.size w W)=>over21_any A c rl fl W ((hr.below hb).more hb.size) hlen (fun i h1 h2=>⟨(hx i h1 h2).1,((hx i h1 h2).2.below hb).more hb.size⟩))
 have HRS:=Lib.hid hr
 have HRL:=Lib.hid hx
 have HHT:=Lib.hid hT
 have HD:=Lib.hid (fun W=>dfresh_any 3000 W)
 rw[show diskN 3000=3000 by decide]at HD
 clear hr hx hT
 go_enter Tryz.func5,Tryz.ntmps5
 go_wp2_with fail
 refine Calls.mono HW.out ?_
 rintro e w1 ⟨rfl,b1⟩
 have HB:=Lib.hid b1
 clear b1 HW
 go_wp2_with fail
 refine(HOV.out _ HB.out).mono ?_
 rintro e w1' ⟨b,rfl,hw1,hbf⟩
 subst hw1
 cases b with
 |true=>
  go_wp2
  go_ret
  exact⟨rfl,HB.out⟩
 |false=>
  obtain⟨h8,h60⟩:=hbf rfl
  have H60:=Lib.hid h60
  clear hbf h60 HOV
  go_wp2_with fail
  refine(HD.out _).mono ?_
  rintro e w2 ⟨d,rfl,hd,b2⟩
  have HFF:=Lib.hid (ffresh_any hd b2.size)
  have HB2:=Lib.hid (HB.out.trans (b2.mono HB.out.size))
  have HZ2:=Lib.hid b2.size
  clear hd b2 HD
  go_wp2_with fail
  refine HFF.out.mono ?_
  rintro e w3 ⟨f,rfl,hf,b3⟩
  have hB3:=HB2.out.trans (b3.mono HB2.out.size)
  have HG:=Lib.hid (grown21_any A c rl fl w w3 f d (stg_start (by decide) (by decide) hf (HHT.out.below hB3 HHT.out.1) HB.out.size HHT.out.1 (Nat.le_trans HZ2.out b3.size) hB3 (by decide)) HRS.out hlen HRL.out h8 H60.out HHT.out.1)
  clear hf b3 hB3 HFF HZ2 HB2 HB HRS HRL H60 HHT
  go_wp2_with fail
  refine Calls.mono HG.out ?_
  rintro e w4 ⟨Ar,cr,rs,t,disk,frl,P,N,rfl,hbg,hN,hvs,hlr,hP,hrow⟩
  obtain⟨all,hall,hal⟩:=hvs.all_
  have hrl8:rs.length<=8:=by omega
  have hal2:all.length<=4800:=by omega
  have HFL:=Lib.hid (begF_flush hbg (by omega))
  have HALL:=Lib.hid hall
  have HROW:=Lib.hid hrow
  obtain⟨fl3,hfl3⟩:∃x,x=(Tp.start frl P).free:=⟨_,rfl⟩
  rw[<-hfl3]at HFL
  clear hbg hvs hall hrow HG hal hfl3 hlr
  go_wp2_with fail
  refine Calls.mono HFL.out ?_
  rintro e w5 ⟨rfl,hdon,hkp⟩
  have HD5:=Lib.hid hdon
  have HROW5:=Lib.hid (hkp _ _ _ _ _ _ HROW.out (.inr (.inl rfl)))
  clear hdon hkp HFL HROW
  have HKF:=Lib.hid (donF_free HD5.out)
  go_wp2_with fail
  refine Calls.mono HKF.out ?_
  intro e w10 he
  obtain⟨A7,c7,rfl,_,rs7,b7⟩:=he.open_
  have HD10:=Lib.hid (HD5.out.below_ b7)
  have HROW10:=Lib.hid (HROW5.out.below b7)
  have HR7:=Lib.hid rs7
  have HKP:=Lib.hid (donF_pages HD10.out)
  clear he rs7 b7 HKF HD5 HROW5
  go_wp2_with fail
  refine Calls.mono HKP.out ?_
  rintro e w11 ⟨rfl,hw11⟩
  obtain rfl:=hw11
  have HKN:=Lib.hid (donF_new HD10.out (by omega) A7 c7 HR7.out)
  clear HKP HD10 HR7
  go_wp2_with fail
  refine Calls.mono HKN.out ?_
  rintro e w12 ⟨t3,rfl,hb,b8⟩
  have hmk:=hb.mk_
  have HMK12:=Lib.hid hmk
  have HR12:=Lib.hid (HROW10.out.below b8)
  have HMT:=Lib.hid (mkf_all (r:=100000) (hmk.less (by omega)) HALL.out ⟨by omega,by omega⟩ Ar cr HR12.out.ls)
  have HVW:Hid (∀x y,disk x=some y->(2<=x/\x<P/\x<=16384)/\Rp.has (Tp.start fl3 P).free x=false/\Nd.fits y=true):=Lib.hid fun x y hx=>(hmk.view hx).2
  clear hb b8 hmk HKN HROW10
  go_wp2_with fail
  refine Calls.mono HMT.out ?_
  rintro e w13 ⟨v1,rfl,hown,hmk,hfr⟩
  obtain⟨A1,c1,rfl⟩:=hown.form
  have HR13:=Lib.hid (HMK12.out.keepF hfr HR12.out (by decide))
  have HOWN:=Lib.hid hown
  have HMK:=Lib.hid hmk
  have hl1:(Rp.norm (all.map runOf)).length<=4800:=by have:=norm_len (all.map runOf);rw[List.length_map]at this;omega
  obtain⟨L,hL⟩:∃x,x=Rp.norm (all.map runOf):=⟨_,rfl⟩
  rw[<-hL]at HOWN hl1 ⊢
  have HL:=Lib.hid hL
  clear hown hmk hfr hL HMT HR12 HMK12
  go_wp2
  go_loopg [15] 249 (fun gg s15 wr=>∃ (k:Nat) (S:ByteArray),s15= .string S/\Hid (S=junk 63 k)/\S.size=7+k/\k<=249/\249-k<=gg/\Hid (Below w13.heap.size w13 wr))
  case atStart=>exact⟨0,_,rfl,Lib.hid rfl,rfl,by omega,by omega,Lib.hid (Below.refl _ _)⟩
  case round=>
   obtain⟨k,S,rfl,HS,hsz,hk,hkg,HBB⟩:=hrel
   by_cases hk2:k<249
   ·have hlt:(S.size:Int)<256:=by omega
    have HS2:Hid (S++⟨#[63]⟩=junk 63 (k+1)):=Lib.hid (by rw[HS.out,junk_succ])
    have hsz2:(S++⟨#[63]⟩:ByteArray).size=7+(k+1):=by rw[HS2.out,junk_size]
    go_wp2
    go_roundg (249-(k+1))
    case measure=>omega
    case rel=>exact⟨k+1,_,rfl,HS2,hsz2,by omega,Nat.le_refl _,HBB⟩
   ·obtain rfl:k=249:=by omega
    have hlt:¬ (S.size:Int)<256:=by omega
    go_wp2_with fail
    generalize hat:min (max page 2) 2999=i
    have hi2:2<=i/\i<3000:=by omega
    clear hat
    have hst:(Value.string S)=str (junkL 63 249):=by rw[HS.out];rfl
    have HWR:=Lib.hid (mkf_raw (j:=999) (HMK.out.below_ HBB.out) (by decide) (by omega) hi2 (junkL 63 249) (junk_bad (.inl rfl) (by omega)))
    rw[<-hst]at HWR
    clear hst hsz hlt HMK
    refine Calls.mono HWR.out ?_
    rintro e w14 ⟨rfl,hmk,hkept,hz14⟩
    have hrow:=(HR13.out.below HBB.out).kept hkept (by decide) (by decide)
    have hown:=own_kept (Own.below HOWN.out HBB.out) hkept
    have hsome:∀x∈all,∃y,disk x=some y:=fun x hx=>by
     obtain⟨root,es,tok,ids,q1,q2,q3,q4⟩:=HALL.out.inn x hx
     exact q2.some_ x q3
    have hrg:∀x∈all,2<=x/\x<=16384:=fun x hx=>by
     obtain⟨y,hy⟩:=hsome x hx
     have:=(HVW.out x y hy).1
     omega
    have hhas:=all_has hrg i
    rw[<-HL.out]at hhas
    have HOWN:=Lib.hid hown
    have HZ:=Lib.hid (Nat.le_trans HBB.out.size hz14)
    by_cases hin:i∈all
    ·rw[decide_eq_true hin]at hhas
     obtain⟨y,hy⟩:=hsome i hin
     have hvi:=HVW.out i y hy
     have HMT:=Lib.hid (mkf_gone (r:=50000) (hmk.less (by omega)) HALL.out HVW.out hin ⟨rfl,hvi.1.2.1,hvi.2.1⟩ ⟨by omega,by omega⟩ Ar cr hrow.ls)
     have HMK:=Lib.hid hmk
     have HHAS:=Lib.hid hhas
     clear hmk hkept hrow hown hsome hrg hhas hvi hy HWR HBB HALL HVW HR13
     go_wp2_with fail
     refine Calls.mono HMT.out ?_
     rintro e w15 ⟨rfl,hmk5,hfr5⟩
     have hown5:=HMK.out.ownF hfr5 HOWN.out
     have HHC:=Lib.hid (has_any A1 c1 L i w15 hown5.rs (by omega))
     rw[HHAS.out]at HHC
     have HB5:=Lib.hid hmk5.below
     clear hmk5 hfr5 hown5 HMT HMK
     go_wp2_with fail
     refine Calls.mono HHC.out ?_
     rintro e w16 ⟨rfl,hb6⟩
     have HB6:=Lib.hid (HB5.out.trans (hb6.mono HB5.out.size))
     clear hb6
     go_wp2
     go_ret
     exact⟨rfl,HB6.out⟩
    ·rw[decide_eq_false hin]at hhas
     have HMT:=Lib.hid (mkf_all (r:=50000) (hmk.less (by omega)) (HALL.out.hole hin) ⟨by omega,by omega⟩ Ar cr hrow.ls)
     have HMK:=Lib.hid hmk
     have HHAS:=Lib.hid hhas
     clear hmk hkept hrow hown hsome hrg hhas HWR HBB HALL HVW HR13
     go_wp2_with fail
     refine Calls.mono HMT.out ?_
     rintro e w15 ⟨v2,rfl,hown2,hmk5,hfr5⟩
     rw[<-HL.out]at hown2
     obtain⟨A2,c2,rfl⟩:=hown2.form
     have hown5:=HMK.out.ownF hfr5 HOWN.out
     have HHC:=Lib.hid (has_any A1 c1 L i w15 hown5.rs (by omega))
     rw[HHAS.out]at HHC
     have HB5:=Lib.hid hmk5.below
     have HO1:=Lib.hid hown5
     have HO2:=Lib.hid hown2
     clear hmk5 hfr5 hown5 hown2 HMT HMK
     go_wp2_with fail
     refine Calls.mono HHC.out ?_
     rintro e w16 ⟨rfl,hb6⟩
     have HB6:=Lib.hid (HB5.out.trans (hb6.mono HB5.out.size))
     have HSM:=Lib.hid (same_yes A2 A1 L c2 c1 w16 (Own.below HO2.out hb6).rs (Own.below HO1.out hb6).rs (by omega))
     clear hb6
     go_wp2_with fail
     refine Calls.mono HSM.out ?_
     rintro e w17 ⟨rfl,hb7⟩
     have HB7:=Lib.hid (HB6.out.trans (hb7.mono HB6.out.size))
     clear hb7
     go_wp2
     go_ret
     exact⟨rfl,HB7.out⟩
end Go.Proofs.YtjoiajmbfbjnnaaGreatDoor
