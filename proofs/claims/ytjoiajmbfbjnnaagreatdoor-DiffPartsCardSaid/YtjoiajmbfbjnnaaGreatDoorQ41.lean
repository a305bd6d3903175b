/- Part of this proof. -/
import Derived.Test.YtjoiajmbfbjnnaaGreatDoorQ39
set_option maxRecDepth 100000
set_option maxHeartbeats 8000000
namespace Go.Proofs.YtjoiajmbfbjnnaaGreatDoor
open Go.RowKit Go.Shelf
theorem filter_split{α:Type}{R:α->α->Prop}{p:α->Bool}(hp:∀x y,R x y->p y=true->p x=true):∀l:List α,l.Pairwise R->(l.filter p)++(l.filter fun x=> !p x)=l
 | [],_=>rfl
 |x::r,h=>by
  obtain⟨h1,h2⟩:=List.pairwise_cons.1 h
  have ih:=filter_split hp r h2
  cases hx:p x with
  |true=>rw[List.filter_cons_of_pos hx,List.filter_cons_of_neg (by simp[hx]),List.cons_append,ih]
  |false=>
   have hr:∀y∈r,p y=false:=fun y hy=>by
    cases hy2:p y with
    |false=>rfl
    |true=>have:=hp x y (h1 y hy) hy2;rw[hx]at this;cases this
   rw[List.filter_cons_of_neg (by simp[hx]),List.filter_eq_nil_iff.2 (fun y hy=>by simp[hr y hy]),List.filter_cons_of_pos (by simp[hx]),List.filter_eq_self.2 (fun y hy=>by simp[hr y hy])]
   rfl
theorem lt_nil(k:ByteArray):En.lt k En.nil=false:=by
 unfold En.lt
 rw[show En.nil.toList= []from by rw[Go.Lib.toList_data];rfl]
 cases k.toList<;>rfl
theorem parts_split{W:List Dl}(h:En.Rise W){mid:ByteArray}(hm:mid.toList.isEmpty=false):betD En.nil mid W++betD mid En.nil W=W:=by
 have e1:betD En.nil mid W=W.filter fun x=>En.lt x.key mid:=by
  unfold betD
  congr 1
  funext x
  unfold delD
  rw[lt_nil,hm]
  simp
 have e2:betD mid En.nil W=W.filter fun x=> !En.lt x.key mid:=by
  unfold betD
  congr 1
  funext x
  unfold delD
  rw[show En.nil.toList.isEmpty=true from by rw[Go.Lib.toList_data];rfl]
  simp
 rw[e1,e2]
 exact filter_split (R:=fun x y:Dl=>En.lt x.key y.key=true) (fun x y h1 h2=>En.lt_trans h1 h2) W h
theorem at_low{α:Type}{A B W:List α}(h:A++B=W){k:Nat}(hk:k<A.length)(hw:k<W.length):A[k]=W[k]:=by
 subst h
 rw[List.getElem_append_left hk]
theorem at_high{α:Type}{A B W:List α}(h:A++B=W){k:Nat}(hk:¬k<A.length)(hw:k<W.length):∃h':k-A.length<B.length,B[k-A.length]=W[k]:=by
 subst h
 rw[List.length_append]at hw
 exact⟨by omega,by rw[List.getElem_append_right (by omega)]⟩
end Go.Proofs.YtjoiajmbfbjnnaaGreatDoor
namespace Go.Proofs.YtjoiajmbfbjnnaaGreatDoor
open Go.RowKit Go.Shelf Go.Maps
theorem dparts_any(A1:Option Addr)(c1:Nat)(l1:List Ent)(A2:Option Addr)(c2:Nat)(l2:List Ent)(mid:ByteArray)(w:World)(h1:LS entE w w.heap.size A1 l1)(h2:LS entE w w.heap.size A2 l2)(hT:HT w):
  Calls Tryz.prog 10 #[.slice A1 l1.length c1, .slice A2 l2.length c2, .string mid] w (TrueEnd14 w):=by
 have HW:=Lib.hid (works14_any w)
 have H1:=Lib.hid h1
 have H2:=Lib.hid h2
 have HHT:=Lib.hid hT
 have HO1:=Lib.hid (fun W h=>over14_any A1 l1.length c1 l1 rfl W h)
 have HO2:=Lib.hid (fun W h=>over14_any A2 l2.length c2 l2 rfl W h)
 have HD:=Lib.hid (fun W=>dfresh_any 2000 W)
 rw[show diskN 2000=2000 by decide]at HD
 clear h1 h2 hT
 go_enter Tryz.func10,Tryz.ntmps10
 go_wp2_with fail
 refine Calls.mono HW.out ?_
 rintro e w1 ⟨rfl,b1⟩
 have HB:=Lib.hid b1
 clear b1 HW
 go_wp2_with fail
 refine Calls.mono (HO1.out w1 ((H1.out.below HB.out).more HB.out.size)) ?_
 rintro e w1 ⟨o1,rfl,ho1,rfl⟩
 go_wp2_with fail
 refine Calls.mono (HO2.out w1 ((H2.out.below HB.out).more HB.out.size)) ?_
 rintro e w1 ⟨o2,rfl,ho2,rfl⟩
 clear HO1 HO2
 cases o1 with
 |true=>
  go_wp2
  go_ret
  exact⟨rfl,HB.out⟩
 |false=>
 cases o2 with
 |true=>
  go_wp2
  go_ret
  exact⟨rfl,HB.out⟩
 |false=>
 have hl1:=ho1 rfl
 have hl2:=ho2 rfl
 clear ho1 ho2
 by_cases hf:60<(mid.size:Int)
 ·have hfd:decide (60<(mid.size:Int))=true:=by simpa using hf
  go_wp2
  go_ret
  exact⟨rfl,HB.out⟩
 have hfd:decide (60<(mid.size:Int))=false:=by simpa using hf
 clear hf
 by_cases ht:mid.toList= []
 ·go_wp2
  go_ret
  exact⟨rfl,HB.out⟩
 have hte:mid.toList.isEmpty=false:=by simpa using ht
 go_wp2_with fail
 refine(HD.out _).mono ?_
 rintro e w2 ⟨d,rfl,hd,b2⟩
 have HFF:=Lib.hid (ffresh_any hd b2.size)
 have HB2:=Lib.hid (HB.out.trans (b2.mono HB.out.size))
 have HZ2:=Lib.hid b2.size
 clear hd b2 HD
 go_wp2_with fail
 refine HFF.out.mono ?_
 rintro e w3 ⟨f,rfl,hf,b3⟩
 have hB3:=HB2.out.trans (b3.mono HB2.out.size)
 have HS:Hid (Stg w f d 2000 0 (288*150+(288*150+36000)) noDisk 2 w3):=Lib.hid (stg_start (by decide) (by decide) hf (HHT.out.below hB3 HHT.out.1) HB.out.size HHT.out.1 (Nat.le_trans HZ2.out b3.size) hB3 (by decide))
 have HN:=Lib.hid (stg_new HS.out (by decide))
 have HLN:Hid (∀W,LO entE 34 W w.heap.size (.slice none ([]:List Ent).length 0) []):=Lib.hid fun W=>LO.nil_ _ _
 clear hf b3 hB3 HFF HB2 HZ2 HB HS
 go_wp2_with fail
 refine HN.out.mono ?_
 rintro e w4 ⟨t1,rfl,hbeg,bn⟩
 have HG:=Lib.hid (beg_grown 150 198 0 w.heap.size hbeg (by decide) (Tp.VerAt.none_ noDisk 0) (Nat.le_refl _) none 0 A1 c1 l1 (HLN.out w4) hbeg.below.size H1.out hl1 (Nat.zero_le _) (by decide) (by decide) (by omega))
 clear hbeg bn HN
 go_wp2_with fail
 refine HG.out.mono ?_
 rintro e w5 ⟨r1,P1,k1,Am1,cm1,rfl,hgr,htk1,hP1,hlo,hkp⟩
 obtain⟨m1,hm1⟩:∃z,z=grE [] l1:=⟨_,rfl⟩
 rw[<-hm1]at hgr hlo ⊢
 obtain⟨hri1,hml1⟩:=hgr.right
 have HRI1:=Lib.hid hri1
 have HL1:=Lib.hid hlo
 have HGR:=Lib.hid hgr
 clear hgr hlo hkp HG hm1 hri1
 have HFL:=Lib.hid (grn_flush HGR.out (by decide) (by omega) (by omega))
 clear HGR
 go_wp2_with fail
 refine HFL.out.mono ?_
 rintro e w6 ⟨rfl,dk1,hfl⟩
 replace HL1:=Lib.hid (hfl.keep _ _ _ _ _ _ HL1.out (.inl rfl))
 have HPG:=Lib.hid hfl.pages
 have HST:=Lib.hid hfl.stg
 have HV1:=Lib.hid hfl.ver
 clear hfl HFL
 go_wp2_with fail
 refine HPG.out.mono ?_
 rintro e w6 ⟨rfl,rfl⟩
 clear HPG
 have HN:=Lib.hid (stg_new HST.out (by decide))
 clear HST
 obtain⟨i1,hv1⟩:=HV1.out
 go_wp2_with fail
 refine HN.out.mono ?_
 rintro e w7 ⟨t2,rfl,hbeg,bn⟩
 replace HL1:=Lib.hid (LO.below HL1.out bn)
 have HG:=Lib.hid (beg_grown 150 378 150 w.heap.size hbeg (by decide) hv1 (by omega) Am1 cm1 A2 c2 l2 HL1.out hbeg.below.size H2.out hl2 (by omega) (by decide) (by decide) (by omega))
 clear hbeg bn HN
 go_wp2_with fail
 refine HG.out.mono ?_
 rintro e w8 ⟨r2,P2,k2,Am2,cm2,rfl,hgr,htk2,hP2,hlo,hkp⟩
 obtain⟨m2,hm2⟩:∃z,z=grE m1 l2:=⟨_,rfl⟩
 rw[<-hm2]at hgr hlo ⊢
 obtain⟨hri2,hml2⟩:=hgr.right
 have HRI2:=Lib.hid hri2
 replace HL1:=Lib.hid (hkp _ _ _ _ _ _ HL1.out (.inl rfl))
 have HL2:=Lib.hid hlo
 have HGR:=Lib.hid hgr
 clear hgr hlo hkp HG hm2 hri2
 clear hv1
 have HDF:=Lib.hid (grn_diff (ra:=r1) (rb:=r2) (A:=m1) (Bl:=m2) (ta:=k1) (tb:=k2) HGR.out ⟨by omega,by omega⟩ (.inl HV1.out) (.inr ⟨rfl,rfl,rfl⟩))
 clear HGR
 go_wp2_with fail
 refine HDF.out.mono ?_
 rintro e w9 ⟨B1,q1,rfl,hlo,hgr,hkp,hkd⟩
 have HGR:=Lib.hid hgr
 replace HL1:=Lib.hid (hkp _ _ _ _ _ _ HL1.out (.inl rfl))
 replace HL2:=Lib.hid (hkp _ _ _ _ _ _ HL2.out (.inl rfl))
 obtain⟨d1,hd1⟩:∃z,z=En.mergeD m1 m2:=⟨_,rfl⟩
 rw[<-hd1]at hlo ⊢
 have HXd1:=Lib.hid hd1
 have hnd1:d1.length<=1000:=by rw[hd1];have:=En.merge_len _ m1 m2 (Nat.le_refl _);omega
 have HDd1:=Lib.hid hlo
 clear hlo hgr hkp hkd hd1 HDF
 have HBT:=Lib.hid (grn_between ⟨#[]⟩ mid (ra:=r1) (rb:=r2) (A:=m1) (Bl:=m2) (ta:=k1) (tb:=k2) HGR.out ⟨by omega,by omega⟩ (.inl HV1.out) (.inr ⟨rfl,rfl,rfl⟩))
 rw[<-HXd1.out]at HBT
 clear HGR
 go_wp2_with fail
 refine HBT.out.mono ?_
 rintro e w10 ⟨Bll,qll,rfl,hlo,hgr,hkp,hkd⟩
 have HGR:=Lib.hid hgr
 replace HDd1:=Lib.hid (hkd _ _ _ _ _ HDd1.out (.inl rfl))
 obtain⟨ll,hll⟩:∃z,z=betD ⟨#[]⟩ mid d1:=⟨_,rfl⟩
 rw[<-hll]at hlo ⊢
 have HXll:=Lib.hid hll
 have hnll:ll.length<=1000:=by rw[hll];exact Nat.le_trans (List.length_filter_le _ _) hnd1
 have HDll:=Lib.hid hlo
 clear hlo hgr hkp hkd HBT hll
 have HBT:=Lib.hid (grn_between mid ⟨#[]⟩ (ra:=r1) (rb:=r2) (A:=m1) (Bl:=m2) (ta:=k1) (tb:=k2) HGR.out ⟨by omega,by omega⟩ (.inl HV1.out) (.inr ⟨rfl,rfl,rfl⟩))
 rw[<-HXd1.out]at HBT
 clear HGR
 go_wp2_with fail
 refine HBT.out.mono ?_
 rintro e w11 ⟨Brr,qrr,rfl,hlo,hgr,hkp,hkd⟩
 have HGR:=Lib.hid hgr
 replace HDd1:=Lib.hid (hkd _ _ _ _ _ HDd1.out (.inl rfl))
 replace HDll:=Lib.hid (hkd _ _ _ _ _ HDll.out (.inl rfl))
 obtain⟨rr,hrr⟩:∃z,z=betD mid ⟨#[]⟩ d1:=⟨_,rfl⟩
 rw[<-hrr]at hlo ⊢
 have HXrr:=Lib.hid hrr
 have hnrr:rr.length<=1000:=by rw[hrr];exact Nat.le_trans (List.length_filter_le _ _) hnd1
 have HDrr:=Lib.hid hlo
 clear hlo hgr hkp hkd HBT hrr
 have HBW:=Lib.hid HGR.out.below
 have hsp:ll++rr=d1:=by rw[HXll.out,HXrr.out];exact parts_split (by rw[HXd1.out];exact En.merge_rise _ _ _ (Nat.le_refl _) ((En.right_iff _).1 HRI1.out).2 ((En.right_iff _).1 HRI2.out).2) hte
 have hsl:ll.length+rr.length=d1.length:=by rw[<-hsp,List.length_append]
 have HSP:=Lib.hid hsp
 have hwl:IntKind.i64.wrap ((ll.length:Int)+(rr.length:Int))=(d1.length:Int):=(IntWalk.i64_in _ (by omega)).trans (by omega)
 have HA:=Lib.hid (LO.sv HDd1.out).ls
 have HLo:=Lib.hid (LO.sv HDll.out).ls
 have HHi:=Lib.hid (LO.sv HDrr.out).ls
 clear HGR HV1 H1 H2 HHT HLN HL1 HL2 HRI1 HRI2 HDd1 HDll HDrr HXd1 HXll HXrr hsp
 go_wp2
 obtain⟨we,rfl⟩:∃z,z=w11:=⟨_,rfl⟩
 go_loopg [25] d1.length (fun gg s25 wr=>∃k:Nat,s25= .int .i64 (k:Nat)/\k<=d1.length/\d1.length-k<=gg/\Hid (Below we.heap.size we wr))
 case atStart=>exact⟨0,rfl,Nat.zero_le _,by omega,Lib.hid (Below.refl _ _)⟩
 case round=>
  obtain⟨k,rfl,hkl,hkg,HB⟩:=hrel
  have hwk:IntKind.i64.wrap ((k:Int)+1)=(k:Int)+1:=IntWalk.i64_in _ (by omega)
  have hz:=HB.out.size
  by_cases hk:k<d1.length
  ·have hki:(k:Int)<(d1.length:Nat):=by omega
   obtain⟨b1,o1,rfl,hb1,g0,g1,g2,g3,g4⟩:=(HA.out.below HB.out).dl hk
   have hb1':b1<wr.heap.size:=by omega
   by_cases hlo:k<ll.length
   ·have hloi:(k:Int)<(ll.length:Nat):=by omega
    have hlod:decide ((k:Int)<(ll.length:Nat))=true:=by simpa using hlo
    obtain⟨b2,o2,rfl,hb2,f0,f1,f2,f3,f4⟩:=(HLo.out.below HB.out).dl hlo
    have hb2':b2<wr.heap.size:=by omega
    rw[at_low HSP.out hlo hk]at f0 f1 f2 f3 f4
    generalize d1[k]=x at*
    obtain⟨xk,xo,xn,xw,xi⟩:=x
    simp only at g0 g1 g2 g3 g4 f0 f1 f2 f3 f4
    have hge:¬ (ll.length:Int)<=(k:Int):=by omega
    have hgd:decide ((ll.length:Int)<=(k:Int))=false:=decide_eq_false hge
    have hgm:¬ll.length<=k:=by omega
    have hgn:decide (ll.length<=k)=false:=decide_eq_false hgm
    go_wp2_with fail
    go_quiet (fail)
    have HE:=Lib.hid (below_drewN HB.out nq)
    generalize wr.drewN nq=wq at*
    go_wp2
    go_roundg (d1.length-(k+1))
    case measure=>omega
    case rel=>exact⟨k+1,by go_num,by omega,Nat.le_refl _,HE⟩
   ·have hloi:¬ (k:Int)<(ll.length:Nat):=by omega
    have hlod:decide ((k:Int)<(ll.length:Nat))=false:=by simpa using hlo
    obtain⟨hh,e⟩:=at_high HSP.out hlo hk
    obtain⟨b2,o2,rfl,hb2,f0,f1,f2,f3,f4⟩:=(HHi.out.below HB.out).dl hh
    have hb2':b2<wr.heap.size:=by omega
    rw[e]at f0 f1 f2 f3 f4
    generalize d1[k]=x at*
    obtain⟨xk,xo,xn,xw,xi⟩:=x
    simp only at g0 g1 g2 g3 g4 f0 f1 f2 f3 f4
    have hge:(ll.length:Int)<=(k:Int):=by omega
    have hgd:decide ((ll.length:Int)<=(k:Int))=true:=decide_eq_true hge
    have hws:IntKind.i64.wrap ((k:Int)-(ll.length:Int))=((k-ll.length:Nat):Int):=(IntWalk.i64_in _ (by omega)).trans (by omega)
    have hhi:((k-ll.length:Nat):Int)<(rr.length:Nat):=by omega
    clear e
    go_wp2_with fail
    go_quiet (fail)
    have HE:=Lib.hid (below_drewN HB.out nq)
    generalize wr.drewN nq=wq at*
    go_wp2
    go_roundg (d1.length-(k+1))
    case measure=>omega
    case rel=>exact⟨k+1,by go_num,by omega,Nat.le_refl _,HE⟩
  ·obtain rfl:k=d1.length:=by omega
   have hki:¬ (d1.length:Int)<(d1.length:Nat):=by omega
   have HE:=Lib.hid (HBW.out.trans (HB.out.mono HBW.out.size))
   go_wp2
   go_ret
   exact⟨rfl,HE.out⟩
end Go.Proofs.YtjoiajmbfbjnnaaGreatDoor
