/- Part of this proof. -/
import Derived.LaidMore
import Derived.Lay
import Derived.OpenShut
import Derived.Test.YtjoiajmbfbjnnaaGreatDoorM35
import Derived.Test.YtjoiajmbfbjnnaaGreatDoorRows
set_option maxRecDepth 100000
set_option maxHeartbeats 8000000
namespace Go.Proofs.YtjoiajmbfbjnnaaGreatDoor
open Go.RowKit Go.Shelf Go.Maps
def pq(i:Nat):Int:=2+36*(i:Int)*((i:Int)+1)+18*(i:Int)
theorem pq_step{i:Nat}(h:i<8):pq i+(72*i+90:Nat)=pq (i+1)/\pq (i+1)<=2738:=by
 have:i=0\/i=1\/i=2\/i=3\/i=4\/i=5\/i=6\/i=7:=by omega
 rcases this with rfl | rfl | rfl | rfl | rfl | rfl | rfl | rfl<;>decide
theorem Beg.cast{w0 W:World}{f0 d0 n N r r' t:Nat}{disk:Tp.Disk}{P:Int}(h:Beg w0 f0 d0 n N r t disk P W)(e:r'=r):Beg w0 f0 d0 n N r' t disk P W:=by rw[e];exact h
structure OutM(w0:World)(f0 d0 i:Nat)(P root:Int)(rs:List Int)(Ar:Option Addr)(cr:Nat)(W:World):Prop where
 ex:∃disk N es tok ids,Stg w0 f0 d0 3000 N (100000+(8-i)*20000) disk P W/\N<=600*i/\Tp.VerAt disk root es tok ids/\tok<=60*i/\∀x∈rs,∃es' tok' ids',Tp.VerAt disk x es' tok' ids'/\tok'<=480
 p:P<=pq i
 len:rs.length<=i
 row:LO intE 3 W w0.heap.size (.slice Ar rs.length cr) rs
theorem mtr_main(A:Option Addr)(c:Nat)(rl:List Sl)(fl:List (List Ent))(Ap:Option Addr)(cp:Nat)(pl:List Bool)(w:World)(hr:LS slE w w.heap.size A rl)(hlen:fl.length=rl.length)(hx:∀i (h1:i<rl.length) (h2:i<fl.length),fl[i].length=rl[i].2.1/\LS entE w w.heap.size rl[i].1 fl[i])(hp:LS boolE w w.heap.size Ap pl)(hT:HT w):
  Calls Tryz.prog 4 #[.slice A rl.length c, .slice Ap pl.length cp] w (TrueEnd21 w):=by
 have HW:=Lib.hid (works21_any w hT)
 have HOV:=Lib.hid (fun W (hb:Below w.heap.size w W)=>over21_any A c rl fl W ((hr.below hb).more hb.size) hlen (fun i h1 h2=>⟨(hx i h1 h2).1,((hx i h1 h2).2.below hb).more hb.size⟩))
 have HRS:=Lib.hid hr
 have HRL:=Lib.hid hx
 have HPL:=Lib.hid hp
 have HHT:=Lib.hid hT
 have HD:=Lib.hid (fun W=>dfresh_any 3000 W)
 rw[show diskN 3000=3000 by decide]at HD
 clear hr hx hT hp
 go_enter Tryz.func4,Tryz.ntmps4
 go_wp2_with fail
 refine Calls.mono HW.out ?_
 rintro e w1 ⟨rfl,b1⟩
 have HB:=Lib.hid b1
 clear b1 HW
 go_wp2_with fail
 refine(HOV.out _ HB.out).mono ?_
 rintro e w1' ⟨b,rfl,hw1,hbf⟩
 subst hw1
 cases b with
 |true=>
  go_wp2
  go_ret
  exact⟨rfl,HB.out⟩
 |false=>
  obtain⟨h8,h60⟩:=hbf rfl
  have H60:=Lib.hid h60
  clear hbf h60 HOV
  by_cases hpl:20<pl.length
  ·have hpi:(20:Int)<(pl.length:Nat):=by omega
   go_wp2
   go_ret
   exact⟨rfl,HB.out⟩
  ·have hpi:¬ (20:Int)<(pl.length:Nat):=by omega
   go_wp2_with fail
   refine(HD.out _).mono ?_
   rintro e w2 ⟨d,rfl,hd,b2⟩
   have HFF:=Lib.hid (ffresh_any hd b2.size)
   have HB2:=Lib.hid (HB.out.trans (b2.mono HB.out.size))
   have HZ2:=Lib.hid b2.size
   clear hd b2 HD
   go_wp2_with fail
   refine HFF.out.mono ?_
   rintro e w3 ⟨f,rfl,hf,b3⟩
   have hB3:=HB2.out.trans (b3.mono HB2.out.size)
   have HS0:Hid (OutM w f d 0 2 0 [] none 0 w3):=Lib.hid ⟨⟨noDisk,0, [],0, [],stg_start (by decide) (by decide) hf (HHT.out.below hB3 HHT.out.1) HB.out.size HHT.out.1 (Nat.le_trans HZ2.out b3.size) hB3 (by decide),Nat.le_refl _,Tp.VerAt.none_ _ _,Nat.le_refl _,fun x hx=>absurd hx List.not_mem_nil⟩,by decide,Nat.le_refl _,LO.nil_ _ _⟩
   clear hf b3 hB3 HFF HZ2 HB2 HB
   go_wp2
   go_loopg [9,10,11,12] rl.length (fun gg s9 s10 s11 s12 wr=>∃ (i:Nat) (P root:Int) (rs:List Int) (Ar:Option Addr) (cr:Nat),s9= .slice Ar rs.length cr/\s10= .int .i64 P/\s11= .int .i64 root/\s12= .int .i64 (i:Nat)/\i<=rl.length/\rl.length-i<=gg/\Hid (OutM w f d i P root rs Ar cr wr))
   case atStart=>exact⟨0,2,0, [],none,0,rfl,rfl,rfl,rfl,Nat.zero_le _,by omega,HS0⟩
   case round=>
    clear HS0
    obtain⟨i,P,root,rs,Ar,cr,rfl,rfl,rfl,rfl,hil,hig,HS⟩:=hrel
    have hwi:IntKind.i64.wrap ((i:Int)+1)=(i:Int)+1:=IntWalk.i64_in _ (by omega)
    by_cases hi:i<rl.length
    ·have hii:(i:Int)<(rl.length:Nat):=by omega
     have hif:i<fl.length:=by omega
     obtain⟨e1,e2⟩:=HRL.out i hi hif
     have hl60:=H60.out i hi
     obtain⟨bb,oo,rfl,hbb,g00⟩:=HRS.out.sl hi
     obtain⟨⟨disk,N,es,tok,ids,hst,hN,hver,htok,hrs⟩,hpp,hlr,hrow⟩:=HS.out
     have hbl:=hst.below
     generalize fl[i]=li at*
     generalize rl[i]=sl at*
     obtain⟨Ai,ni,ci⟩:=sl
     simp only at e1 e2 g00 hl60
     subst e1
     have hi8:i<8:=by omega
     have hps:=pq_step hi8
     have HLI:=Lib.hid e2
     have HG0:=Lib.hid g00
     have HNW:=Lib.hid (stg_new hst (by omega))
     have HVER:=Lib.hid hver
     have HRST:=Lib.hid hrs
     have HROW:=Lib.hid hrow
     clear hst hver hrs hrow HS e2 g00 hbl
     go_wp2_with fail
     refine Calls.mono HNW.out ?_
     rintro e w4 ⟨t,rfl,hbg,b4⟩
     have HTR:=Lib.hid (beg_tree (K:=60) (R0:=100000+(7-i)*20000+2720) (D:=72*i+90) (T:=60*i) (Beg.cast hbg (by omega)) (by decide) HVER.out htok (by omega) (by omega))
     have HROW4:=Lib.hid (HROW.out.below b4)
     clear hbg b4 HNW HROW
     go_wp2_with fail
     refine Calls.mono HTR.out ?_
     rintro e w5 ⟨u,rfl,hg5,b5,hu5⟩
     have HROW5:=Lib.hid (HROW4.out.below b5)
     obtain⟨b0,hb0⟩:∃b,b=w5.heap.size:=⟨_,rfl⟩
     rw[<-hb0]at hg5
     have HI0:=Lib.hid hg5
     clear hg5 b5 hu5 HTR HROW4 hb0
     go_wp2
     go_loopg [15] li.length (fun ga s15 wr=>∃ (k:Nat) (es:List Ent),s15= .int .i64 (k:Nat)/\k<=li.length/\li.length-k<=ga/\Hid (Gng w f d 3000 N t u disk P (72*i+90) (60*i) 60 k b0 (100000+(7-i)*20000+2720) es wr)/\Hid (LO intE 3 wr w.heap.size (.slice Ar rs.length cr) rs))
     case atStart=>exact⟨0,es,rfl,Nat.zero_le _,by omega,HI0,HROW5⟩
     case round=>
      clear HI0 HROW5
      obtain⟨k,es,rfl,hkl,hkg,HI,HROW⟩:=hrel
      have hwk:IntKind.i64.wrap ((k:Int)+1)=(k:Int)+1:=IntWalk.i64_in _ (by omega)
      have hbl:=HI.out.below
      have g0:=(hbl.cell (p:=⟨bb,oo+i,none⟩) hbb).trans HG0.out
      have hbz:bb<wr.heap.size:=Nat.lt_of_lt_of_le hbb hbl.size
      by_cases hk:k<li.length
      ·have hki:(k:Int)<(li.length:Nat):=by omega
       obtain⟨ba,oa,rfl,hba,k1,k2⟩:=(HLI.out.below hbl).ent hk
       have hbaz:ba<wr.heap.size:=Nat.lt_of_lt_of_le hba hbl.size
       generalize li[k]=x at*
       obtain⟨s,v⟩:=x
       simp only at k1 k2
       have hbA:Below wr.heap.size wr (wr.alloc (.cells #[.string s, .string v] 34)):=(Below.refl _ wr).alloc (Nat.le_refl _) _
       have hXA:=Blk.new wr 34 #[.string s, .string v]
       have HIA:=Lib.hid (HI.out.up hbA)
       have HROWA:=Lib.hid (HROW.out.below hbA)
       have hgb:b0<=wr.heap.size:=HI.out.hb
       have y0:(wr.alloc (.cells #[.string s, .string v] 34)).cell? ⟨wr.heap.size,0,none⟩=some (.string s):=hXA.cell 0
       have y1:(wr.alloc (.cells #[.string s, .string v] 34)).cell? ⟨wr.heap.size,1,none⟩=some (.string v):=hXA.cell 1
       have yl:=hXA.lt
       have HXA:=Lib.hid hXA
       clear hXA hbA HI HROW hba hbl
       have hk60:k<60:=by omega
       have hma:=fun W=>may_any s v W
       cases hm:En.may s v with
       |false=>
        as_aux_lemma=>
        rw[hm]at hma
        have HMAY:=Lib.hid hma
        have HE:=Lib.hid HIA.out.skip
        clear hma hm HIA
        go_wp2_with fail
        refine(HMAY.out _).mono ?_
        rintro e wA ⟨rfl,hwA⟩
        subst hwA
        go_wp2
        go_roundg (li.length-(k+1))
        case measure=>omega
        case rel=>exact⟨k+1,es,by go_num,by omega,Nat.le_refl _,HE,HROWA⟩
       |true=>
        as_aux_lemma=>
        rw[hm]at hma
        have HMAY:=Lib.hid hma
        have HP:=Lib.hid (gng_put HIA.out hk60 (by omega) (by omega) hm)
        clear hma hm
        go_wp2_with fail
        refine(HMAY.out _).mono ?_
        rintro e wA ⟨rfl,hwA⟩
        subst hwA
        clear HMAY
        go_wp2_with fail
        refine HP.out.mono ?_
        rintro e w6 ⟨rfl,h6,kp6,_⟩
        have HI6:=Lib.hid h6
        have HROW6:=Lib.hid (kp6 _ _ _ _ _ _ HROWA.out (.inr (.inl rfl)))
        clear h6 kp6 HP
        go_wp2
        go_roundg (li.length-(k+1))
        case measure=>omega
        case rel=>exact⟨k+1,_,by go_num,by omega,Nat.le_refl _,HI6,HROW6⟩
      ·obtain rfl:k=li.length:=by omega
       have hki:¬ (li.length:Int)<(li.length:Nat):=by omega
       have HFL:=Lib.hid (gng_flush HI.out (by omega) (by omega) (by omega))
       clear hbl HI
       go_wp2_with fail
       refine HFL.out.mono ?_
       rintro e w6 ⟨rfl,disk',root',P',tok',hfe,htk,hpp',hrt⟩
       have HRT:=Lib.hid hrt
       have HPAG:=Lib.hid hfe.pages
       have hstg:=hfe.stg
       have HROW6:=Lib.hid (hfe.keep _ _ _ _ _ _ HROW.out (.inr (.inl rfl)))
       have HOLD:Hid (∀x∈rs,∃es' tok' ids',Tp.VerAt disk' x es' tok' ids'/\tok'<=480):=Lib.hid fun x hx=>by
        obtain⟨a,b,c,q1,q2⟩:=HRST.out x hx
        exact⟨a,b,c,hfe.old _ _ _ _ q1,q2⟩
       have HNEW:Hid (∃es' ids',Tp.VerAt disk' root' es' tok' ids'):=Lib.hid (by obtain⟨ids',h⟩:=hfe.ver;exact⟨_,ids',h⟩)
       have HSTG:=Lib.hid hstg
       clear hfe hrt hstg HFL HRST HROW HVER
       go_wp2_with fail
       refine HRT.out.mono ?_
       rintro e w7 ⟨rfl,hw7⟩
       obtain rfl:=hw7
       go_wp2_with fail
       refine HPAG.out.mono ?_
       rintro e w8 ⟨rfl,hw8⟩
       obtain rfl:=hw8
       clear HRT HPAG
       have h0w:0<w.heap.size:=HHT.out.1
       have hP2:P'<=pq (i+1):=by have:=hps.1;omega
       have HEX:Hid (∃es' ids',Stg w f d 3000 (N+600) (100000+(7-i)*20000+2720) disk' P' w8/\Tp.VerAt disk' root' es' tok' ids'):=Lib.hid (by obtain⟨a,b,q⟩:=HNEW.out;exact⟨a,b,HSTG.out,q⟩)
       have hbw:w.heap.size<=w8.heap.size:=HSTG.out.below.size
       have hraw:w8.ownsRow w.heap.size 3 1 (.slice Ar rs.length cr) rs.length (intE.cells rs):=HROW6.out
       have HAPP:Hid (∀A9 c9 w9,w9.ownsRow w.heap.size 3 1 (.slice A9 (rs.length+1) c9) (rs.length+1) (intE.cells rs++(#[Value.int .i64 root']).toList)->w8.grownBy w9 (Value.slice Ar rs.length cr).ownBlock->OutM w f d (i+1) P' root' (rs++ [root']) A9 c9 w9):=Lib.hid fun A9 c9 w9 ho hg=>by
        obtain⟨es',ids',q1,q2⟩:=HEX.out
        refine⟨⟨disk',N+600,es',tok',ids',(q1.row HROW6.out (Nat.le_refl _) h0w hg).less (by omega),by omega,q2,by omega,fun x hx=> ?_⟩,hP2,by simp;omega, ?_⟩
        ·rcases List.mem_append.1 hx with hx | hx
         ·exact HOLD.out x hx
         ·rw[List.mem_singleton.1 hx];exact⟨es',tok',ids',q2,by omega⟩
        ·have hrl9:(rs++ [root']).length=rs.length+1:=by simp
         rw[hrl9]
         exact LO.snoc rfl rfl rfl ho
       have HSKIP:Hid (OutM w f d (i+1) P' root' rs Ar cr w8):=Lib.hid (by
        obtain⟨es',ids',q1,q2⟩:=HEX.out
        exact⟨⟨disk',N+600,es',tok',ids',q1.less (by omega),by omega,q2,by omega,HOLD.out⟩,hP2,by omega,HROW6.out⟩)
       have hbl8:=HSTG.out.below
       by_cases hip:pl.length<=i
       ·have hipi:((pl.length:Nat):Int)<=(i:Int):=by omega
        clear hbl8 HSKIP HEX
        go_wp2_with (at_builtin;refine wpList_app1 rfl _ _ 29 rfl eiInt Tryz.underlying29 rfl (by decide) rfl hraw rfl (by simp) rfl (by simp[Value.oneCell']) (by unfold maxLen;omega) (by omega) hbw ?_;intro v' w9 hown' hgrow hbel hob9 _)
        obtain⟨A9,c9,rfl⟩:=own_form hown'
        have HS9:Hid (OutM w f d (i+1) P' root' (rs++ [root']) A9 c9 w9):=Lib.hid (HAPP.out A9 c9 w9 hown' hgrow)
        have hrl9:(rs++ [root']).length=rs.length+1:=by simp
        clear hown' hgrow hbel hob9 HAPP
        go_wp2
        go_roundg (rl.length-(i+1))
        case measure=>omega
        case rel=>exact⟨i+1,P',root',rs++ [root'],A9,c9,by rw[hrl9],rfl,rfl,by go_num,by omega,Nat.le_refl _,HS9⟩
       ·have hipi:¬ ((pl.length:Nat):Int)<=(i:Int):=by omega
        have hipl:i<pl.length:=by omega
        obtain⟨bp,op,rfl,hbp,hcp⟩:=HPL.out.at_ hipl
        have p0:=(hbl8.cell (p:=⟨bp,op+i*boolE.size+0,none⟩) hbp).trans (hcp 0 (by decide))
        have e0:op+i*boolE.size+0=op+i:=by show op+i*1+0=op+i;omega
        rw[e0]at p0
        have p1:w8.cell? ⟨bp,op+i,none⟩=some (.bool pl[i]):=p0
        clear p0 e0 hcp
        cases hpi:pl[i]with
        |true=>
         rw[hpi]at p1
         clear hbl8 HSKIP HEX
         go_wp2_with (at_builtin;refine wpList_app1 rfl _ _ 29 rfl eiInt Tryz.underlying29 rfl (by decide) rfl hraw rfl (by simp) rfl (by simp[Value.oneCell']) (by unfold maxLen;omega) (by omega) hbw ?_;intro v' w9 hown' hgrow hbel hob9 _)
         obtain⟨A9,c9,rfl⟩:=own_form hown'
         have HS9:Hid (OutM w f d (i+1) P' root' (rs++ [root']) A9 c9 w9):=Lib.hid (HAPP.out A9 c9 w9 hown' hgrow)
         have hrl9:(rs++ [root']).length=rs.length+1:=by simp
         clear hown' hgrow hbel hob9 HAPP
         go_wp2
         go_roundg (rl.length-(i+1))
         case measure=>omega
         case rel=>exact⟨i+1,P',root',rs++ [root'],A9,c9,by rw[hrl9],rfl,rfl,by go_num,by omega,Nat.le_refl _,HS9⟩
        |false=>
         rw[hpi]at p1
         clear hbl8 HAPP HEX
         go_wp2
         go_roundg (rl.length-(i+1))
         case measure=>omega
         case rel=>exact⟨i+1,P',root',rs,Ar,cr,rfl,rfl,rfl,by go_num,by omega,Nat.le_refl _,HSKIP⟩
    ·obtain rfl:i=rl.length:=by omega
     have hii:¬ (rl.length:Int)<(rl.length:Nat):=by omega
     obtain⟨⟨disk,N,es0,tok0,ids0,hst,hN,_,_,hrs⟩,hpp,hlr,hrow⟩:=HS.out
     have HNW:=Lib.hid (stg_new (hst.less (r':=20000+8*10000) (by omega)) (by omega))
     have HRST:=Lib.hid hrs
     have HROW:=Lib.hid hrow
     have hps:pq rl.length<=2738:=by
      have:rl.length=0\/rl.length=1\/rl.length=2\/rl.length=3\/rl.length=4\/rl.length=5\/rl.length=6\/rl.length=7\/rl.length=8:=by omega
      rcases this with e | e | e | e | e | e | e | e | e<;>rw[e]<;>decide
     have h0w:0<w.heap.size:=HHT.out.1
     have hrl8:rs.length<=8:=by omega
     clear hst hrs hrow HS HRL HRS HPL H60 HHT
     go_wp2_with fail
     refine Calls.mono HNW.out ?_
     rintro e w4 ⟨t,rfl,hbg,b4⟩
     have HB0:Hid (Beg w f d 3000 N (20000+(8-0)*10000) t disk P w4):=Lib.hid hbg
     have HR0:=Lib.hid (HROW.out.below b4)
     have HA0:Hid (AllOf disk (rs.take 0) []):=Lib.hid (AllOf.nil _)
     obtain⟨ba,hba⟩:∃b,b=w4.heap.size:=⟨_,rfl⟩
     have HLT:Hid (∀g,(Value.slice Ar rs.length cr).ownBlock=some g->g<ba):=Lib.hid fun g hg=>by rw[hba];exact(World.ownsRow.lt HR0.out g hg).2
     have hba0:ba<=w4.heap.size:=Nat.le_of_eq hba
     have hdba:d<ba:=by
      obtain⟨_,_,_,q,_⟩:=beg_rd HB0.out
      rw[hba]
      exact q.2
     have hbaw:w.heap.size<=ba:=by rw[hba];exact HB0.out.below.size
     clear hbg b4 HNW HROW hba
     go_wp2
     go_loopg [19,20] rs.length (fun gg s19 s20 wr=>∃ (i:Nat) (all:List Int) (Aa:Option Addr) (ca:Nat),s19= .slice Aa all.length ca/\s20= .int .i64 (i:Nat)/\i<=rs.length/\rs.length-i<=gg/\all.length<=600*i/\Hid (Beg w f d 3000 N (20000+(8-i)*10000) t disk P wr)/\Hid (LO intE 3 wr w.heap.size (.slice Ar rs.length cr) rs)/\Hid (LO intE 3 wr ba (.slice Aa all.length ca) all)/\Hid (AllOf disk (rs.take i) all)/\ba<=wr.heap.size)
     case atStart=>exact⟨0, [],none,0,rfl,rfl,Nat.zero_le _,by omega,Nat.zero_le _,HB0,HR0,Lib.hid (LO.nil_ _ _),HA0,hba0⟩
     case round=>
      clear HB0 HR0 HA0 hba0
      obtain⟨i,all,Aa,ca,rfl,rfl,hil,hig,hal,HBG,HR,HAR,HALL,hbr⟩:=hrel
      have hwi:IntKind.i64.wrap ((i:Int)+1)=(i:Int)+1:=IntWalk.i64_in _ (by omega)
      by_cases hi:i<rs.length
      ·have hii2:(i:Int)<(rs.length:Nat):=by omega
       obtain⟨bb,oo,rfl,hbb,hc⟩:=HR.out.ls.at_ hi
       have g0:=hc 0 (by decide)
       have e0:oo+i*intE.size+0=oo+i:=by show oo+i*1+0=oo+i;omega
       rw[e0]at g0
       have g1:wr.cell? ⟨bb,oo+i,none⟩=some (.int .i64 rs[i]):=g0
       obtain⟨es',tok',ids',hv,htk⟩:=HRST.out rs[i] (List.getElem_mem hi)
       have hfew:=ver_few hv
       have HTK:=Lib.hid (HALL.out.snoc hv)
       have htake:=List.take_succ_eq_append_getElem hi
       rw[<-htake]at HTK
       have HOP:=Lib.hid (beg_open (HBG.out.less (r':=20000+(8-(i+1))*10000+2*ids'.length) (by omega)) (by decide) hv (by omega))
       clear g0 e0 hc htake hv HBG HALL
       generalize rs[i]=root at*
       go_wp2_with fail
       refine Calls.mono HOP.out ?_
       rintro e w5 ⟨u,rfl,hbk,b5⟩
       have HWK:=Lib.hid (bwk_walk hbk)
       have HR5:=Lib.hid (HR.out.below b5)
       have HAR5:=Lib.hid (HAR.out.below b5)
       have hbr5:ba<=w5.heap.size:=Nat.le_trans hbr b5.size
       clear hbk b5 HOP HR HAR
       go_wp2_with fail
       refine Calls.mono HWK.out ?_
       rintro e w6 ⟨Ax,cx,xs,rfl,hpg,hxi,hbg6,hkp,hz6⟩
       have HBG6:=Lib.hid hbg6
       have HR6:=Lib.hid (hkp _ _ _ _ _ _ HR5.out (.inr (.inl rfl)))
       have HAR6:=Lib.hid (hkp _ _ _ _ _ _ HAR5.out (.inr (.inl rfl)))
       have HPG:=Lib.hid hpg
       have hxl:xs.length=ids'.length:=by rw[<-hxi,List.length_map]
       have HXI:=Lib.hid hxi
       clear hpg hxi hbg6 hkp HWK HR5 HAR5
       obtain⟨b5,hb5⟩:∃b,b=w5.heap.size:=⟨_,rfl⟩
       rw[<-hb5]at HPG
       have hbr6:ba<=w6.heap.size:=Nat.le_trans hbr5 hz6
       clear hb5 hz6 hbr hbr5
       go_wp2
       go_loopg [19,23] xs.length (fun ga s19 s23 wr=>∃ (j:Nat) (Aa:Option Addr) (ca:Nat),s19= .slice Aa (all.length+j) ca/\s23= .int .i64 (j:Nat)/\j<=xs.length/\xs.length-j<=ga/\Hid (Beg w f d 3000 N (20000+(8-(i+1))*10000) t disk P wr)/\Hid (LO intE 3 wr w.heap.size (.slice (some ⟨bb,oo,none⟩) rs.length cr) rs)/\Hid (LO intE 3 wr ba (.slice Aa (all.length+j) ca) (all++(xs.map (·.id)).take j))/\Hid (LO pgE 60 wr b5 (.slice Ax xs.length cx) xs)/\ba<=wr.heap.size)
       case atStart=>exact⟨0,Aa,ca,rfl,rfl,Nat.zero_le _,by omega,HBG6,HR6,Lib.hid (by rw[List.take_zero,List.append_nil];exact HAR6.out),HPG,hbr6⟩
       case round=>
        clear HBG6 HR6 HAR6 HPG hbr6
        obtain⟨j,Aa,ca,rfl,rfl,hjl,hjg,HBG,HR,HAR,HPG,hbr⟩:=hrel
        have hwj:IntKind.i64.wrap ((j:Int)+1)=(j:Int)+1:=IntWalk.i64_in _ (by omega)
        by_cases hj:j<xs.length
        ·have hji:(j:Int)<(xs.length:Nat):=by omega
         obtain⟨bp,op,rfl,hbp,hcp⟩:=HPG.out.ls.at_ hj
         have p0:=hcp 0 (by decide)
         have e0:op+j*pgE.size+0=op+j*6:=by show op+j*6+0=op+j*6;omega
         rw[e0]at p0
         have p1:wr.cell? ⟨bp,op+j*6,none⟩=some (.int .i64 xs[j].id):=p0
         have htk:(xs.map (·.id)).take (j+1)=(xs.map (·.id)).take j++ [xs[j].id]:=by
          rw[List.take_succ_eq_append_getElem (by simpa using hj),List.getElem_map]
         have HTJ:=Lib.hid htk
         have hlen:(all++(xs.map (·.id)).take j).length=all.length+j:=by simp;omega
         have hraw:wr.ownsRow ba 3 1 (.slice Aa (all.length+j) ca) (all.length+j) (intE.cells (all++(xs.map (·.id)).take j)):=by
          have h:=HAR.out
          unfold LO at h
          rw[hlen]at h
          exact h
         have HLEN:=Lib.hid hlen
         clear p0 e0 hcp htk hlen
         generalize xs[j].id=y at*
         go_wp2_with (at_builtin;refine wpList_app1 rfl _ _ 29 rfl eiInt Tryz.underlying29 rfl (by decide) rfl hraw rfl (by simp) rfl (by simp[Value.oneCell']) (by unfold maxLen;omega) (by omega) hbr ?_;intro v' w9 hown' hgrow hbel hob9 _)
         obtain⟨A9,c9,rfl⟩:=own_form hown'
         have HB9:=Lib.hid (HBG.out.row HAR.out hbaw h0w hgrow)
         have HR9:Hid (LO intE 3 w9 w.heap.size (.slice (some ⟨bb,oo,none⟩) rs.length cr) rs):=Lib.hid (HR.out.frB (Fr.of_grown hgrow) (fun g hg hS=>by
          have:=HLT.out g hg
          have:=(World.ownsRow.lt hraw g hS).1
          omega))
         have HAR9:Hid (LO intE 3 w9 ba (.slice A9 (all.length+(j+1)) c9) (all++(xs.map (·.id)).take (j+1))):=Lib.hid (by
          rw[HTJ.out, <-List.append_assoc]
          exact LO.snoc HLEN.out rfl rfl hown')
         have HPG9:=Lib.hid (HPG.out.row2 hraw (by decide) hgrow)
         have hbr9:ba<=w9.heap.size:=Nat.le_trans hbr hgrow.size
         clear hown' hgrow hbel hob9 HBG HR HAR HPG hraw
         go_wp2
         go_roundg (xs.length-(j+1))
         case measure=>omega
         case rel=>exact⟨j+1,A9,c9,by go_num,by go_num,by omega,Nat.le_refl _,HB9,HR9,HAR9,HPG9,hbr9⟩
        ·obtain rfl:j=xs.length:=by omega
         have hji:¬ (xs.length:Int)<(xs.length:Nat):=by omega
         have hll:(all++ids').length=all.length+xs.length:=by rw[List.length_append,hxl]
         have HAR9:Hid (LO intE 3 wr ba (.slice Aa (all++ids').length ca) (all++ids')):=Lib.hid (by
          have h:=HAR.out
          rw[HXI.out,List.take_of_length_le (by omega)]at h
          rw[hll]
          exact h)
         go_wp2
         go_roundg (rs.length-(i+1))
         case measure=>omega
         case rel=>exact⟨i+1,all++ids',Aa,ca,by simp,by go_num,by omega,Nat.le_refl _,by simp only[List.length_append];omega,HBG,HR,HAR9,HTK,hbr⟩
      ·obtain rfl:i=rs.length:=by omega
       have hii2:¬ (rs.length:Int)<(rs.length:Nat):=by omega
       obtain⟨R,hR0,hR1,hRd,hwd⟩:=beg_rd HBG.out
       have hall:=HALL.out
       rw[List.take_of_length_le (Nat.le_refl _)]at hall
       have HRD:=Lib.hid (reads_any hRd)
       have HTR:=Lib.hid (beg_mark HBG.out (by decide) hall (by omega) ⟨by omega,by omega⟩ Ar cr HR.out.ls R hRd)
       have HBW:=Lib.hid HBG.out.below
       clear hRd hall HBG HALL HRST HLT HR
       go_wp2_with fail
       refine Calls.mono HRD.out ?_
       rintro e wq ⟨rfl,hwq⟩
       obtain rfl:=hwq
       go_wp2_with fail
       refine Calls.mono HTR.out ?_
       rintro e w6 ⟨v,out,R',rfl,hown,hnd,hmem,hbd,hrd6,hR2,hR3,hf6⟩
       obtain⟨A6,c6,rfl⟩:=hown.form
       have hol:out.length<=4800:=by
        have:=List.Nodup.length_le_of_subset hnd (fun x hx=>(hmem x).1 hx)
        omega
       have hcnt:=count_runs hnd hbd
       have heq:=norm_runs hmem
       have HAR6:=Lib.hid (HAR.out.frB hf6 (fun g hg e=>by have:=(World.ownsRow.lt HAR.out g hg).1;omega))
       have HB6:=Lib.hid (HBW.out.trans (hf6.low HBW.out.size (fun k hk=>by omega)))
       have HRU:=Lib.hid (rruns_any Aa ca all w6 HAR6.out.ls (by omega))
       rw[<-heq]at HRU
       have hL:=norm_len (out.map runOf)
       rw[List.length_map]at hL
       have HOWN:=Lib.hid hown
       have HRD6:=Lib.hid hrd6
       have HCN:=Lib.hid hcnt
       clear hown hnd hmem hbd hrd6 hf6 hcnt heq HTR HRD HAR HBW
       generalize Rp.norm (out.map runOf)=L at*
       go_wp2_with fail
       refine Calls.mono HRU.out ?_
       rintro e w7 ⟨v7,rfl,ho7,hb7⟩
       obtain⟨A7,c7,rfl⟩:=ho7.form
       have HSM:=Lib.hid (same_yes A6 A7 L c6 c7 w7 (HOWN.out.below hb7).rs ho7.rs (by omega))
       have HO7:=Lib.hid ho7
       have HRD7:=Lib.hid (HRD6.out.below hb7)
       have HB7:=Lib.hid (HB6.out.trans (hb7.mono HB6.out.size))
       clear ho7 hb7 HRU HOWN HRD6 HB6 HAR6
       go_wp2_with fail
       refine Calls.mono HSM.out ?_
       rintro e w8 ⟨rfl,hb8⟩
       have HRD8:=Lib.hid (reads_any (HRD7.out.below hb8))
       have HCT:=Lib.hid (count_any A7 c7 L w8 (HO7.out.below hb8).rs (by omega))
       rw[HCN.out]at HCT
       have HB8:=Lib.hid (HB7.out.trans (hb8.mono HB7.out.size))
       have hw1:IntKind.i64.wrap (R'-R)=R'-R:=IntWalk.i64_in _ (by omega)
       have hw2:IntKind.i64.wrap (2*(out.length:Int))=2*(out.length:Int):=IntWalk.i64_in _ (by omega)
       have hle:R'-R<=2*(out.length:Int):=by omega
       clear hb8 HSM HO7 HRD7 HB7 HCN
       go_wp2_with fail
       refine Calls.mono HRD8.out ?_
       rintro e wq ⟨rfl,hwq⟩
       obtain rfl:=hwq
       go_wp2_with fail
       refine Calls.mono HCT.out ?_
       rintro e w9 ⟨rfl,hb9⟩
       have HB9:=Lib.hid (HB8.out.trans (hb9.mono HB8.out.size))
       clear hb9
       go_wp2
       go_ret
       exact⟨rfl,HB9.out⟩
end Go.Proofs.YtjoiajmbfbjnnaaGreatDoor
namespace Go.Proofs.YtjoiajmbfbjnnaaGreatDoor
open Go.ChangeShapes Go.WideShapes Go.ChangeAt Go.RowKit
def laid3:List (String × DataW Unit):= [("rootstock/crc.halves",Rows.laid_rootstock_crc_halves),("unicode/utf8.acceptRanges",Rows.laid_unicode_utf8_acceptRanges),("unicode/utf8.first",Rows.laid_unicode_utf8_first)]
theorem halves_hv:(Rows.laid_rootstock_crc_halves:DataW Unit)= .agg (Cc.hv.map fun n:Nat=> .lit (.int .u32 (n:Int))):=by kernel_rfl
theorem ht_of{W:World}(h:laidMetH Tryz.prog laid3 W):HT W:=by
 rw[MakeChecks.laidMetH_plain _ _ _ (by kernel_rfl)]at h
 obtain⟨ps,⟨g,t,cs,fuel,p,q,hg,ht,hv,hd,_,_⟩,_⟩:=h
 obtain rfl:=Option.some.inj ((show Tryz.prog.globalNamed "rootstock/crc.halves" =some 0 by kernel_rfl).symm.trans hg)
 obtain rfl:=Option.some.inj ((show(Tryz.prog.globals[0]?).map (·.type)=some 326by kernel_rfl).symm.trans ht)
 obtain⟨xs,m,_,ex,_,hl,hel⟩:=DataW.trod_array Tryz.underlying326 hd
 have hc:∀r,r<16->W.cell? ⟨0,r,none⟩=some (.int .u32 ((Cc.hv.getD r 0:Nat):Int)):=by
  intro r hr
  have c5:Tryz.prog.cellsOf 275=1:=by kernel_rfl
  have hE:=hel r hr
  rw[c5,Nat.mul_one,List.getElem?_eq_getElem (by omega)]at hE
  obtain⟨z,e1,e2,_⟩:=DataW.trod_int Tryz.underlying275 hE
  have hlen:Cc.hv.length=16:=by decide
  rw[halves_hv]at ex
  have e3:(xs.map (·.1))=Cc.hv.map fun n:Nat=>(DataW.lit (.int .u32 (n:Int)):DataW Unit):=(DataW.agg.inj (Prod.mk.inj ex).1).symm
  have e4:(xs.map (·.1))[r]? =(Cc.hv.map fun n:Nat=>(DataW.lit (.int .u32 (n:Int)):DataW Unit))[r]? :=by rw[e3]
  rw[List.getElem?_map,List.getElem?_map,List.getElem?_eq_getElem (by omega:r<xs.length),List.getElem?_eq_getElem (by omega:r<Cc.hv.length),e2]at e4
  have hz:z=((Cc.hv.getD r 0:Nat):Int):=by
   simp only[Option.map_some,Option.some.injEq,DataW.lit.injEq,Lit.int.injEq,true_and]at e4
   rw[e4,List.getD,List.getElem?_eq_getElem (by omega:r<Cc.hv.length)];rfl
  rw[World.var?_cell hg hv r, <-hz]
  have:cs.toList[r]? =some (.int .u32 z):=by
   have h0:((cs.toList.drop r).take 1)[0]? =some (.int .u32 z):=by rw[e1];rfl
   simpa using h0
  simpa using this
 exact⟨World.block_lt_of_cell? W _ (hc 0 (by decide)),hc⟩
end Go.Proofs.YtjoiajmbfbjnnaaGreatDoor
