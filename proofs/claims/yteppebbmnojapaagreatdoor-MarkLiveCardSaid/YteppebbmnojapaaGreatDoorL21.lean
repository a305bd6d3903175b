/- Part of this proof. -/
import Derived.Test.YteppebbmnojapaaGreatDoorL20
set_option maxRecDepth 100000
set_option maxHeartbeats 8000000
namespace Go.Proofs.YteppebbmnojapaaGreatDoor
open Go.RowKit Go.Shelf
theorem LS.key{w:World}{B:Nat}{A:Option Addr}{l:List ByteArray}(h:LS keyE w B A l){k:Nat}(hk:k<l.length):∃b off,A=some ⟨b,off,none⟩/\b<B/\w.cell? ⟨b,off+k,none⟩=some (.string l[k]):=by
 obtain⟨b,off,rfl,hb,hc⟩:=h.at_ hk
 have h0:=hc 0 (by decide)
 refine⟨b,off,rfl,hb, ?_⟩
 have e:off+k*keyE.size+0=off+k:=by show off+k*1+0=_;omega
 rw[e]at h0
 exact h0
def aP(lf:Bool)(Ae:Option Addr)(ne ce:Nat)(Ai:Option Addr)(ni ci:Nat)(Ay:Option Addr)(ny cy:Nat):Value:= .agg #[.bool lf, .slice Ae ne ce, .slice Ai ni ci, .slice Ay ny cy]
def NS(w:World)(v:Value)(n:Nd.Node):Prop:=∃Ae ce Ai ci Ay cy,v=aP n.leaf Ae n.ents.length ce Ai n.kids.length ci Ay n.keys.length cy/\SV bD w Ae ce n.ents/\SV aV w Ai ci n.kids/\SV keyE w Ay cy n.keys
theorem NS.up{w w':World}{v:Value}{n:Nd.Node}(h:NS w v n)(hb:Below w.heap.size w w'):NS w' v n:=by
 obtain⟨Ae,ce,Ai,ci,Ay,cy,rfl,h1,h2,h3⟩:=h
 exact⟨Ae,ce,Ai,ci,Ay,cy,rfl,h1.up hb,h2.up hb,h3.up hb⟩
theorem Y5(i:Int)(w:World):Calls Tryz.prog 314 #[.int .i64 i] w fun e w'=>e= .returned (.bool (!Nd.kM i))/\w'=w:=by
 have hq:(!Nd.kM i)=(decide (i<2)||decide (4294967295<i)):=by
  unfold Nd.kM
  by_cases h1:i<2<;>by_cases h2:4294967295<i<;>simp[h1,h2]<;>omega
 rw[hq]
 clear hq
 by_cases h1:i<2
 ·have e1:decide (i<2)=true:=by simpa using h1
  go_enter Tryz.func314,Tryz.ntmps314
  go_wp2
  go_ret
  exact⟨by simp;omega,rfl⟩
 ·have e1:decide (i<2)=false:=by simpa using h1
  go_enter Tryz.func314,Tryz.ntmps314
  go_wp2
  go_ret
  exact⟨by simp,rfl⟩
theorem Si(A:Option Addr)(c:Nat)(l:List Int)(w:World)(h:LS aV w w.heap.size A l)(hl:l.length<=1000000):
  Calls Tryz.prog 320 #[.slice A l.length c, .func (.func 314) #[] #[]] w fun e w'=>∃j:Int,e= .returned (.int .i64 j)/\decide (0<=j)=l.any (fun i=> !Nd.kM i)/\w'=w:=by
 go_enter Tryz.func320,Tryz.ntmps320
 go_wp2
 go_loop [5,8] (fun _ i=>∃k:Nat,k<=l.length/\i= .int .i64 k/\(∀j (hj:j<l.length),j<k->Nd.kM l[j]=true)) (fun _ i=>l.length-(intOf i).toNat)
 case atStart=>exact⟨0,by omega,rfl,fun j hj h=>absurd h (by omega)⟩
 case round=>
  obtain⟨i,hi,rfl,hno⟩:=hrel
  have HNO:=Lib.hid hno
  clear hno
  by_cases hlt:i<l.length
  ·obtain⟨b1,o1,rfl,_,g0⟩:=h.int hlt
   have hc:=ak (Y5 l[i] w)
   obtain⟨y,hy⟩:∃y,y=l[i]:=⟨_,rfl⟩
   rw[<-hy]at hc g0
   have HY:=Lib.hid hy
   clear hy
   cases hin:Nd.kM y with
   |false=>
    rw[hin]at hc
    have HIN:=Lib.hid hin
    clear hin
    go_wp2_with (go_at_call 314;refine hc.out.mono ?_;rintro e _ ⟨rfl,rfl⟩)
    go_ret
    refine⟨_,rfl, ?_,rfl⟩
    have:l.any (fun i=> !Nd.kM i)=true:=List.any_eq_true.2 ⟨l[i],List.getElem_mem hlt,by rw[<-HY.out,HIN.out];rfl⟩
    rw[this];simp
   |true=>
    rw[hin]at hc
    have HIN:=Lib.hid hin
    clear hin
    go_wp2_with (go_at_call 314;refine hc.out.mono ?_;rintro e _ ⟨rfl,rfl⟩)
    go_round
    case rel=>
     refine⟨i+1,by omega,by go_num,fun j hj hji=> ?_⟩
     by_cases hj2:j<i
     ·exact HNO.out j hj hj2
     ·obtain rfl:j=i:=by omega
      rw[<-HY.out];exact HIN.out
    case measure=>simp[intOf];omega
  ·obtain rfl:i=l.length:=by omega
   go_wp2
   go_ret
   refine⟨_,rfl, ?_,rfl⟩
   have:l.any (fun i=> !Nd.kM i)=false:=by
    rw[List.any_eq_false]
    intro x hx
    obtain⟨j,hj,rfl⟩:=List.getElem_of_mem hx
    rw[HNO.out j hj hj];simp
   rw[this];simp
theorem Hf(A:Option Addr)(c:Nat)(l:List Int)(w:World)(h:LS aV w w.heap.size A l)(hl:l.length<=1000000):
  Calls Tryz.prog 315 #[.slice A l.length c, .func (.func 314) #[] #[]] w fun e w'=>e= .returned (.bool (!l.all Nd.kM))/\w'=w:=by
 have hc:=ak (Si A c l w h hl)
 have hq:l.any (fun i=> !Nd.kM i)= !l.all Nd.kM:=by rw[List.not_all_eq_any_not]
 rw[hq]at hc
 clear hq
 generalize (!l.all Nd.kM)=q at*
 go_enter Tryz.func315,Tryz.ntmps315
 go_wp2_with fail
 refine hc.out.mono ?_
 rintro e _ ⟨j,rfl,hj,rfl⟩
 have HJ:=Lib.hid hj
 clear hj
 go_wp2
 go_ret
 exact⟨by rw[<-HJ.out];rfl,rfl⟩
theorem JB(Ae Ai Ay:Option Addr)(ce ci cy:Nat)(n:Nd.Node)(hlf:n.leaf=true)(w:World)(he:SV bD w Ae ce n.ents)(hl:n.ents.length<=100000)(hl2:n.kids.length<=100000)(hl3:n.keys.length<=100000):
  Calls Tryz.prog 297 #[aP true Ae n.ents.length ce Ai n.kids.length ci Ay n.keys.length cy] w fun e w'=>e= .returned (.bool (Nd.right n))/\Below w.heap.size w w':=by
 have hq:Nd.right n=(En.right n.ents&&decide (n.kids.length+n.keys.length=0)):=by unfold Nd.right;rw[if_pos hlf]
 rw[hq]
 have hB:=Blk.new w 146 #[.bool true, .slice Ae n.ents.length ce, .slice Ai n.kids.length ci, .slice Ay n.keys.length cy]
 have hE:=ak (yT Ae ce n.ents (w.alloc (.cells #[.bool true, .slice Ae n.ents.length ce, .slice Ai n.kids.length ci, .slice Ay n.keys.length cy] 146)) (he.ls.up ((Below.refl _ _).alloc (Nat.le_refl _) _)) (by omega))
 unfold aP
 generalize n.kids.length=ni at*
 generalize n.keys.length=ny at*
 clear hq he
 generalize encS n.ents=S at*
 cases hr:En.right n.ents with
 |false=>
  rw[hr]at hE
  clear hr
  go_enter Tryz.func297,Tryz.ntmps297
  go_wp2_with fail
  refine hE.out.mono ?_
  rintro e w1 ⟨rfl,hb1⟩
  have hB1:=hB.below hb1 hB.lt
  have c1:=hB1.cell 2
  have c2:=hB1.cell 3
  have hl1:=hB1.lt
  go_wp2
  go_ret
  exact⟨rfl,((Below.refl _ _).alloc (Nat.le_refl _) _).trans (hb1.mono (by simp))⟩
 |true=>
  rw[hr]at hE
  clear hr
  by_cases h0:ni+ny=0
  ·obtain rfl:ni=0:=by omega
   obtain rfl:ny=0:=by omega
   go_enter Tryz.func297,Tryz.ntmps297
   go_wp2_with fail
   refine hE.out.mono ?_
   rintro e w1 ⟨rfl,hb1⟩
   have hB1:=hB.below hb1 hB.lt
   have c1:=hB1.cell 2
   have c2:=hB1.cell 3
   have hl1:=hB1.lt
   go_wp2
   go_ret
   exact⟨rfl,((Below.refl _ _).alloc (Nat.le_refl _) _).trans (hb1.mono (by simp))⟩
  ·have hd:decide (ni+ny=0)=false:=by simpa using h0
   rw[hd]
   have hd2:((ni:Int)+ny==0)=false:=by rw[beq_eq_false_iff_ne];omega
   have hd3:(ni:Int)+ny<=1000000:=by omega
   clear h0 hd
   go_enter Tryz.func297,Tryz.ntmps297
   go_wp2_with fail
   refine hE.out.mono ?_
   rintro e w1 ⟨rfl,hb1⟩
   have hB1:=hB.below hb1 hB.lt
   have c1:=hB1.cell 2
   have c2:=hB1.cell 3
   have hl1:=hB1.lt
   go_wp2
   go_ret
   exact⟨by simp,((Below.refl _ _).alloc (Nat.le_refl _) _).trans (hb1.mono (by simp))⟩
def jS(l:List ByteArray)(k:Nat):Bool:=Nd.iG (Nd.yR l k) (l.drop k)
theorem Hg(Ae Ai Ay:Option Addr)(ce ci cy:Nat)(n:Nd.Node)(hlf:n.leaf=false)(w:World)(hi:SV aV w Ai ci n.kids)(hy:SV keyE w Ay cy n.keys)(hl:n.ents.length<=100000)(hl2:n.kids.length<=100000)(hl3:n.keys.length<=100000):
  Calls Tryz.prog 297 #[aP false Ae n.ents.length ce Ai n.kids.length ci Ay n.keys.length cy] w fun e w'=>e= .returned (.bool (Nd.right n))/\Below w.heap.size w w':=by
 have hq:Nd.right n=(decide (n.ents.length=0)&&decide (n.keys.length+1=n.kids.length)&&n.kids.all Nd.kM&&jS n.keys 0):=by unfold Nd.right;rw[if_neg (by rw[hlf];simp)];rfl
 rw[hq]
 have hbe:=(Below.refl w.heap.size w).alloc (Nat.le_refl _) (.cells #[.bool false, .slice Ae n.ents.length ce, .slice Ai n.kids.length ci, .slice Ay n.keys.length cy] 146)
 have hO:=ak (Hf Ai ci n.kids (w.alloc (.cells #[.bool false, .slice Ae n.ents.length ce, .slice Ai n.kids.length ci, .slice Ay n.keys.length cy] 146)) (hi.ls.up hbe) (by omega))
 have hk:=hy.ls.below hbe
 unfold aP
 generalize hkl:n.keys=ks at*
 clear hkl hy hi hq
 generalize n.kids.length=ni at*
 generalize n.ents.length=ne at*
 generalize n.kids.all Nd.kM=ok at*
 by_cases h0:ne=0
 ·subst h0
  by_cases h1:ks.length+1=ni
  ·cases ok with
   |false=>
    have e1:((ks.length:Int)==ni-1)=true:=by rw[beq_iff_eq];omega
    have e2:((ks.length:Int) != ni-1)=false:=by rw[bne_eq_false_iff_eq];omega
    have HD:Hid ((decide (0=0)&&decide (ks.length+1=ni)&&false&&jS ks 0)=false):=Lib.hid (by simp)
    rw[HD.out]
    go_enter Tryz.func297,Tryz.ntmps297
    go_wp2_with fail
    refine hO.out.mono ?_
    rintro e _ ⟨rfl,rfl⟩
    go_wp2
    go_ret
    exact⟨rfl,hbe⟩
   |true=>
    have e1:((ks.length:Int)==ni-1)=true:=by rw[beq_iff_eq];omega
    have e2:((ks.length:Int) != ni-1)=false:=by rw[bne_eq_false_iff_eq];omega
    have HD:Hid ((decide (0=0)&&decide (ks.length+1=ni)&&true&&jS ks 0)=jS ks 0):=Lib.hid (by simp[h1])
    rw[HD.out]
    obtain⟨R,hR⟩:∃R,R=jS ks 0:=⟨_,rfl⟩
    rw[<-hR]
    have HR:=Lib.hid hR
    clear hR HD h1
    go_enter Tryz.func297,Tryz.ntmps297
    go_wp2_with fail
    refine hO.out.mono ?_
    rintro e _ ⟨rfl,rfl⟩
    go_wp2
    go_loop [6,7,51] (fun _ _ i=>∃k:Nat,k<=ks.length/\i= .int .i64 k/\Hid (R=jS ks k)) (fun _ _ i=>ks.length-(intOf i).toNat)
    case atStart=>exact⟨0,by omega,rfl,HR⟩
    case round=>
     obtain⟨k,hkk,rfl,HK⟩:=hrel
     by_cases hlt:k<ks.length
     ·obtain⟨b1,o1,rfl,hb1,g0⟩:=hk.key hlt
      have hat:=Lib.hid (Nd.YZ ks k hlt)
      obtain⟨x,hx⟩:∃x,x=ks[k]:=⟨_,rfl⟩
      rw[<-hx]at g0 hat
      cases hm:En.may x ⟨#[]⟩with
      |false=>
       have hc:=fun W=>ak (check_any x ⟨#[]⟩ W)
       rw[Nq hm]at hc
       have HM:=Lib.hid hm
       clear hm hx
       go_wp2_with fail
       refine(hc _).out.mono ?_
       rintro e _ ⟨rfl,rfl⟩
       go_wp2
       go_ret
       exact⟨by rw[HK.out];unfold jS;rw[hat.out,HM.out];rfl,hbe⟩
      |true=>
       have hc:=fun W=>ak (check_any x ⟨#[]⟩ W)
       rw[Ad hm]at hc
       have HM:=Lib.hid hm
       clear hm
       by_cases h0:k=0
       ·subst h0
        simp only[Nat.add_zero]at g0
        clear hx
        go_wp2_with fail
        refine(hc _).out.mono ?_
        rintro e _ ⟨rfl,rfl⟩
        go_wp2
        go_round
        case rel=>exact⟨1,by omega,rfl,Lib.hid (by rw[HK.out];unfold jS;rw[hat.out,HM.out];rfl)⟩
        case measure=>simp[intOf];omega
       ·obtain⟨q,rfl⟩:∃q,k=q+1:=⟨k-1,by omega⟩
        obtain⟨b2,o2,e3,hb2,f0⟩:=hk.key (show q<ks.length by omega)
        injection e3 with e3;injection e3 with e3 e4;subst e3 e4
        have hp:=Lib.hid (Nd.Ns ks (q+1) hlt (by omega))
        obtain⟨z,hz⟩:∃z,z=ks[q]:=⟨_,rfl⟩
        rw[<-hz]at f0
        have HZ:=Lib.hid hz
        clear hx hz
        cases hlz:En.lt z x with
        |true=>
         have hbl:Op.bytesLess z.toList x.toList=true:=hlz
         have HL:=Lib.hid hlz
         clear hlz h0
         go_wp2_with fail
         refine(hc _).out.mono ?_
         rintro e _ ⟨rfl,rfl⟩
         go_wp2
         go_round
         case rel=>
          refine⟨q+1+1,by omega,by go_num,Lib.hid ?_⟩
          rw[HK.out];unfold jS;rw[hat.out,hp.out,HM.out]
          simp only[Nat.add_sub_cancel, <-HZ.out]
          unfold En.ahead
          simp only
          rw[HL.out];simp
         case measure=>simp[intOf];omega
        |false=>
         have hbl:Op.bytesLess z.toList x.toList=false:=hlz
         have HL:=Lib.hid hlz
         clear hlz h0
         go_wp2_with fail
         refine(hc _).out.mono ?_
         rintro e _ ⟨rfl,rfl⟩
         go_wp2
         go_ret
         refine⟨?_,hbe⟩
         rw[HK.out];unfold jS;rw[hat.out,hp.out,HM.out]
         simp only[Nat.add_sub_cancel, <-HZ.out]
         unfold En.ahead
         simp only
         rw[HL.out];simp
     ·obtain rfl:k=ks.length:=by omega
      go_wp2
      go_ret
      refine⟨?_,hbe⟩
      rw[HK.out];unfold jS;rw[List.drop_of_length_le (Nat.le_refl _)];rfl
  ·have e1:((ks.length:Int)==ni-1)=false:=by rw[beq_eq_false_iff_ne];omega
   have e2:((ks.length:Int) != ni-1)=true:=by rw[bne_iff_ne];omega
   have HD:Hid ((decide (0=0)&&decide (ks.length+1=ni)&&ok&&jS ks 0)=false):=Lib.hid (by simp[h1])
   rw[HD.out]
   clear h1
   go_enter Tryz.func297,Tryz.ntmps297
   go_wp2
   go_ret
   exact⟨rfl,hbe⟩
 ·have e0:decide (0<(ne:Int))=true:=by simp;omega
  have e1:0<ne:=by omega
  have HD:Hid ((decide (ne=0)&&decide (ks.length+1=ni)&&ok&&jS ks 0)=false):=Lib.hid (by simp[h0])
  rw[HD.out]
  clear h0
  go_enter Tryz.func297,Tryz.ntmps297
  go_wp2
  go_ret
  exact⟨rfl,hbe⟩
end Go.Proofs.YteppebbmnojapaaGreatDoor
