/- Part of this proof. -/
import Derived.LaidMore
import Derived.Lay
import Derived.OpenShut
import Derived.Test.YtjoiajmbfbjnnaaGreatDoorT35
import Derived.Test.YtjoiajmbfbjnnaaGreatDoorT36
import Derived.Test.YtjoiajmbfbjnnaaGreatDoorRows
set_option maxRecDepth 100000
set_option maxHeartbeats 8000000
namespace Go.Proofs.YtjoiajmbfbjnnaaGreatDoor
open Go.RowKit Go.Shelf Go.Maps
theorem bud_le:50+bud 24<=899999999900:=by decide +kernel
structure RwAt(w0:World)(f i:Nat)(W:World):Prop where
 ex:∃ (F:FFile) (disk:Tp.Disk) (N:Nat),F.f=f/\F.k<=i/\N<=i/\FReady F 20 disk N (50+bud 24) W/\ZeroD F 20 disk/\(∀x y,disk x=some y->(2<=x/\x<2+(i:Int))/\y.kids.length<=3)/\w0.heap.size<=F.B
 below:Below w0.heap.size w0 W
theorem raw_start{w0 W:World}{B0 f d:Nat}(h:FAt W B0 f d 0 (fresh 20))(hT:HT W)(hB0:w0.heap.size<=B0)(h0:0<w0.heap.size)(hBW:B0<=W.heap.size)(hb:Below w0.heap.size w0 W):RwAt w0 f 0 W:=by
 obtain⟨s,m,pv,Dm,h1⟩:=h.open_
 have hA:FFile.At ⟨B0,f,d,0,s,m,pv,Dm,fresh 20⟩ W 0:=h1
 exact⟨⟨⟨B0,f,d,0,s,m,pv,Dm,fresh 20⟩,noDisk,0,rfl,Nat.le_refl _,Nat.le_refl _,⟨⟨by decide,⟨fun _=>none,fresh_c,fun _ _ h=>by cases h⟩,⟨Int.le_refl _,Int.le_refl _⟩,by show([]:List _).length<=0;simp⟩,⟨0,Int.le_refl _,by have:=bud_le;omega,hA⟩,hT,Nat.lt_of_lt_of_le h0 hB0,hBW⟩,fun id hid _=>fresh_c.ok.page id hid,(fun x y hx=>by cases hx),hB0⟩,hb⟩
section
variable {w0 W W':World}{f i:Nat}
theorem RwAt.below_(h:RwAt w0 f i W)(hb:Below W.heap.size W W'):RwAt w0 f i W':=by
 obtain⟨⟨F,disk,N,e1,e2,e3,e4,e5,e6,e7⟩,h1⟩:=h
 exact⟨⟨F,disk,N,e1,e2,e3,e4.below hb,e5,e6,e7⟩,h1.trans (hb.mono h1.size)⟩
theorem RwAt.skip(h:RwAt w0 f i W):RwAt w0 f (i+1) W:=by
 obtain⟨⟨F,disk,N,e1,e2,e3,e4,e5,e6,e7⟩,h1⟩:=h
 exact⟨⟨F,disk,N,e1,by omega,by omega,e4,e5,fun x y hx=>by have:=e6 x y hx;exact⟨⟨this.1.1,by omega⟩,this.2⟩,e7⟩,h1⟩
theorem rw_write(h:RwAt w0 f i W)(hi:i<4){x:Nd.Node}(hx:Nd.fits x=true)(hk:x.kids.length<=3)(j:Int)(hj:j=2+(i:Int)):
  Calls Tryz.prog 18 #[.pointer (some ⟨f,0,none⟩), .int .i64 j, .int .u8 (Nd.kind x), .string (Nd.str (Nd.enc x))] W fun e w'=>e= .returned (.int .i64 0)/\RwAt w0 f (i+1) w':=by
 subst hj
 obtain⟨⟨F,disk,N,rfl,e2,e3,e4,e5,e6,e7⟩,h1⟩:=h
 refine(fr_write e4 e5 (by omega) (by omega) (i:=2+(i:Int)) (by omega) hx).mono ?_
 rintro e w' ⟨rfl,F',q⟩
 obtain⟨s1,s2,s3,s4⟩:=q.same
 refine⟨rfl,⟨⟨F',_,N+1,s2,by omega,by omega,q.ready,q.zero,fun z y hz=> ?_,by rw[s1];exact e7⟩,h1.trans (q.below.mono e7)⟩⟩
 unfold dput_ at hz
 split at hz
 ·rename_i e
  injection hz with hz
  subst hz
  exact⟨by omega,hk⟩
 ·have:=e6 z y hz
  exact⟨⟨this.1.1,by omega⟩,this.2⟩
structure RwT(w0:World)(r u:Nat)(root:Int)(W:World):Prop where
 ex:∃ (F:FFile) (B t m K:Nat) (disk:Tp.Disk),On (fun g=>g=F.d) B t u (TMo F B t m 20 K [] 10 disk) root 0 r (Tp.start [] 10) W/\F.d<B/\F.d≠t/\B<=K/\ZeroD F 20 disk/\(∀x y,disk x=some y->(2<=x/\x<10)/\y.kids.length<=3)/\w0.heap.size<=F.d
 below:Below w0.heap.size w0 W
theorem rw_new(h:RwAt w0 f i W)(hi:i<=4):
  Calls Tryz.prog 20 #[.pointer (some ⟨f,0,none⟩), .slice none 0 0, .int .i64 10] W fun e w'=>∃t,e= .returned (.pointer (some ⟨t,0,none⟩))/\(∀W' root,Below w'.heap.size w' W'->Calls Tryz.prog 19 #[.pointer (some ⟨t,0,none⟩), .int .i64 root] W' fun e w''=>∃u,e= .returned (.pointer (some ⟨u,0,none⟩))/\RwT w0 (50+bud 24) u root w'')/\Below W.heap.size W w':=by
 obtain⟨⟨F,disk,N,rfl,e2,e3,e4,e5,e6,e7⟩,h1⟩:=h
 refine(fr_begin e4 (by omega) none 0 [] 10 10 (by unfold pagesN;decide) RS.nil_ (Nat.zero_le _) (fun id x hx=>⟨by have:=(e6 id x hx).1;omega,fun⟨a,ha,_⟩=>by cases ha⟩)).mono ?_
 rintro e w' ⟨t,m,rfl,hM,⟨q1,q2,q3⟩,b⟩
 refine⟨t,rfl,fun W' root hb=> ?_,b⟩
 have hM':=hM.below hb
 have hdB:=e4.dlt
 have M:=mach_disk F hM'.low.1 hM'.low.2.1 q3 20 (Rp.minus [(2,(10:Int)-1)] []) disk
 refine(ctnew_any M root _ _ W' hM').mono ?_
 rintro e w'' ⟨u,rfl,hon,hu,b2⟩
 have hz:=hon.tm.low.2.2
 have hdt:=(hon.tm.sep F.d (.inr (.inl rfl))).1
 exact⟨u,rfl,⟨⟨F,_,t,m,w''.heap.size,disk,⟨hon.tm.tmo,hon.self,hon.hu⟩,q3,by omega,hz,e5,fun x y hx=>by have:=e6 x y hx;exact⟨⟨this.1.1,by omega⟩,this.2⟩,by omega⟩,h1.trans ((b.trans ((hb.trans (b2.mono hb.size)).mono b.size)).mono h1.size)⟩⟩
theorem rw_get{r u:Nat}{root:Int}(h:RwT w0 (r+50) u root W)(hwf:(Lit.int .i64 root).wf=true)(key:ByteArray):
  Calls Tryz.prog 21 #[.pointer (some ⟨u,0,none⟩), .string key] W fun e w'=>(∃ (v:ByteArray) (b:Bool) (z:Int),e= .returned (.tuple #[.string v, .bool b, .int .i64 z])/\(z=0\/z=3))/\RwT w0 r u root w':=by
 obtain⟨⟨F,B,t,m,K,disk,e1,e2,e3,e4,e5,e6,e7⟩,h1⟩:=h
 refine(tget_raw (mrd_o F (t:=t) e2 m 20 K e4 [] 10 disk) bad_t u root hwf key r _ (ok_t e5 (by decide)) W e1).mono ?_
 rintro e w' ⟨q1,q2,q3⟩
 exact⟨q1,⟨⟨F,B,t,m,K,disk,q2,e2,e3,e4,e5,e6,e7⟩,h1.trans (q3.low h1.size (fun k hk=>by subst hk;exact e7))⟩⟩
theorem rw_next{r u:Nat}{root:Int}(h:RwT w0 (r+bud 24) u root W)(hwf:(Lit.int .i64 root).wf=true)(key:ByteArray):
  Calls Tryz.prog 22 #[.pointer (some ⟨u,0,none⟩), .string key] W fun e w'=>(∃ (x:Ent) (b:Bool) (z:Int),e= .returned (.tuple #[.agg #[.string x.1, .string x.2], .bool b, .int .i64 z])/\(z=0\/z=3))/\RwT w0 r u root w':=by
 obtain⟨⟨F,B,t,m,K,disk,e1,e2,e3,e4,e5,e6,e7⟩,h1⟩:=h
 refine(next_raw (mrd_o F (t:=t) e2 m 20 K e4 [] 10 disk) bad_t u root hwf key _ (ok_t e5 (by decide)) (fun id n hv=> ?_) r W e1).mono ?_
 ·rcases view_cases hv with⟨a,_⟩ | ⟨_,_,_,_,a⟩
  ·exact absurd a List.not_mem_nil
  ·exact(e6 id n a).2
 ·rintro e w' ⟨q1,q2,q3⟩
  exact⟨q1,⟨⟨F,B,t,m,K,disk,q2,e2,e3,e4,e5,e6,e7⟩,h1.trans (q3.low h1.size (fun k hk=>by subst hk;exact e7))⟩⟩
end
theorem traw_any(A:Option Addr)(c:Nat)(rl:List NHd)(fl:List Nd.Node)(root:Int)(key:ByteArray)(w:World)(hr:LS nhE w w.heap.size A rl)(hlen:fl.length=rl.length)(hx:∀i (h1:i<rl.length) (h2:i<fl.length),NodeIn w rl[i] fl[i])(hwf:(Lit.int .i64 root).wf=true)(hT:HT w):
  Calls Tryz.prog 3 #[.slice A rl.length c, .int .i64 root, .string key] w (TrueEnd w):=by
 have HW:=Lib.hid (works13_any w)
 have HRS:=Lib.hid hr
 have HRL:=Lib.hid hx
 have HHT:=Lib.hid hT
 have HWF:=Lib.hid hwf
 have HD:=Lib.hid (fun W=>dfresh_any 20 W)
 rw[show diskN 20=20 by decide]at HD
 clear hr hx hT hwf
 go_enter Tryz.func3,Tryz.ntmps3
 go_wp2_with fail
 refine Calls.mono HW.out ?_
 rintro e w1 ⟨rfl,b1⟩
 have HB:=Lib.hid b1
 clear b1 HW
 by_cases h4:4<rl.length
 ·have h4i:(4:Int)<(rl.length:Nat):=by omega
  have h4d:decide ((4:Int)<(rl.length:Nat))=true:=decide_eq_true h4i
  go_wp2
  go_ret
  exact⟨rfl,HB.out⟩
 have h4i:¬ (4:Int)<(rl.length:Nat):=by omega
 have h4d:decide ((4:Int)<(rl.length:Nat))=false:=decide_eq_false h4i
 by_cases h60:60<(key.size:Int)
 ·have h60d:decide (60<(key.size:Int))=true:=by simpa using h60
  go_wp2
  go_ret
  exact⟨rfl,HB.out⟩
 have h60d:decide (60<(key.size:Int))=false:=by simpa using h60
 go_wp2_with fail
 refine(HD.out _).mono ?_
 rintro e w2 ⟨d,rfl,hd,b2⟩
 have HFF:=Lib.hid (ffresh_any hd b2.size)
 have HB2:=Lib.hid (HB.out.trans (b2.mono HB.out.size))
 have HZ2:=Lib.hid b2.size
 clear hd b2 HD
 go_wp2_with fail
 refine HFF.out.mono ?_
 rintro e w3 ⟨f,rfl,hf,b3⟩
 have hB3:=HB2.out.trans (b3.mono HB2.out.size)
 have HS0:Hid (RwAt w f 0 w3):=Lib.hid (raw_start hf (HHT.out.below hB3 HHT.out.1) HB.out.size HHT.out.1 (Nat.le_trans HZ2.out b3.size) hB3)
 clear hf b3 hB3 HFF HZ2 HB2 HB h60 h60d h4d HHT
 go_wp2
 go_loopg [9] rl.length (fun gg s9 wr=>∃i:Nat,s9= .int .i64 (i:Nat)/\i<=rl.length/\rl.length-i<=gg/\Hid (RwAt w f i wr))
 case atStart=>exact⟨0,rfl,Nat.zero_le _,by omega,HS0⟩
 case round=>
  clear HS0
  obtain⟨i,rfl,hil,hig,HS⟩:=hrel
  have hwi:IntKind.i64.wrap ((i:Int)+1)=(i:Int)+1:=IntWalk.i64_in _ (by omega)
  have hbl:=HS.out.below
  by_cases hi:i<rl.length
  ·have hii:(i:Int)<(rl.length:Nat):=by omega
   have hif:i<fl.length:=by omega
   have hnd:=HRL.out i hi hif
   obtain⟨bb,oo,rfl,hbb,hc⟩:=HRS.out.at_ hi
   have g0:=hc 0 (by decide)
   have g1:=hc 1 (by decide)
   have g2:=hc 2 (by decide)
   have g3:=hc 3 (by decide)
   clear hc
   generalize fl[i]=n at*
   generalize rl[i]=x at*
   obtain⟨lf,⟨A1,n1,c1⟩,⟨A2,n2,c2⟩,⟨A3,n3,c3⟩⟩:=x
   obtain⟨q0,q1,q2,q3,q4,q5,q6⟩:=hnd
   simp only at q0 q1 q2 q3 q4 q5 q6
   subst q0 q1 q2 q3
   have k0:wr.cell? ⟨bb,oo+i*4,none⟩=some (.bool n.leaf):=(hbl.cell (p:=⟨bb,oo+i*4,none⟩) hbb).trans g0
   have k1:wr.cell? ⟨bb,oo+i*4+1,none⟩=some (.slice A1 n.ents.length c1):=(hbl.cell (p:=⟨bb,oo+i*4+1,none⟩) hbb).trans g1
   have k2:wr.cell? ⟨bb,oo+i*4+2,none⟩=some (.slice A2 n.kids.length c2):=(hbl.cell (p:=⟨bb,oo+i*4+2,none⟩) hbb).trans g2
   have k3:wr.cell? ⟨bb,oo+i*4+3,none⟩=some (.slice A3 n.keys.length c3):=(hbl.cell (p:=⟨bb,oo+i*4+3,none⟩) hbb).trans g3
   have hbz:bb<wr.heap.size:=Nat.lt_of_lt_of_le hbb hbl.size
   have HNS:Hid (∀W,Below w.heap.size w W->NS W (nodeV n.leaf A1 n.ents.length c1 A2 n.kids.length c2 A3 n.keys.length c3) n):=Lib.hid fun W hb=>NS.up ⟨A1,c1,A2,c2,A3,c3,rfl,q4,q5,q6⟩ hb
   have HEN:=Lib.hid q4.ls
   clear g0 g1 g2 g3 q4 q5 q6
   by_cases hk3:3<n.kids.length
   ·have hk3i:(3:Int)<(n.kids.length:Nat):=by omega
    go_wp2
    go_ret
    exact⟨rfl,hbl⟩
   have hk3i:¬ (3:Int)<(n.kids.length:Nat):=by omega
   by_cases he5:5<n.ents.length
   ·have he5i:(5:Int)<(n.ents.length:Nat):=by omega
    go_wp2
    go_ret
    exact⟨rfl,hbl⟩
   have he5i:¬ (5:Int)<(n.ents.length:Nat):=by omega
   by_cases hy3:3<n.keys.length
   ·have hy3i:(3:Int)<(n.keys.length:Nat):=by omega
    go_wp2
    go_ret
    exact⟨rfl,hbl⟩
   have hy3i:¬ (3:Int)<(n.keys.length:Nat):=by omega
   have HFEW:Hid (Few n):=Lib.hid ⟨by omega,by omega,by omega⟩
   have HK0:=Lib.hid k0
   have HK1:=Lib.hid k1
   have HK2:=Lib.hid k2
   have HK3:=Lib.hid k3
   have HBL:=Lib.hid hbl
   clear hbl
   go_wp2
   obtain⟨wo,rfl⟩:∃z,z=wr:=⟨_,rfl⟩
   go_loopg [10] n.ents.length (fun ga s10 wx=>∃j:Nat,s10= .int .i64 (j:Nat)/\j<=n.ents.length/\n.ents.length-j<=ga/\Hid (Below wo.heap.size wo wx))
   case atStart=>exact⟨0,rfl,Nat.zero_le _,by omega,Lib.hid (Below.refl _ _)⟩
   case round=>
    obtain⟨j,rfl,hjl,hjg,HBX⟩:=hrel
    have hwj:IntKind.i64.wrap ((j:Int)+1)=(j:Int)+1:=IntWalk.i64_in _ (by omega)
    have hbx:Below w.heap.size w wr:=HBL.out.trans (HBX.out.mono HBL.out.size)
    have k0:=(HBX.out.cell (p:=⟨bb,oo+i*4,none⟩) hbz).trans HK0.out
    have k1:=(HBX.out.cell (p:=⟨bb,oo+i*4+1,none⟩) hbz).trans HK1.out
    have k2:=(HBX.out.cell (p:=⟨bb,oo+i*4+2,none⟩) hbz).trans HK2.out
    have k3:=(HBX.out.cell (p:=⟨bb,oo+i*4+3,none⟩) hbz).trans HK3.out
    have hbzx:bb<wr.heap.size:=Nat.lt_of_lt_of_le hbz HBX.out.size
    by_cases hj:j<n.ents.length
    ·have hji:(j:Int)<(n.ents.length:Nat):=by omega
     obtain⟨ba,oa,rfl,hba,y1,y2⟩:=(HEN.out.below hbx).ent hj
     have hbaz:ba<wr.heap.size:=Nat.lt_of_lt_of_le hba hbx.size
     generalize n.ents[j]=x at*
     have HBW:=Lib.hid hbx
     clear hbx k0 k2 k3
     by_cases hs1:(60:Int)<x.1.size
     ·have hs1d:decide ((60:Int)<x.1.size)=true:=decide_eq_true hs1
      go_wp2
      go_ret
      exact⟨rfl,HBW.out⟩
     have hs1d:decide ((60:Int)<x.1.size)=false:=decide_eq_false hs1
     by_cases hs2:(60:Int)<x.2.size
     ·have hs2d:decide ((60:Int)<x.2.size)=true:=decide_eq_true hs2
      go_wp2
      go_ret
      exact⟨rfl,HBW.out⟩
     have hs2d:decide ((60:Int)<x.2.size)=false:=decide_eq_false hs2
     go_wp2
     go_roundg (n.ents.length-(j+1))
     case measure=>omega
     case rel=>exact⟨j+1,by go_num,by omega,Nat.le_refl _,HBX⟩
    ·obtain rfl:j=n.ents.length:=by omega
     have hji:¬ (n.ents.length:Int)<(n.ents.length:Nat):=by omega
     have HEC:=Lib.hid (nencode_few _ n wr (HNS.out wr hbx) HFEW.out)
     have HS2:=Lib.hid (HS.out.below_ HBX.out)
     clear hbx HS
     unfold nodeV at HEC
     have hw2:IntKind.i64.wrap (2+(i:Int))=2+(i:Int):=IntWalk.i64_in _ (by omega)
     go_wp2_with fail
     refine Calls.mono HEC.out ?_
     rintro e wy ⟨hres,hby⟩
     have HS3:=Lib.hid (HS2.out.below_ hby)
     clear hby HS2 HEC k0 k1 k2 k3
     rcases hres with⟨hf,rfl⟩ | ⟨hf,z,hz,rfl⟩
     ·have HWR:=Lib.hid (rw_write HS3.out (by omega) hf HFEW.out.i (2+(i:Int)) rfl)
      clear hf HS3
      generalize Nd.str (Nd.enc n)=S at*
      go_wp2_with fail
      refine Calls.mono HWR.out ?_
      rintro e wz ⟨rfl,hs⟩
      have HS4:=Lib.hid hs
      clear hs HWR
      go_wp2
      go_roundg (rl.length-(i+1))
      case measure=>omega
      case rel=>exact⟨i+1,by go_num,by omega,Nat.le_refl _,HS4⟩
     ·have hz0:(z==0)=false:=by simpa using hz
      have HS4:=Lib.hid HS3.out.skip
      clear hf HS3
      go_wp2
      go_roundg (rl.length-(i+1))
      case measure=>omega
      case rel=>exact⟨i+1,by go_num,by omega,Nat.le_refl _,HS4⟩
  ·obtain rfl:i=rl.length:=by omega
   have hii:¬ (rl.length:Int)<(rl.length:Nat):=by omega
   have HNW:=Lib.hid (rw_new HS.out (by omega))
   have HCK:=Lib.hid (fun W=>check_any ⟨#[97]⟩ ⟨#[]⟩ W)
   rw[show chk ⟨#[97]⟩ ⟨#[]⟩=0 by kernel_rfl]at HCK
   clear HS hbl HRL HRS
   go_wp2_with fail
   refine Calls.mono HNW.out ?_
   rintro e w5 ⟨t,rfl,hct,b5⟩
   have HCT:=Lib.hid (hct w5 root (Below.refl _ _))
   clear hct b5 HNW
   go_wp2_with fail
   refine Calls.mono HCT.out ?_
   rintro e w6 ⟨u,rfl,hrt⟩
   rw[Nat.add_comm]at hrt
   have HGT:=Lib.hid (rw_get (r:=bud 24) hrt HWF.out key)
   clear hrt HCT
   go_wp2_with fail
   refine Calls.mono HGT.out ?_
   rintro e w7 ⟨⟨v7,b7,z7,rfl,hz7⟩,hrt7⟩
   rw[show bud 24=0+bud 24 by omega]at hrt7
   have HNX:=Lib.hid (rw_next (r:=0) hrt7 HWF.out key)
   clear hrt7 HGT
   go_wp2_with fail
   refine Calls.mono HNX.out ?_
   rintro e w8 ⟨⟨x8,b8,z8,rfl,hz8⟩,hrt8⟩
   have HB8:=Lib.hid hrt8.below
   clear hrt8 HNX
   have hbA:Below w.heap.size w (w8.alloc (.cells #[.string x8.1, .string x8.2] 34)):=HB8.out.trans ((Below.refl _ w8).alloc HB8.out.size _)
   have HBA:=Lib.hid hbA
   clear hbA HB8
   rcases hz7 with rfl | rfl
   ·rcases hz8 with rfl | rfl
    ·go_wp2_with fail
     refine Calls.mono (HCK.out _) ?_
     rintro e w9 ⟨rfl,hw9⟩
     subst hw9
     go_wp2
     go_ret
     exact⟨rfl,HBA.out⟩
    ·go_wp2_with fail
     refine Calls.mono (HCK.out _) ?_
     rintro e w9 ⟨rfl,hw9⟩
     subst hw9
     go_wp2
     go_ret
     exact⟨rfl,HBA.out⟩
   ·rcases hz8 with rfl | rfl
    ·go_wp2_with fail
     refine Calls.mono (HCK.out _) ?_
     rintro e w9 ⟨rfl,hw9⟩
     subst hw9
     go_wp2
     go_ret
     exact⟨rfl,HBA.out⟩
    ·go_wp2_with fail
     refine Calls.mono (HCK.out _) ?_
     rintro e w9 ⟨rfl,hw9⟩
     subst hw9
     go_wp2
     go_ret
     exact⟨rfl,HBA.out⟩
end Go.Proofs.YtjoiajmbfbjnnaaGreatDoor
namespace Go.Proofs.YtjoiajmbfbjnnaaGreatDoor
open Go.ChangeShapes Go.WideShapes Go.ChangeAt Go.RowKit
def laid3:List (String × DataW Unit):= [("rootstock/crc.halves",Rows.laid_rootstock_crc_halves),("unicode/utf8.acceptRanges",Rows.laid_unicode_utf8_acceptRanges),("unicode/utf8.first",Rows.laid_unicode_utf8_first)]
theorem halves_hv:(Rows.laid_rootstock_crc_halves:DataW Unit)= .agg (Cc.hv.map fun n:Nat=> .lit (.int .u32 (n:Int))):=by kernel_rfl
theorem ht_of{W:World}(h:laidMetH Tryz.prog laid3 W):HT W:=by
 rw[MakeChecks.laidMetH_plain _ _ _ (by kernel_rfl)]at h
 obtain⟨ps,⟨g,t,cs,fuel,p,q,hg,ht,hv,hd,_,_⟩,_⟩:=h
 obtain rfl:=Option.some.inj ((show Tryz.prog.globalNamed "rootstock/crc.halves" =some 0 by kernel_rfl).symm.trans hg)
 obtain rfl:=Option.some.inj ((show(Tryz.prog.globals[0]?).map (·.type)=some 326by kernel_rfl).symm.trans ht)
 obtain⟨xs,m,_,ex,_,hl,hel⟩:=DataW.trod_array Tryz.underlying326 hd
 have hc:∀r,r<16->W.cell? ⟨0,r,none⟩=some (.int .u32 ((Cc.hv.getD r 0:Nat):Int)):=by
  intro r hr
  have c5:Tryz.prog.cellsOf 275=1:=by kernel_rfl
  have hE:=hel r hr
  rw[c5,Nat.mul_one,List.getElem?_eq_getElem (by omega)]at hE
  obtain⟨z,e1,e2,_⟩:=DataW.trod_int Tryz.underlying275 hE
  have hlen:Cc.hv.length=16:=by decide
  rw[halves_hv]at ex
  have e3:(xs.map (·.1))=Cc.hv.map fun n:Nat=>(DataW.lit (.int .u32 (n:Int)):DataW Unit):=(DataW.agg.inj (Prod.mk.inj ex).1).symm
  have e4:(xs.map (·.1))[r]? =(Cc.hv.map fun n:Nat=>(DataW.lit (.int .u32 (n:Int)):DataW Unit))[r]? :=by rw[e3]
  rw[List.getElem?_map,List.getElem?_map,List.getElem?_eq_getElem (by omega:r<xs.length),List.getElem?_eq_getElem (by omega:r<Cc.hv.length),e2]at e4
  have hz:z=((Cc.hv.getD r 0:Nat):Int):=by
   simp only[Option.map_some,Option.some.injEq,DataW.lit.injEq,Lit.int.injEq,true_and]at e4
   rw[e4,List.getD,List.getElem?_eq_getElem (by omega:r<Cc.hv.length)];rfl
  rw[World.var?_cell hg hv r, <-hz]
  have:cs.toList[r]? =some (.int .u32 z):=by
   have h0:((cs.toList.drop r).take 1)[0]? =some (.int .u32 z):=by rw[e1];rfl
   simpa using h0
  simpa using this
 exact⟨World.block_lt_of_cell? W _ (hc 0 (by decide)),hc⟩
end Go.Proofs.YtjoiajmbfbjnnaaGreatDoor
