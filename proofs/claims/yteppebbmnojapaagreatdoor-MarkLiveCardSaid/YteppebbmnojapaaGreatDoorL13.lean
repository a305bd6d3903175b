/- Part of this proof. -/
import GoSem.Op.String
import Derived.Lib.Strings
import Derived.Test.YteppebbmnojapaaGreatDoorL12
set_option maxRecDepth 100000
set_option maxHeartbeats 8000000
namespace Go.Proofs.YteppebbmnojapaaGreatDoor
open Go.RowKit Go.Shelf
theorem VH(g:Nat)(r:List UInt8)(w:World)(h:Blk w g 372 (aH ⟨r,0⟩)):Calls Tryz.prog 275 #[.pointer (some ⟨g,0,none⟩)] w fun e w'=>e= .returned (.int .i64 r.length)/\w'=w:=by
 have h0:=h.cell 0
 simp only[aH]at h0
 go_enter Tryz.func275,Tryz.ntmps275
 go_wp2
 go_ret
 exact⟨rfl,rfl⟩
theorem YU(g:Nat)(w:World)(h:Blk w g 372 (aH ⟨[],0⟩)):Calls Tryz.prog 219 #[.pointer (some ⟨g,0,none⟩)] w fun e w'=>e= .returned (.int .i64 0)/\w'=w:=by
 have h0:=h.cell 0
 have h1:=h.cell 1
 simp only[aH]at h0 h1
 go_enter Tryz.func219,Tryz.ntmps219
 go_wp2
 go_ret
 exact⟨rfl,rfl⟩
def ql(k:Nat)(b:List UInt8)(x:Int)(w:World)(e:Ending)(w':World):Prop:=e= .returned (.tuple #[.int .u8 k, .string ⟨b.toArray⟩, .int .i64 x])/\Below w.heap.size w w'
theorem Rq(id:Int)(s C I K Z L G B R:List UInt8)(hs:s=C++(I++(K++(Z++(L++(G++(B++(R++ []))))))))
  (lC:C.length=4) (lI:I.length=4) (lK:K.length=1) (lZ:Z.length=1) (lL:L.length=2) (lG:G.length=4) (hn:Cp.num L=B.length) (lB:B.length<=240) (lR:R.length=240-B.length)
  (c:Bool) (hc:decide ((Cp.num (s.take 4):Int)=(Cc.sum (s.drop 4):Int))=c)
  (k:Nat) (b:List UInt8) (x:Int)
  (hcase:(c=true/\(Cp.num I:Int)=id/\Cp.num Z=0/\G= [0,0,0,0]/\Lib.trimB R 0= []/\k=Cp.num K/\b=B/\x=0)\/((c=false\/(Cp.num I:Int)≠id)/\k=0/\b= []/\x=3))
  (w:World) (hT:HT w):
  Calls Tryz.prog 308 #[.int .i64 id, .string ⟨s.toArray⟩] w (ql k b x w):=by
 have hsl:s.length=256:=by rw[hs];simp only[List.length_append,List.length_nil];omega
 have hCk:=fun W hT=>Ba s hsl W hT
 rw[hc]at hCk
 have h1:=fun g W h=>fH g ⟨C++(I++(K++(Z++(L++(G++(B++(R++ []))))))),0⟩ 4 W h (by omega)
 rw[<-hs]at h1
 have e1:Cp.Rd.int ⟨s,0⟩ 4=(Cp.num C,⟨I++(K++(Z++(L++(G++(B++(R++ [])))))),0⟩):=by rw[hs];exact sN lC
 have h2:=fun g W h=>fH g ⟨I++(K++(Z++(L++(G++(B++(R++ [])))))),0⟩ 4 W h (by omega)
 have h3:=fun g W h=>fH g ⟨K++(Z++(L++(G++(B++(R++ []))))),0⟩ 1 W h (by omega)
 have h4:=fun g W h=>fH g ⟨Z++(L++(G++(B++(R++ [])))),0⟩ 1 W h (by omega)
 have h5:=fun g W h=>fH g ⟨L++(G++(B++(R++ []))),0⟩ 2 W h (by omega)
 have h6:=fun g W h=>jR g ⟨G++(B++(R++ [])),0⟩ (4:Nat) W h
 have h7:=fun g W h=>jR g ⟨B++(R++ []),0⟩ (B.length:Nat) W h
 have h8:=fun g W h=>jR g ⟨R++ [],0⟩ (R.length:Nat) W h
 have h9:=fun g W h=>VH g (R++ []) W h
 rw[e1]at h1
 rw[sN lI]at h2
 rw[sN lK]at h3
 rw[sN lZ]at h4
 rw[sN lL]at h5
 rw[sO lG]at h6
 rw[sO rfl]at h7
 rw[sO rfl]at h8
 rw[show(R++([]:List UInt8)).length=R.length by simp]at h9
 have hK:Cp.num K<256:=by have:=Cp.Vu K;rw[lK]at this;simpa using this
 have hRl:R.length<=1000000:=by omega
 have hTr:=fun W=>VF R W hRl
 simp only[hn]at h5
 generalize C++(I++(K++(Z++(L++(G++(B++(R++ [])))))))=s0 at*
 generalize I++(K++(Z++(L++(G++(B++(R++ []))))))=s1 at*
 generalize K++(Z++(L++(G++(B++(R++ [])))))=s2 at*
 generalize Z++(L++(G++(B++(R++ []))))=s3 at*
 generalize L++(G++(B++(R++ [])))=s4 at*
 generalize G++(B++(R++ []))=s5 at*
 generalize B++(R++ [])=s6 at*
 generalize R++ []=s7 at*
 generalize hnI:Cp.num I=nI at*
 generalize hnZ:Cp.num Z=nZ at*
 generalize hnK:Cp.num K=nK at*
 generalize hnC:Cp.num C=nC at*
 generalize hTR:Lib.trimB R 0=tR at*
 generalize hRL:R.length=lr at*
 generalize hBL:B.length=lb at*
 have H1:=Lib.hid h1
 have H2:=Lib.hid h2
 have H3:=Lib.hid h3
 have H4:=Lib.hid h4
 have H5:=Lib.hid h5
 have H6:=Lib.hid h6
 have H7:=Lib.hid h7
 have H8:=Lib.hid h8
 have H9:=Lib.hid h9
 have HC:=Lib.hid hCk
 have HTr:=Lib.hid hTr
 clear h1 h2 h3 h4 h5 h6 h7 h8 h9 hCk hTr hc e1 hs hsl hn lC lI lK lZ lL lG lR hnI hnZ hnK hnC hTR hRL hBL
 go_enter Tryz.func308,Tryz.ntmps308
 go_wp2_with fail
 refine Calls.mono (mM s _) ?_
 rintro e w1 ⟨rfl,rfl⟩
 have b0:=Blk.new w 372 (aH ⟨s,0⟩)
 have hbw0:Below w.heap.size w (w.alloc (.cells (aH ⟨s,0⟩) 372)):=(Below.refl _ _).alloc (Nat.le_refl _) _
 go_wp2_with fail
 refine Calls.mono (H1.out _ _ b0) ?_
 rintro e w1 ⟨rfl,b1,g1⟩
 have wu:=hbw0.grown g1 hbw0.size (fun k e=>by cases e;exact Nat.le_refl _)
 clear b0 hbw0 g1
 go_wp2_with fail
 refine Calls.mono (H2.out _ _ b1) ?_
 rintro e w2 ⟨rfl,b2,g2⟩
 have hbw2:=wu.grown g2 wu.size (fun k e=>by cases e;exact Nat.le_refl _)
 clear b1 wu g2
 go_wp2_with fail
 refine Calls.mono (H3.out _ _ b2) ?_
 rintro e w3 ⟨rfl,b3,g3⟩
 have hbw3:=hbw2.grown g3 hbw2.size (fun k e=>by cases e;exact Nat.le_refl _)
 clear b2 hbw2 g3
 go_wp2_with fail
 refine Calls.mono (H4.out _ _ b3) ?_
 rintro e w4 ⟨rfl,b4,g4⟩
 have kJ:=hbw3.grown g4 hbw3.size (fun k e=>by cases e;exact Nat.le_refl _)
 clear b3 hbw3 g4
 go_wp2_with fail
 refine Calls.mono (H5.out _ _ b4) ?_
 rintro e w5 ⟨rfl,b5,g5⟩
 have AZ:=kJ.grown g5 kJ.size (fun k e=>by cases e;exact Nat.le_refl _)
 clear b4 kJ g5
 go_wp2_with fail
 refine Calls.mono (H6.out _ _ b5) ?_
 rintro e w6 ⟨rfl,b6,g6⟩
 have qP:=AZ.grown g6 AZ.size (fun k e=>by cases e;exact Nat.le_refl _)
 clear b5 AZ g6
 go_wp2_with fail
 refine Calls.mono (H7.out _ _ b6) ?_
 rintro e w7 ⟨rfl,b7,g7⟩
 have D9:=qP.grown g7 qP.size (fun k e=>by cases e;exact Nat.le_refl _)
 clear b6 qP g7
 go_wp2_with fail
 refine Calls.mono (H9.out _ _ b7) ?_
 rintro e w8 ⟨rfl,rfl⟩
 go_wp2_with fail
 refine Calls.mono (H8.out _ _ b7) ?_
 rintro e w9 ⟨rfl,b9,g9⟩
 have GX:=D9.grown g9 D9.size (fun k e=>by cases e;exact Nat.le_refl _)
 clear b7 D9 g9
 have hT9:=hT.below GX hT.1
 go_wp2_with fail
 refine Calls.mono (HC.out _ hT9) ?_
 rintro e w10 ⟨rfl,b10⟩
 have hb9:=b9.below b10 b9.lt
 have wC:=GX.trans (b10.mono GX.size)
 clear b9 b10 GX hT9
 cases c with
 |false=>
  obtain⟨rfl,rfl,rfl⟩:k=0/\b= []/\x=3:=by
   rcases hcase with⟨h, -⟩ | ⟨-,h⟩
   ·cases h
   ·exact h
  go_wp2
  refine bodyPost_ret (v:= .tuple #[.int .u8 0, .string ⟨#[]⟩, .int .i64 3]) (by simp[results,Tryz.results308,go_sem]) rfl ⟨rfl,wC⟩
 |true=>
  go_wp2_with fail
  refine Calls.mono (YU _ _ hb9) ?_
  rintro e w11 ⟨rfl,rfl⟩
  rcases hcase with⟨-,h1,rfl,rfl,rfl,rfl,rfl,rfl⟩ | ⟨h1 | h1,rfl,rfl,rfl⟩
  ·subst h1
   go_wp2_with (go_at_call 319;refine(HTr.out _).mono ?_;rintro e w12 ⟨rfl,h12⟩)
   have lU:Below w.heap.size w w12:=by rcases h12 with rfl | rfl;exact wC;exact wC.drew
   refine bodyPost_ret (v:= .tuple #[.int .u8 k, .string ⟨b.toArray⟩, .int .i64 0]) (by simp[results,Tryz.results308,go_sem]) rfl ⟨rfl,lU⟩
  ·cases h1
  ·have hne:((nI:Int) != id)=true:=by simpa using h1
   go_wp2
   refine bodyPost_ret (v:= .tuple #[.int .u8 0, .string ⟨#[]⟩, .int .i64 3]) (by simp[results,Tryz.results308,go_sem]) rfl ⟨rfl,wC⟩
theorem Nk(n:Nat):Lib.trimB (List.replicate n 0) 0= []:=by
 have h1:∀n,Lib.trimLeftB (List.replicate n 0) 0= []:=by
  intro n
  unfold Lib.trimLeftB
  induction n with
  |zero=>rfl
  |succ n ih=>rw[List.replicate_succ,List.dropWhile_cons];simp
 unfold Lib.trimB Lib.trimRightB
 rw[List.reverse_replicate]
 have h2:=h1 n
 unfold Lib.trimLeftB at h2 ⊢
 rw[h2];rfl
theorem ES(id kind:Nat)(b:List UInt8)(hi:id<4294967296)(hk:kind<256)(hb:b.length<=240)(w:World)(hT:HT w):
  Calls Tryz.prog 308 #[.int .i64 id, .string ⟨(Pg.page id kind b).toArray⟩] w (ql kind b 0 w):=by
 have hcs:=Cc.sum_lt (Pg.rest id kind b)
 refine Rq id (Pg.page id kind b) (Cp.be 4 (Cc.sum (Pg.rest id kind b))) (Cp.be 4 id) (Cp.be 1 kind) (Cp.be 1 0) (Cp.be 2 b.length) [0,0,0,0] b (List.replicate (240-b.length) 0) ?_ (Cp.au _ _) (Cp.au _ _) (Cp.au _ _) (Cp.au _ _) (Cp.au _ _) rfl (Cp.eu (by omega)) hb (by simp) true ?_ kind b 0 (.inl ⟨rfl, ?_, ?_,rfl,Nk _, ?_,rfl,rfl⟩) w hT
 ·rw[List.append_nil];rfl
 ·have e1:(Pg.page id kind b).take 4=Cp.be 4 (Cc.sum (Pg.rest id kind b)):=by unfold Pg.page;exact List.take_left' (Cp.au _ _)
  have e2:(Pg.page id kind b).drop 4=Pg.rest id kind b:=by unfold Pg.page;exact List.drop_left' (Cp.au _ _)
  rw[e1,e2,Cp.eu (by omega)];simp
 ·rw[Cp.eu (by omega)]
 ·rw[Cp.eu (by omega)]
 ·rw[Cp.eu (by omega)]
def Bc:List UInt8:=List.replicate 256 0
structure FAt(w:World)(B f d k:Nat)(D:Dk):Prop where
 le:B<=f
 self:Blk w f 119 #[.pointer (some ⟨d,0,none⟩)]
 disk:lT w B d k D
theorem lT.of_{w:World}{B d k:Nat}{D:Dk}(h:lT w B d k D):MQ w d D.sure.length:=by
 obtain⟨s,m,pv,Dm,h⟩:=h
 exact⟨_,_,_,h.self,rfl⟩
theorem FAt.keep{w w':World}{B f d k:Nat}{D:Dk}(h:FAt w B f d k D)(hb:Below w.heap.size w w'):FAt w' B f d k D:=⟨h.le,h.self.below hb h.self.lt,h.disk.keep hb⟩
def aS(n:Nat)(id:Int):Bool:=decide (id<2)||decide ((n:Int)<=id)
theorem xO{w:World}{B f d k:Nat}{D:Dk}(h:FAt w B f d k D)(id:Int):
  Calls Tryz.prog 138 #[.pointer (some ⟨f,0,none⟩), .int .i64 id] w fun e w'=>e= .returned (.int .i64 (if aS D.sure.length id then 40 else 0))/\w'=w:=by
 have hs:=yL d D.sure.length w h.disk.of_
 have hf:=h.self.cell 0
 generalize D.sure.length=n at*
 unfold aS
 clear h
 by_cases h2:id<2
 ·have hq:decide (id<2)=true:=by simpa using h2
  rw[hq]
  go_enter Tryz.func138,Tryz.ntmps138
  go_wp2
  go_ret
  exact⟨rfl,rfl⟩
 ·have hq:decide (id<2)=false:=by simpa using h2
  rw[hq]
  by_cases hn:(n:Int)<=id
  ·have hq2:decide ((n:Int)<=id)=true:=by simpa using hn
   rw[hq2]
   go_enter Tryz.func138,Tryz.ntmps138
   go_wp2_with (go_at_call 131;refine hs.mono ?_;rintro e w1 ⟨rfl,rfl⟩)
   go_ret
   exact⟨rfl,rfl⟩
  ·have hq2:decide ((n:Int)<=id)=false:=by simpa using hn
   rw[hq2]
   go_enter Tryz.func138,Tryz.ntmps138
   go_wp2_with (go_at_call 131;refine hs.mono ?_;rintro e w1 ⟨rfl,rfl⟩)
   go_ret
   exact⟨rfl,rfl⟩
def Dk.jc(D:Dk)(id:Int)(b:Bs):Int:=if aS D.sure.length id then 40 else if 240<b.length then 50 else if D.down then 4 else D.qO
def Dk.dW(D:Dk)(id:Int)(kind:Nat)(b:Bs):Dk:=if aS D.sure.length id then D else if 240<b.length then D else if D.down then D else D.wrote id (Pg.page id.toNat kind b)
theorem lT.mono{w:World}{B d k k':Nat}{D:Dk}(h:lT w B d k D)(hk:k<=k'):lT w B d k' D:=by
 obtain⟨s,m,pv,Dm,h⟩:=h
 exact⟨s,m,pv,Dm,h.le,h.self,h.sure,h.map.mono hk,h.now,h.pend⟩
theorem FAt.mono{w:World}{B f d k k':Nat}{D:Dk}(h:FAt w B f d k D)(hk:k<=k'):FAt w B f d k' D:=⟨h.le,h.self,h.disk.mono hk⟩
structure Fine(D:Dk):Prop where
 n:D.sure.length<=16384
 writes:0<=D.writes/\D.writes<1000000000000
 reads:0<=D.reads/\D.reads<1000000000000
 left: -1<=D.left/\D.left<=9223372036854775807
 pend:D.pend.length<=1000000000000
theorem at_eq{D:Dk}{id:Int}(h:aS D.sure.length id=false):D.at_ id=if D.down then 4 else 0:=by
 have h':¬id<2/\¬ (D.sure.length:Int)<=id:=by simpa[aS]using h
 unfold Dk.at_
 rw[if_neg (show ¬ (id<0\/(D.sure.length:Int)<=id)by omega)]
structure cO(d:Nat)(w w':World):Prop where
 cell:w'.cell? ⟨d,1,none⟩=w.cell? ⟨d,1,none⟩
 oth:∀m,w.cell? ⟨d,1,none⟩=some (.map (some m))->kZ m w w'
 row:w'.cell? ⟨d,0,none⟩=w.cell? ⟨d,0,none⟩
theorem cO.refl(d:Nat)(w:World):cO d w w:=⟨rfl,fun m _=>kZ.refl m w,rfl⟩
theorem cO.trans{d:Nat}{a b c:World}(h:cO d a b)(g:cO d b c):cO d a c:=⟨g.1.trans h.1,fun m hm=>(h.2 m hm).trans (g.2 m (h.1.trans hm)),g.row.trans h.row⟩
theorem cO.below{d:Nat}{w w':World}(hb:Below w.heap.size w w')(hd:d<w.heap.size):cO d w w':=⟨hb.cell hd,fun _ _=>kZ.below hb,hb.cell hd⟩
theorem Rt(D:Dk)(i:Int)(t:Bs):(D.wrote i t).sure.length=D.sure.length:=by
 unfold Dk.wrote
 split
 ·rfl
 ·split<;>rfl
theorem AU.maps{B d k k':Nat}{D D':Dk}{w w':World}(h:AU B d k k' D D' w w')(hl:D'.sure.length=D.sure.length):cO d w w':=by
 obtain⟨s,m,pv,Dm,pv',Dm',h1,h2,h3⟩:=h
 have e1:w.cell? ⟨d,1,none⟩=some (.map (some m)):=h1.self.cell 1
 have e2:w'.cell? ⟨d,1,none⟩=some (.map (some m)):=h2.self.cell 1
 have r1:w.cell? ⟨d,0,none⟩=some (.slice (some ⟨s,0,none⟩) D.sure.length D.sure.length):=h1.self.cell 0
 have r2:w'.cell? ⟨d,0,none⟩=some (.slice (some ⟨s,0,none⟩) D'.sure.length D'.sure.length):=h2.self.cell 0
 refine⟨e2.trans e1.symm,fun m' hm'=> ?_,by rw[r1,r2,hl]⟩
 rw[e1]at hm'
 injection hm' with hm'
 injection hm' with hm'
 injection hm' with hm'
 subst hm'
 exact h3
theorem AU.disk{B d k k':Nat}{D D':Dk}{w w':World}(h:AU B d k k' D D' w w'):lT w' B d k' D':=by
 obtain⟨s,m,pv,Dm,pv',Dm',h1,h2,h3⟩:=h
 exact⟨s,m,pv',Dm',h2⟩
theorem lT.dlt{w:World}{B d k:Nat}{D:Dk}(h:lT w B d k D):d<w.heap.size:=by
 obtain⟨s,m,pv,Dm,h2⟩:=h
 exact h2.self.lt
def Nl(B f d k:Nat)(x:Int)(D':Dk)(w:World)(e:Ending)(w':World):Prop:=e= .returned (.int .i64 x)/\FAt w' B f d k D'/\Below B w w'/\Kept w w'/\cO d w w'
def adk(B f d k:Nat)(x:Int)(D':Dk)(w:World)(e:Ending)(w':World):Prop:=e= .returned (.int .i64 x)/\FAt w' B f d k D'/\Below B w w'/\Kept w w'
theorem qQ{w:World}{B f d k:Nat}{D:Dk}(h:FAt w B f d k D)(hF:Fine D)(hk:k<maxLen)(hT:HT w)(hB:B<=w.heap.size)(id:Int)(kind:Nat)(hkd:kind<256)(b:Bs):
  Calls Tryz.prog 68 #[.pointer (some ⟨f,0,none⟩), .int .i64 id, .int .u8 kind,str b] w (Nl B f d (k+1) (D.jc id b) (D.dW id kind b) w):=by
 have hpg:=xO h id
 have hf:=h.self.cell 0
 have hdl:=h.disk.dlt
 cases hno:aS D.sure.length id with
 |true=>
  have e1:D.jc id b=40:=by unfold Dk.jc;rw[hno];rfl
  have e2:D.dW id kind b=D:=by unfold Dk.dW;rw[hno];rfl
  rw[e1,e2]
  rw[hno]at hpg
  clear e1 e2
  unfold str
  go_enter Tryz.func68,Tryz.ntmps68
  go_wp2_with fail
  refine Calls.mono hpg ?_
  rintro e w1 ⟨rfl,rfl⟩
  go_wp2
  go_ret
  exact⟨rfl,h.mono (by omega),Below.refl _ _,Kept.refl _,cO.refl _ _⟩
 |false=>
  rw[hno]at hpg
  have hb2:¬id<2/\¬ (D.sure.length:Int)<=id:=by simpa[aS]using hno
  have hat:=at_eq hno
  have hn:=hF.n
  by_cases hl:240<b.length
  ·have e1:D.jc id b=50:=by unfold Dk.jc;rw[hno,if_neg (by simp),if_pos hl]
   have e2:D.dW id kind b=D:=by unfold Dk.dW;rw[hno,if_neg (by simp),if_pos hl]
   rw[e1,e2]
   clear e1 e2
   have hs:=Rn id kind b hl w
   unfold zZ at hs
   unfold str
   go_enter Tryz.func68,Tryz.ntmps68
   go_wp2_with fail
   refine Calls.mono hpg ?_
   rintro e w1 ⟨rfl,rfl⟩
   go_wp2_with fail
   refine Calls.mono hs ?_
   rintro e w2 ⟨rfl,hb⟩
   go_wp2
   go_ret
   exact⟨rfl,(h.keep hb).mono (by omega),hb.mono hB,Kept.below hb,cO.below hb hdl⟩
  ·obtain⟨n,rfl⟩:=Int.eq_ofNat_of_zero_le (show 0<=id by omega)
   have hs:=YT n kind b (by omega) hkd (by omega) w hT
   have adl:=Pg.yO n kind b (by omega)
   have e1:D.jc n b=if D.down then 4 else D.qO:=by unfold Dk.jc;rw[hno,if_neg (by simp),if_neg hl]
   have e2:D.dW n kind b=if D.down then D else D.wrote n (Pg.page n kind b):=by unfold Dk.dW;rw[hno,if_neg (by simp),if_neg hl];rfl
   rw[e1,e2]
   unfold zZ at hs
   generalize Pg.page n kind b=P at*
   cases hdn:D.down with
   |true=>
    rw[hdn]at hat
    have hw:=fun W (h:lT W B d k D)=>Q8 h (n:Int) P (by rw[hat];decide)
    rw[hat]at hw
    have HW:=Lib.hid hw
    clear e1 e2 hat hw
    unfold str
    go_enter Tryz.func68,Tryz.ntmps68
    go_wp2_with fail
    refine Calls.mono hpg ?_
    rintro e w1 ⟨rfl,rfl⟩
    go_wp2_with fail
    refine Calls.mono hs ?_
    rintro e w2 ⟨rfl,hb⟩
    have h2:=h.keep hb
    have hf2:=h2.self.cell 0
    go_wp2_with fail
    refine Calls.mono (HW.out _ h2.disk) ?_
    rintro e w3 ⟨rfl,rfl⟩
    go_wp2
    go_ret
    exact⟨rfl,h2.mono (by omega),hb.mono hB,Kept.below hb,cO.below hb hdl⟩
   |false=>
    rw[hdn]at hat
    have hw:=fun W (h:lT W B d k D) hBW=>Q7 h (n:Int) P (by rw[hat];rfl) adl hk (by have:=hF.n;simp[Lit.wf,IntKind.min,IntKind.max,IntKind.signed,IntKind.bits];omega) ⟨hF.writes.1,by have:=hF.writes.2;omega⟩ hF.left.2 hF.pend hBW
    have HW:=Lib.hid hw
    clear e1 e2 hat hw
    unfold str at*
    go_enter Tryz.func68,Tryz.ntmps68
    go_wp2_with fail
    refine Calls.mono hpg ?_
    rintro e w1 ⟨rfl,rfl⟩
    go_wp2_with fail
    refine Calls.mono hs ?_
    rintro e w2 ⟨rfl,hb⟩
    have h2:=h.keep hb
    have hf2:=h2.self.cell 0
    go_wp2_with fail
    refine Calls.mono (HW.out _ h2.disk (Nat.le_trans hB hb.size)) ?_
    rintro e w3 ⟨rfl,hS3,hb3,hk3⟩
    have hD3:=hS3.disk
    have hM3:=(cO.below hb hdl).trans (hS3.maps (Rt _ _ _))
    go_wp2
    go_ret
    exact⟨rfl,⟨h2.le,hk3 _ _ _ h2.self (by decide) (by decide),hD3⟩,(hb.mono hB).trans hb3,(Kept.below hb).trans hk3,hM3⟩
theorem Bd{w:World}{B f d k:Nat}{D:Dk}(h:FAt w B f d k D)(hF:Fine D)(hk:k<maxLen)(hT:HT w)(hB:B<=w.heap.size)(id:Int)(kind:Nat)(hkd:kind<256)(b:Bs):
  Calls Tryz.prog 68 #[.pointer (some ⟨f,0,none⟩), .int .i64 id, .int .u8 kind,str b] w (adk B f d (k+1) (D.jc id b) (D.dW id kind b) w):=
 (qQ h hF hk hT hB id kind hkd b).mono fun _ _ h=>⟨h.1,h.2.1,h.2.2.1,h.2.2.2.1⟩
end Go.Proofs.YteppebbmnojapaaGreatDoor
namespace En
abbrev Str:=ByteArray
def lt(a b:Str):Bool:=Go.Op.bytesLess a.toList b.toList
theorem ET:∀a:List UInt8,Go.Op.bytesLess a a=false
 | []=>rfl
 |x::a=>by simp[Go.Op.bytesLess,ET a]
theorem Ji:∀a b c:List UInt8,Go.Op.bytesLess a b=true->Go.Op.bytesLess b c=true->Go.Op.bytesLess a c=true
 |_, [],_,h,_=>by cases ‹List UInt8› <;>simp[Go.Op.bytesLess]at h
 |_,_::_, [],_,h=>by simp[Go.Op.bytesLess]at h
 | [],_::_,_::_,_,_=>by simp[Go.Op.bytesLess]
 |x::a,y::b,z::c,h1,h2=>by
  simp only[Go.Op.bytesLess,Bool.or_eq_true,decide_eq_true_eq,Bool.and_eq_true,beq_iff_eq,UInt8.lt_iff_toNat_lt]at*
  rcases h1 with h1 | ⟨rfl,h1⟩<;>rcases h2 with h2 | ⟨rfl,h2⟩
  ·exact .inl (by omega)
  ·exact .inl h1
  ·exact .inl h2
  ·exact .inr ⟨rfl,Ji a b c h1 h2⟩
theorem VI:∀a b:List UInt8,Go.Op.bytesLess a b=true\/a=b\/Go.Op.bytesLess b a=true
 | [], []=> .inr (.inl rfl)
 | [],_::_=> .inl rfl
 |_::_, []=> .inr (.inr rfl)
 |x::a,y::b=>by
  simp only[Go.Op.bytesLess,Bool.or_eq_true,decide_eq_true_eq,Bool.and_eq_true,beq_iff_eq,UInt8.lt_iff_toNat_lt,List.cons.injEq]
  rcases Nat.lt_trichotomy x.toNat y.toNat with h | h | h
  ·exact .inl (.inl h)
  ·have e:x=y:=UInt8.toNat_inj.1 h
   subst e
   rcases VI a b with h1 | h1 | h1
   ·exact .inl (.inr ⟨rfl,h1⟩)
   ·exact .inr (.inl ⟨rfl,h1⟩)
   ·exact .inr (.inr (.inr ⟨rfl,h1⟩))
  ·exact .inr (.inr (.inl h))
theorem toList_inj{a b:Str}(h:a.toList=b.toList):a=b:=by
 rw[Go.Lib.toList_data,Go.Lib.toList_data]at h
 exact ByteArray.ext (Array.toList_inj.1 h)
theorem lt_irrefl(a:Str):lt a a=false:=ET _
theorem lt_trans{a b c:Str}(h:lt a b=true)(h':lt b c=true):lt a c=true:=Ji _ _ _ h h'
theorem VJ(a b:Str):lt a b=true\/a=b\/lt b a=true:=by
 rcases VI a.toList b.toList with h | h | h
 ·exact .inl h
 ·exact .inr (.inl (toList_inj h))
 ·exact .inr (.inr h)
theorem Bf{a b:Str}(h:lt a b=true):a≠b:=fun e=>by subst e;rw[lt_irrefl]at h;cases h
theorem uV{a b:Str}(h:lt a b=true):lt b a=false:=by
 cases h':lt b a with
 |false=>rfl
 |true=>have:=lt_trans h h';rw[lt_irrefl]at this;cases this
theorem yQ{a b:Str}(h:lt a b=false):a=b\/lt b a=true:=by
 rcases VJ a b with h' | h' | h'
 ·rw[h]at h';cases h'
 ·exact .inl h'
 ·exact .inr h'
theorem kL{a b c:Str}(h:lt a b=true)(h':lt c b=false):lt a c=true:=by
 rcases yQ h' with e | e
 ·subst e;exact h
 ·exact lt_trans h e
def eqs(a b:Str):Bool:=a.toList==b.toList
theorem wE{a b:Str} :eqs a b=true ↔ a=b:=by
 unfold eqs;rw[beq_iff_eq];exact⟨toList_inj,fun h=>by rw[h]⟩
theorem wF(a:Str):eqs a a=true:=wE.2 rfl
theorem Np{a b:Str}(h:a≠b):eqs a b=false:=by
 cases e:eqs a b with
 |false=>rfl
 |true=>exact absurd (wE.1 e) h
theorem oL{a b:Str} :eqs a b=false ↔ a≠b:=⟨fun h e=>(by rw[e,wF]at h;cases h),Np⟩
abbrev Ent:=Str × Str
def may(k v:Str):Bool:=decide (1<=k.size)&&decide (k.size<=16)&&decide (v.size<=40)
def ahead(p:Option Str)(k:Str):Bool:=match p with | none=>true | some y=>lt y k
def rightFrom:Option Str->List Ent->Bool
 |_, []=>true
 |p,x::l=>may x.1 x.2&&ahead p x.1&&rightFrom (some x.1) l
def right(l:List Ent):Bool:=rightFrom none l
def Srt(l:List Ent):Prop:=l.Pairwise fun x y=>lt x.1 y.1=true
theorem uq:∀ (l:List Ent) (p:Option Str),rightFrom p l=true ↔ (∀x∈l,may x.1 x.2=true)/\(∀y,p=some y->∀x∈l,lt y x.1=true)/\Srt l
 | [],p=>by simp[rightFrom,Srt]
 |x::l,p=>by
  rw[rightFrom,Bool.and_eq_true,Bool.and_eq_true,uq l (some x.1)]
  unfold Srt
  rw[List.pairwise_cons]
  constructor
  ·rintro⟨⟨h1,h2⟩,h3,h4,h5⟩
   refine⟨fun y hy=> ?_,fun y hy z hz=> ?_,fun y hy=>h4 _ rfl y hy,h5⟩
   ·rcases List.mem_cons.1 hy with rfl | hy
    ·exact h1
    ·exact h3 y hy
   ·subst hy
    unfold ahead at h2;simp only at h2
    rcases List.mem_cons.1 hz with rfl | hz
    ·exact h2
    ·exact lt_trans h2 (h4 _ rfl z hz)
  ·rintro⟨h1,h2,h3,h4⟩
   refine⟨⟨h1 x List.mem_cons_self, ?_⟩,fun y hy=>h1 y (List.mem_cons_of_mem _ hy),fun y hy z hz=> ?_,h4⟩
   ·cases p with
    |none=>rfl
    |some y=>exact h2 y rfl x List.mem_cons_self
   ·injection hy with hy;subst hy;exact h3 z hz
theorem bF(l:List Ent):right l=true ↔ (∀x∈l,may x.1 x.2=true)/\Srt l:=by
 unfold right
 rw[uq]
 exact⟨fun h=>⟨h.1,h.2.2⟩,fun h=>⟨h.1,(fun y hy=>by cases hy),h.2⟩⟩
def prev(l:List Ent)(k:Nat):Option Str:=if k=0 then none else(l[k-1]?).map (·.1)
theorem VK(l:List Ent)(k:Nat)(hk:k<l.length):rightFrom (prev l k) (l.drop k)=(may l[k].1 l[k].2&&ahead (prev l k) l[k].1&&rightFrom (prev l (k+1)) (l.drop (k+1))):=by
 rw[List.drop_eq_getElem_cons hk,rightFrom]
 have e:prev l (k+1)=some l[k].1:=by unfold prev;rw[if_neg (by omega)];simp[hk]
 rw[e]
theorem Ru(l:List Ent)(k:Nat)(hk:k<l.length)(h0:0<k):prev l k=some (l[k-1]'(by omega)).1:=by
 unfold prev;rw[if_neg (by omega)];simp[show k-1<l.length by omega]
def del(l:List Ent)(k:Str):List Ent:=l.filter fun x=> !eqs x.1 k
def ins(x:Ent):List Ent->List Ent
 | []=> [x]
 |y::l=>if lt x.1 y.1 then x::y::l else y::ins x l
def put(l:List Ent)(k v:Str):List Ent:=ins (k,v) (del l k)
def get(l:List Ent)(k:Str):Option Str:=(l.find? fun x=>eqs x.1 k).map (·.2)
theorem mO{x:Ent}{l:List Ent} :Srt (x::l) ↔ (∀y∈l,lt x.1 y.1=true)/\Srt l:=List.pairwise_cons
theorem GY{l:List Ent}(h:Srt l)(k:Str):Srt (del l k):=List.Pairwise.sublist List.filter_sublist h
theorem wG{l:List Ent}{k:Str}{x:Ent} :x∈del l k ↔ x∈l/\x.1≠k:=by
 unfold del;rw[List.mem_filter,Bool.not_eq_true',oL]
theorem GZ{x z:Ent} :∀ {l:List Ent},z∈ins x l ↔ z=x\/z∈l
 | []=>by simp[ins]
 |y::l=>by
  unfold ins
  split
  ·simp
  ·rw[List.mem_cons,GZ,List.mem_cons]
   constructor
   ·rintro(h | h | h)
    ·exact .inr (.inl h)
    ·exact .inl h
    ·exact .inr (.inr h)
   ·rintro(h | h | h)
    ·exact .inr (.inl h)
    ·exact .inl h
    ·exact .inr (.inr h)
theorem PE{x:Ent} :∀ {l:List Ent},Srt l->(∀y∈l,y.1≠x.1)->Srt (ins x l)
 | [],_,_=>by simp[ins,Srt]
 |y::l,h,hn=>by
  obtain⟨h1,h2⟩:=mO.1 h
  unfold ins
  split
  ·rename_i hx
   refine mO.2 ⟨fun z hz=> ?_,h⟩
   rcases List.mem_cons.1 hz with rfl | hz
   ·exact hx
   ·exact lt_trans hx (h1 z hz)
  ·rename_i hx
   refine mO.2 ⟨fun z hz=> ?_,PE h2 fun z hz=>hn z (List.mem_cons_of_mem _ hz)⟩
   rcases GZ.1 hz with rfl | hz
   ·rcases yQ (by simpa using hx)with e | e
    ·exact absurd e.symm (hn y List.mem_cons_self)
    ·exact e
   ·exact h1 z hz
theorem G5{l:List Ent}(h:Srt l)(k v:Str):Srt (put l k v):=PE (GY h k) fun _ hy=>(wG.1 hy).2
theorem Aa{l:List Ent}{k v:Str}{z:Ent} :z∈put l k v ↔ z=(k,v)\/(z∈l/\z.1≠k):=by
 unfold put;rw[GZ,wG]
theorem Rw{l:List Ent}{k v:Str}(h:right l=true)(hm:may k v=true):right (put l k v)=true:=by
 obtain⟨h1,h2⟩:=(bF l).1 h
 refine(bF _).2 ⟨fun x hx=> ?_,G5 h2 k v⟩
 rcases Aa.1 hx with rfl | hx
 ·exact hm
 ·exact h1 x hx.1
theorem Rx{l:List Ent}{k:Str}(h:right l=true):right (del l k)=true:=by
 obtain⟨h1,h2⟩:=(bF l).1 h
 exact(bF _).2 ⟨fun x hx=>h1 x (wG.1 hx).1,GY h2 k⟩
theorem Ac:∀ {a b:List Ent},Srt a->Srt b->(∀x,x∈a ↔ x∈b)->a=b
 | [], [],_,_,_=>rfl
 | [],y::b,_,_,h=>absurd ((h y).2 List.mem_cons_self) List.not_mem_nil
 |x::a, [],_,_,h=>absurd ((h x).1 List.mem_cons_self) List.not_mem_nil
 |x::a,y::b,ha,hb,h=>by
  obtain⟨a1,a2⟩:=mO.1 ha
  obtain⟨b1,b2⟩:=mO.1 hb
  have e:x=y:=by
   rcases List.mem_cons.1 ((h x).1 List.mem_cons_self)with e | hx
   ·exact e
   ·rcases List.mem_cons.1 ((h y).2 List.mem_cons_self)with e | hy
    ·exact e.symm
    ·have h1:=lt_trans (b1 x hx) (a1 y hy);rw[lt_irrefl]at h1;cases h1
  subst e
  rw[Ac a2 b2 fun z=> ?_]
  have hz:=h z
  rw[List.mem_cons,List.mem_cons]at hz
  constructor
  ·intro hm
   rcases hz.1 (.inr hm)with rfl | h'
   ·have:=a1 _ hm;rw[lt_irrefl]at this;cases this
   ·exact h'
  ·intro hm
   rcases hz.2 (.inr hm)with rfl | h'
   ·have:=b1 _ hm;rw[lt_irrefl]at this;cases this
   ·exact h'
theorem G6{l:List Ent}(hs:Srt l){k v:Str}{i:Nat}(hi:i<=l.length)(h1:∀j (hj:j<l.length),j<i->lt l[j].1 k=true)(h2:∀j (hj:j<l.length),i<=j->lt l[j].1 k=false):
  (∀ (h:i<l.length),l[i].1=k->l.set i (k,v)=put l k v/\l.take i++l.drop (i+1)=del l k)/\((∀ (h:i<l.length),l[i].1≠k)->l.take i++(k,v)::l.drop i=put l k v/\del l k=l):=by
 have key:∀j (hj:j<l.length),l[j].1=k->j=i:=by
  intro j hj e
  by_cases hji:j<i
  ·have:=h1 j hj hji;rw[e,lt_irrefl]at this;cases this
  ·by_cases e2:j=i
   ·exact e2
   ·have h3:=List.pairwise_iff_getElem.1 hs i j (by omega) hj (by omega)
    rw[e,h2 i (by omega) (Nat.le_refl _)]at h3;cases h3
 constructor
 ·intro hil e
  have hset:Srt (l.set i (k,v)):=by
   unfold Srt
   rw[List.pairwise_iff_getElem]
   intro p q hp hq hpq
   have h3:=List.pairwise_iff_getElem.1 hs p q (by simpa using hp) (by simpa using hq) hpq
   rw[List.getElem_set,List.getElem_set]
   by_cases ep:i=p<;>by_cases eq:i=q
   ·omega
   ·rw[if_pos ep,if_neg eq];subst ep;simp only;rw[e]at h3;exact h3
   ·rw[if_neg ep,if_pos eq];subst eq;simp only;rw[e]at h3;exact h3
   ·rw[if_neg ep,if_neg eq];exact h3
  refine⟨Ac hset (G5 hs k v) fun z=> ?_,Ac ?_ (GY hs k) fun z=> ?_⟩
  ·rw[Aa,List.mem_iff_getElem]
   constructor
   ·rintro⟨j,hj,rfl⟩
    rw[List.getElem_set]
    by_cases ej:i=j
    ·rw[if_pos ej];exact .inl rfl
    ·rw[if_neg ej];exact .inr ⟨List.getElem_mem _,fun e'=>ej (key j (by simpa using hj) e').symm⟩
   ·rintro(rfl | ⟨hz,hzk⟩)
    ·exact⟨i,by simpa using hil,by simp⟩
    ·obtain⟨j,hj,rfl⟩:=List.getElem_of_mem hz
     refine⟨j,by simpa using hj, ?_⟩
     rw[List.getElem_set,if_neg]
     rintro rfl
     exact hzk e
  ·rw[<-List.eraseIdx_eq_take_drop_succ]
   exact List.Pairwise.sublist (List.eraseIdx_sublist l i) hs
  ·rw[wG, <-List.eraseIdx_eq_take_drop_succ,List.mem_eraseIdx_iff_getElem]
   constructor
   ·rintro⟨j,hj,hne,rfl⟩
    exact⟨List.getElem_mem _,fun e'=>hne (key j hj e')⟩
   ·rintro⟨hz,hzk⟩
    obtain⟨j,hj,rfl⟩:=List.getElem_of_mem hz
    exact⟨j,hj,fun e'=>by subst e';exact hzk e,rfl⟩
 ·intro hne
  have hno:∀z∈l,z.1≠k:=by
   intro z hz e
   obtain⟨j,hj,rfl⟩:=List.getElem_of_mem hz
   have:=key j hj e
   subst this
   exact hne hj e
  have hdel:del l k=l:=by
   unfold del
   rw[List.filter_eq_self]
   intro a ha
   rw[Bool.not_eq_true',oL];exact hno a ha
  refine⟨Ac ?_ (G5 hs k v) fun z=> ?_,hdel⟩
  ·have hsp:Srt (l.take i++l.drop i):=by rw[List.take_append_drop];exact hs
   unfold Srt at hsp ⊢
   rw[List.pairwise_append]at hsp ⊢
   obtain⟨p1,p2,p3⟩:=hsp
   refine⟨p1,List.pairwise_cons.2 ⟨fun y hy=> ?_,p2⟩,fun x hx y hy=> ?_⟩
   ·obtain⟨j,hj,rfl⟩:=List.getElem_of_mem hy
    rw[List.length_drop]at hj
    rw[List.getElem_drop]
    rcases yQ (h2 (i+j) (by omega) (by omega))with e | e
    ·exact absurd e (hno _ (List.getElem_mem _))
    ·exact e
   ·have hxk:lt x.1 k=true:=by
     obtain⟨j,hj,rfl⟩:=List.getElem_of_mem hx
     rw[List.length_take]at hj
     rw[List.getElem_take]
     exact h1 j (by omega) (by omega)
    rcases List.mem_cons.1 hy with rfl | hy
    ·exact hxk
    ·exact p3 x hx y hy
  ·have hm:z∈l ↔ z∈l.take i\/z∈l.drop i:=by rw[<-List.mem_append,List.take_append_drop]
   rw[Aa,List.mem_append,List.mem_cons]
   constructor
   ·rintro(h | h | h)
    ·exact .inr ⟨hm.2 (.inl h),hno z (hm.2 (.inl h))⟩
    ·exact .inl h
    ·exact .inr ⟨hm.2 (.inr h),hno z (hm.2 (.inr h))⟩
   ·rintro(h | ⟨h,_⟩)
    ·exact .inr (.inl h)
    ·rcases hm.1 h with h | h
     ·exact .inl h
     ·exact .inr (.inr h)
end En
namespace Go.Proofs.YteppebbmnojapaaGreatDoor
open Go.RowKit
abbrev Ent:=En.Ent
def bD:Enc Ent:=⟨fun x=> [.string x.1, .string x.2],2,fun _=>rfl,by decide,fun x u hu=>by simp at hu;rcases hu with rfl | rfl<;>rfl⟩
theorem EU:EI Tryz.prog 101 (.agg #[.string ⟨#[]⟩, .string ⟨#[]⟩]) 2 32:=EI.mk (by kernel_rfl)
theorem LS.ent{w:World}{B:Nat}{A:Option Addr}{l:List Ent}(h:LS bD w B A l){k:Nat}(hk:k<l.length):∃b off,A=some ⟨b,off,none⟩/\b<B/\w.cell? ⟨b,off+k*2,none⟩=some (.string l[k].1)/\w.cell? ⟨b,off+k*2+1,none⟩=some (.string l[k].2):=by
 obtain⟨b,off,rfl,hb,hc⟩:=h.at_ hk
 exact⟨b,off,rfl,hb,hc 0 (by decide),hc 1 (by decide)⟩
theorem size_empty(s:ByteArray):s.toList.isEmpty=decide (s.size=0):=by
 rw[Lib.toList_data]
 cases h:s.data.toList with
 |nil=>have:s.size=0:=by rw[<-ByteArray.size_data, <-Array.length_toList,h];rfl
       rw[this];rfl
 |cons a l=>
  have:s.size=l.length+1:=by rw[<-ByteArray.size_data, <-Array.length_toList,h];rfl
  rw[this];simp
theorem YV(k v:ByteArray)(w:World):Calls Tryz.prog 64 #[.string k, .string v] w fun e w'=>e= .returned (.bool (En.may k v))/\w'=w:=by
 have e:En.may k v=(decide (1<=(k.size:Int))&&decide ((k.size:Int)<=16)&&decide ((v.size:Int)<=40)):=by
  unfold En.may;rw[Bool.eq_iff_iff];simp;omega
 rw[e]
 clear e
 by_cases h1:1<=(k.size:Int)
 ·by_cases h2:(k.size:Int)<=16
  ·go_enter Tryz.func64,Tryz.ntmps64
   go_wp2
   go_ret
   exact⟨by rw[decide_eq_true h1,decide_eq_true h2];rfl,rfl⟩
  ·go_enter Tryz.func64,Tryz.ntmps64
   go_wp2
   go_ret
   exact⟨by rw[decide_eq_false (by omega:¬ (k.size:Int)<=16)];rfl,rfl⟩
 ·go_enter Tryz.func64,Tryz.ntmps64
  go_wp2
  go_ret
  exact⟨by rw[decide_eq_false (by omega:¬1<=(k.size:Int))];rfl,rfl⟩
theorem Ry(k v:ByteArray)(w:World)(hm:En.may k v=true):Calls Tryz.prog 135 #[.string k, .string v] w fun e w'=>e= .returned (.int .i64 0)/\w'=w:=by
 unfold En.may at hm
 simp only[Bool.and_eq_true,decide_eq_true_eq]at hm
 have h1:k.toList.isEmpty=false:=by rw[size_empty];exact decide_eq_false (by omega)
 have h2:decide (16<(k.size:Int))=false:=by simp;omega
 have h3:decide (40<(v.size:Int))=false:=by simp;omega
 clear hm
 go_enter Tryz.func135,Tryz.ntmps135
 go_wp2
 go_ret
 exact⟨rfl,rfl⟩
theorem VL(k v:ByteArray)(w:World)(hm:En.may k v=false):Calls Tryz.prog 135 #[.string k, .string v] w fun e w'=>e= .returned (.int .i64 110)/\w'=w:=by
 unfold En.may at hm
 simp only[Bool.and_eq_false_iff,decide_eq_false_iff_not]at hm
 by_cases g1:k.size=0
 ·have h1:k.toList.isEmpty=true:=by rw[size_empty];exact decide_eq_true g1
  clear hm g1
  go_enter Tryz.func135,Tryz.ntmps135
  go_wp2
  go_ret
  exact⟨rfl,rfl⟩
 ·have h1:k.toList.isEmpty=false:=by rw[size_empty];exact decide_eq_false g1
  by_cases g2:k.size<=16
  ·have h2:decide (16<(k.size:Int))=false:=by simp;omega
   have h3:decide (40<(v.size:Int))=true:=by simp;omega
   clear hm g1
   go_enter Tryz.func135,Tryz.ntmps135
   go_wp2
   go_ret
   exact⟨rfl,rfl⟩
  ·have h2:decide (16<(k.size:Int))=true:=by simp;omega
   clear hm g1
   go_enter Tryz.func135,Tryz.ntmps135
   go_wp2
   go_ret
   exact⟨rfl,rfl⟩
def chk(k v:ByteArray):Int:=if En.may k v then 0 else 110
theorem check_any(k v:ByteArray)(w:World):Calls Tryz.prog 135 #[.string k, .string v] w fun e w'=>e= .returned (.int .i64 (chk k v))/\w'=w:=by
 unfold chk
 cases hm:En.may k v with
 |true=>exact Ry k v w hm
 |false=>exact VL k v w hm
theorem Ad{k v:ByteArray}(h:En.may k v=true):chk k v=0:=by unfold chk;rw[h];rfl
theorem Nq{k v:ByteArray}(h:En.may k v=false):chk k v=110:=by unfold chk;rw[h];rfl
theorem lX(A:Option Addr)(c:Nat)(l:List Ent)(w:World)(hr:LS bD w w.heap.size A l)(hl:l.length<=1000000):
  Calls Tryz.prog 191 #[.slice A l.length c] w fun e w'=>e= .returned (.bool (En.right l))/\Below w.heap.size w w':=by
 obtain⟨R,hR⟩:∃R,R=En.right l:=⟨_,rfl⟩
 rw[<-hR]
 have HR:=Lib.hid hR
 clear hR
 go_enter Tryz.func191,Tryz.ntmps191
 go_wp2
 go_loopw [3,4,7] (fun _ _ i wr=>∃k:Nat,k<=l.length/\i= .int .i64 k/\Hid (En.right l=En.rightFrom (En.prev l k) (l.drop k))/\Below w.heap.size w wr) (fun _ _ i _=>l.length-(intOf i).toNat)
 case atStart=>exact⟨0,by omega,rfl,Lib.hid rfl,Below.refl _ _⟩
 case round=>
  obtain⟨k,hk,rfl,HK,hbe⟩:=hrel
  by_cases hlt:k<l.length
  ·obtain⟨b1,o1,rfl,hb1,g0,g1⟩:=(hr.below hbe).ent hlt
   have hat:=Lib.hid (En.VK l k hlt)
   generalize hx:l[k]=x at*
   obtain⟨x1,x2⟩:=x
   have hb1':b1<wr.heap.size:=by have:=hbe.size;omega
   cases hm:En.may x1 x2 with
   |false=>
    have hc:=fun W=>ak (check_any x1 x2 W)
    rw[Nq hm]at hc
    have HM:=Lib.hid hm
    clear hm
    go_wp2_with fail
    go_quiet ((go_at_call 135;exact Calls.quiet_of_same (hc _).out))
    go_wp2
    go_ret
    exact⟨by rw[HR.out,HK.out,hat.out,HM.out];rfl,below_drewN (hbe.alloc hbe.size _) _⟩
   |true=>
    have hc:=fun W=>ak (check_any x1 x2 W)
    rw[Ad hm]at hc
    have HM:=Lib.hid hm
    clear hm
    by_cases h0:k=0
    ·subst h0
     simp only[Nat.zero_mul,Nat.add_zero]at g0 g1
     go_wp2_with fail
     go_quiet ((go_at_call 135;exact Calls.quiet_of_same (hc _).out))
     go_wp2
     go_roundw
     case rel=>
      refine⟨1,by omega,rfl, ?_,below_drewN (hbe.alloc hbe.size _) _⟩
      refine Lib.hid ?_
      rw[HK.out,hat.out,HM.out];rfl
     case measure=>simp[intOf];omega
    ·obtain⟨q,rfl⟩:∃q,k=q+1:=⟨k-1,by omega⟩
     obtain⟨b2,o2,e2,hb2,f0,f1⟩:=(hr.below hbe).ent (show q<l.length by omega)
     injection e2 with e2;injection e2 with e2 e3;subst e2 e3
     have hp:=Lib.hid (En.Ru l (q+1) hlt (by omega))
     generalize hz:l[q]=z at*
     cases hlz:En.lt z.1 x1 with
     |true=>
      have hbl:Op.bytesLess z.1.toList x1.toList=true:=hlz
      have HL:=Lib.hid hlz
      clear hlz f1 h0
      go_wp2_with fail
      go_quiet ((go_at_call 135;exact Calls.quiet_of_same (hc _).out))
      go_wp2
      go_roundw
      case rel=>
       refine⟨q+1+1,by omega,by go_num, ?_,below_drewN (hbe.alloc hbe.size _) _⟩
       refine Lib.hid ?_
       rw[HK.out,hat.out,hp.out,HM.out]
       simp only[Nat.add_sub_cancel,hz]
       unfold En.ahead
       simp only
       rw[HL.out];simp
      case measure=>simp[intOf];omega
     |false=>
      have hbl:Op.bytesLess z.1.toList x1.toList=false:=hlz
      have HL:=Lib.hid hlz
      clear hlz f1 h0
      go_wp2_with fail
      go_quiet ((go_at_call 135;exact Calls.quiet_of_same (hc _).out))
      go_wp2
      go_ret
      refine⟨?_,below_drewN (hbe.alloc hbe.size _) _⟩
      rw[HR.out,HK.out,hat.out,hp.out]
      simp only[Nat.add_sub_cancel,hz]
      unfold En.ahead
      simp only
      rw[HL.out];simp
  ·obtain rfl:k=l.length:=by omega
   go_wp2
   go_ret
   refine⟨?_,hbe⟩
   rw[HR.out,HK.out,List.drop_of_length_le (Nat.le_refl _)];rfl
end Go.Proofs.YteppebbmnojapaaGreatDoor
