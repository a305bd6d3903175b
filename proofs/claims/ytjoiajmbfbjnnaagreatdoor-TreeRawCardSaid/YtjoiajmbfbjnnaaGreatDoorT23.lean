/- Part of this proof. -/
import Derived.BigRegion
import Derived.Deep.RegionWith
import Derived.Test.YtjoiajmbfbjnnaaGreatDoorT22
set_option maxRecDepth 100000
set_option maxHeartbeats 8000000
namespace Go.Proofs.YtjoiajmbfbjnnaaGreatDoor
open Go.RowKit Go.Shelf
theorem left_any(g:Nat)(r:List UInt8)(w:World)(h:Blk w g 330 (rdCells ⟨r,0⟩)):Calls Tryz.prog 199 #[.pointer (some ⟨g,0,none⟩)] w fun e w'=>e= .returned (.int .i64 r.length)/\w'=w:=by
 have h0:=h.cell 0
 simp only[rdCells]at h0
 go_enter Tryz.func199,Tryz.ntmps199
 go_wp2
 go_ret
 exact⟨rfl,rfl⟩
theorem end_any(g:Nat)(w:World)(h:Blk w g 330 (rdCells ⟨[],0⟩)):Calls Tryz.prog 202 #[.pointer (some ⟨g,0,none⟩)] w fun e w'=>e= .returned (.int .i64 0)/\w'=w:=by
 have h0:=h.cell 0
 have h1:=h.cell 1
 simp only[rdCells]at h0 h1
 go_enter Tryz.func202,Tryz.ntmps202
 go_wp2
 go_ret
 exact⟨rfl,rfl⟩
def OpenEnd(k:Nat)(b:List UInt8)(x:Int)(w:World)(e:Ending)(w':World):Prop:=e= .returned (.tuple #[.int .u8 k, .string ⟨b.toArray⟩, .int .i64 x])/\Below w.heap.size w w'
theorem open_core(id:Int)(s C I K Z L G B R:List UInt8)(hs:s=C++(I++(K++(Z++(L++(G++(B++(R++ []))))))))
  (lC:C.length=4) (lI:I.length=4) (lK:K.length=1) (lZ:Z.length=1) (lL:L.length=2) (lG:G.length=4) (hn:Cp.num L=B.length) (lB:B.length<=240) (lR:R.length=240-B.length)
  (c:Bool) (hc:decide ((Cp.num (s.take 4):Int)=(Cc.sum (s.drop 4):Int))=c)
  (k:Nat) (b:List UInt8) (x:Int)
  (hcase:(c=true/\(Cp.num I:Int)=id/\Cp.num Z=0/\G= [0,0,0,0]/\Lib.trimB R 0= []/\k=Cp.num K/\b=B/\x=0)\/((c=false\/(Cp.num I:Int)≠id)/\k=0/\b= []/\x=3))
  (w:World) (hT:HT w):
  Calls Tryz.prog 237 #[.int .i64 id, .string ⟨s.toArray⟩] w (OpenEnd k b x w):=by
 have hsl:s.length=256:=by rw[hs];simp only[List.length_append,List.length_nil];omega
 have hCk:=fun W hT=>pcheck_any s hsl W hT
 rw[hc]at hCk
 have h1:=fun g W h=>int_any g ⟨C++(I++(K++(Z++(L++(G++(B++(R++ []))))))),0⟩ 4 W h (by omega)
 rw[<-hs]at h1
 have e1:Cp.Rd.int ⟨s,0⟩ 4=(Cp.num C,⟨I++(K++(Z++(L++(G++(B++(R++ [])))))),0⟩):=by rw[hs];exact int_app lC
 have h2:=fun g W h=>int_any g ⟨I++(K++(Z++(L++(G++(B++(R++ [])))))),0⟩ 4 W h (by omega)
 have h3:=fun g W h=>int_any g ⟨K++(Z++(L++(G++(B++(R++ []))))),0⟩ 1 W h (by omega)
 have h4:=fun g W h=>int_any g ⟨Z++(L++(G++(B++(R++ [])))),0⟩ 1 W h (by omega)
 have h5:=fun g W h=>int_any g ⟨L++(G++(B++(R++ []))),0⟩ 2 W h (by omega)
 have h6:=fun g W h=>bytes_any g ⟨G++(B++(R++ [])),0⟩ (4:Nat) W h
 have h7:=fun g W h=>bytes_any g ⟨B++(R++ []),0⟩ (B.length:Nat) W h
 have h8:=fun g W h=>bytes_any g ⟨R++ [],0⟩ (R.length:Nat) W h
 have h9:=fun g W h=>left_any g (R++ []) W h
 rw[e1]at h1
 rw[int_app lI]at h2
 rw[int_app lK]at h3
 rw[int_app lZ]at h4
 rw[int_app lL]at h5
 rw[bytes_app lG]at h6
 rw[bytes_app rfl]at h7
 rw[bytes_app rfl]at h8
 rw[show(R++([]:List UInt8)).length=R.length by simp]at h9
 have hK:Cp.num K<256:=by have:=Cp.num_lt K;rw[lK]at this;simpa using this
 have hRl:R.length<=1000000:=by omega
 have hTr:=fun W=>trim_any R W hRl
 simp only[hn]at h5
 generalize C++(I++(K++(Z++(L++(G++(B++(R++ [])))))))=s0 at*
 generalize I++(K++(Z++(L++(G++(B++(R++ []))))))=s1 at*
 generalize K++(Z++(L++(G++(B++(R++ [])))))=s2 at*
 generalize Z++(L++(G++(B++(R++ []))))=s3 at*
 generalize L++(G++(B++(R++ [])))=s4 at*
 generalize G++(B++(R++ []))=s5 at*
 generalize B++(R++ [])=s6 at*
 generalize R++ []=s7 at*
 generalize hnI:Cp.num I=nI at*
 generalize hnZ:Cp.num Z=nZ at*
 generalize hnK:Cp.num K=nK at*
 generalize hnC:Cp.num C=nC at*
 generalize hTR:Lib.trimB R 0=tR at*
 generalize hRL:R.length=lr at*
 generalize hBL:B.length=lb at*
 have H1:=Lib.hid h1
 have H2:=Lib.hid h2
 have H3:=Lib.hid h3
 have H4:=Lib.hid h4
 have H5:=Lib.hid h5
 have H6:=Lib.hid h6
 have H7:=Lib.hid h7
 have H8:=Lib.hid h8
 have H9:=Lib.hid h9
 have HC:=Lib.hid hCk
 have HTr:=Lib.hid hTr
 clear h1 h2 h3 h4 h5 h6 h7 h8 h9 hCk hTr hc e1 hs hsl hn lC lI lK lZ lL lG lR hnI hnZ hnK hnC hTR hRL hBL
 go_enter Tryz.func237,Tryz.ntmps237
 go_wp2_with fail
 refine Calls.mono (read_any s _) ?_
 rintro e w1 ⟨rfl,rfl⟩
 have b0:=Blk.new w 330 (rdCells ⟨s,0⟩)
 have hbw0:Below w.heap.size w (w.alloc (.cells (rdCells ⟨s,0⟩) 330)):=(Below.refl _ _).alloc (Nat.le_refl _) _
 go_wp2_with fail
 refine Calls.mono (H1.out _ _ b0) ?_
 rintro e w1 ⟨rfl,b1,g1⟩
 have hbw1:=hbw0.grown g1 hbw0.size (fun k e=>by cases e;exact Nat.le_refl _)
 clear b0 hbw0 g1
 go_wp2_with fail
 refine Calls.mono (H2.out _ _ b1) ?_
 rintro e w2 ⟨rfl,b2,g2⟩
 have hbw2:=hbw1.grown g2 hbw1.size (fun k e=>by cases e;exact Nat.le_refl _)
 clear b1 hbw1 g2
 go_wp2_with fail
 refine Calls.mono (H3.out _ _ b2) ?_
 rintro e w3 ⟨rfl,b3,g3⟩
 have hbw3:=hbw2.grown g3 hbw2.size (fun k e=>by cases e;exact Nat.le_refl _)
 clear b2 hbw2 g3
 go_wp2_with fail
 refine Calls.mono (H4.out _ _ b3) ?_
 rintro e w4 ⟨rfl,b4,g4⟩
 have hbw4:=hbw3.grown g4 hbw3.size (fun k e=>by cases e;exact Nat.le_refl _)
 clear b3 hbw3 g4
 go_wp2_with fail
 refine Calls.mono (H5.out _ _ b4) ?_
 rintro e w5 ⟨rfl,b5,g5⟩
 have hbw5:=hbw4.grown g5 hbw4.size (fun k e=>by cases e;exact Nat.le_refl _)
 clear b4 hbw4 g5
 go_wp2_with fail
 refine Calls.mono (H6.out _ _ b5) ?_
 rintro e w6 ⟨rfl,b6,g6⟩
 have hbw6:=hbw5.grown g6 hbw5.size (fun k e=>by cases e;exact Nat.le_refl _)
 clear b5 hbw5 g6
 go_wp2_with fail
 refine Calls.mono (H7.out _ _ b6) ?_
 rintro e w7 ⟨rfl,b7,g7⟩
 have hbw7:=hbw6.grown g7 hbw6.size (fun k e=>by cases e;exact Nat.le_refl _)
 clear b6 hbw6 g7
 go_wp2_with fail
 refine Calls.mono (H9.out _ _ b7) ?_
 rintro e w8 ⟨rfl,rfl⟩
 go_wp2_with fail
 refine Calls.mono (H8.out _ _ b7) ?_
 rintro e w9 ⟨rfl,b9,g9⟩
 have hbw9:=hbw7.grown g9 hbw7.size (fun k e=>by cases e;exact Nat.le_refl _)
 clear b7 hbw7 g9
 have hT9:=hT.below hbw9 hT.1
 go_wp2_with fail
 refine Calls.mono (HC.out _ hT9) ?_
 rintro e w10 ⟨rfl,b10⟩
 have hb9:=b9.below b10 b9.lt
 have hbw10:=hbw9.trans (b10.mono hbw9.size)
 clear b9 b10 hbw9 hT9
 cases c with
 |false=>
  obtain⟨rfl,rfl,rfl⟩:k=0/\b= []/\x=3:=by
   rcases hcase with⟨h, -⟩ | ⟨-,h⟩
   ·cases h
   ·exact h
  go_wp2
  refine bodyPost_ret (v:= .tuple #[.int .u8 0, .string ⟨#[]⟩, .int .i64 3]) (by simp[results,Tryz.results237,go_sem]) rfl ⟨rfl,hbw10⟩
 |true=>
  go_wp2_with fail
  refine Calls.mono (end_any _ _ hb9) ?_
  rintro e w11 ⟨rfl,rfl⟩
  rcases hcase with⟨-,h1,rfl,rfl,rfl,rfl,rfl,rfl⟩ | ⟨h1 | h1,rfl,rfl,rfl⟩
  ·subst h1
   go_wp2_with (go_at_call 267;refine(HTr.out _).mono ?_;rintro e w12 ⟨rfl,h12⟩)
   have hb12:Below w.heap.size w w12:=by rcases h12 with rfl | rfl;exact hbw10;exact hbw10.drew
   refine bodyPost_ret (v:= .tuple #[.int .u8 k, .string ⟨b.toArray⟩, .int .i64 0]) (by simp[results,Tryz.results237,go_sem]) rfl ⟨rfl,hb12⟩
  ·cases h1
  ·have hne:((nI:Int) != id)=true:=by simpa using h1
   go_wp2
   refine bodyPost_ret (v:= .tuple #[.int .u8 0, .string ⟨#[]⟩, .int .i64 3]) (by simp[results,Tryz.results237,go_sem]) rfl ⟨rfl,hbw10⟩
theorem trim_zeros(n:Nat):Lib.trimB (List.replicate n 0) 0= []:=by
 have h1:∀n,Lib.trimLeftB (List.replicate n 0) 0= []:=by
  intro n
  unfold Lib.trimLeftB
  induction n with
  |zero=>rfl
  |succ n ih=>rw[List.replicate_succ,List.dropWhile_cons];simp
 unfold Lib.trimB Lib.trimRightB
 rw[List.reverse_replicate]
 have h2:=h1 n
 unfold Lib.trimLeftB at h2 ⊢
 rw[h2];rfl
theorem open_page(id kind:Nat)(b:List UInt8)(hi:id<4294967296)(hk:kind<256)(hb:b.length<=240)(w:World)(hT:HT w):
  Calls Tryz.prog 237 #[.int .i64 id, .string ⟨(Pg.page id kind b).toArray⟩] w (OpenEnd kind b 0 w):=by
 have hcs:=Cc.sum_lt (Pg.rest id kind b)
 refine open_core id (Pg.page id kind b) (Cp.be 4 (Cc.sum (Pg.rest id kind b))) (Cp.be 4 id) (Cp.be 1 kind) (Cp.be 1 0) (Cp.be 2 b.length) [0,0,0,0] b (List.replicate (240-b.length) 0) ?_ (Cp.be_length _ _) (Cp.be_length _ _) (Cp.be_length _ _) (Cp.be_length _ _) (Cp.be_length _ _) rfl (Cp.num_be_lt (by omega)) hb (by simp) true ?_ kind b 0 (.inl ⟨rfl, ?_, ?_,rfl,trim_zeros _, ?_,rfl,rfl⟩) w hT
 ·rw[List.append_nil];rfl
 ·have e1:(Pg.page id kind b).take 4=Cp.be 4 (Cc.sum (Pg.rest id kind b)):=by unfold Pg.page;exact List.take_left' (Cp.be_length _ _)
  have e2:(Pg.page id kind b).drop 4=Pg.rest id kind b:=by unfold Pg.page;exact List.drop_left' (Cp.be_length _ _)
  rw[e1,e2,Cp.num_be_lt (by omega)];simp
 ·rw[Cp.num_be_lt (by omega)]
 ·rw[Cp.num_be_lt (by omega)]
 ·rw[Cp.num_be_lt (by omega)]
def zeroL:List UInt8:=List.replicate 256 0
structure FAt(w:World)(B f d k:Nat)(D:Dk):Prop where
 le:B<=f
 self:Blk w f 121 #[.pointer (some ⟨d,0,none⟩)]
 disk:DkAt w B d k D
theorem DkAt.of_{w:World}{B d k:Nat}{D:Dk}(h:DkAt w B d k D):DiskOf w d D.sure.length:=by
 obtain⟨s,m,pv,Dm,h⟩:=h
 exact⟨_,_,_,h.self,rfl⟩
theorem FAt.keep{w w':World}{B f d k:Nat}{D:Dk}(h:FAt w B f d k D)(hb:Below w.heap.size w w'):FAt w' B f d k D:=⟨h.le,h.self.below hb h.self.lt,h.disk.keep hb⟩
def noPage(n:Nat)(id:Int):Bool:=decide (id<2)||decide ((n:Int)<=id)
theorem ppage_any{w:World}{B f d k:Nat}{D:Dk}(h:FAt w B f d k D)(id:Int):
  Calls Tryz.prog 76 #[.pointer (some ⟨f,0,none⟩), .int .i64 id] w fun e w'=>e= .returned (.int .i64 (if noPage D.sure.length id then 40 else 0))/\w'=w:=by
 have hs:=sectors_any d D.sure.length w h.disk.of_
 have hf:=h.self.cell 0
 generalize D.sure.length=n at*
 unfold noPage
 clear h
 by_cases h2:id<2
 ·have hq:decide (id<2)=true:=by simpa using h2
  rw[hq]
  go_enter Tryz.func76,Tryz.ntmps76
  go_wp2
  go_ret
  exact⟨rfl,rfl⟩
 ·have hq:decide (id<2)=false:=by simpa using h2
  rw[hq]
  by_cases hn:(n:Int)<=id
  ·have hq2:decide ((n:Int)<=id)=true:=by simpa using hn
   rw[hq2]
   go_enter Tryz.func76,Tryz.ntmps76
   go_wp2_with (go_at_call 143;refine hs.mono ?_;rintro e w1 ⟨rfl,rfl⟩)
   go_ret
   exact⟨rfl,rfl⟩
  ·have hq2:decide ((n:Int)<=id)=false:=by simpa using hn
   rw[hq2]
   go_enter Tryz.func76,Tryz.ntmps76
   go_wp2_with (go_at_call 143;refine hs.mono ?_;rintro e w1 ⟨rfl,rfl⟩)
   go_ret
   exact⟨rfl,rfl⟩
def Dk.fputE(D:Dk)(id:Int)(b:Bs):Int:=if noPage D.sure.length id then 40 else if 240<b.length then 50 else if D.down then 4 else D.wroteE
def Dk.fput(D:Dk)(id:Int)(kind:Nat)(b:Bs):Dk:=if noPage D.sure.length id then D else if 240<b.length then D else if D.down then D else D.wrote id (Pg.page id.toNat kind b)
theorem DkAt.mono{w:World}{B d k k':Nat}{D:Dk}(h:DkAt w B d k D)(hk:k<=k'):DkAt w B d k' D:=by
 obtain⟨s,m,pv,Dm,h⟩:=h
 exact⟨s,m,pv,Dm,h.le,h.self,h.sure,h.map.mono hk,h.now,h.pend⟩
theorem FAt.mono{w:World}{B f d k k':Nat}{D:Dk}(h:FAt w B f d k D)(hk:k<=k'):FAt w B f d k' D:=⟨h.le,h.self,h.disk.mono hk⟩
structure Fine(D:Dk):Prop where
 n:D.sure.length<=16384
 writes:0<=D.writes/\D.writes<1000000000000
 reads:0<=D.reads/\D.reads<1000000000000
 left: -1<=D.left/\D.left<=9223372036854775807
 pend:D.pend.length<=1000000000000
theorem at_eq{D:Dk}{id:Int}(h:noPage D.sure.length id=false):D.at_ id=if D.down then 4 else 0:=by
 have h':¬id<2/\¬ (D.sure.length:Int)<=id:=by simpa[noPage]using h
 unfold Dk.at_
 rw[if_neg (show ¬ (id<0\/(D.sure.length:Int)<=id)by omega)]
structure MapStep(d:Nat)(w w':World):Prop where
 cell:w'.cell? ⟨d,1,none⟩=w.cell? ⟨d,1,none⟩
 oth:∀m,w.cell? ⟨d,1,none⟩=some (.map (some m))->OthM m w w'
 row:w'.cell? ⟨d,0,none⟩=w.cell? ⟨d,0,none⟩
theorem MapStep.refl(d:Nat)(w:World):MapStep d w w:=⟨rfl,fun m _=>OthM.refl m w,rfl⟩
theorem MapStep.trans{d:Nat}{a b c:World}(h:MapStep d a b)(g:MapStep d b c):MapStep d a c:=⟨g.1.trans h.1,fun m hm=>(h.2 m hm).trans (g.2 m (h.1.trans hm)),g.row.trans h.row⟩
theorem MapStep.below{d:Nat}{w w':World}(hb:Below w.heap.size w w')(hd:d<w.heap.size):MapStep d w w':=⟨hb.cell hd,fun _ _=>OthM.below hb,hb.cell hd⟩
theorem wrote_len(D:Dk)(i:Int)(t:Bs):(D.wrote i t).sure.length=D.sure.length:=by
 unfold Dk.wrote
 split
 ·rfl
 ·split<;>rfl
theorem DkStep.maps{B d k k':Nat}{D D':Dk}{w w':World}(h:DkStep B d k k' D D' w w')(hl:D'.sure.length=D.sure.length):MapStep d w w':=by
 obtain⟨s,m,pv,Dm,pv',Dm',h1,h2,h3⟩:=h
 have e1:w.cell? ⟨d,1,none⟩=some (.map (some m)):=h1.self.cell 1
 have e2:w'.cell? ⟨d,1,none⟩=some (.map (some m)):=h2.self.cell 1
 have r1:w.cell? ⟨d,0,none⟩=some (.slice (some ⟨s,0,none⟩) D.sure.length D.sure.length):=h1.self.cell 0
 have r2:w'.cell? ⟨d,0,none⟩=some (.slice (some ⟨s,0,none⟩) D'.sure.length D'.sure.length):=h2.self.cell 0
 refine⟨e2.trans e1.symm,fun m' hm'=> ?_,by rw[r1,r2,hl]⟩
 rw[e1]at hm'
 injection hm' with hm'
 injection hm' with hm'
 injection hm' with hm'
 subst hm'
 exact h3
theorem DkStep.disk{B d k k':Nat}{D D':Dk}{w w':World}(h:DkStep B d k k' D D' w w'):DkAt w' B d k' D':=by
 obtain⟨s,m,pv,Dm,pv',Dm',h1,h2,h3⟩:=h
 exact⟨s,m,pv',Dm',h2⟩
theorem DkAt.dlt{w:World}{B d k:Nat}{D:Dk}(h:DkAt w B d k D):d<w.heap.size:=by
 obtain⟨s,m,pv,Dm,h2⟩:=h
 exact h2.self.lt
def FWEnd2(B f d k:Nat)(x:Int)(D':Dk)(w:World)(e:Ending)(w':World):Prop:=e= .returned (.int .i64 x)/\FAt w' B f d k D'/\Below B w w'/\Kept w w'/\MapStep d w w'
theorem fwrite_any2{w:World}{B f d k:Nat}{D:Dk}(h:FAt w B f d k D)(hF:Fine D)(hk:k<maxLen)(hT:HT w)(hB:B<=w.heap.size)(id:Int)(kind:Nat)(hkd:kind<256)(b:Bs):
  Calls Tryz.prog 18 #[.pointer (some ⟨f,0,none⟩), .int .i64 id, .int .u8 kind,str b] w (FWEnd2 B f d (k+1) (D.fputE id b) (D.fput id kind b) w):=by
 have hpg:=ppage_any h id
 have hf:=h.self.cell 0
 have hdl:=h.disk.dlt
 cases hno:noPage D.sure.length id with
 |true=>
  have e1:D.fputE id b=40:=by unfold Dk.fputE;rw[hno];rfl
  have e2:D.fput id kind b=D:=by unfold Dk.fput;rw[hno];rfl
  rw[e1,e2]
  rw[hno]at hpg
  clear e1 e2
  unfold str
  go_enter Tryz.func18,Tryz.ntmps18
  go_wp2_with fail
  refine Calls.mono hpg ?_
  rintro e w1 ⟨rfl,rfl⟩
  go_wp2
  go_ret
  exact⟨rfl,h.mono (by omega),Below.refl _ _,Kept.refl _,MapStep.refl _ _⟩
 |false=>
  rw[hno]at hpg
  have hb2:¬id<2/\¬ (D.sure.length:Int)<=id:=by simpa[noPage]using hno
  have hat:=at_eq hno
  have hn:=hF.n
  by_cases hl:240<b.length
  ·have e1:D.fputE id b=50:=by unfold Dk.fputE;rw[hno,if_neg (by simp),if_pos hl]
   have e2:D.fput id kind b=D:=by unfold Dk.fput;rw[hno,if_neg (by simp),if_pos hl]
   rw[e1,e2]
   clear e1 e2
   have hs:=seal_long id kind b hl w
   unfold SealEnd at hs
   unfold str
   go_enter Tryz.func18,Tryz.ntmps18
   go_wp2_with fail
   refine Calls.mono hpg ?_
   rintro e w1 ⟨rfl,rfl⟩
   go_wp2_with fail
   refine Calls.mono hs ?_
   rintro e w2 ⟨rfl,hb⟩
   go_wp2
   go_ret
   exact⟨rfl,(h.keep hb).mono (by omega),hb.mono hB,Kept.below hb,MapStep.below hb hdl⟩
  ·obtain⟨n,rfl⟩:=Int.eq_ofNat_of_zero_le (show 0<=id by omega)
   have hs:=seal_ok n kind b (by omega) hkd (by omega) w hT
   have hplen:=Pg.page_length n kind b (by omega)
   have e1:D.fputE n b=if D.down then 4 else D.wroteE:=by unfold Dk.fputE;rw[hno,if_neg (by simp),if_neg hl]
   have e2:D.fput n kind b=if D.down then D else D.wrote n (Pg.page n kind b):=by unfold Dk.fput;rw[hno,if_neg (by simp),if_neg hl];rfl
   rw[e1,e2]
   unfold SealEnd at hs
   generalize Pg.page n kind b=P at*
   cases hdn:D.down with
   |true=>
    rw[hdn]at hat
    have hw:=fun W (h:DkAt W B d k D)=>write_bad h (n:Int) P (by rw[hat];decide)
    rw[hat]at hw
    have HW:=Lib.hid hw
    clear e1 e2 hat hw
    unfold str
    go_enter Tryz.func18,Tryz.ntmps18
    go_wp2_with fail
    refine Calls.mono hpg ?_
    rintro e w1 ⟨rfl,rfl⟩
    go_wp2_with fail
    refine Calls.mono hs ?_
    rintro e w2 ⟨rfl,hb⟩
    have h2:=h.keep hb
    have hf2:=h2.self.cell 0
    go_wp2_with fail
    refine Calls.mono (HW.out _ h2.disk) ?_
    rintro e w3 ⟨rfl,rfl⟩
    go_wp2
    go_ret
    exact⟨rfl,h2.mono (by omega),hb.mono hB,Kept.below hb,MapStep.below hb hdl⟩
   |false=>
    rw[hdn]at hat
    have hw:=fun W (h:DkAt W B d k D) hBW=>write_ok2 h (n:Int) P (by rw[hat];rfl) hplen hk (by have:=hF.n;simp[Lit.wf,IntKind.min,IntKind.max,IntKind.signed,IntKind.bits];omega) ⟨hF.writes.1,by have:=hF.writes.2;omega⟩ hF.left.2 hF.pend hBW
    have HW:=Lib.hid hw
    clear e1 e2 hat hw
    unfold str at*
    go_enter Tryz.func18,Tryz.ntmps18
    go_wp2_with fail
    refine Calls.mono hpg ?_
    rintro e w1 ⟨rfl,rfl⟩
    go_wp2_with fail
    refine Calls.mono hs ?_
    rintro e w2 ⟨rfl,hb⟩
    have h2:=h.keep hb
    have hf2:=h2.self.cell 0
    go_wp2_with fail
    refine Calls.mono (HW.out _ h2.disk (Nat.le_trans hB hb.size)) ?_
    rintro e w3 ⟨rfl,hS3,hb3,hk3⟩
    have hD3:=hS3.disk
    have hM3:=(MapStep.below hb hdl).trans (hS3.maps (wrote_len _ _ _))
    go_wp2
    go_ret
    exact⟨rfl,⟨h2.le,hk3 _ _ _ h2.self (by decide) (by decide),hD3⟩,(hb.mono hB).trans hb3,(Kept.below hb).trans hk3,hM3⟩
def BadPg(id:Int)(s:List UInt8):Prop:=s.length=256/\(Cp.num ((s.drop 4).take 4):Int)≠id
theorem zero_bad{id:Int}(h:id≠0):BadPg id zeroL:=by
 have e:Cp.num ((zeroL.drop 4).take 4)=0:=by decide +kernel
 refine⟨List.length_replicate, ?_⟩
 rw[e]
 exact fun a=>h a.symm
theorem open_bad(id:Int)(s:List UInt8)(hs:BadPg id s)(w:World)(hT:HT w):
  Calls Tryz.prog 237 #[.int .i64 id, .string ⟨s.toArray⟩] w (OpenEnd 0 [] 3 w):=by
 obtain⟨hsl,hne⟩:=hs
 have hCk:=fun W hT=>pcheck_any s hsl W hT
 have h1:=fun g W h=>int_any g ⟨s,0⟩ 4 W h (by omega)
 rw[Cp.int_ok rfl (by show 4<=s.length;omega)]at h1
 have h2:=fun g W h=>int_any g ⟨s.drop 4,0⟩ 4 W h (by omega)
 rw[Cp.int_ok rfl (by show 4<=(s.drop 4).length;rw[List.length_drop];omega)]at h2
 have h3:=fun g r W h=>int_any g r 1 W h (by omega)
 have h5:=fun g r W h=>int_any g r 2 W h (by omega)
 have h6:=fun g r (k:Nat) W h=>bytes_any g r (k:Int) W h
 generalize decide ((Cp.num (s.take 4):Int)=(Cc.sum (s.drop 4):Int))=c at*
 have hne2:((Cp.num ((s.drop 4).take 4):Int) != id)=true:=by simpa using hne
 simp only at h1 h2
 generalize Cp.num (s.take 4)=nC at*
 generalize Cp.num ((s.drop 4).take 4)=nI at*
 generalize (⟨s.drop 4,0⟩:Cp.Rd)=r1 at*
 generalize (⟨(s.drop 4).drop 4,0⟩:Cp.Rd)=r2 at*
 have H1:=Lib.hid h1
 have H2:=Lib.hid h2
 have H3:=Lib.hid h3
 have H5:=Lib.hid h5
 have H6:=Lib.hid h6
 have HC:=Lib.hid hCk
 clear h1 h2 h3 h5 h6 hCk hsl hne
 go_enter Tryz.func237,Tryz.ntmps237
 go_wp2_with fail
 refine Calls.mono (read_any s _) ?_
 rintro e w1 ⟨rfl,rfl⟩
 have b0:=Blk.new w 330 (rdCells ⟨s,0⟩)
 have hbw0:Below w.heap.size w (w.alloc (.cells (rdCells ⟨s,0⟩) 330)):=(Below.refl _ _).alloc (Nat.le_refl _) _
 go_wp2_with fail
 refine Calls.mono (H1.out _ _ b0) ?_
 rintro e w1 ⟨rfl,b1,g1⟩
 have hbw1:=hbw0.grown g1 hbw0.size (fun k e=>by cases e;exact Nat.le_refl _)
 clear b0 hbw0 g1
 go_wp2_with fail
 refine Calls.mono (H2.out _ _ b1) ?_
 rintro e w2 ⟨rfl,b2,g2⟩
 have hbw2:=hbw1.grown g2 hbw1.size (fun k e=>by cases e;exact Nat.le_refl _)
 clear b1 hbw1 g2
 go_wp2_with fail
 refine Calls.mono (H3.out _ _ _ b2) ?_
 rintro e w3 ⟨rfl,b3,g3⟩
 have hbw3:=hbw2.grown g3 hbw2.size (fun k e=>by cases e;exact Nat.le_refl _)
 clear b2 hbw2 g3
 generalize (r2.int 1).1=nK at*
 generalize (r2.int 1).2=r3 at*
 go_wp2_with fail
 refine Calls.mono (H3.out _ _ _ b3) ?_
 rintro e w4 ⟨rfl,b4,g4⟩
 have hbw4:=hbw3.grown g4 hbw3.size (fun k e=>by cases e;exact Nat.le_refl _)
 clear b3 hbw3 g4
 generalize (r3.int 1).1=nZ at*
 generalize (r3.int 1).2=r4 at*
 go_wp2_with fail
 refine Calls.mono (H5.out _ _ _ b4) ?_
 rintro e w5 ⟨rfl,b5,g5⟩
 have hbw5:=hbw4.grown g5 hbw4.size (fun k e=>by cases e;exact Nat.le_refl _)
 clear b4 hbw4 g5
 generalize (r4.int 2).1=nL at*
 generalize (r4.int 2).2=r5 at*
 go_wp2_with fail
 refine Calls.mono (H6.out _ _ 4 _ b5) ?_
 rintro e w6 ⟨rfl,b6,g6⟩
 have hbw6:=hbw5.grown g6 hbw5.size (fun k e=>by cases e;exact Nat.le_refl _)
 clear b5 hbw5 g6
 generalize (r5.bytes ((4:Nat):Int)).1=sG at*
 generalize (r5.bytes ((4:Nat):Int)).2=r6 at*
 go_wp2_with fail
 refine Calls.mono (H6.out _ _ nL _ b6) ?_
 rintro e w7 ⟨rfl,b7,g7⟩
 have hbw7:=hbw6.grown g7 hbw6.size (fun k e=>by cases e;exact Nat.le_refl _)
 clear b6 hbw6 g7
 generalize (r6.bytes (nL:Int)).1=sB at*
 generalize (r6.bytes (nL:Int)).2=r7 at*
 go_wp2_with fail
 refine Calls.mono (rdleft_any _ _ _ b7) ?_
 rintro e w8 ⟨rfl,rfl⟩
 generalize r7.rest.length=lr at*
 go_wp2_with fail
 refine Calls.mono (H6.out _ _ lr _ b7) ?_
 rintro e w9 ⟨rfl,b9,g9⟩
 have hbw9:=hbw7.grown g9 hbw7.size (fun k e=>by cases e;exact Nat.le_refl _)
 clear b7 hbw7 g9
 generalize (r7.bytes (lr:Int)).1=sR at*
 generalize (r7.bytes (lr:Int)).2=r9 at*
 have hT9:=hT.below hbw9 hT.1
 go_wp2_with fail
 refine Calls.mono (HC.out _ hT9) ?_
 rintro e w10 ⟨rfl,b10⟩
 have hb9:=b9.below b10 b9.lt
 have hbw10:=hbw9.trans (b10.mono hbw9.size)
 clear b9 b10 hbw9 hT9
 cases c with
 |false=>
  go_wp2
  refine bodyPost_ret (v:= .tuple #[.int .u8 0, .string ⟨#[]⟩, .int .i64 3]) (by simp[results,Tryz.results237,go_sem]) rfl ⟨rfl,hbw10⟩
 |true=>
  go_wp2_with fail
  refine Calls.mono (rdend_any _ _ _ hb9) ?_
  rintro e w11 ⟨x,rfl, -,hb11⟩
  have hbw11:=hbw10.trans (hb11.mono hbw10.size)
  clear hb11 hbw10 hb9
  by_cases hx:x=0
  ·subst hx
   go_wp2
   refine bodyPost_ret (v:= .tuple #[.int .u8 0, .string ⟨#[]⟩, .int .i64 3]) (by simp[results,Tryz.results237,go_sem]) rfl ⟨rfl,hbw11⟩
  ·have hx2:(x != 0)=true:=by simpa using hx
   go_wp2
   refine bodyPost_ret (v:= .tuple #[.int .u8 0, .string ⟨#[]⟩, .int .i64 3]) (by simp[results,Tryz.results237,go_sem]) rfl ⟨rfl,hbw11⟩
def PageIs(D:Dk)(id:Int)(o:Option (Nat × Bs)):Prop:=(BadPg id (D.get id)/\o=none)\/∃k b,k<256/\b.length<=240/\D.get id=Pg.page id.toNat k b/\o=some (k,b)
def frB(n:Nat)(down:Bool)(id:Int)(kind:Nat)(o:Option (Nat × Bs)):Bs × Int:=
 if noPage n id then([],40)else if down then([],4)else match o with
 |none=>([],3)
 |some (k,b)=>if k=kind then(b,0)else([],3)
def Dk.readD(D:Dk)(id:Int):Dk:=if noPage D.sure.length id then D else if D.down then D else { D with reads:=D.reads+1 }
theorem tget_fresh(t m f n k:Nat)(free:List Run)(pages:Int)(D:DataW Value)(id q kind:Int)(s:ByteArray)(hid:(Lit.int .i64 id).wf=true)(hh:Maps.has D (.int .i64 id)=true)(hd:∀z,D.atKey (.int .i64 id) z= .held (content true q s))(w:World)(h:Txn w t m f n free pages k D):
  Calls Tryz.prog 146 #[.pointer (some ⟨t,0,none⟩), .int .i64 id, .int .u8 kind] w fun e w'=>e= .returned (if q=kind then .tuple #[.string s, .int .i64 0]else .tuple #[.string ⟨#[]⟩, .int .i64 3])/\Below w.heap.size w w':=by
 obtain⟨_,⟨v,h2,h3⟩,h4⟩:=h
 have hlt:=h2.lt
 have hc:=h2.cell 3
 obtain⟨u,ps,hrun,hu⟩:=h4.look_ok keyedI Tryz.underlying141 (Tryz.zeroValue156 w) (heldR_mk _ _ _) (keyI hid)
 rw[hd,hh]at*
 obtain⟨b,q',s',rfl,hz⟩:=heldR_inv hu
 have hz:=(Prod.mk.inj hz).1
 injection hz with hz
 rw[<-hz]at hrun
 unfold content at hrun
 clear hu hz h4 hd hh
 by_cases e:q=kind
 ·subst e
  rw[if_pos rfl]
  go_enter Tryz.func146,Tryz.ntmps146
  go_wp2
  go_ret2
  exact⟨rfl,(Below.refl _ w).alloc (Nat.le_refl _) _⟩
 ·rw[if_neg e]
  have hq:(q != kind)=true:=by simpa using e
  go_enter Tryz.func146,Tryz.ntmps146
  go_wp2
  go_ret2
  exact⟨rfl,(Below.refl _ w).alloc (Nat.le_refl _) _⟩
def doneL(sure:List Bs)(pend:List (Int × Bs)):List Bs:=pend.foldl (fun s x=>s.set x.1.toNat x.2) sure
theorem doneL_len(pend:List (Int × Bs)):∀sure,(doneL sure pend).length=sure.length:=by
 induction pend with
 |nil=>intro s;rfl
 |cons x r ih=>intro s;show(doneL (s.set x.1.toNat x.2) r).length=_;rw[ih,List.length_set]
structure WellD(D:Dk):Prop where
 sure:∀x∈D.sure,x.length=256
 pend:∀x∈D.pend,x.2.length=256/\0<=x.1/\x.1<(D.sure.length:Int)
end Go.Proofs.YtjoiajmbfbjnnaaGreatDoor
namespace Go.Proofs.YtjoiajmbfbjnnaaGreatDoor
open Go.RowKit
end Go.Proofs.YtjoiajmbfbjnnaaGreatDoor
namespace Go.Proofs.YtjoiajmbfbjnnaaGreatDoor
open Go.RowKit Go.Shelf
end Go.Proofs.YtjoiajmbfbjnnaaGreatDoor
namespace Go.Proofs.YtjoiajmbfbjnnaaGreatDoor
open Go.RowKit Go.Shelf Go.Maps
end Go.Proofs.YtjoiajmbfbjnnaaGreatDoor
namespace Go.Proofs.YtjoiajmbfbjnnaaGreatDoor
open Go.RowKit Go.Shelf
structure DkOk(D:Dk)(n:Nat)(c:Int->Option (Nat × Bs)):Prop where
 size:D.sure.length=n
 left:D.left= -1
 down:D.down=false
 page:∀id,noPage n id=false->PageIs D id (c id)
def updP(c:Int->Option (Nat × Bs))(id:Int)(kind:Nat)(b:Bs):Int->Option (Nat × Bs):=fun j=>if j=id then some (kind,b)else c j
theorem DkOk.fput{D:Dk}{n:Nat}{c:Int->Option (Nat × Bs)}(h:DkOk D n c){id:Int}(hid:noPage n id=false){kind:Nat}(hk:kind<256){b:Bs}(hb:b.length<=240):
  D.fputE id b=0/\DkOk (D.fput id kind b) n (updP c id kind b)/\(D.fput id kind b).writes=D.writes+1/\(D.fput id kind b).reads=D.reads:=by
 have hl:=h.left
 have he:D.fputE id b=0:=by
  unfold Dk.fputE Dk.wroteE
  rw[h.size,hid,h.down,hl]
  rw[if_neg (by simp),if_neg (by omega),if_neg (by simp),if_neg (by decide)]
 have hp:D.fput id kind b=D.put id (Pg.page id.toNat kind b):=by
  unfold Dk.fput Dk.wrote
  rw[h.size,hid,h.down,hl]
  rw[if_neg (by simp),if_neg (by omega),if_neg (by simp),if_neg (by decide),if_neg (by decide)]
 refine⟨he, ?_,by rw[hp];rfl,by rw[hp];rfl⟩
 rw[hp]
 refine⟨h.size,h.left,h.down,fun j hj=> ?_⟩
 by_cases e:j=id
 ·subst e
  refine .inr ⟨kind,b,hk,hb, ?_,by unfold updP;rw[if_pos rfl]⟩
  unfold Dk.get Dk.put
  simp
 ·have hg:(D.put id (Pg.page id.toNat kind b)).get j=D.get j:=by unfold Dk.get Dk.put;simp[e]
  have hq:=h.page j hj
  unfold PageIs at hq ⊢
  rw[hg]
  unfold updP
  rw[if_neg e]
  exact hq
def fresh(n:Nat):Dk:= { sure:=List.replicate n zeroL,now:=fun _=>none,pend:= [],left:= -1,down:=false,reads:=0,writes:=0 }
theorem owns_of{H:Type}{w:World}{P:Program}{k:TypeId}{R:Value->Option (DataW H × List MemPlace)}{m:Nat}(h:w.heap[m]? =some (.map #[] 0)):w.ownsMap P k R m 0 (.map []):=by
 obtain⟨es,c,h1,h2,h3,h4⟩:=World.ownsMap_made w P k R
 rw[heap_alloc_new]at h1
 injection h1 with h1
 injection h1 with h5 h6
 subst h5 h6
 exact⟨_,_,h,h2,h3,h4⟩
theorem zero_str:(Value.string zeroPage)=str zeroL:=by
 have:Lib.repeatL [0] 256=zeroL:=by decide +kernel
 unfold zeroPage str
 rw[this]
theorem rowZ_str(n:Nat):rowZ zeroPage n n=((fresh n).sure.map str).toArray:=by
 unfold rowZ fresh
 rw[Nat.sub_self,zero_str]
 simp
theorem dfresh_any(k:Int)(w:World):
  Calls Tryz.prog 16 #[.int .i64 k] w fun e w'=>∃d,e= .returned (.pointer (some ⟨d,0,none⟩))/\DkAt w' w.heap.size d 0 (fresh (diskN k))/\Below w.heap.size w w':=by
 refine(dnew_any k w).mono ?_
 rintro e w' ⟨d,s,m,rfl,h1,h2,h3,h4,h5,h6,h7⟩
 rw[rowZ_str]at h4
 refine⟨d,rfl,⟨s,m, .slice none 0 0, .map [],⟨h1,h2,h3⟩, ?_,h4,owns_of h5,fun i z=>⟨by simp[Maps.has,fresh],by simp[DataW.atKey,fresh]⟩,LO.nil_ _ _⟩,h7⟩
 have hl:(fresh (diskN k)).sure.length=diskN k:=by simp[fresh]
 unfold dkCells
 rw[hl]
 exact h6
theorem ffresh_any{B d k:Nat}{D:Dk}{w:World}(hd:DkAt w B d k D)(hB:B<=w.heap.size):Calls Tryz.prog 15 #[.pointer (some ⟨d,0,none⟩)] w fun e w'=>∃f,e= .returned (.pointer (some ⟨f,0,none⟩))/\FAt w' B f d k D/\Below w.heap.size w w':=by
 go_enter Tryz.func15,Tryz.ntmps15
 go_wp2
 go_ret
 exact⟨_,rfl,⟨hB,Blk.new w _ _,hd.keep ((Below.refl _ w).alloc (Nat.le_refl _) _)⟩,(Below.refl _ w).alloc (Nat.le_refl _) _⟩
structure DkC(D:Dk)(n:Nat)(c:Int->Option (Nat × Bs)):Prop where
 ok:DkOk D n c
 well:WellD D
 sees:∀i:Int,0<=i->i<(n:Int)->D.get i=(doneL D.sure D.pend).getD i.toNat []
theorem fput_eq{D:Dk}{n:Nat}{c:Int->Option (Nat × Bs)}(h:DkOk D n c){id:Int}(hid:noPage n id=false){kind:Nat}{b:Bs}(hb:b.length<=240):D.fput id kind b=D.put id (Pg.page id.toNat kind b):=by
 unfold Dk.fput Dk.wrote
 rw[h.size,hid,h.down,h.left]
 rw[if_neg (by simp),if_neg (by omega),if_neg (by simp),if_neg (by decide),if_neg (by decide)]
theorem doneL_snoc(sure:List Bs)(pend:List (Int × Bs))(x:Int × Bs):doneL sure (pend++ [x])=(doneL sure pend).set x.1.toNat x.2:=by
 unfold doneL
 rw[List.foldl_append]
 rfl
theorem DkC.fput{D:Dk}{n:Nat}{c:Int->Option (Nat × Bs)}(h:DkC D n c){id:Int}(hid:noPage n id=false){kind:Nat}(hk:kind<256){b:Bs}(hb:b.length<=240):
  D.fputE id b=0/\DkC (D.fput id kind b) n (updP c id kind b)/\(D.fput id kind b).writes=D.writes+1:=by
 obtain⟨h1,h2,h3,_⟩:=h.ok.fput hid hk hb
 have hb2:¬id<2/\¬ (n:Int)<=id:=by simpa[noPage]using hid
 refine⟨h1, ?_,h3⟩
 have hp:=fput_eq h.ok hid (kind:=kind) hb
 have hsz:=h.ok.size
 rw[hp]at h2 ⊢
 refine⟨h2,⟨h.well.sure,fun x hx=> ?_⟩,fun i hi hn=> ?_⟩
 ·rcases List.mem_append.1 (show x∈D.pend++ [(id,Pg.page id.toNat kind b)]from hx)with hx | hx
  ·exact h.well.pend x hx
  ·obtain rfl:=List.mem_singleton.1 hx
   exact⟨Pg.page_length _ _ _ hb,by show 0<=id;omega,by show id<(D.sure.length:Int);omega⟩
 ·show(D.put id (Pg.page id.toNat kind b)).get i=(doneL D.sure (D.pend++ [(id,Pg.page id.toNat kind b)])).getD i.toNat []
  rw[doneL_snoc]
  have hs:=h.sees i hi hn
  by_cases e:i=id
  ·subst e
   have e1:(D.put i (Pg.page i.toNat kind b)).get i=Pg.page i.toNat kind b:=by unfold Dk.get Dk.put;simp
   rw[e1,List.getD_eq_getElem?_getD,List.getElem?_set_self (by rw[doneL_len];omega)]
   rfl
  ·have e1:(D.put id (Pg.page id.toNat kind b)).get i=D.get i:=by unfold Dk.get Dk.put;simp[e]
   rw[e1,hs,List.getD_eq_getElem?_getD,List.getD_eq_getElem?_getD,List.getElem?_set_ne (by show id.toNat≠i.toNat;omega)]
theorem fresh_c{n:Nat} :DkC (fresh n) n (fun _=>none):=by
 refine⟨⟨by simp[fresh],rfl,rfl,fun id hid=> .inl ⟨?_,rfl⟩⟩,⟨fun x hx=> ?_,fun x hx=>absurd hx List.not_mem_nil⟩,fun i _ _=>rfl⟩
 ·have hb:¬id<2/\¬ (n:Int)<=id:=by simpa[noPage]using hid
  have e:(fresh n).get id=zeroL:=by
   unfold Dk.get fresh
   simp only
   rw[List.getD_eq_getElem?_getD,List.getElem?_replicate]
   rw[if_pos (by omega)]
   rfl
  rw[e]
  exact zero_bad (by omega)
 ·have:x=zeroL:=(List.mem_replicate.1 hx).2
  subst this
  decide +kernel
structure KeysAre(D:DataW Value)(mine:List Int):Prop where
 tidy:Maps.Tidy D
 has:∀x,Maps.has D (.int .i64 x)=decide (x∈mine)
 size:Maps.size D=mine.length
theorem KeysAre.nil_:KeysAre (.map []) []:=⟨Maps.tidy_empty,fun _=>rfl,rfl⟩
theorem KeysAre.put_{D:DataW Value}{mine:List Int}(h:KeysAre D mine){id:Int}(hid:id ∉ mine)(v:DataW Value):KeysAre (D.put (.int .i64 id) v) (mine++ [id]):=by
 refine⟨h.tidy.put (by trivial) v,fun x=> ?_, ?_⟩
 ·rw[has_putI h.tidy.isMap,h.has]
  rw[Bool.eq_iff_iff]
  simp
  exact⟨fun h=>h.symm,fun h=>h.symm⟩
 ·rw[Maps.size_put h.tidy,h.has,decide_eq_false hid,if_neg (by simp),h.size];simp
theorem filter_len:∀ {l:List Int} {id:Int},l.Nodup->id∈l->(l.filter fun x=>x != id).length+1=l.length
 | [],_,_,h=>by cases h
 |y::l,id,hn,h=>by
  obtain⟨h1,h2⟩:=List.nodup_cons.1 hn
  rw[List.filter_cons]
  by_cases e:y=id
  ·subst e
   rw[if_neg (by simp),Rp.filter_out h1,List.length_cons]
  ·rw[if_pos (by simpa using e),List.length_cons,List.length_cons,filter_len h2 (by rcases List.mem_cons.1 h with h | h;exact absurd h.symm e;exact h)]
theorem KeysAre.drop_{D:DataW Value}{mine:List Int}(h:KeysAre D mine)(hn:mine.Nodup)(id:Int):KeysAre (dropD D id) (mine.filter fun x=>x != id):=by
 unfold dropD
 rw[h.has]
 by_cases hid:id∈mine
 ·rw[decide_eq_true hid,if_pos rfl]
  refine⟨h.tidy.del _,fun x=> ?_, ?_⟩
  ·rw[has_delI,h.has,Bool.eq_iff_iff]
   simp[List.mem_filter]
   exact⟨fun h=>⟨h.2,h.1⟩,fun h=>⟨h.2,h.1⟩⟩
  ·have h1:=Maps.size_del (k:= .int .i64 id) h.tidy
   rw[h.has,decide_eq_true hid,if_pos rfl,h.size]at h1
   have h2:=filter_len hn hid
   omega
 ·rw[decide_eq_false hid,Rp.filter_out hid]
  exact h
theorem ap_drop{room p:Int}{fr used:List Run}{mine:List Int}{D:DataW Value}(h:Rp.Ap room fr used mine p)(hk:KeysAre D mine)(id:Int):Rp.Ap room (dropF fr D id) used (mine.filter fun x=>x != id) p:=by
 unfold dropF
 rw[hk.has]
 by_cases hid:id∈mine
 ·rw[decide_eq_true hid,if_pos rfl];exact h.dropped hid
 ·rw[decide_eq_false hid,Rp.filter_out hid];exact h
theorem KeysAre.reput{D:DataW Value}{mine:List Int}(h:KeysAre D mine){id:Int}(hid:id∈mine)(v:DataW Value):KeysAre (D.put (.int .i64 id) v) mine:=by
 refine⟨h.tidy.put (by trivial) v,fun x=> ?_, ?_⟩
 ·rw[has_putI h.tidy.isMap,h.has]
  rw[Bool.eq_iff_iff]
  simp
  rintro rfl
  exact hid
 ·rw[Maps.size_put h.tidy,h.has,decide_eq_true hid,if_pos rfl,h.size]
section
variable {w w':World}{t m f n k:Nat}{free:List Run}{pages:Int}{D:DataW Value}{S':Nat->Prop}
theorem Txn.fr(h:Txn w t m f n free pages k D)(hf:Fr S' w w')(hfar:∀b,S' b->∀o,w.heap[b]? =some o->Far o):Txn w' t m f n free pages k D:=by
 have key:∀b o,w.heap[b]? =some o->¬Far o->w'.heap[b]? =some o:=fun b o ho hn=>(hf.block b (Array.getElem?_eq_some_iff.1 ho).1 (fun a=>hn (hfar b a o ho))).trans ho
 obtain⟨⟨d,h1,cs,A,c,h2,h3⟩,⟨v,h4,h5⟩,es,ck,h6,h7⟩:=h
 refine⟨⟨d,key _ _ h1 (fun a=>a.2.2.1 _ rfl),cs,A,c,key _ _ h2 (fun a=>a.2.2.2.1 _ rfl),h3⟩,⟨v,key _ _ h4 (fun a=>a.2.1 _ rfl), ?_⟩,es,ck,key _ _ h6 (fun a=>a.2.2.2.2 _ _ rfl),h7⟩
 rcases h5 with⟨e1,e2 | ⟨g,cap,cur,hv,hb,hh,hr⟩⟩
 ·exact⟨e1, .inl e2⟩
 ·exact⟨e1, .inr ⟨g,cap,cur,hv,hb,key _ _ hh (fun a=>a.1 _ rfl),hr⟩⟩
theorem Txn.tight(h:Txn w t m f n free pages k D):Txn w t m f n free pages (Maps.size D) D:=by
 obtain⟨h1,h2,es,ck,h6,h7,h8,h9⟩:=h
 refine⟨h1,h2,es,ck,h6,h7, ?_,h9⟩
 rw[h9]
 exact Nat.le_of_eq (length_read es).symm
end
structure TMf(B t m f n:Nat)(r:Nat)(σ:Tp.Pst)(w:World):Prop where
 low:t<B/\m<B/\B<=w.heap.size
 ap:Rp.Ap (max (n:Int) 2) σ.free [] σ.mine σ.pages
 fit:∀id,id∈σ.mine->∀x,σ.nd id=some x->Nd.fits x=true
 txn:∃D,Txn w t m f n σ.free σ.pages σ.mine.length D/\KeysAre D σ.mine/\∀id,id∈σ.mine->∀x,σ.nd id=some x->∀z,D.atKey (.int .i64 id) z= .held (content true (if x.leaf then 1 else 2) (Nd.str (Nd.enc x)))
section
variable {B t m f n r r':Nat}{σ:Tp.Pst}{w w':World}{S':Nat->Prop}
theorem TMf.up(h:TMf B t m f n r σ w)(hf:Fr S' w w')(hS:FarS B w S'):TMf B t m f n r σ w':=by
 obtain⟨h1,h2,h3,D,h4,h5⟩:=h
 exact⟨⟨h1.1,h1.2.1,Nat.le_trans h1.2.2 hf.size⟩,h2,h3,D,h4.fr hf (fun b a=>(hS b a).2),h5⟩
theorem TMf.less(h:TMf B t m f n r σ w):TMf B t m f n r' σ w:=⟨h.low,h.ap,h.fit,h.txn⟩
theorem view_none{id:Int}{x:Nd.Node}(hv:σ.view (fun _=>none) id=some x):id∈σ.mine/\σ.nd id=some x:=by
 unfold Tp.Pst.view at hv
 split at hv
 ·rename_i hm;exact⟨hm,hv⟩
 ·split at hv<;>cases hv
theorem TMf.idok(h:TMf B t m f n r σ w){id:Int}(hm:id∈σ.mine):IdOk id:=by
 have h1:=h.ap.hm id hm
 have h2:=h.ap.pg
 unfold IdOk;omega
theorem TMf.fresh(h:TMf B t m f n r σ w)(id:Int)(hid:IdOk id):
  Calls Tryz.prog 240 #[.pointer (some ⟨t,0,none⟩), .int .i64 id] w fun e w'=>e= .returned (.bool (decide (id∈σ.mine)))/\TMf B t m f n r σ w'/\Fr (fun k=>k=t\/k=m) w w':=by
 obtain⟨D,h4,h5,h6⟩:=h.txn
 refine(tfresh_any t m f n _ _ _ D id hid.wf w h4).mono ?_
 rintro e w1 ⟨rfl,hb⟩
 exact⟨by rw[h5.has],h.up (.of_below hb) (fun k (a:False)=>a.elim), .of_below hb⟩
theorem canon_len:∀ (l:List Run) (lo p:Int),Rp.Canon lo l->(∀x,Rp.Mem l x->x<p)->2*(l.length:Int)<=max 0 (p-lo+1)
 | [],lo,p,_,_=>by simp;omega
 |a::l,lo,p,h,hm=>by
  obtain⟨h1,h2,h3,h4⟩:=h
  have ih:=canon_len l (a.2+2) p h4 (fun x ⟨b,hb,hx⟩=>hm x ⟨b,List.mem_cons_of_mem _ hb,hx⟩)
  have:=hm a.2 ⟨a,List.mem_cons_self,h2,Int.le_refl _⟩
  rw[List.length_cons]
  omega
theorem ap_small{room p:Int}{fr used:List Run}{mine:List Int}(h:Rp.Ap room fr used mine p):fr.length<=80000/\mine.length<=100000:=by
 have hp:=h.pg
 have h1:=canon_len fr 0 p h.cf (fun x hx=>(h.hf x hx).2)
 refine⟨by omega, ?_⟩
 have hsub:mine ⊆ (List.range 100000).map (fun i:Nat=>(2:Int)+(i:Int)):=fun x hx=>by
  have:=h.hm x hx
  exact List.mem_map.2 ⟨(x-2).toNat,List.mem_range.2 (by omega),by omega⟩
 have:=List.Nodup.length_le_of_subset h.nd hsub
 simpa using this
theorem Touch.fr{t m:Nat}{w w':World}(h:Touch t m w w'):Fr (fun k=>k=t\/k=m) w w':=⟨h.os,h.tape,h.output,h.size,fun k hk a=>h.block k hk (fun e=>a (.inl e)) (fun e=>a (.inr e))⟩
theorem TMf.get(h:TMf B t m f n r σ w){id:Int}{x:Nd.Node}(hv:σ.view (fun _=>none) id=some x)(k:Nat)(h1:x.leaf=true->k=1)(h2:x.leaf=false->k=2):
  Calls Tryz.prog 146 #[.pointer (some ⟨t,0,none⟩), .int .i64 id, .int .u8 k] w fun e w'=>e= .returned (.tuple #[.string (Nd.str (Nd.enc x)), .int .i64 0])/\TMf B t m f n r' σ w'/\Fr (fun k=>k=t\/k=m) w w':=by
 obtain⟨hm,hx⟩:=view_none hv
 obtain⟨D,h4,h5,h6⟩:=h.txn
 have hk:(if x.leaf then 1 else 2:Int)=(k:Int):=by
  cases hl:x.leaf with
  |true=>rw[h1 hl];rfl
  |false=>rw[h2 hl];rfl
 refine(tget_fresh t m f n _ _ _ D id _ k _ (h.idok hm).wf (by rw[h5.has];exact decide_eq_true hm) (h6 id hm x hx) w h4).mono ?_
 rintro e w1 ⟨rfl,hb⟩
 rw[if_pos hk]
 exact⟨rfl,(h.up (.of_below hb) (fun k (a:False)=>a.elim)).less, .of_below hb⟩
theorem TMf.getN(h:TMf B t m f n r σ w){id:Int}{x:Nd.Node}(hv:σ.view (fun _=>none) id=some x)(h2:x.leaf=false):
  Calls Tryz.prog 146 #[.pointer (some ⟨t,0,none⟩), .int .i64 id, .int .u8 1] w fun e w'=>e= .returned (.tuple #[.string ⟨#[]⟩, .int .i64 3])/\TMf B t m f n r' σ w'/\Fr (fun k=>k=t\/k=m) w w':=by
 obtain⟨hm,hx⟩:=view_none hv
 obtain⟨D,h4,h5,h6⟩:=h.txn
 refine(tget_fresh t m f n _ _ _ D id _ 1 _ (h.idok hm).wf (by rw[h5.has];exact decide_eq_true hm) (h6 id hm x hx) w h4).mono ?_
 rintro e w1 ⟨rfl,hb⟩
 rw[h2,if_neg (by decide)]
 exact⟨rfl,(h.up (.of_below hb) (fun k (a:False)=>a.elim)).less, .of_below hb⟩
theorem TMf.put(h:TMf B t m f n r σ w){id:Int}{x:Nd.Node}(hm:id∈σ.mine)(hfit:Nd.fits x=true)(k:Nat)(h1:x.leaf=true->k=1)(h2:x.leaf=false->k=2):
  Calls Tryz.prog 246 #[.pointer (some ⟨t,0,none⟩), .int .i64 id, .int .u8 k, .string (Nd.str (Nd.enc x))] w fun e w'=>e= .returned (.int .i64 0)/\TMf B t m f n r (σ.put id x) w'/\Fr (fun k=>k=t\/k=m) w w':=by
 obtain⟨D,h4,h5,h6⟩:=h.txn
 have hk:(k:Int)=(if x.leaf then 1 else 2:Int):=by
  cases hl:x.leaf with
  |true=>rw[h1 hl];rfl
  |false=>rw[h2 hl];rfl
 have hsm:=ap_small h.ap
 have hs:(Nd.str (Nd.enc x)).size<=240:=by
  have hr:=Tp.fits_iff.1 hfit
  have:=Nd.enc_length hr.1
  have e:(Nd.str (Nd.enc x)).size=(Nd.enc x).length:=by simp[Nd.str,ByteArray.size]
  have:=hr.2
  omega
 refine(tput_yes t m f n _ _ _ D id k _ (h.idok hm).wf (by unfold maxLen;omega) (by rw[h5.has];exact decide_eq_true hm) hs w h4).mono ?_
 rintro e w1 ⟨rfl,ht,hT⟩
 have hk5:=h5.reput hm (.held (content true k (Nd.str (Nd.enc x))))
 have hT2:=hT.tight
 rw[hk5.size]at hT2
 refine⟨rfl,⟨⟨h.low.1,h.low.2.1,Nat.le_trans h.low.2.2 ht.size⟩,h.ap,fun i hi y hy=> ?_,_,hT2,hk5,fun i hi y hy z=> ?_⟩,ht.fr⟩
 ·unfold Tp.Pst.put at hy
  simp only at hy
  split at hy
  ·injection hy with hy;subst hy;exact hfit
  ·exact h.fit i hi y hy
 ·unfold Tp.Pst.put at hy
  simp only at hy
  split at hy
  ·rename_i e
   injection hy with hy
   subst hy e
   rw[Maps.atKey_put_same h5.tidy.isMap (by trivial),hk]
  ·rename_i e
   rw[Maps.atKey_put_other (fun a=>by injection a with _ a;exact e a)]
   exact h6 i hi y hy z
theorem TMf.drop(h:TMf B t m f n r σ w)(id:Int)(hid:IdOk id):
  Calls Tryz.prog 207 #[.pointer (some ⟨t,0,none⟩), .int .i64 id] w fun e w'=>e= .returned (.tuple #[])/\TMf B t m f n r (Tp.pDrop σ id) w'/\Fr (fun k=>k=t\/k=m) w w':=by
 obtain⟨D,h4,h5,h6⟩:=h.txn
 have hsm:=ap_small h.ap
 refine(tdrop_any t m f n _ _ _ D id hid.wf (by omega) w h4).mono ?_
 rintro e w1 ⟨rfl,ht,hT⟩
 have hk5:=h5.drop_ h.ap.nd id
 have hap:=ap_drop h.ap h5 id
 have hT2:=hT.tight
 rw[hk5.size]at hT2
 have hfr:(Tp.pDrop σ id).free=dropF σ.free D id:=by
  unfold Tp.pDrop dropF
  simp only[h5.has,decide_eq_true_eq]
 refine⟨rfl,⟨⟨h.low.1,h.low.2.1,Nat.le_trans h.low.2.2 ht.size⟩,by rw[hfr];exact hap,fun i hi y hy=>h.fit i (List.mem_filter.1 hi).1 y hy,_,by rw[hfr];exact hT2,hk5,fun i hi y hy z=> ?_⟩,ht.fr⟩
 have hi2:=List.mem_filter.1 hi
 have hne:i≠id:=by simpa using hi2.2
 unfold dropD
 split
 ·rw[Maps.atKey_del_other (fun a=>by injection a with _ a;exact hne a)]
  exact h6 i hi2.1 y hy z
 ·exact h6 i hi2.1 y hy z
theorem allocV_eq(free:List Run)(pages room:Int):allocV free pages room=Tp.allocV free pages room:=rfl
theorem TMf.alloc(h:TMf B t m f n r σ w){σ':Tp.Pst}{id:Int}(ha:Tp.pAlloc (max (n:Int) 2) σ=some (id,σ')):
  Calls Tryz.prog 57 #[.pointer (some ⟨t,0,none⟩)] w fun e w'=>e= .returned (.tuple #[.int .i64 id, .int .i64 0])/\IdOk id/\id∈σ'.mine/\TMf B t m f n r σ' w'/\Fr (fun k=>k=t\/k=m) w w':=by
 obtain⟨D,h4,h5,h6⟩:=h.txn
 have hsm:=ap_small h.ap
 have hp:=h.ap.pg
 have hA:=talloc_any t m f n σ.mine.length σ.free σ.pages D hsm.1 (by unfold maxLen;omega) (by omega) w h4
 rw[allocV_eq]at hA
 unfold Tp.pAlloc at ha
 cases hv:Tp.allocV σ.free σ.pages (max (n:Int) 2)with
 |none=>rw[hv]at ha;cases ha
 |some o=>
  obtain⟨id',fr,p⟩:=o
  rw[hv]at ha hA
  simp only[Option.some.injEq,Prod.mk.injEq]at ha
  obtain⟨rfl,rfl⟩:=ha
  have hstep:id' ∉ σ.mine/\IdOk id'/\Rp.Ap (max (n:Int) 2) fr [] (σ.mine++ [id']) p:=by
   unfold Tp.allocV at hv
   cases hl:Rp.least σ.free with
   |some j=>
    rw[hl]at hv
    injection hv with hv
    injection hv with e1 hv
    injection hv with e2 e3
    subst e1 e2 e3
    obtain⟨g1,g2,g3,g4,g5⟩:=h.ap.free hl
    exact⟨g1,by unfold IdOk;omega,g5⟩
   |none=>
    rw[hl]at hv
    simp only at hv
    split at hv
    ·cases hv
    ·injection hv with hv
     injection hv with e1 hv
     injection hv with e2 e3
     subst e1 e2 e3
     obtain⟨g1,g2,g3⟩:=h.ap.fresh (by omega)
     exact⟨g1,by unfold IdOk;omega,g3⟩
  obtain⟨g1,g2,g3⟩:=hstep
  have hk5:=h5.put_ g1 (.held (content false 0 ⟨#[]⟩))
  refine hA.mono ?_
  rintro e w1 ⟨ht,rfl,hT⟩
  have hT2:=hT.tight
  rw[hk5.size]at hT2
  refine⟨rfl,g2,List.mem_append_right _ (List.mem_singleton.2 rfl),⟨⟨h.low.1,h.low.2.1,Nat.le_trans h.low.2.2 ht.size⟩,g3,fun i hi y hy=> ?_,_,hT2,hk5,fun i hi y hy z=> ?_⟩,ht.fr⟩
  ·simp only at hy
   split at hy
   ·cases hy
   ·rename_i e
    rcases List.mem_append.1 hi with hi | hi
    ·exact h.fit i hi y hy
    ·exact absurd (List.mem_singleton.1 hi) e
  ·simp only at hy
   split at hy
   ·cases hy
   ·rename_i e
    rw[Maps.atKey_put_other (fun a=>by injection a with _ a;exact e a)]
    rcases List.mem_append.1 hi with hi | hi
    ·exact h6 i hi y hy z
    ·exact absurd (List.mem_singleton.1 hi) e
theorem TMf.full(h:TMf B t m f n r σ w)(ha:Tp.pAlloc (max (n:Int) 2) σ=none):
  Calls Tryz.prog 57 #[.pointer (some ⟨t,0,none⟩)] w fun e w'=>e= .returned (.tuple #[.int .i64 0, .int .i64 2])/\TMf B t m f n r σ w'/\Fr (fun k=>k=t\/k=m) w w':=by
 obtain⟨D,h4,h5,h6⟩:=h.txn
 have hsm:=ap_small h.ap
 have hp:=h.ap.pg
 have hA:=talloc_any t m f n σ.mine.length σ.free σ.pages D hsm.1 (by unfold maxLen;omega) (by omega) w h4
 rw[allocV_eq]at hA
 unfold Tp.pAlloc at ha
 cases hv:Tp.allocV σ.free σ.pages (max (n:Int) 2)with
 |some o=>rw[hv]at ha;cases ha
 |none=>
  rw[hv]at hA
  refine hA.mono ?_
  rintro e w1 ⟨ht,rfl,hT⟩
  exact⟨rfl,⟨⟨h.low.1,h.low.2.1,Nat.le_trans h.low.2.2 ht.size⟩,h.ap,h.fit,D,hT,h5,h6⟩,ht.fr⟩
end
theorem mach_fresh{B t m:Nat}(ht:t<B)(hm:m<B)(f n:Nat):Mach (fun k=>k=t\/k=m) B t (max (n:Int) 2) (fun _=>none) (TMf B t m f n) where
 low:=fun k a=>by rcases a with rfl | rfl<;>assumption
 size:=fun h=>h.low.2.2
 up:=fun h hf hS=>h.up hf hS
 less:=fun h _=>h.less
 ht:=fun h hv=>⟨h.fit _ (view_none hv).1 _ (view_none hv).2,h.idok (view_none hv).1⟩
 get:=fun h hv k h1 h2=>h.get hv k h1 h2
 getN:=fun h hv h2=>h.getN hv h2
 fresh:=fun id h hid=>h.fresh id hid
 alloc:=fun h ha=>h.alloc ha
 full:=fun h ha=>h.full ha
 put:=fun h _ hm hfit k h1 h2=>h.put hm hfit k h1 h2
 drop:=fun id h hid=>h.drop id hid
structure FDt(w:World)(B f d k:Nat)(D:Dk)(s m:Nat)(pv:Value)(Dm:DataW Value):Prop where
 le:B<=f
 self:Blk w f 121 #[.pointer (some ⟨d,0,none⟩)]
 disk:DAt w B d k D s m pv Dm
section
variable {w w':World}{B f d k:Nat}{D:Dk}{s m:Nat}{pv:Value}{Dm:DataW Value}
theorem FDt.dkat(h:FDt w B f d k D s m pv Dm):DkAt w B d k D:=⟨_,_,_,_,h.disk⟩
theorem FDt.fat(h:FDt w B f d k D s m pv Dm):FAt w B f d k D:=⟨h.le,h.self,h.dkat⟩
theorem FAt.open_(h:FAt w B f d k D):∃s m pv Dm,FDt w B f d k D s m pv Dm:=by
 obtain⟨s,m,pv,Dm,h4⟩:=h.disk
 exact⟨s,m,pv,Dm,h.le,h.self,h4⟩
theorem FDt.keep(h:FDt w B f d k D s m pv Dm)(hb:Below w.heap.size w w'):FDt w' B f d k D s m pv Dm:=⟨h.le,h.self.below hb h.self.lt,h.disk.keep hb⟩
end
def FDEnd(B f d k s m:Nat)(pv:Value)(Dm:DataW Value)(x:Bs × Int)(D':Dk)(w:World)(e:Ending)(w':World):Prop:=e= .returned (.tuple #[str x.1, .int .i64 x.2])/\FDt w' B f d k D' s m pv Dm/\Fr (fun g=>g=d) w w'
theorem read_okD{w:World}{B d k:Nat}{D:Dk}{s m:Nat}{pv:Value}{Dm:DataW Value}(h:DAt w B d k D s m pv Dm)(i:Int)(hi:D.at_ i=0)(hw:(Lit.int .i64 i).wf=true)(hr:0<=D.reads/\D.reads<4611686018427387904):
  Calls Tryz.prog 236 #[.pointer (some ⟨d,0,none⟩), .int .i64 i] w fun e w'=>e= .returned (.tuple #[str (D.get i), .int .i64 0])/\DAt w' B d k { D with reads:=D.reads+1 } s m pv Dm/\Fr (fun g=>g=d) w w':=by
 obtain⟨hdn,hi0,hin⟩:=at_zero hi
 obtain⟨n,rfl⟩:=Int.eq_ofNat_of_zero_le hi0
 have hn:n<D.sure.length:=by omega
 have h5:=h.self.cell 5
 have f5:=h.self.frozen 5
 simp only[dkCells]at h5
 have h1:=h.turn 5 (.int .i64 (D.reads+1)) { D with reads:=D.reads+1 } rfl rfl rfl rfl
 have htk:=tick_any d 5 D.reads w h5 f5 hr
 have g0:=h1.self.cell 0
 have g1:=h1.self.cell 1
 simp only[dkCells]at g0 g1
 have hsz:(dkCells s m pv D).size=7:=rfl
 obtain⟨v,ps,hlook,hv⟩:=h1.map.look_ok dkeyedI Tryz.underlying124 (Tryz.zeroValue9 (w.setCell ⟨d,5,none⟩ (.int .i64 (D.reads+1)))) (strR_mk _) (dkeyI hw)
 have hnow:=h1.now n (.held (.string ⟨#[]⟩))
 have hsl:=h1.sure.cell n
 rw[show((D.sure.map str).toArray)[n]? =some (str D.sure[n])by simp[hn]]at hsl
 have hsn:s<(w.setCell ⟨d,5,none⟩ (.int .i64 (D.reads+1))).heap.size:=h1.sure.lt
 have hfin:DAt (w.setCell ⟨d,5,none⟩ (.int .i64 (D.reads+1))) B d k { D with reads:=D.reads+1 } s m pv Dm:=h1
 have HF:=Lib.hid hfin
 have HG:=Lib.hid (Fr.set_ (w:=w) (S:=fun g=>g=d) (g:=d) (i:=5) rfl (.int .i64 (D.reads+1)))
 have hget:D.get n=match D.now n with
   |some t=>t
   |none=>D.sure.getD n []:=rfl
 rw[hget]
 have hv2:=strR_inv hv
 obtain⟨s',rfl,hz⟩:=hv2
 rw[hnow.2]at hz
 rw[hnow.1]at hlook
 have hat:=fun W (hW:W=w)=>(hW ▸ at_any ⟨s,m,pv,Dm,h⟩ (n:Int):Calls Tryz.prog 96 #[.pointer (some ⟨d,0,none⟩), .int .i64 n] W fun e w'=>e= .returned (.int .i64 (D.at_ n))/\w'=W)
 have hat2:=hat w rfl
 rw[hi]at hat2
 rw[List.getD_eq_getElem?_getD,List.getElem?_eq_getElem hn,Option.getD_some]
 generalize D.sure[n]=sn at*
 cases hD:D.now n with
 |some t=>
  rw[hD]at hz hlook
  simp only[Option.isSome_some]at hlook
  have hs':Value.string s'=str t:=by
   have:=(Prod.mk.inj hz).1
   injection this with this
   exact this.symm
  rw[hs']at hlook
  unfold str at*
  simp only
  generalize D.sure.length=N at*
  clear hfin h h1 hnow hv hz hs' hat hget
  go_enter Tryz.func236,Tryz.ntmps236
  go_wp2_with fail
  refine Calls.mono hat2 ?_
  rintro e w1 ⟨rfl,rfl⟩
  go_wp2_with fail
  refine Calls.mono htk ?_
  rintro e w2 ⟨v2,rfl,rfl⟩
  go_wp2
  go_ret2
  exact⟨rfl,HF.out,HG.out⟩
 |none=>
  rw[hD]at hz hlook
  simp only[Option.isSome_none]at hlook
  have hs':s'=⟨#[]⟩:=by
   have:=(Prod.mk.inj hz).1
   injection this with this
   injection this with this
   exact this.symm
  rw[hs']at hlook
  unfold str at*
  simp only
  have hni:(n:Int)<D.sure.length:=hin
  generalize D.sure.length=N at*
  clear hfin h h1 hnow hv hz hs' hat hget
  go_enter Tryz.func236,Tryz.ntmps236
  go_wp2_with fail
  refine Calls.mono hat2 ?_
  rintro e w1 ⟨rfl,rfl⟩
  go_wp2_with fail
  refine Calls.mono htk ?_
  rintro e w2 ⟨v2,rfl,rfl⟩
  go_wp2
  go_ret2
  exact⟨rfl,HF.out,HG.out⟩
theorem fread_D{w:World}{B f d k:Nat}{D:Dk}{s m:Nat}{pv:Value}{Dm:DataW Value}(h:FDt w B f d k D s m pv Dm)(hF:Fine D)(hT:HT w)(hB0:0<B)(hB:B<=w.heap.size)(id:Int)(kind:Nat)(o:Option (Nat × Bs))(ho:noPage D.sure.length id=false->D.down=false->PageIs D id o):
  Calls Tryz.prog 195 #[.pointer (some ⟨f,0,none⟩), .int .i64 id, .int .u8 kind] w (FDEnd B f d k s m pv Dm (frB D.sure.length D.down id kind o) (D.readD id) w):=by
 have hpg:=ppage_any h.fat id
 have hf:=h.self.cell 0
 have hself:=h.self
 have hfle:=h.le
 cases hno:noPage D.sure.length id with
 |true=>
  have e1:frB D.sure.length D.down id kind o=([],40):=by unfold frB;rw[hno];rfl
  have e2:D.readD id=D:=by unfold Dk.readD;rw[hno];rfl
  rw[e1,e2]
  rw[hno]at hpg
  clear e1 e2 ho
  go_enter Tryz.func195,Tryz.ntmps195
  go_wp2_with fail
  refine Calls.mono hpg ?_
  rintro e w1 ⟨rfl,rfl⟩
  go_wp2
  go_ret2
  exact⟨rfl,h,Fr.refl _⟩
 |false=>
  rw[hno]at hpg
  have hb2:¬id<2/\¬ (D.sure.length:Int)<=id:=by simpa[noPage]using hno
  have hat:=at_eq hno
  have hn:=hF.n
  cases hdn:D.down with
  |true=>
   have e1:frB D.sure.length true id kind o=([],4):=by unfold frB;rw[hno];rfl
   have e2:D.readD id=D:=by unfold Dk.readD;rw[hno,hdn];rfl
   rw[e1,e2]
   rw[hdn]at hat
   have hr:=read_bad h.dkat id (by rw[hat];decide)
   rw[hat]at hr
   clear e1 e2 ho hat
   unfold str at hr
   go_enter Tryz.func195,Tryz.ntmps195
   go_wp2_with fail
   refine Calls.mono hpg ?_
   rintro e w1 ⟨rfl,rfl⟩
   go_wp2_with fail
   refine Calls.mono hr ?_
   rintro e w2 ⟨rfl,rfl⟩
   go_wp2
   go_ret2
   exact⟨rfl,h,Fr.refl _⟩
  |false=>
   obtain⟨n,rfl⟩:=Int.eq_ofNat_of_zero_le (show 0<=id by omega)
   have e2:D.readD n= { D with reads:=D.reads+1 } :=by unfold Dk.readD;rw[hno,hdn];rfl
   have ho:=ho hno hdn
   rw[e2]
   rw[hdn]at hat
   have hr:=read_okD h.disk (n:Int) (by rw[hat];rfl) (by simp[Lit.wf,IntKind.min,IntKind.max,IntKind.signed,IntKind.bits];omega) ⟨hF.reads.1,by have:=hF.reads.2;omega⟩
   have hse:=h.disk.self
   have hle:=h.disk.le.1
   have hfd:f≠d:=hself.ne_ hse (by decide)
   rcases ho with⟨hg,rfl⟩ | ⟨k',b',hk',hb',hg,rfl⟩
   ·have e1:frB D.sure.length false n kind none=([],3):=by unfold frB;rw[hno];rfl
    rw[e1]
    obtain⟨zl,hzl⟩:∃zl,zl=D.get (n:Int):=⟨_,rfl⟩
    rw[<-hzl]at hr hg
    have hop:=fun W hT=>open_bad (n:Int) zl hg W hT
    unfold OpenEnd at hop
    unfold str at hr
    clear hzl
    have HOP:=Lib.hid hop
    clear e1 e2 hat hop hg
    go_enter Tryz.func195,Tryz.ntmps195
    go_wp2_with fail
    refine Calls.mono hpg ?_
    rintro e w1 ⟨rfl,rfl⟩
    go_wp2_with fail
    refine Calls.mono hr ?_
    rintro e w2 ⟨rfl,hD2,hg2⟩
    have hbw2:=hg2.low hB (fun k hk=>by subst hk;exact hle)
    have hF2:FDt w2 B f d k { D with reads:=D.reads+1 } s m pv Dm:=⟨hfle,hg2.blk hself hfd,hD2⟩
    go_wp2_with fail
    refine Calls.mono (HOP.out _ (hT.below hbw2 hB0)) ?_
    rintro e w3 ⟨rfl,hb3⟩
    go_wp2
    go_ret2
    exact⟨rfl,hF2.keep hb3,hg2.then_ hb3⟩
   ·rw[hg]at hr
    have hop:=fun W hT=>open_page n k' b' (by omega) hk' hb' W hT
    rw[Int.toNat_natCast]at hr
    unfold OpenEnd at hop
    unfold str at hr
    have hkk:((k':Int) != (kind:Int))= !decide (k'=kind):=by
     by_cases e:k'=kind
     ·subst e;simp
     ·simp[e];omega
    by_cases hk2:k'=kind
    ·have e1:frB D.sure.length false n kind (some (k',b'))=(b',0):=by unfold frB;rw[hno,if_neg (by simp),if_neg (by simp)];exact if_pos hk2
     rw[e1]
     generalize Pg.page n k' b'=zl at*
     have HOP:=Lib.hid hop
     have hq:((k':Int) != (kind:Int))=false:=by rw[hkk];simp[hk2]
     clear e1 e2 hat hop hg hkk hk2
     go_enter Tryz.func195,Tryz.ntmps195
     go_wp2_with fail
     refine Calls.mono hpg ?_
     rintro e w1 ⟨rfl,rfl⟩
     go_wp2_with fail
     refine Calls.mono hr ?_
     rintro e w2 ⟨rfl,hD2,hg2⟩
     have hbw2:=hg2.low hB (fun k hk=>by subst hk;exact hle)
     have hF2:FDt w2 B f d k { D with reads:=D.reads+1 } s m pv Dm:=⟨hfle,hg2.blk hself hfd,hD2⟩
     go_wp2_with fail
     refine Calls.mono (HOP.out _ (hT.below hbw2 hB0)) ?_
     rintro e w3 ⟨rfl,hb3⟩
     go_wp2
     go_ret2
     exact⟨rfl,hF2.keep hb3,hg2.then_ hb3⟩
    ·have e1:frB D.sure.length false n kind (some (k',b'))=([],3):=by unfold frB;rw[hno,if_neg (by simp),if_neg (by simp)];exact if_neg hk2
     rw[e1]
     generalize Pg.page n k' b'=zl at*
     have HOP:=Lib.hid hop
     have hq:((k':Int) != (kind:Int))=true:=by rw[hkk];simp[hk2]
     clear e1 e2 hat hop hg hkk hk2
     go_enter Tryz.func195,Tryz.ntmps195
     go_wp2_with fail
     refine Calls.mono hpg ?_
     rintro e w1 ⟨rfl,rfl⟩
     go_wp2_with fail
     refine Calls.mono hr ?_
     rintro e w2 ⟨rfl,hD2,hg2⟩
     have hbw2:=hg2.low hB (fun k hk=>by subst hk;exact hle)
     have hF2:FDt w2 B f d k { D with reads:=D.reads+1 } s m pv Dm:=⟨hfle,hg2.blk hself hfd,hD2⟩
     go_wp2_with fail
     refine Calls.mono (HOP.out _ (hT.below hbw2 hB0)) ?_
     rintro e w3 ⟨rfl,hb3⟩
     go_wp2
     go_ret2
     exact⟨rfl,hF2.keep hb3,hg2.then_ hb3⟩
theorem tget_D{B f d kk:Nat}{Dk:Dk}{ds dm:Nat}{dpv:Value}{dDm:DataW Value}(t m n k:Nat)(free:List Run)(pages:Int)(D:DataW Value)(id:Int)(kind:Nat)(hid:(Lit.int .i64 id).wf=true)(hh:Maps.has D (.int .i64 id)=false)(h2i:2<=id)(hip:id<pages)(hno:Rp.has free id=false)(hl:free.length<=80000)(w:World)(h:Txn w t m f n free pages k D)
  (hF:FDt w B f d kk Dk ds dm dpv dDm) (hFi:Fine Dk) (hT:HT w) (hB0:0<B) (hB:B<=w.heap.size) (o:Option (Nat × Bs)) (ho:noPage Dk.sure.length id=false->Dk.down=false->PageIs Dk id o):
  Calls Tryz.prog 146 #[.pointer (some ⟨t,0,none⟩), .int .i64 id, .int .u8 kind] w (FDEnd B f d kk ds dm dpv dDm (frB Dk.sure.length Dk.down id kind o) (Dk.readD id) w):=by
 have hrd:=fun W (h1:FDt W B f d kk Dk ds dm dpv dDm) (h2:HT W) (h3:B<=W.heap.size)=>fread_D h1 hFi h2 hB0 h3 id kind o ho
 have hT':=h
 obtain⟨_,⟨v,h2,h3⟩,h4⟩:=h
 obtain⟨A,c,rfl⟩:=h3.form
 have hlt:=h2.lt
 have hc:=h2.cell 3
 obtain⟨u,ps,hrun,hu⟩:=h4.look_ok keyedI Tryz.underlying141 (Tryz.zeroValue156 w) (heldR_mk _ _ _) (keyI hid)
 rw[hh]at hrun
 obtain⟨b,q',s',rfl,hz⟩:=heldR_inv hu
 unfold content at hrun
 have hb0:Below w.heap.size w (w.alloc (.cells #[.bool b, .int .u8 q', .string s'] 156)):=(Below.refl _ w).alloc (Nat.le_refl _) _
 have hc0:=h2.cell 0
 have hc1:=h2.cell 1
 have hc2:=h2.cell 2
 have hhas:=fun W (h:RS W W.heap.size A free)=>has_any A c free id W h (by omega)
 rw[hno]at hhas
 have hq1:decide (id<2)=false:=decide_eq_false (by omega)
 have hq2:decide (pages<=id)=false:=decide_eq_false (by omega)
 have hrs:=h3.rs
 unfold FDEnd str at*
 generalize frB Dk.sure.length Dk.down id kind o=r at*
 generalize Dk.readD id=D2 at*
 have HHAS:=Lib.hid hhas
 have HRD:=Lib.hid hrd
 clear hhas hrd ho hu hz hno hT' h3 h4
 go_enter Tryz.func146,Tryz.ntmps146
 go_wp2_with fail
 refine Calls.mono (HHAS.out _ ((hrs.below hb0).more hb0.size)) ?_
 rintro e w1 ⟨rfl,hb1⟩
 have hb01:=hb0.trans (hb1.mono hb0.size)
 have h2':=h2.below hb01 hlt
 have hlt':=h2'.lt
 have hc0':=h2'.cell 0
 go_wp2_with fail
 refine Calls.mono (HRD.out _ (hF.keep hb01) (hT.below (hb01.mono hB) hB0) (Nat.le_trans hB hb01.size)) ?_
 rintro e w2 ⟨rfl,g1,g2⟩
 have hend:FDt w2 B f d kk D2 ds dm dpv dDm/\Fr (fun g=>g=d) w w2:=⟨g1,(Fr.of_below hb01).trans g2⟩
 have HEND:=Lib.hid hend
 clear hend g1 g2
 go_wp2
 go_ret2
 exact⟨rfl,HEND.out⟩
structure TMc(t m f n:Nat)(used:List Run)(σ:Tp.Pst)(w:World):Prop where
 ap:Rp.Ap (max (n:Int) 2) σ.free used σ.mine σ.pages
 fit:∀id,id∈σ.mine->∀x,σ.nd id=some x->Nd.fits x=true
 txn:∃D,Txn w t m f n σ.free σ.pages σ.mine.length D/\KeysAre D σ.mine/\∀id,id∈σ.mine->∀x,σ.nd id=some x->∀z,D.atKey (.int .i64 id) z= .held (content true (if x.leaf then 1 else 2) (Nd.str (Nd.enc x)))
section
variable {t m f n:Nat}{used:List Run}{σ:Tp.Pst}{w w':World}{S':Nat->Prop}
theorem TMc.idok(h:TMc t m f n used σ w){id:Int}(hm:id∈σ.mine):IdOk id:=by
 have h1:=h.ap.hm id hm
 have h2:=h.ap.pg
 unfold IdOk;omega
theorem TMc.fresh(h:TMc t m f n used σ w)(id:Int)(hid:IdOk id):
  Calls Tryz.prog 240 #[.pointer (some ⟨t,0,none⟩), .int .i64 id] w fun e w'=>e= .returned (.bool (decide (id∈σ.mine)))/\Below w.heap.size w w':=by
 obtain⟨D,h4,h5,h6⟩:=h.txn
 refine(tfresh_any t m f n _ _ _ D id hid.wf w h4).mono ?_
 rintro e w1 ⟨rfl,hb⟩
 exact⟨by rw[h5.has],hb⟩
theorem TMc.get(h:TMc t m f n used σ w){id:Int}{x:Nd.Node}(hm:id∈σ.mine)(hx:σ.nd id=some x)(k:Nat)(h1:x.leaf=true->k=1)(h2:x.leaf=false->k=2):
  Calls Tryz.prog 146 #[.pointer (some ⟨t,0,none⟩), .int .i64 id, .int .u8 k] w fun e w'=>e= .returned (.tuple #[.string (Nd.str (Nd.enc x)), .int .i64 0])/\Below w.heap.size w w':=by
 obtain⟨D,h4,h5,h6⟩:=h.txn
 have hk:(if x.leaf then 1 else 2:Int)=(k:Int):=by
  cases hl:x.leaf with
  |true=>rw[h1 hl];rfl
  |false=>rw[h2 hl];rfl
 refine(tget_fresh t m f n _ _ _ D id _ k _ (h.idok hm).wf (by rw[h5.has];exact decide_eq_true hm) (h6 id hm x hx) w h4).mono ?_
 rintro e w1 ⟨rfl,hb⟩
 rw[if_pos hk]
 exact⟨rfl,hb⟩
theorem TMc.getN(h:TMc t m f n used σ w){id:Int}{x:Nd.Node}(hm:id∈σ.mine)(hx:σ.nd id=some x)(h2:x.leaf=false):
  Calls Tryz.prog 146 #[.pointer (some ⟨t,0,none⟩), .int .i64 id, .int .u8 1] w fun e w'=>e= .returned (.tuple #[.string ⟨#[]⟩, .int .i64 3])/\Below w.heap.size w w':=by
 obtain⟨D,h4,h5,h6⟩:=h.txn
 refine(tget_fresh t m f n _ _ _ D id _ 1 _ (h.idok hm).wf (by rw[h5.has];exact decide_eq_true hm) (h6 id hm x hx) w h4).mono ?_
 rintro e w1 ⟨rfl,hb⟩
 rw[h2,if_neg (by decide)]
 exact⟨rfl,hb⟩
theorem TMc.put(h:TMc t m f n used σ w){id:Int}{x:Nd.Node}(hm:id∈σ.mine)(hfit:Nd.fits x=true)(k:Nat)(h1:x.leaf=true->k=1)(h2:x.leaf=false->k=2):
  Calls Tryz.prog 246 #[.pointer (some ⟨t,0,none⟩), .int .i64 id, .int .u8 k, .string (Nd.str (Nd.enc x))] w fun e w'=>e= .returned (.int .i64 0)/\TMc t m f n used (σ.put id x) w'/\Touch t m w w':=by
 obtain⟨D,h4,h5,h6⟩:=h.txn
 have hk:(k:Int)=(if x.leaf then 1 else 2:Int):=by
  cases hl:x.leaf with
  |true=>rw[h1 hl];rfl
  |false=>rw[h2 hl];rfl
 have hsm:=ap_small h.ap
 have hs:(Nd.str (Nd.enc x)).size<=240:=by
  have hr:=Tp.fits_iff.1 hfit
  have:=Nd.enc_length hr.1
  have e:(Nd.str (Nd.enc x)).size=(Nd.enc x).length:=by simp[Nd.str,ByteArray.size]
  have:=hr.2
  omega
 refine(tput_yes t m f n _ _ _ D id k _ (h.idok hm).wf (by unfold maxLen;omega) (by rw[h5.has];exact decide_eq_true hm) hs w h4).mono ?_
 rintro e w1 ⟨rfl,ht,hT⟩
 have hk5:=h5.reput hm (.held (content true k (Nd.str (Nd.enc x))))
 have hT2:=hT.tight
 rw[hk5.size]at hT2
 refine⟨rfl,⟨h.ap,fun i hi y hy=> ?_,_,hT2,hk5,fun i hi y hy z=> ?_⟩,ht⟩
 ·unfold Tp.Pst.put at hy
  simp only at hy
  split at hy
  ·injection hy with hy;subst hy;exact hfit
  ·exact h.fit i hi y hy
 ·unfold Tp.Pst.put at hy
  simp only at hy
  split at hy
  ·rename_i e
   injection hy with hy
   subst hy e
   rw[Maps.atKey_put_same h5.tidy.isMap (by trivial),hk]
  ·rename_i e
   rw[Maps.atKey_put_other (fun a=>by injection a with _ a;exact e a)]
   exact h6 i hi y hy z
theorem TMc.drop(h:TMc t m f n used σ w)(id:Int)(hid:IdOk id):
  Calls Tryz.prog 207 #[.pointer (some ⟨t,0,none⟩), .int .i64 id] w fun e w'=>e= .returned (.tuple #[])/\TMc t m f n used (Tp.pDrop σ id) w'/\Touch t m w w':=by
 obtain⟨D,h4,h5,h6⟩:=h.txn
 have hsm:=ap_small h.ap
 refine(tdrop_any t m f n _ _ _ D id hid.wf (by omega) w h4).mono ?_
 rintro e w1 ⟨rfl,ht,hT⟩
 have hk5:=h5.drop_ h.ap.nd id
 have hap:=ap_drop h.ap h5 id
 have hT2:=hT.tight
 rw[hk5.size]at hT2
 have hfr:(Tp.pDrop σ id).free=dropF σ.free D id:=by
  unfold Tp.pDrop dropF
  simp only[h5.has,decide_eq_true_eq]
 refine⟨rfl,⟨by rw[hfr];exact hap,fun i hi y hy=>h.fit i (List.mem_filter.1 hi).1 y hy,_,by rw[hfr];exact hT2,hk5,fun i hi y hy z=> ?_⟩,ht⟩
 have hi2:=List.mem_filter.1 hi
 have hne:i≠id:=by simpa using hi2.2
 unfold dropD
 split
 ·rw[Maps.atKey_del_other (fun a=>by injection a with _ a;exact hne a)]
  exact h6 i hi2.1 y hy z
 ·exact h6 i hi2.1 y hy z
theorem TMc.alloc(h:TMc t m f n used σ w){σ':Tp.Pst}{id:Int}(ha:Tp.pAlloc (max (n:Int) 2) σ=some (id,σ')):
  Calls Tryz.prog 57 #[.pointer (some ⟨t,0,none⟩)] w fun e w'=>e= .returned (.tuple #[.int .i64 id, .int .i64 0])/\IdOk id/\id∈σ'.mine/\TMc t m f n used σ' w'/\Touch t m w w':=by
 obtain⟨D,h4,h5,h6⟩:=h.txn
 have hsm:=ap_small h.ap
 have hp:=h.ap.pg
 have hA:=talloc_any t m f n σ.mine.length σ.free σ.pages D hsm.1 (by unfold maxLen;omega) (by omega) w h4
 rw[allocV_eq]at hA
 unfold Tp.pAlloc at ha
 cases hv:Tp.allocV σ.free σ.pages (max (n:Int) 2)with
 |none=>rw[hv]at ha;cases ha
 |some o=>
  obtain⟨id',fr,p⟩:=o
  rw[hv]at ha hA
  simp only[Option.some.injEq,Prod.mk.injEq]at ha
  obtain⟨rfl,rfl⟩:=ha
  have hstep:id' ∉ σ.mine/\IdOk id'/\Rp.Ap (max (n:Int) 2) fr used (σ.mine++ [id']) p:=by
   unfold Tp.allocV at hv
   cases hl:Rp.least σ.free with
   |some j=>
    rw[hl]at hv
    injection hv with hv
    injection hv with e1 hv
    injection hv with e2 e3
    subst e1 e2 e3
    obtain⟨g1,g2,g3,g4,g5⟩:=h.ap.free hl
    exact⟨g1,by unfold IdOk;omega,g5⟩
   |none=>
    rw[hl]at hv
    simp only at hv
    split at hv
    ·cases hv
    ·injection hv with hv
     injection hv with e1 hv
     injection hv with e2 e3
     subst e1 e2 e3
     obtain⟨g1,g2,g3⟩:=h.ap.fresh (by omega)
     exact⟨g1,by unfold IdOk;omega,g3⟩
  obtain⟨g1,g2,g3⟩:=hstep
  have hk5:=h5.put_ g1 (.held (content false 0 ⟨#[]⟩))
  refine hA.mono ?_
  rintro e w1 ⟨ht,rfl,hT⟩
  have hT2:=hT.tight
  rw[hk5.size]at hT2
  refine⟨rfl,g2,List.mem_append_right _ (List.mem_singleton.2 rfl),⟨g3,fun i hi y hy=> ?_,_,hT2,hk5,fun i hi y hy z=> ?_⟩,ht⟩
  ·simp only at hy
   split at hy
   ·cases hy
   ·rename_i e
    rcases List.mem_append.1 hi with hi | hi
    ·exact h.fit i hi y hy
    ·exact absurd (List.mem_singleton.1 hi) e
  ·simp only at hy
   split at hy
   ·cases hy
   ·rename_i e
    rw[Maps.atKey_put_other (fun a=>by injection a with _ a;exact e a)]
    rcases List.mem_append.1 hi with hi | hi
    ·exact h6 i hi y hy z
    ·exact absurd (List.mem_singleton.1 hi) e
theorem TMc.full(h:TMc t m f n used σ w)(ha:Tp.pAlloc (max (n:Int) 2) σ=none):
  Calls Tryz.prog 57 #[.pointer (some ⟨t,0,none⟩)] w fun e w'=>e= .returned (.tuple #[.int .i64 0, .int .i64 2])/\TMc t m f n used σ w'/\Touch t m w w':=by
 obtain⟨D,h4,h5,h6⟩:=h.txn
 have hsm:=ap_small h.ap
 have hp:=h.ap.pg
 have hA:=talloc_any t m f n σ.mine.length σ.free σ.pages D hsm.1 (by unfold maxLen;omega) (by omega) w h4
 rw[allocV_eq]at hA
 unfold Tp.pAlloc at ha
 cases hv:Tp.allocV σ.free σ.pages (max (n:Int) 2)with
 |some o=>rw[hv]at ha;cases ha
 |none=>
  rw[hv]at hA
  refine hA.mono ?_
  rintro e w1 ⟨ht,rfl,hT⟩
  exact⟨rfl,⟨h.ap,h.fit,D,hT,h5,h6⟩,ht⟩
end
structure FFile where
 B:Nat
 f:Nat
 d:Nat
 k:Nat
 s:Nat
 m:Nat
 pv:Value
 Dm:DataW Value
 D:Dk
def FFile.Blks(F:FFile)(g:Nat):Prop:=g=F.f\/g=F.d\/g=F.s\/g=F.m\/F.pv.ownBlock=some g
def FFile.At(F:FFile)(w:World)(R:Int):Prop:=FDt w F.B F.f F.d F.k { F.D with reads:=R } F.s F.m F.pv F.Dm
theorem lo_frb{α:Type}{E:Enc α}{ty:TypeId}{base:Nat}{v:Value}{l:List α}{S:Nat->Prop}{w w':World}(h:LO E ty w base v l)(hf:Fr S w w')(hS:∀g,v.ownBlock=some g->¬S g):LO E ty w' base v l:=by
 obtain⟨h1,h2⟩:=h
 refine⟨h1, ?_⟩
 rcases h2 with h2 | ⟨g,cap,cur,e1,e2,e3,e4⟩
 ·exact .inl h2
 ·exact .inr ⟨g,cap,cur,e1,e2,(hf.block g (Array.getElem?_eq_some_iff.1 e3).1 (hS g (by rw[e1];rfl))).trans e3,e4⟩
section
variable {F:FFile}{w w':World}{R:Int}{S:Nat->Prop}
theorem FFile.At.fr(h:F.At w R)(hf:Fr S w w')(hS:∀g,F.Blks g->¬S g):F.At w' R:=by
 obtain⟨h1,h2,h3,h4,h5,h6,h7,h8⟩:=h
 refine⟨h1,hf.blk h2 (hS _ (.inl rfl)),h3,hf.blk h4 (hS _ (.inr (.inl rfl))),hf.blk h5 (hS _ (.inr (.inr (.inl rfl)))), ?_,h7,lo_frb h8 hf (fun g hg=>hS g (.inr (.inr (.inr (.inr hg)))))⟩
 obtain⟨es,ck,g1,g2⟩:=h6
 exact⟨es,ck,(hf.block _ (Array.getElem?_eq_some_iff.1 g1).1 (hS _ (.inr (.inr (.inr (.inl rfl)))))).trans g1,g2⟩
theorem FFile.At.fileOf(h:F.At w R):FileOf w F.f F.D.sure.length:=⟨F.d,h.self,_,_,_,h.disk.self,rfl⟩
theorem FFile.At.low(h:F.At w R):∀g,F.Blks g->g<w.heap.size:=fun g hg=>by
 rcases hg with rfl | rfl | rfl | rfl | hg
 ·exact h.self.lt
 ·exact h.disk.self.lt
 ·exact h.disk.sure.lt
 ·obtain⟨es,ck,g1,_⟩:=h.disk.map
  exact(Array.getElem?_eq_some_iff.1 g1).1
 ·rcases h.disk.pend.2 with⟨e,_⟩ | ⟨g',cap,cur,e1,e2,e3,e4⟩
  ·rw[e]at hg;cases hg
  ·rw[e1]at hg
   have:g'=g:=by injection hg
   subst this
   exact(Array.getElem?_eq_some_iff.1 e3).1
theorem Txn.read{t m n k:Nat}{free:List Run}{pages:Int}{D:DataW Value}(h:Txn w t m F.f n free pages k D)(hf:Fr (fun g=>g=F.d) w w')(h0:F.At w R){R':Int}(h1:F.At w' R')(hn:F.D.sure.length=n):Txn w' t m F.f n free pages k D:=by
 have hd:∀ {g:Nat} {o:Obj},w.heap[g]? =some o->(∀cs,o≠ .cells cs 132)->w'.heap[g]? =some o:=fun {g o} ho hn=>(hf.block g (Array.getElem?_eq_some_iff.1 ho).1 (fun e=>by
  subst e
  have e2:=ho.symm.trans h0.disk.self
  injection e2 with e2
  exact hn _ e2)).trans ho
 obtain⟨_,⟨v,h4,h5⟩,es,ck,h6,h7⟩:=h
 refine⟨hn ▸ h1.fileOf,⟨v,hd h4 (fun cs e=>by injection e with _ e;cases e), ?_⟩,es,ck,hd h6 (fun cs e=>by cases e),h7⟩
 rcases h5 with⟨e1,e2 | ⟨g,cap,cur,hv,hb,hh,hr⟩⟩
 ·exact⟨e1, .inl e2⟩
 ·exact⟨e1, .inr ⟨g,cap,cur,hv,hb,hd hh (fun cs e=>by injection e with _ e;cases e),hr⟩⟩
end
theorem at_reads{D:Dk}{R:Int}{id:Int}{o:Option (Nat × Bs)}(h:PageIs D id o):PageIs { D with reads:=R } id o:=h
structure OnDisk(F:FFile)(n:Nat)(used:List Run)(disk:Tp.Disk):Prop where
 size:F.D.sure.length=n
 n:n<=16384
 writes:0<=F.D.writes/\F.D.writes<1000000
 left:F.D.left= -1
 down:F.D.down=false
 pend:F.D.pend.length<=1000000
 page:∀id x,disk id=some x->Nd.fits x=true/\Rp.Mem used id/\PageIs F.D id (some (Nd.kind x,Nd.enc x))
theorem OnDisk.fine{F:FFile}{n:Nat}{used:List Run}{disk:Tp.Disk}(h:OnDisk F n used disk){R:Int}(hR:0<=R/\R<1000000000000):Fine { F.D with reads:=R } :=
 ⟨by show F.D.sure.length<=_;rw[h.size];exact h.n,⟨h.writes.1,Int.lt_trans h.writes.2 (by decide)⟩,hR,by show -1<=F.D.left/\F.D.left<=_;rw[h.left];decide,Nat.le_trans h.pend (by decide)⟩
structure TMd(F:FFile)(B t m n:Nat)(used:List Run)(disk:Tp.Disk)(r:Nat)(σ:Tp.Pst)(w:World):Prop where
 low:t<B/\m<B/\B<=w.heap.size
 sep:∀g,F.Blks g->g<t/\g<m
 base:0<F.B/\F.B<=t/\F.B<=m
 ht:HT w
 mem:TMc t m F.f n used σ w
 on:OnDisk F n used disk
 file:∃R:Int,0<=R/\R+(r:Nat)<=900000000000/\F.At w R
section
variable {F:FFile}{B t m n r r':Nat}{used:List Run}{disk:Tp.Disk}{σ σ':Tp.Pst}{w w':World}{S':Nat->Prop}
def SD(F:FFile)(t m:Nat)(k:Nat):Prop:=k=t\/k=m\/k=F.d
theorem HT.fr{S:Nat->Prop}(h:HT w)(hf:Fr S w w')(h0:¬S 0):HT w':=by
 have hb:w'.heap[0]? =w.heap[0]? :=hf.block 0 h.1 h0
 refine⟨Nat.lt_of_lt_of_le h.1 hf.size,fun i hi=> ?_⟩
 rw[<-h.2 i hi]
 unfold World.cell?
 simp only[hb]
theorem TMd.up(h:TMd F B t m n used disk r σ w)(hf:Fr S' w w')(hS:FarS B w S'):TMd F B t m n used disk r σ w':=by
 obtain⟨h1,h2,h3,h4,⟨g1,g2,D,g3,g4⟩,h6,R,r1,r2,r3⟩:=h
 have hnb:∀g,F.Blks g->¬S' g:=fun g hg a=>by have:=(h2 g hg).1;have:=(hS g a).1;omega
 exact⟨⟨h1.1,h1.2.1,Nat.le_trans h1.2.2 hf.size⟩,h2,h3,h4.fr hf (fun a=>by have:=(hS 0 a).1;omega),⟨g1,g2,D,g3.fr hf (fun b a=>(hS b a).2),g4⟩,h6,R,r1,r2,r3.fr hf hnb⟩
theorem TMd.less(h:TMd F B t m n used disk r σ w)(hr:r'<=r):TMd F B t m n used disk r' σ w:=by
 obtain⟨h1,h2,h3,h4,h5,h6,R,r1,r2,r3⟩:=h
 exact⟨h1,h2,h3,h4,h5,h6,R,r1,by omega,r3⟩
theorem TMd.below(h:TMd F B t m n used disk r σ w)(hb:Below w.heap.size w w'):TMd F B t m n used disk r σ w':=h.up (S':=fun _=>False) (.of_below hb) (fun _ a=>a.elim)
theorem TMd.touch(h:TMd F B t m n used disk r σ w)(hc:TMc t m F.f n used σ' w')(hf:Touch t m w w'):TMd F B t m n used disk r σ' w':=by
 obtain⟨h1,h2,h3,h4,_,h6,R,r1,r2,r3⟩:=h
 exact⟨⟨h1.1,h1.2.1,Nat.le_trans h1.2.2 hf.size⟩,h2,h3,h4.fr hf.fr (fun a=>by rcases a with a | a<;>omega),hc,h6,R,r1,r2,r3.fr hf.fr (fun g hg a=>by have:=h2 g hg;rcases a with rfl | rfl<;>omega)⟩
theorem Touch.sd(h:Touch t m w w'):Fr (SD F t m) w w':=h.fr.more fun k a=>by
 rcases a with a | a
 ·exact .inl a
 ·exact .inr (.inl a)
theorem view_cases{id:Int}{x:Nd.Node}(hv:σ.view disk id=some x):(id∈σ.mine/\σ.nd id=some x)\/(id ∉ σ.mine/\2<=id/\id<σ.pages/\Rp.has σ.free id=false/\disk id=some x):=by
 unfold Tp.Pst.view at hv
 split at hv
 ·rename_i hm;exact .inl ⟨hm,hv⟩
 ·rename_i hm
  split at hv
  ·rename_i h2;exact .inr ⟨hm,h2.1,h2.2.1,h2.2.2,hv⟩
  ·cases hv
theorem TMd.ht_(h:TMd F B t m n used disk r σ w){id:Int}{x:Nd.Node}(hv:σ.view disk id=some x):Nd.fits x=true/\IdOk id:=by
 rcases view_cases hv with⟨h1,h2⟩ | ⟨_,h2,h3,_,h5⟩
 ·exact⟨h.mem.fit _ h1 _ h2,h.mem.idok h1⟩
 ·have:=h.mem.ap.pg
  exact⟨(h.on.page _ _ h5).1,by unfold IdOk;omega⟩
theorem TMd.readOf(h:TMd F B t m n used disk (r+1) σ w){id:Int}{x:Nd.Node}(h1:id ∉ σ.mine)(h2:2<=id)(h3:id<σ.pages)(h4:Rp.has σ.free id=false)(h5:disk id=some x)(k:Nat):
  Calls Tryz.prog 146 #[.pointer (some ⟨t,0,none⟩), .int .i64 id, .int .u8 k] w fun e w'=>e= .returned (if Nd.kind x=k then .tuple #[.string (Nd.str (Nd.enc x)), .int .i64 0]else .tuple #[.string ⟨#[]⟩, .int .i64 3])/\TMd F B t m n used disk r σ w'/\Fr (SD F t m) w w':=by
 obtain⟨b1,b2,b3,b4,⟨g1,g2,D,g3,g4,g5⟩,b6,R,r1,r2,r3⟩:=h
 obtain⟨p1,p2,p3⟩:=b6.page _ _ h5
 have hp:=g1.pg
 have hu:=g1.hu id p2
 have hnn:id<(n:Int):=by omega
 have hno:noPage F.D.sure.length id=false:=by unfold noPage;rw[b6.size];simp;omega
 have hsm:=ap_small g1
 have hlt:=r3.disk.self.lt
 have hle:=r3.disk.le.1
 refine(tget_D t m n _ _ _ D id k (by exact(show IdOk id by unfold IdOk;omega).wf) (by rw[g4.has];exact decide_eq_false h1) h2 h3 h4 hsm.1 w g3 r3 (b6.fine ⟨r1,by omega⟩) b4 b3.1 (by omega) (some (Nd.kind x,Nd.enc x)) (fun _ _=>at_reads p3)).mono ?_
 rintro e w' ⟨rfl,q1,q2⟩
 have hrd:Dk.readD { F.D with reads:=R } id= { F.D with reads:=R+1 } :=by
  unfold Dk.readD
  rw[if_neg (by show ¬noPage F.D.sure.length id=true;rw[hno];decide),if_neg (by show ¬F.D.down=true;rw[b6.down];decide)]
 rw[hrd]at q1
 have hR:F.At w' (R+1):=q1
 refine⟨?_,⟨⟨b1.1,b1.2.1,Nat.le_trans b1.2.2 q2.size⟩,b2,b3,b4.fr q2 (fun a=>by omega),⟨g1,g2,D,g3.read q2 r3 hR b6.size,g4,g5⟩,b6,R+1,by omega,by omega,hR⟩,q2.more fun k a=> .inr (.inr a)⟩
 have e1:frB F.D.sure.length F.D.down id k (some (Nd.kind x,Nd.enc x))=if Nd.kind x=k then(Nd.enc x,0)else([],3):=by
  unfold frB
  rw[hno,b6.down]
  rfl
 show Ending.returned (.tuple #[str (frB F.D.sure.length F.D.down id k (some (Nd.kind x,Nd.enc x))).1, .int .i64 (frB F.D.sure.length F.D.down id k (some (Nd.kind x,Nd.enc x))).2])=_
 rw[e1]
 split
 ·rfl
 ·rfl
end
theorem mach_disk(F:FFile){B t m:Nat}(ht:t<B)(hm:m<B)(hd:F.d<B)(n:Nat)(used:List Run)(disk:Tp.Disk):Mach (SD F t m) B t (max (n:Int) 2) disk (TMd F B t m n used disk) where
 low:=fun k a=>by rcases a with rfl | rfl | rfl<;>assumption
 size:=fun h=>h.low.2.2
 up:=fun h hf hS=>h.up hf hS
 less:=fun h hr=>h.less hr
 ht:=fun h hv=>h.ht_ hv
 get:=fun {r σ w id x} h hv k h1 h2=>by
  rcases view_cases hv with⟨a1,a2⟩ | ⟨a1,a2,a3,a4,a5⟩
  ·refine(h.mem.get a1 a2 k h1 h2).mono ?_
   rintro e w' ⟨rfl,hb⟩
   exact⟨rfl,(h.below hb).less (Nat.le_succ _), .of_below hb⟩
  ·refine(h.readOf a1 a2 a3 a4 a5 k).mono ?_
   rintro e w' ⟨rfl,hb⟩
   rw[if_pos (by unfold Nd.kind;cases hl:x.leaf with
    |true=>rw[h1 hl];rfl
    |false=>rw[h2 hl];rfl)]
   exact⟨rfl,hb⟩
 getN:=fun {r σ w id x} h hv h2=>by
  rcases view_cases hv with⟨a1,a2⟩ | ⟨a1,a2,a3,a4,a5⟩
  ·refine(h.mem.getN a1 a2 h2).mono ?_
   rintro e w' ⟨rfl,hb⟩
   exact⟨rfl,(h.below hb).less (Nat.le_succ _), .of_below hb⟩
  ·refine(h.readOf a1 a2 a3 a4 a5 1).mono ?_
   rintro e w' ⟨rfl,hb⟩
   rw[if_neg (by unfold Nd.kind;rw[h2];decide)]
   exact⟨rfl,hb⟩
 fresh:=fun id h hid=>(h.mem.fresh id hid).mono (by
  rintro e w' ⟨rfl,hb⟩
  exact⟨rfl,h.below hb, .of_below hb⟩)
 alloc:=fun h ha=>(h.mem.alloc ha).mono (by
  rintro e w' ⟨rfl,h1,h2,h3,h4⟩
  exact⟨rfl,h1,h2,h.touch h3 h4,h4.sd⟩)
 full:=fun h ha=>(h.mem.full ha).mono (by
  rintro e w' ⟨rfl,h3,h4⟩
  exact⟨rfl,h.touch h3 h4,h4.sd⟩)
 put:=fun h _ hm hfit k h1 h2=>(h.mem.put hm hfit k h1 h2).mono (by
  rintro e w' ⟨rfl,h3,h4⟩
  exact⟨rfl,h.touch h3 h4,h4.sd⟩)
 drop:=fun id h hid=>(h.mem.drop id hid).mono (by
  rintro e w' ⟨rfl,h3,h4⟩
  exact⟨rfl,h.touch h3 h4,h4.sd⟩)
theorem nencode_any(v:Value)(n:Nd.Node)(hfit:Nd.fits n=true)(w:World)(h:NS w v n)(hb:NB n):
  Calls Tryz.prog 17 #[v] w fun e w'=>e= .returned (.tuple #[.int .u8 (Nd.kind n:Nat), .string (Nd.str (Nd.enc n)), .int .i64 0])/\Below w.heap.size w w':=by
 have h0:=h
 obtain⟨Ae,ce,Ai,ci,Ay,cy,rfl,h1,h2,h3⟩:=h
 cases hlf:n.leaf with
 |true=>
  have hk:Nd.kind n=1:=by unfold Nd.kind;rw[if_pos hlf]
  rw[hk]
  rw[hlf]at h0
  exact nencode_leaf Ae Ai Ay ce ci cy n hlf hfit w h0 h1 hb
 |false=>
  have hk:Nd.kind n=2:=by unfold Nd.kind;rw[if_neg (by rw[hlf];simp)]
  rw[hk]
  rw[hlf]at h0
  exact nencode_inner Ae Ai Ay ce ci cy n hlf hfit w h0 h2 h3 hb
section
variable {S:Nat->Prop}{B t:Nat}{room:Int}{disk:Tp.Disk}{TM:Nat->Tp.Pst->World->Prop}
def SaveEnd(S:Nat->Prop)(B t u:Nat)(TM:Nat->Tp.Pst->World->Prop)(root er:Int)(r:Nat)(o:Except Int Int × Tp.Pst)(w:World)(e:Ending)(w':World):Prop:=
 ∃p x:Int,e= .returned (.tuple #[.int .i64 p, .int .i64 x])/\((o.1= .ok p/\x=0/\IdOk p)\/(o.1= .error 2/\x=2))/\On S B t u TM root er r o.2 w'/\Fr S w w'
theorem save_any(M:Mach S B t room disk TM)(u:Nat)(root er:Int)(r:Nat)(σ:Tp.Pst)(id:Int)(hid:IdOk id)(v:Value)(n:Nd.Node)(hfit:Nd.fits n=true)(w:World)(hns:NS w v n)(h:On S B t u TM root er r σ w):
  Calls Tryz.prog 209 #[.pointer (some ⟨u,0,none⟩), .int .i64 id,v] w (SaveEnd S B t u TM root er r (Tp.pSave room σ id n) w):=by
 have hnb:=fits_nb hfit
 obtain⟨Ae,ce,Ai,ci,Ay,cy,rfl,q1,q2,q3⟩:=hns
 unfold nodeV
 have hb1:=(Below.refl w.heap.size w).alloc (Nat.le_refl _) (.cells #[.bool n.leaf, .slice Ae n.ents.length ce, .slice Ai n.kids.length ci, .slice Ay n.keys.length cy] 32)
 have hE:=Lib.hid (fun W (hbW:Below w.heap.size w W)=>nencode_any (.agg #[.bool n.leaf, .slice Ae n.ents.length ce, .slice Ai n.kids.length ci, .slice Ay n.keys.length cy]) n hfit W ⟨Ae,ce,Ai,ci,Ay,cy,rfl,q1.up hbW,q2.up hbW,q3.up hbW⟩ hnb)
 have hBg:=Blk.new w 32 #[.bool n.leaf, .slice Ae n.ents.length ce, .slice Ai n.kids.length ci, .slice Ay n.keys.length cy]
 have lg:=hBg.lt
 have g0:=hBg.cell 0
 have g1:=hBg.cell 1
 have g2:=hBg.cell 2
 have g3:=hBg.cell 3
 have hsz:=M.size h.tm
 have HM:=Lib.hid M
 have hkd1:n.leaf=true->Nd.kind n=1:=fun h=>by unfold Nd.kind;rw[if_pos h]
 have hkd2:n.leaf=false->Nd.kind n=2:=fun h=>by unfold Nd.kind;rw[if_neg (by rw[h];simp)]
 have HPUT:=Lib.hid (fun σ id W (hT:TM r σ W) (h1:IdOk id) (h2:id∈σ.mine)=>M.put hT h1 h2 hfit (Nd.kind n) hkd1 hkd2)
 generalize Nd.str (Nd.enc n)=s at*
 generalize Nd.kind n=kd at*
 have H1:=Lib.hid (h.below M hb1)
 have HB1:=Lib.hid hb1
 have HFIT:=Lib.hid hfit
 obtain⟨o,ho⟩:∃o,o=Tp.pSave room σ id n:=⟨_,rfl⟩
 rw[<-ho]
 have HO:=Lib.hid ho
 have HFR:=Lib.hid (fun r σ W (hT:TM r σ W)=>M.fresh id hT hid)
 have HID:=Lib.hid hid
 clear hb1 hBg hkd1 hkd2 hnb hfit h M ho hid q1 q2 q3
 go_enter Tryz.func209,Tryz.ntmps209
 go_wp2_with fail
 refine(hE.out _ HB1.out).mono ?_
 rintro e w1 ⟨rfl,hb2⟩
 have h2:=H1.out.below HM.out hb2
 have c0:w1.cell? ⟨u,0,none⟩=some (.pointer (some ⟨t,0,none⟩)):=h2.self.cell 0
 have lu:=h2.self.lt
 have hfw:Fr S w w1:=(Fr.of_below HB1.out).trans (.of_below hb2)
 have H2:=Lib.hid h2
 have HF:=Lib.hid hfw
 clear h2 hfw hb2 g0 g1 g2 g3 lg
 go_wp2_with fail
 refine(HFR.out _ _ _ H2.out.tm).mono ?_
 rintro e w2 ⟨rfl,ht2,hf2⟩
 have h3:=H2.out.step HM.out ht2 hf2
 have c0:w2.cell? ⟨u,0,none⟩=some (.pointer (some ⟨t,0,none⟩)):=h3.self.cell 0
 have lu:=h3.self.lt
 have hfw:Fr S w w2:=HF.out.trans hf2
 have H3:=Lib.hid h3
 have HF3:=Lib.hid hfw
 clear h3 hfw ht2 hf2
 by_cases hm:id∈σ.mine
 ·have hdm:decide (id∈σ.mine)=true:=decide_eq_true hm
  rw[hdm]
  have HP:=Lib.hid (HPUT.out σ id w2 H3.out.tm HID.out hm)
  have hoo:o=(.ok id,σ.put id n):=by rw[HO.out];unfold Tp.pSave;rw[if_neg (by rw[HFIT.out];simp),if_pos hm]
  have HOO:=Lib.hid hoo
  clear hm hdm hoo
  go_wp2_with fail
  refine HP.out.mono ?_
  rintro e w3 ⟨rfl,ht3,hf3⟩
  have HEND:=Lib.hid (show On S B t u TM root er r o.2 w3/\Fr S w w3 from⟨by rw[HOO.out];exact H3.out.step HM.out ht3 hf3,HF3.out.trans hf3⟩)
  clear ht3 hf3
  go_wp2
  go_ret2
  exact⟨id,0,rfl, .inl ⟨by rw[HOO.out],rfl,HID.out⟩,HEND.out⟩
 ·have hdm:decide (id∈σ.mine)=false:=decide_eq_false hm
  rw[hdm]
  cases ha:Tp.pAlloc room σ with
  |none=>
   have hA:=Lib.hid (HM.out.full H3.out.tm ha)
   have hoo:o=(.error 2,σ):=by rw[HO.out];unfold Tp.pSave;rw[if_neg (by rw[HFIT.out];simp),if_neg hm,ha]
   have HOO:=Lib.hid hoo
   clear hm hdm ha hoo
   go_wp2_with fail
   refine hA.out.mono ?_
   rintro e w3 ⟨rfl,ht3,hf3⟩
   have HEND:=Lib.hid (show On S B t u TM root er r o.2 w3/\Fr S w w3 from⟨by rw[HOO.out];exact H3.out.step HM.out ht3 hf3,HF3.out.trans hf3⟩)
   clear ht3 hf3
   go_wp2
   go_ret2
   exact⟨0,2,rfl, .inr ⟨by rw[HOO.out],rfl⟩,HEND.out⟩
  |some p=>
   obtain⟨id',σ'⟩:=p
   have hA:=Lib.hid (HM.out.alloc H3.out.tm ha)
   have hoo:o=(.ok id',σ'.put id' n):=by rw[HO.out];unfold Tp.pSave;rw[if_neg (by rw[HFIT.out];simp),if_neg hm,ha]
   have HOO:=Lib.hid hoo
   clear hm hdm ha hoo
   go_wp2_with fail
   refine hA.out.mono ?_
   rintro e w3 ⟨rfl,hid',hmem,ht3,hf3⟩
   have h4:=H3.out.step HM.out ht3 hf3
   have c0:w3.cell? ⟨u,0,none⟩=some (.pointer (some ⟨t,0,none⟩)):=h4.self.cell 0
   have lu:=h4.self.lt
   have HP:=Lib.hid (HPUT.out σ' id' w3 ht3 hid' hmem)
   have H4:=Lib.hid h4
   have HF4:=Lib.hid (HF3.out.trans hf3)
   have HID':=Lib.hid hid'
   clear h4 ht3 hf3 hmem hid'
   go_wp2_with fail
   refine HP.out.mono ?_
   rintro e w4 ⟨rfl,ht4,hf4⟩
   have HEND:=Lib.hid (show On S B t u TM root er r o.2 w4/\Fr S w w4 from⟨by rw[HOO.out];exact H4.out.step HM.out ht4 hf4,HF4.out.trans hf4⟩)
   clear ht4 hf4
   go_wp2
   go_ret2
   exact⟨id',0,rfl, .inl ⟨by rw[HOO.out],rfl,HID'.out⟩,HEND.out⟩
end
end Go.Proofs.YtjoiajmbfbjnnaaGreatDoor
namespace Tp
open Nd En
def cnt(n:Node):Nat:=n.ents.length+n.kids.length
structure PB(p:Part)(L:Nat):Prop where
 len:p.1.length<=L
 keys:p.2.length=p.1.length-1
 ks:∀k∈p.2,k.size<=16
theorem PB.nil(L:Nat):PB ([], []) L:=⟨Nat.zero_le _,rfl,fun _ h=>by cases h⟩
theorem PB.one(i:Int){L:Nat}(h:1<=L):PB ([i], []) L:=⟨h,rfl,fun _ h=>by cases h⟩
theorem PB.mono{p:Part}{L L':Nat}(h:PB p L)(hl:L<=L'):PB p L':=⟨Nat.le_trans h.len hl,h.keys,h.ks⟩
theorem PB.join{p q:Part}{L L':Nat}(h:PB p L)(h':PB q L')(k:Str)(hk:k.size<=16)(hp:0<p.1.length)(hq:0<q.1.length):PB (p.1++q.1,p.2++ [k]++q.2) (L+L'):=by
 refine⟨by rw[List.length_append];have:=h.len;have:=h'.len;omega, ?_,fun x hx=> ?_⟩
 ·have:=h.keys
  have:=h'.keys
  simp only[List.length_append,List.length_cons,List.length_nil]
  omega
 ·rcases List.mem_append.1 hx with hx | hx
  ·rcases List.mem_append.1 hx with hx | hx
   ·exact h.ks x hx
   ·rw[List.mem_singleton]at hx;subst hx;exact hk
  ·exact h'.ks x hx
theorem ksize_16{l:List Str}(h:∀k∈l,k.size<=16):ksize l<=21*l.length:=by
 induction l with
 |nil=>simp[ksize]
 |cons x l ih=>
  rw[ksize_cons,List.length_cons]
  have:=ih fun y hy=>h y (List.mem_cons_of_mem _ hy)
  have:=h x List.mem_cons_self
  unfold ksz;omega
theorem right_split{n:Node}{q:Node × Str × Node}(h:Nd.split n=some q):Nd.right n=true/\¬ (n.ents.length<2/\n.kids.length<2):=by
 unfold Nd.split at h
 by_cases hc:Nd.right n=false\/(n.ents.length<2/\n.kids.length<2)
 ·rw[if_pos hc]at h;cases h
 ·exact⟨by cases hr:Nd.right n with
   |true=>rfl
   |false=>exact absurd (.inl hr) hc,fun h2=>hc (.inr h2)⟩
theorem split_parts{n a b:Node}{k:Str}(h:Nd.split n=some (a,k,b)):cnt a+cnt b=cnt n/\0<cnt a/\0<cnt b/\0<k.size/\k.size<=16/\a.ents.Sublist n.ents/\b.ents.Sublist n.ents/\a.keys.Sublist n.keys/\b.keys.Sublist n.keys:=by
 obtain⟨hr,h2⟩:=right_split h
 unfold Nd.split at h
 rw[if_neg (by rw[hr];rintro(h | h); · cases h
               ·exact h2 h)]at h
 obtain⟨leaf,ents,kids,keys⟩:=n
 cases leaf with
 |true=>
  obtain⟨r1,rfl,rfl⟩:=right_leaf.1 hr
  simp only[if_true]at h
  have hm:=((En.right_iff ents).1 r1).1
  simp only[List.length_nil]at h2
  have hl:=esize_len ents
  obtain⟨j,g1,g2,g3,_,_⟩:=half_spec (esize ents) ents.length (by omega) ents 0 0 (by omega) (fun e=>by subst e;simp at h2) (.inr (by omega)) (fun h=>absurd h (by omega)) (fun _=>rfl) (fun x hx=>esz_may (hm x hx))
  have hh:half ents=0+j:=g2
  rw[hh]at h
  have hj:0+j<ents.length:=by omega
  rw[List.getElem?_eq_getElem hj]at h
  simp only[Option.some.injEq,Prod.mk.injEq]at h
  obtain⟨rfl,rfl,rfl⟩:=h
  have hmk:=may_size (hm _ (List.getElem_mem hj))
  have hmm:=hm _ (List.getElem_mem hj)
  unfold may at hmm
  simp only[Bool.and_eq_true,decide_eq_true_eq]at hmm
  refine⟨?_, ?_, ?_,hmk.1,hmm.1.2,List.take_sublist _ _,List.drop_sublist _ _,List.Sublist.refl _,List.Sublist.refl _⟩
  ·unfold cnt mkLeaf;simp only[List.length_take,List.length_drop,List.length_nil];omega
  ·unfold cnt mkLeaf;simp only[List.length_take,List.length_nil];omega
  ·unfold cnt mkLeaf;simp only[List.length_drop,List.length_nil];omega
 |false=>
  obtain⟨rfl,r2,r3,r4⟩:=right_inner.1 hr
  simp only[Bool.false_eq_true,if_false]at h
  simp only[List.length_nil]at h2
  have hj:kids.length / 2-1<keys.length:=by omega
  rw[List.getElem?_eq_getElem hj]at h
  simp only[Option.some.injEq,Prod.mk.injEq]at h
  obtain⟨rfl,rfl,rfl⟩:=h
  have hmm:=((keys_iff keys).1 r4).1 _ (List.getElem_mem hj)
  have hmk:=may_size (x:=(keys[kids.length / 2-1],⟨#[]⟩)) hmm
  unfold may at hmm
  simp only[Bool.and_eq_true,decide_eq_true_eq]at hmm
  refine⟨?_, ?_, ?_,hmk.1,hmm.1.2,List.Sublist.refl _,List.Sublist.refl _,List.take_sublist _ _,List.drop_sublist _ _⟩
  ·unfold cnt mkInner;simp only[List.length_take,List.length_drop,List.length_nil];omega
  ·unfold cnt mkInner;simp only[List.length_take,List.length_nil];omega
  ·unfold cnt mkInner;simp only[List.length_drop,List.length_nil];omega
theorem esize_sub{a l:List Ent}(h:a.Sublist l):esize a<=esize l:=by
 induction h with
 |slnil=>exact Nat.le_refl _
 |cons x _ ih=>rw[esize_cons];omega
 |cons_cons x _ ih=>rw[esize_cons,esize_cons];omega
theorem ksize_sub{a l:List Str}(h:a.Sublist l):ksize a<=ksize l:=by
 induction h with
 |slnil=>exact Nat.le_refl _
 |cons x _ ih=>rw[ksize_cons];omega
 |cons_cons x _ ih=>rw[ksize_cons,ksize_cons];omega
theorem pStore_pos{room:Int} :∀ (f:Nat) (σ:Pst) (id:Int) (n:Node) (p:Part),0<cnt n->(pStore room f σ id n).1= .ok p->0<p.1.length
 |0,_,_,_,_,_,h=>by simp[pStore]at h
 |f+1,σ,id,n,p,hn,h=>by
  unfold pStore at h
  rw[if_neg (by unfold cnt at hn;omega)]at h
  cases hc:cut n with
  |none=>
   rw[hc]at h
   simp only at h
   cases hs:pSave room σ id n with
   |mk q σ1=>
    rw[hs]at h
    cases q with
    |error e=>simp at h
    |ok pg=>simp only[Except.ok.injEq]at h;subst h;simp
  |some q=>
   obtain⟨a,k,b⟩:=q
   rw[hc]at h
   simp only at h
   have hcs:Nd.split n=some (a,k,b):=by
    unfold cut at hc
    split at hc
    ·exact hc
    ·cases hc
   obtain⟨_,ha,_⟩:=split_parts hcs
   cases hs:pStore room f σ id a with
   |mk q σ1=>
    rw[hs]at h
    cases q with
    |error e=>simp at h
    |ok one=>
     simp only at h
     have hp:=pStore_pos f σ id a one ha (by rw[hs])
     cases hs2:pStore room f σ1 0 b with
     |mk q2 σ2=>
      rw[hs2]at h
      cases q2 with
      |error e=>simp at h
      |ok two=>simp only[Except.ok.injEq]at h;subst h;rw[List.length_append];omega
def stJoin(one:Part)(key:Str)(q:Except Int Part × Pst):Except Int Part × Pst:=match q with
 |(.error e,σ2)=>(.error e,σ2)
 |(.ok two,σ2)=>(.ok (one.1++two.1,one.2++ [key]++two.2),σ2)
def stRest(room:Int)(f:Nat)(b:Node)(key:Str)(q:Except Int Part × Pst):Except Int Part × Pst:=match q with
 |(.error e,σ1)=>(.error e,σ1)
 |(.ok one,σ1)=>stJoin one key (pStore room f σ1 0 b)
theorem stJoin_err{one:Part}{key:Str}{q:Except Int Part × Pst}{e:Int}(h:q.1= .error e):stJoin one key q=(.error e,q.2):=by
 obtain⟨x,σ⟩:=q;simp only at h;subst h;rfl
theorem stJoin_ok{one two:Part}{key:Str}{q:Except Int Part × Pst}(h:q.1= .ok two):stJoin one key q=(.ok (one.1++two.1,one.2++ [key]++two.2),q.2):=by
 obtain⟨x,σ⟩:=q;simp only at h;subst h;rfl
theorem stRest_err{room:Int}{f:Nat}{b:Node}{key:Str}{q:Except Int Part × Pst}{e:Int}(h:q.1= .error e):stRest room f b key q=(.error e,q.2):=by
 obtain⟨x,σ⟩:=q;simp only at h;subst h;rfl
theorem stRest_ok{room:Int}{f:Nat}{b:Node}{key:Str}{q:Except Int Part × Pst}{one:Part}(h:q.1= .ok one):stRest room f b key q=stJoin one key (pStore room f q.2 0 b):=by
 obtain⟨x,σ⟩:=q;simp only at h;subst h;rfl
theorem pStore_cut{room:Int}{f:Nat}{σ:Pst}{id:Int}{n a b:Node}{key:Str}(h0:¬n.ents.length+n.kids.length=0)(hc:cut n=some (a,key,b)):pStore room (f+1) σ id n=stRest room f b key (pStore room f σ id a):=by
 rw[pStore,if_neg h0,hc]
 simp only
 cases pStore room f σ id a with
 |mk q σ1=>
  cases q with
  |error e=>rfl
  |ok one=>
   simp only
   show _=stJoin one key (pStore room f σ1 0 b)
   cases pStore room f σ1 0 b with
   |mk q2 σ2=>cases q2<;>rfl
def stSave(q:Except Int Int × Pst):Except Int Part × Pst:=match q with
 |(.error e,σ1)=>(.error e,σ1)
 |(.ok p,σ1)=>(.ok ([p], []),σ1)
theorem stSave_err{q:Except Int Int × Pst}{e:Int}(h:q.1= .error e):stSave q=(.error e,q.2):=by
 obtain⟨x,σ⟩:=q;simp only at h;subst h;rfl
theorem stSave_ok{q:Except Int Int × Pst}{i:Int}(h:q.1= .ok i):stSave q=(.ok ([i], []),q.2):=by
 obtain⟨x,σ⟩:=q;simp only at h;subst h;rfl
theorem pStore_whole{room:Int}{f:Nat}{σ:Pst}{id:Int}{n:Node}(h0:¬n.ents.length+n.kids.length=0)(hc:cut n=none):pStore room (f+1) σ id n=stSave (pSave room σ id n):=by
 rw[pStore,if_neg h0,hc]
 simp only
 cases pSave room σ id n with
 |mk q σ1=>cases q<;>rfl
theorem cut_some{n:Node}{q:Node × Str × Node}(h:cut n=some q):240<size n/\Nd.split n=some q:=by
 unfold cut at h
 split at h
 ·exact⟨by assumption,h⟩
 ·cases h
theorem store_right{room:Int}{f:Nat}{σ:Pst}{id:Int}{n:Node}(h0:¬n.ents.length+n.kids.length=0)(h3:(pStore room (f+1) σ id n).1≠ .error 3):Nd.right n=true:=by
 cases hc:cut n with
 |some q=>exact(right_split (cut_some hc).2).1
 |none=>
  rw[pStore_whole h0 hc]at h3
  cases hf:Nd.fits n with
  |true=>exact(fits_iff.1 hf).1
  |false=>
   unfold pSave at h3
   rw[if_pos hf]at h3
   exact absurd rfl h3
theorem key_ne{k:Str}(h:0<k.size):(k.toList==(⟨#[]⟩:ByteArray).toList)=false/\k.toList.isEmpty=false/\k.toList≠ []:=by
 have hs:k.toList≠ []:=fun he=>by
  have e:k.toList=k.data.toList:=Go.Lib.toList_data k
  rw[e]at he
  have:k.size=0:=by rw[<-ByteArray.size_data, <-Array.length_toList,he];rfl
  omega
 have e0:(⟨#[]⟩:ByteArray).toList= []:=by rw[Go.Lib.toList_data]
 exact⟨by rw[e0,beq_eq_false_iff_ne];exact hs,by cases hk:k.toList with
  |nil=>exact absurd hk hs
  |cons a b=>rfl,hs⟩
end Tp
