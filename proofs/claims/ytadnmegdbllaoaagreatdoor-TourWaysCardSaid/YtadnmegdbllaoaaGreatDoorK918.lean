/- Part of this proof. -/
import Derived.Test.YtadnmegdbllaoaaGreatDoorK917
set_option maxRecDepth 100000
set_option maxHeartbeats 8000000
open Go.Calls renaming mono->aac
open Go.IntWalk renaming i64_in->acK
open Go.RowKit.Below renaming refl->aai
open Go.Value renaming bool->agD,int->acS
open Go.World renaming size_alloc->aad
open List renaming mem_append_left->acM,mem_append_right->acL
open Nat renaming le_of_eq->akX,le_trans->acN
namespace Go.Proofs.YtadnmegdbllaoaaGreatDoor
open Go.RowKit Go.Shelf Tryz
theorem aq8(g n:Nat)(y:List UInt8)(hn:n<256)(W:World)(h:aO W g 236 (bC ⟨Cp.be 1 n++y,0⟩)):
  Calls prog 128 #[.pointer (some ⟨g,0,none⟩), .int .i64 1] W λe w'=>e= .returned (.int .i64 n)/\aO w' g 236 (bC ⟨y,0⟩)/\W.grownBy w' (some g):=by
 have hi:=DJ g _ 1 W h (.inl rfl);rw[YP (Cp.fD 1 n),Cp.wu ak]at hi;exact hi
theorem abS(g:Nat)(z:Int)(hz:Sq.wM z)(y:List UInt8)(W:World)(h:aO W g 236 (bC ⟨Cp.be 4 z.toNat++y,0⟩)):
  Calls prog 128 #[.pointer (some ⟨g,0,none⟩), .int .i64 4] W λe w'=>e= .returned (.int .i64 z)/\aO w' g 236 (bC ⟨y,0⟩)/\W.grownBy w' (some g):=by
 have hi:=aky g z.toNat y (by have:=hz.2;omega) W h
 rwa [Int.toNat_of_nonneg hz.1]at hi
def DcI(n:Sq.TN)(R0 R1 R2 R3:Array Value)(w:World)(g l t:Nat)(i:Nat)(wr:World):Prop:=
 Below w.heap.size w wr/\aO wr t 124 sF/\((i=0/\aO wr g 236 R0/\aO wr l 204 #[.int .i64 0, .int .i64 0, .int .i64 0, .int .i64 0, .int .i64 0, .int .i64 0])\/
  (i=1/\aO wr g 236 R1/\aO wr l 204 #[.int .i64 n.up.1, .int .i64 n.up.2, .int .i64 0, .int .i64 0, .int .i64 0, .int .i64 0])\/
  (i=2/\aO wr g 236 R2/\aO wr l 204 #[.int .i64 n.up.1, .int .i64 n.up.2, .int .i64 n.left.1, .int .i64 n.left.2, .int .i64 0, .int .i64 0])\/
  (i=3/\aO wr g 236 R3/\aO wr l 204 #[.int .i64 n.up.1, .int .i64 n.up.2, .int .i64 n.left.1, .int .i64 n.left.2, .int .i64 n.right.1, .int .i64 n.right.2]))
theorem abT(n:Sq.TN)(h:n.Ok)(w:World):Calls prog 94 #[.string (Sq.rW n)] w λe w'=>e= .returned (.tuple #[pY n, .int .i64 0])/\Below w.heap.size w w':=by
 obtain⟨y5,e5⟩:=aJ (Cp.be 1 n.height++ []);obtain⟨y4,e4⟩:=aJ (Cp.be 4 n.count++y5);obtain⟨y3b,e3b⟩:=aJ (Cp.be 4 n.right.2.toNat++y4);obtain⟨y3,e3⟩:=aJ (Cp.be 4 n.right.1.toNat++y3b);obtain⟨y2b,e2b⟩:=aJ (Cp.be 4 n.left.2.toNat++y3);obtain⟨y2,e2⟩:=aJ (Cp.be 4 n.left.1.toNat++y2b);obtain⟨y1b,e1b⟩:=aJ (Cp.be 4 n.up.2.toNat++y2);obtain⟨y1,e1⟩:=aJ (Cp.be 4 n.up.1.toNat++y1b)
 have hs:Sq.rW n=⟨y1.toArray⟩:=by
  rw[e1,e1b,e2,e2b,e3,e3b,e4,e5];unfold Sq.rW Sq.qZ;simp
 have HRD:=ah (λW=>aq7 y1 W);have H1:=ah (λg W hB=>abS g n.up.1 h.up.fits.1 y1b W (e1 ▸ hB));have H1b:=ah (λg W hB=>abS g n.up.2 h.up.fits.2 y2 W (e1b ▸ hB));have H2:=ah (λg W hB=>abS g n.left.1 h.left.fits.1 y2b W (e2 ▸ hB));have H2b:=ah (λg W hB=>abS g n.left.2 h.left.fits.2 y3 W (e2b ▸ hB));have H3:=ah (λg W hB=>abS g n.right.1 h.right.fits.1 y3b W (e3 ▸ hB));have H3b:=ah (λg W hB=>abS g n.right.2 h.right.fits.2 y4 W (e3b ▸ hB));have H4:=ah (λg W hB=>aky g n.count y5 h.count W (e4 ▸ hB));have H5:=ah (λg W hB=>aq8 g n.height [] h.height W (e5 ▸ hB));have HE:=ah (λg W hB=>aq6 g W hB);rw[<-hs]at HRD;clear e1 e1b e2 e2b e3 e3b e4 e5 hs;generalize Sq.rW n=S at*;have Z5:=aO.new w 124 sF;have b0:Below w.heap.size w (w.alloc (.cells sF 124)):=(aai _ w).alloc aK _;have iR:w.heap.size+1=(w.alloc (.cells sF 124)).heap.size:=(aad _ _).symm;have HBT:=ah Z5;have BZ:=ah b0;clear Z5 b0 h;go_enter func94,ntmps94
 go_wp2_with fail
 refine(HRD.out _).mono ?_;rintro e w1 ⟨g,rfl,hg,bD,lg⟩;have amL:=HBT.out.below bD HBT.out.lt;have iq:=BZ.out.trans (bD.mono BZ.out.size);have hlg:=hg.lt;have aCa:=amL.lt
 have hng:w.heap.size<g:=by
  have lg2:w.heap.size+1<=g:=by rw[<-aad w];exact lg
  omega
 have HI0:Hid (DcI n (bC ⟨y1,0⟩) (bC ⟨y2,0⟩) (bC ⟨y3,0⟩) (bC ⟨y4,0⟩) w g w1.heap.size w.heap.size 0 (w1.alloc (.cells #[.int .i64 0, .int .i64 0, .int .i64 0, .int .i64 0, .int .i64 0, .int .i64 0] 204))):=
  ah ⟨iq.alloc iq.size _,amL.alloc _, .inl ⟨rfl,hg.alloc _,aO.new _ _ _⟩⟩
 clear hg bD amL iq HRD HBT BZ;go_wp2
 go_loopg [11] 3 (λgg s11 wr=>∃i:Nat,s11= .int .i64 i/\i<=3/\3-i<=gg/\Hid (DcI n (bC ⟨y1,0⟩) (bC ⟨y2,0⟩) (bC ⟨y3,0⟩) (bC ⟨y4,0⟩) w g w1.heap.size w.heap.size i wr))
 case atStart=>exact⟨0,rfl,by omega,by omega,HI0⟩
 case round=>
  obtain⟨i,rfl,hi3,hig,HI⟩:=hrel;obtain⟨hB,hT,hc⟩:=HI.out;rcases hc with⟨rfl,hg,hl⟩ | ⟨rfl,hg,hl⟩ | ⟨rfl,hg,hl⟩ | ⟨rfl,hg,hl⟩
  ·clear HI;have qh:=hl.lt;go_wp2_with fail
   refine(H1.out g _ hg).mono ?_;rintro e w2 ⟨rfl,hg2,uG⟩;have MF:=hl.grown uG (λe=>by injection e with e;omega);have Ba:=hT.grown uG (λe=>by injection e with e;omega);have jV:=hB.grown uG hB.size (λk e=>by injection e with e;omega);clear hg hl hT hB uG;go_wp2_with fail
   refine(H1b.out g _ hg2).mono ?_;rintro e w3 ⟨rfl,Yu,Il⟩;have Gs:=MF.grown Il (λe=>by injection e with e;omega);have vZ:=ah (Ba.grown Il (λe=>by injection e with e;omega));have vY:=ah (jV.grown Il jV.size (λk e=>by injection e with e;omega));have Oi:=ah Yu;have HL3:=ah Gs;have k0:=Gs.cell 0;have k1:=Gs.cell 1;have f0:=Gs.frozen 0;have f1:=Gs.frozen 1;clear hg2 MF Ba jV Il Yu Gs;go_wp2;have L4:=(HL3.out.dO 0 (.int .i64 n.up.1)).dO 1 (.int .i64 n.up.2);have G4:=(Oi.out.far (p:=⟨w1.heap.size,0,none⟩) (show g≠w1.heap.size by omega) (.int .i64 n.up.1)).far (p:=⟨w1.heap.size,1,none⟩) (show g≠w1.heap.size by omega) (.int .i64 n.up.2);have T4:=(vZ.out.far (p:=⟨w1.heap.size,0,none⟩) (show w.heap.size≠w1.heap.size by omega) (.int .i64 n.up.1)).far (p:=⟨w1.heap.size,1,none⟩) (show w.heap.size≠w1.heap.size by omega) (.int .i64 n.up.2);have B4:=(vY.out.setCell (p:=⟨w1.heap.size,0,none⟩) (show w.heap.size<=w1.heap.size by omega) (.int .i64 n.up.1)).setCell (p:=⟨w1.heap.size,1,none⟩) (show w.heap.size<=w1.heap.size by omega) (.int .i64 n.up.2);have HI4:Hid (DcI n (bC ⟨y1,0⟩) (bC ⟨y2,0⟩) (bC ⟨y3,0⟩) (bC ⟨y4,0⟩) w g w1.heap.size w.heap.size 1 _):=ah ⟨B4,T4, .inr (.inl ⟨rfl,G4,L4⟩)⟩;clear L4 G4 T4 B4
   go_roundg (3-1)
   case measure=>omega
   case rel=>exact⟨1,rfl,by omega,by omega,HI4⟩
  ·clear HI;have qh:=hl.lt;go_wp2_with fail
   refine(H2.out g _ hg).mono ?_;rintro e w2 ⟨rfl,hg2,uG⟩;have MF:=hl.grown uG (λe=>by injection e with e;omega);have Ba:=hT.grown uG (λe=>by injection e with e;omega);have jV:=hB.grown uG hB.size (λk e=>by injection e with e;omega);clear hg hl hT hB uG;go_wp2_with fail
   refine(H2b.out g _ hg2).mono ?_;rintro e w3 ⟨rfl,Yu,Il⟩;have Gs:=MF.grown Il (λe=>by injection e with e;omega);have vZ:=ah (Ba.grown Il (λe=>by injection e with e;omega));have vY:=ah (jV.grown Il jV.size (λk e=>by injection e with e;omega));have Oi:=ah Yu;have HL3:=ah Gs;have k0:=Gs.cell 2;have k1:=Gs.cell 3;have f0:=Gs.frozen 2;have f1:=Gs.frozen 3;clear hg2 MF Ba jV Il Yu Gs;go_wp2;have L4:=(HL3.out.dO 2 (.int .i64 n.left.1)).dO 3 (.int .i64 n.left.2);have G4:=(Oi.out.far (p:=⟨w1.heap.size,2,none⟩) (show g≠w1.heap.size by omega) (.int .i64 n.left.1)).far (p:=⟨w1.heap.size,3,none⟩) (show g≠w1.heap.size by omega) (.int .i64 n.left.2);have T4:=(vZ.out.far (p:=⟨w1.heap.size,2,none⟩) (show w.heap.size≠w1.heap.size by omega) (.int .i64 n.left.1)).far (p:=⟨w1.heap.size,3,none⟩) (show w.heap.size≠w1.heap.size by omega) (.int .i64 n.left.2);have B4:=(vY.out.setCell (p:=⟨w1.heap.size,2,none⟩) (show w.heap.size<=w1.heap.size by omega) (.int .i64 n.left.1)).setCell (p:=⟨w1.heap.size,3,none⟩) (show w.heap.size<=w1.heap.size by omega) (.int .i64 n.left.2);have HI4:Hid (DcI n (bC ⟨y1,0⟩) (bC ⟨y2,0⟩) (bC ⟨y3,0⟩) (bC ⟨y4,0⟩) w g w1.heap.size w.heap.size 2 _):=ah ⟨B4,T4, .inr (.inr (.inl ⟨rfl,G4,L4⟩))⟩;clear L4 G4 T4 B4
   go_roundg (3-2)
   case measure=>omega
   case rel=>exact⟨2,rfl,by omega,by omega,HI4⟩
  ·clear HI;have qh:=hl.lt;go_wp2_with fail
   refine(H3.out g _ hg).mono ?_;rintro e w2 ⟨rfl,hg2,uG⟩;have MF:=hl.grown uG (λe=>by injection e with e;omega);have Ba:=hT.grown uG (λe=>by injection e with e;omega);have jV:=hB.grown uG hB.size (λk e=>by injection e with e;omega);clear hg hl hT hB uG;go_wp2_with fail
   refine(H3b.out g _ hg2).mono ?_;rintro e w3 ⟨rfl,Yu,Il⟩;have Gs:=MF.grown Il (λe=>by injection e with e;omega);have vZ:=ah (Ba.grown Il (λe=>by injection e with e;omega));have vY:=ah (jV.grown Il jV.size (λk e=>by injection e with e;omega));have Oi:=ah Yu;have HL3:=ah Gs;have k0:=Gs.cell 4;have k1:=Gs.cell 5;have f0:=Gs.frozen 4;have f1:=Gs.frozen 5;clear hg2 MF Ba jV Il Yu Gs;go_wp2;have L4:=(HL3.out.dO 4 (.int .i64 n.right.1)).dO 5 (.int .i64 n.right.2);have G4:=(Oi.out.far (p:=⟨w1.heap.size,4,none⟩) (show g≠w1.heap.size by omega) (.int .i64 n.right.1)).far (p:=⟨w1.heap.size,5,none⟩) (show g≠w1.heap.size by omega) (.int .i64 n.right.2);have T4:=(vZ.out.far (p:=⟨w1.heap.size,4,none⟩) (show w.heap.size≠w1.heap.size by omega) (.int .i64 n.right.1)).far (p:=⟨w1.heap.size,5,none⟩) (show w.heap.size≠w1.heap.size by omega) (.int .i64 n.right.2);have B4:=(vY.out.setCell (p:=⟨w1.heap.size,4,none⟩) (show w.heap.size<=w1.heap.size by omega) (.int .i64 n.right.1)).setCell (p:=⟨w1.heap.size,5,none⟩) (show w.heap.size<=w1.heap.size by omega) (.int .i64 n.right.2);have HI4:Hid (DcI n (bC ⟨y1,0⟩) (bC ⟨y2,0⟩) (bC ⟨y3,0⟩) (bC ⟨y4,0⟩) w g w1.heap.size w.heap.size 3 _):=ah ⟨B4,T4, .inr (.inr (.inr ⟨rfl,G4,L4⟩))⟩;clear L4 G4 T4 B4
   go_roundg (3-3)
   case measure=>omega
   case rel=>exact⟨3,rfl,by omega,by omega,HI4⟩
  ·clear HI;have c0:=hl.cell 0;have c1:=hl.cell 1;have c2:=hl.cell 2;have c3:=hl.cell 3;have c4:=hl.cell 4;have c5:=hl.cell 5;have vZ:=ah hT;have vY:=ah hB;have Oi:=ah hg;have lgr:=hg.lt;have ltr:=hT.lt;have llr:=hl.lt;clear hT hB hg hl;have HN:=ah (aO.new wr 124 #[.int .i64 n.up.1, .int .i64 n.up.2, .int .i64 n.left.1, .int .i64 n.left.2, .int .i64 n.right.1, .int .i64 n.right.2, .int .i64 0, .int .i64 0]);have yU:wr.heap.size<(wr.alloc (.cells #[.int .i64 n.up.1, .int .i64 n.up.2, .int .i64 n.left.1, .int .i64 n.left.2, .int .i64 n.right.1, .int .i64 n.right.2, .int .i64 0, .int .i64 0] 124)).heap.size:=by rw[aad];omega
   have HG4:=ah (Oi.out.alloc (.cells #[.int .i64 n.up.1, .int .i64 n.up.2, .int .i64 n.left.1, .int .i64 n.left.2, .int .i64 n.right.1, .int .i64 n.right.2, .int .i64 0, .int .i64 0] 124));have rG:=ah (vZ.out.alloc (.cells #[.int .i64 n.up.1, .int .i64 n.up.2, .int .i64 n.left.1, .int .i64 n.left.2, .int .i64 n.right.1, .int .i64 n.right.2, .int .i64 0, .int .i64 0] 124));have oD:=ah (vY.out.alloc vY.out.size (.cells #[.int .i64 n.up.1, .int .i64 n.up.2, .int .i64 n.left.1, .int .i64 n.left.2, .int .i64 n.right.1, .int .i64 n.right.2, .int .i64 0, .int .i64 0] 124));go_wp2_with fail
   refine(H4.out g _ HG4).mono ?_;rintro e w4 ⟨rfl,hg5,qm⟩;have hn5:=HN.out.grown qm (λe=>by injection e with e;omega);have hT5:=rG.out.grown qm (λe=>by injection e with e;omega);have EG:=oD.out.grown qm oD.out.size (λk e=>by injection e with e;omega);clear qm c0 c1 c2 c3 c4 c5 yU HN rG oD HG4;go_wp2_with fail
   refine(H5.out g _ hg5).mono ?_;rintro e w5 ⟨rfl,hg6,hr5⟩;have Oj:=ah (hn5.grown hr5 (λe=>by injection e with e;omega));have mQ:=ah (hT5.grown hr5 (λe=>by injection e with e;omega));have HB6:=ah (EG.grown hr5 EG.size (λk e=>by injection e with e;omega));have k6:=Oj.out.cell 6;have k7:=Oj.out.cell 7;have f6:=Oj.out.frozen 6;have f7:=Oj.out.frozen 7;have ZW:Hid (aO ((w5.setCell ⟨wr.heap.size,6,none⟩ (.int .i64 n.count)).setCell ⟨wr.heap.size,7,none⟩ (.int .i64 n.height)) wr.heap.size 124 (fO n)):=ah ((Oj.out.dO 6 (.int .i64 n.count)).dO 7 (.int .i64 n.height));have HG7:=ah ((hg6.far (p:=⟨wr.heap.size,6,none⟩) (show g≠wr.heap.size by omega) (.int .i64 n.count)).far (p:=⟨wr.heap.size,7,none⟩) (show g≠wr.heap.size by omega) (.int .i64 n.height));have nJ:=ah ((mQ.out.far (p:=⟨wr.heap.size,6,none⟩) (show w.heap.size≠wr.heap.size by omega) (.int .i64 n.count)).far (p:=⟨wr.heap.size,7,none⟩) (show w.heap.size≠wr.heap.size by omega) (.int .i64 n.height));have Si:=ah ((HB6.out.setCell (p:=⟨wr.heap.size,6,none⟩) (show w.heap.size<=wr.heap.size by omega) (.int .i64 n.count)).setCell (p:=⟨wr.heap.size,7,none⟩) (show w.heap.size<=wr.heap.size by omega) (.int .i64 n.height));clear hn5 hT5 EG hg5 hg6 hr5 Oj mQ HB6;go_wp2_with fail
   refine(HE.out g _ HG7).mono ?_;rintro e w6 ⟨rfl,BR⟩;have HN8:=ah (ZW.out.below BR ZW.out.lt);have yZ:=ah (nJ.out.below BR nJ.out.lt);have HB8:=ah (Si.out.trans (BR.mono Si.out.size));have n0:=HN8.out.cell 0;have n1:=HN8.out.cell 1;have n2:=HN8.out.cell 2;have n3:=HN8.out.cell 3;have n4:=HN8.out.cell 4;have n5:=HN8.out.cell 5;have n6:=HN8.out.cell 6;have n7:=HN8.out.cell 7;have t0:=yZ.out.cell 0;have t1:=yZ.out.cell 1;have t2:=yZ.out.cell 2;have t3:=yZ.out.cell 3;have t4:=yZ.out.cell 4;have t5:=yZ.out.cell 5;have t6:=yZ.out.cell 6;have t7:=yZ.out.cell 7;have f0:=yZ.out.frozen 0;have f1:=yZ.out.frozen 1;have f2:=yZ.out.frozen 2;have f3:=yZ.out.frozen 3;have f4:=yZ.out.frozen 4;have f5:=yZ.out.frozen 5;have g6:=yZ.out.frozen 6;have g7:=yZ.out.frozen 7;clear BR ZW HG7 nJ Si k6 k7 f6 f7;go_wp2;refine bodyPost_ret (bJ mG rfl rfl (oW yZ) rfl) rfl ?_;exact⟨rfl,XW HB8 aK⟩
end Go.Proofs.YtadnmegdbllaoaaGreatDoor
namespace Go.Proofs.YtadnmegdbllaoaaGreatDoor
open Go.RowKit Go.Shelf Sq Tryz
theorem dP:∀args w,(callFunc 66 args).run prog w= .ok (.enter 66 args) w:=λargs w=>by kernel_rfl
theorem Jj:∀args w,(callFunc 93 args).run prog w= .ok (.enter 93 args) w:=λargs w=>by kernel_rfl
theorem UO:∀args w,(callFunc 92 args).run prog w= .ok (.enter 92 args) w:=λargs w=>by kernel_rfl
theorem dX(w:World):Calls prog 66 #[] w λe w'=>e= .returned (aG Sq.dn)/\Below w.heap.size w w':=by
 have HB:=ah (aO.new w 71 (aI Sq.dn));have BZ:=ah ((aai w.heap.size w).alloc aK (.cells (aI Sq.dn) 71));go_enter func66,ntmps66
 go_wp2;refine bodyPost_ret (eF dW rfl rfl HB rfl) rfl ?_;exact⟨rfl,BZ⟩
section
variable {F:Nat->Prop}{B u0 q m:Nat}{T:List bT->Nat->World->Prop}{S:St}{w w':World}
theorem Zq(K:Kv F B u0 T)(h:aZ B u0 q T S m w){k:Tok}(hk:yR k):Calls prog 92 #[.pointer (some ⟨u0,0,none⟩), .string (tkey k)] w λe w'=>e= .returned (abC ((S k).map rW))/\aZ B u0 q T S m w'/\Fr F w w':=by
 obtain⟨h1,h2,es,h3,h4⟩:=h;refine(K.get (tkey k) h3).mono ?_;rintro e w' ⟨rfl,h5,h6⟩;exact⟨by rw[QW h4 hk],⟨h6.blk h1 λhF=>by have:=K.low q hF;omega,h2,es,h5,h4⟩,h6⟩
theorem aZ.aiH(h:aO w q 129 (IV u0))(h':aO w' q 129 (IV u0)){G:Nat->Prop}(hf:Fr (λk=>G k\/k=q) w w'):Fr G w w':=
 ⟨hf.os,hf.tape,hf.output,hf.size,λk hk hn=>by
  by_cases e:k=q
  ·subst e;exact h'.trans h.symm
  ·exact hf.block k hk λa=>a.elim hn e⟩
theorem aZ.set0(K:Kv F B u0 T)(h:aZ B u0 q T S m w):aZ B u0 q T S m (w.setCell ⟨q,1,none⟩ (.int .i64 0)):=by
 obtain⟨h1,h2,es,h3,h4⟩:=h;exact⟨h1.dO 1 (.int .i64 0),h2,es,K.up h3 (Fr.dO (S:=λk=>k=q) rfl _) λk hk=>by subst hk;exact⟨h2,Zp h1 ay ay ay ay⟩,h4⟩
theorem aZ.fr0{w1:World}(h0:aO w q 129 (IV u0))(h:aZ B u0 q T S m w1)(hf:Fr F w w1):Fr F w (w1.setCell ⟨q,1,none⟩ (.int .i64 0)):=
 aZ.aiH h0 (h.self.dO 1 (.int .i64 0)) ((hf.more λ_=> .inl).trans (Fr.dO (S:=λk=>F k\/k=q) (.inr rfl) _))
theorem QZ(K:Kv F B u0 T)(h:aZ B u0 q T S m w):Calls prog 67 #[.pointer (some ⟨q,0,none⟩),aG dn] w λe w'=>e= .returned (pY TN.zero)/\aZ B u0 q T S m w'/\Fr F w w':=by
 have Nj:=aO.new w 71 (aI dn);have bD:=(aai w.heap.size w).alloc aK (.cells (aI dn) 71);have bK:=bD.alloc bD.size (.cells sF 124);have Z5:=aO.new (w.alloc (.cells (aI dn) 71)) 124 sF;rw[aad]at Z5;have HBK:=ah (Nj.alloc (.cells sF 124));have HBT:=ah Z5;have HB:=ah bK;have HK:=ah K;have HS:=ah h;have HN:=ah (λW=>dX W);clear Nj bD bK Z5 h K;go_enter func67,ntmps67
 go_wp2_with fail
 refine aP (λu=>⟨#[_,_,_,_,_,_,_,_,_,u 0,u 1,u 2,u 3,u 4,u 5,u 6,u 7,u 8,u 9,_,_,_,_,_,_,_,_,_,_,_,_,_,_,_,_,_,_,_,_,_,_,_,_,_,_,_,_,_,_,_,_,_,_,_,_,_,_,_,_,_],_⟩)
  [aF (aG (dn)),
   aF (aG (dn)),
   aF (.bool (true)),
   aF (.bool (true)),
   aF undef,
   aF undef,
   aF undef,
   aF undef,
   aF undef,
   aF (.bool true)]
  (λ_=>False) [1] (λ_ _=>True) aV aV [] rfl aH (by simp<;>omega) (λ_ hk=>hk.elim) ⟨λ_=>undef,rfl⟩ (trivial) ?_ ?_ ?_
 ·intro i o hi ho u W hf hold aj jP;have aW:=hf.blk HBK eu
  match i,ho with
  |0,ho=>exact sv ho (aC rfl rfl (aW.cell 0) (aW.cell 1))
  |1,ho=>
   exact absurd aH hi
  |2,ho=>exact sv ho (iI rfl (aj 0 rfl) (aj 1 rfl)) (hp:=(by show agD (decide _)=_;rw[decide_eq_true rfl]))
  |3,ho=>exact sv ho (bg rfl (aj 2 rfl))
  |4,ho|5,ho|6,ho|7,ho|8,ho=>
   obtain rfl:=aA ho;exact aY.skip ((bI rfl (aT (v:=u 3) rfl (aj 3 rfl))).trans rfl) rfl rfl rfl
  |9,ho=>exact sv ho (mM rfl (aj 3 rfl) rfl)
  |n+10,ho=>exact absurd ho aH
 ·intro t i o ht ho u W hf bG aj;have aW:=hf.blk HBK eu
  match t,ht with
  |0,ht=>
   have ht:=aA ht;subst ht;obtain rfl:=aA ho;refine⟨aB rfl,Does.call (fV dP rfl ) ?_⟩;refine aac (HN.out W) ?_;rintro e w' ⟨rfl,hb⟩;exact⟨_,rfl,rfl,rfl, .of_below hb,trivial⟩
  |n+1,ht=>exact absurd ht aH
 ·intro u W hf bG au;have aW:=hf.blk HBK eu;simp only[au.q 0,au.q 1,au.q 2,au.q 3,au.q 4,au.q 5,au.q 6,au.q 7,au.q 8,au.q 9];have hz:=HB.out.size;have fJ:Below w.heap.size w W:=HB.out.trans ((hf.low (B:=w.heap.size) ak (λk a=>a.elim (λa=>a.elim) (λa=>by simp at a))));have hT:=hf.blk HBT (λa=>a.elim (λa=>a.elim) (λa=>by simp at a));have hS:=HS.out.below HK fJ;have hF:=Fr.of_below (S:=F) fJ;have t0:=hT.cell 0;have f0:=hT.frozen 0;have t1:=hT.cell 1;have f1:=hT.frozen 1;have t2:=hT.cell 2;have f2:=hT.frozen 2;have t3:=hT.cell 3;have f3:=hT.frozen 3;have t4:=hT.cell 4;have f4:=hT.frozen 4;have t5:=hT.cell 5;have f5:=hT.frozen 5;have t6:=hT.cell 6;have f6:=hT.frozen 6;have t7:=hT.cell 7;have f7:=hT.frozen 7;have HT:=ah hT;have HSE:=ah hS;have HFE:=ah hF;have hlt:=hT.lt;have I5:q<w.heap.size:=HS.out.self.lt;clear au hf bG hT hS hF aW fJ hz;go_wp2;refine bodyPost_ret (eF mG rfl rfl (oW HT) rfl) rfl ?_;exact⟨rfl,HSE.out.far HK HT ak mJ ay ay ay ay,HFE.out.newer mJ ak⟩
theorem rX(K:Kv F B u0 T)(h:aZ B u0 q T S m w){k:Tok}{n:TN}(hk:S k=some n):Calls prog 67 #[.pointer (some ⟨q,0,none⟩),aG k] w λe w'=>e= .returned (pY n)/\aZ B u0 q T S m w'/\Fr F w w':=by
 obtain⟨hv,jA⟩:=h.ok k n hk;have hfk:wM k.1/\wM k.2:=yH.fits (.inl hv);have hkn:=hv.ne;have Nj:=aO.new w 71 (aI k);have bD:=(aai w.heap.size w).alloc aK (.cells (aI k) 71);have bK:=bD.alloc bD.size (.cells sF 124);have Z5:=aO.new (w.alloc (.cells (aI k) 71)) 124 sF;rw[aad]at Z5;have mW:=h.below K bK;have Ol:=h.self.lt;have hlw:w.heap.size+2=((w.alloc (.cells (aI k) 71)).alloc (.cells sF 124)).heap.size:=by rw[aad,aad]
 have P6:=ah mW.self;have HBK:=ah (Nj.alloc (.cells sF 124));have HBT:=ah Z5;have HB:=ah bK;have HK:=ah K;have HS:=ah h;have uz:=ah mW;have aQ:Hid (∀k,F k->k<B):=ah K.low;have rF:=h.hq;have HKN:=ah hkn;have HN:=ah (λW=>dX W);have VL:=ah (λW=>Eh k hfk W)
 have HGT:Hid (∀W,aZ B u0 q T S m W->Calls prog 92 #[.pointer (some ⟨u0,0,none⟩), .string (tkey k)] W λe w'=>e= .returned (.tuple #[.string (rW n), .bool true, .int .i64 0])/\aZ B u0 q T S m w'/\Fr F W w'):=ah λW hW=>by
  have:=Zq K hW hv
  rwa [hk]at this
 have HD:=ah (λW=>abT n jA W);have Wj:=ah hlw;clear Nj bD bK Z5 h K hk hv jA hfk hkn mW hlw;go_enter func67,ntmps67
 go_wp2_with fail
 refine aP (λu=>⟨#[_,_,_,_,_,_,_,_,_,u 0,u 1,u 2,u 3,u 4,u 5,u 6,u 7,u 8,u 9,_,_,_,_,_,_,_,_,_,_,_,_,_,_,_,_,_,_,_,_,_,_,_,_,_,_,_,_,_,_,_,_,_,_,_,_,_,_,_,_,_],_⟩)
  [aF (aG (k)),
   aF (aG (dn)),
   aF (.bool (false)),
   aF (.bool (false)),
   bf q 0,
   bf q 0,
   bf q 1,
   aF (.int .i64 (0)),
   aF (.bool (false)),
   aF (.bool (false))]
  (λ_=>False) [1] (λ_ _=>True) aV aV [] rfl aH (by simp<;>omega) (λ_ hk=>hk.elim) ⟨λ_=>undef,rfl⟩ (trivial) ?_ ?_ ?_
 ·intro i o hi ho u W hf hold aj jP;have aW:=hf.blk HBK eu;have dI:=hf.blk P6 eu
  match i,ho with
  |0,ho=>exact sv ho (aC rfl rfl (aW.cell 0) (aW.cell 1))
  |1,ho=>
   exact absurd aH hi
  |2,ho=>exact sv ho (iI rfl (aj 0 rfl) (aj 1 rfl)) (hp:=(by show agD (decide _)=_;rw[decide_eq_false HKN.out]))
  |3,ho=>exact sv ho (bg rfl (aj 2 rfl))
  |4,ho=>
   obtain rfl:=aA ho;exact aY.nS ((bI rfl (aT (v:=u 3) rfl (aj 3 rfl))).trans rfl) (bg rfl rfl) rfl rfl rfl
  |5,ho=>
   obtain rfl:=aA ho;exact aY.nS ((bI rfl (aT (v:=u 3) rfl (aj 3 rfl))).trans rfl) (jK rfl (aj 4 rfl)) rfl rfl rfl
  |6,ho=>
   obtain rfl:=aA ho;exact aY.nS ((bI rfl (aT (v:=u 3) rfl (aj 3 rfl))).trans rfl) (tZ rfl (aj 5 rfl)) rfl rfl rfl
  |7,ho=>
   obtain rfl:=aA ho;exact aY.nS ((bI rfl (aT (v:=u 3) rfl (aj 3 rfl))).trans rfl) (uT rfl (aj 6 rfl) (dI.cell 1)) rfl rfl rfl
  |8,ho=>
   obtain rfl:=aA ho;exact aY.nS ((bI rfl (aT (v:=u 3) rfl (aj 3 rfl))).trans rfl) (o7 rfl (aj 7 rfl) rfl) rfl rfl rfl
  |9,ho=>exact sv ho (mM rfl (aj 3 rfl) (aj 8 rfl))
  |n+10,ho=>exact absurd ho aH
 ·intro t i o ht ho u W hf bG aj;have aW:=hf.blk HBK eu;have dI:=hf.blk P6 eu
  match t,ht with
  |0,ht=>
   have ht:=aA ht;subst ht;obtain rfl:=aA ho;refine⟨aB rfl,Does.call (fV dP rfl ) ?_⟩;refine aac (HN.out W) ?_;rintro e w' ⟨rfl,hb⟩;exact⟨_,rfl,rfl,rfl, .of_below hb,trivial⟩
  |n+1,ht=>exact absurd ht aH
 ·intro u W hf bG au;have aW:=hf.blk HBK eu;have dI:=hf.blk P6 eu;have e0:=au.q 0;have e1:=au.q 1;have e2:=au.q 2;have e3:=au.q 3;have e4:=au.q 4;have e5:=au.q 5;have e6:=au.q 6;have e7:=au.q 7;have e8:=au.q 8;have e9:=au.q 9;simp only[e0,e1,e2,e3,e4,e5,e6,e7,e8,e9];have hz:=HB.out.size;have hlW:=hf.size;have jU:=HB.out.trans (hf.low (B:=w.heap.size) ak (λk a=>a.elim (λa=>a.elim) (λa=>by simp at a)));have hWz:w.heap.size+2<=W.heap.size:=acN (akX Wj) hlW;have afh:=ah (hf.blk P6 (λa=>a.elim (λa=>a.elim) (λa=>by simp at a)));have amM:=ah (hf.blk HBT (λa=>a.elim (λa=>a.elim) (λa=>by simp at a)));have afi:=ah aW;have HSb:=ah (HS.out.below HK jU);have HBW:=ah jU;obtain⟨w2,yY⟩:=aJ (W);rw[<-yY]at afh amM afi HSb HBW hWz ⊢;clear au hf bG aW dI jU P6 HBT HBK uz HB hz hlW e0 e1 e2 e3 e4 e5 e6 e7 e8 e9 yY u W;go_wp2_with fail
  refine aP (λu=>⟨#[_,_,_,_,_,u 11,u 12,u 13,_,_,_,_,_,_,_,_,_,_,_,_,u 7,u 0,u 1,u 2,u 3,u 4,u 5,u 6,u 8,u 9,u 10,_,_,_,_,_,_,_,_,_,_,_,_,_,_,_,_,_,_,_,_,_,_,_,_,_,_,_,_,_],_⟩)
   [bf q 0,
    bf q 0,
    bf q 0,
    bf u0 0,
    aF (aG (k)),
    aF (.string (tkey k)),
    aF (.tuple #[.string (rW n), .bool (true), .int .i64 (0)]),
    aF (.tuple #[.string (rW n), .bool (true), .int .i64 (0)]),
    aF (.string (rW n)),
    aF (.bool (true)),
    aF (.int .i64 (0)),
    aF (.string (rW n)),
    aF (.bool (true)),
    aF (.int .i64 (0))]
   F [5,6] (λj W=>dG B u0 q T (m) (λS1=>S1=S) W) aV aV [] rfl aH (by simp<;>omega) (λk hk=>⟨by have:=aQ.out k hk;omega,by simp⟩) ⟨λ_=>undef,rfl⟩ (⟨S,HSb.out.below HK aU.drew,rfl⟩) ?_ ?_ ?_
  ·intro i o hi ho u W hf hold aj jP;have aW:=fw aQ hf afi;have dI:=fw aQ hf afh
   match i,ho with
   |0,ho=>exact sv ho (bg rfl rfl)
   |1,ho=>exact sv ho (jK rfl (aj 0 rfl))
   |2,ho=>exact sv ho (xU rfl (aj 1 rfl))
   |3,ho=>exact sv ho (xW rfl (aj 2 rfl) (dI.cell 0))
   |4,ho=>exact sv ho (aC rfl rfl (aW.cell 0) (aW.cell 1))
   |5,ho|6,ho=>
    exact absurd aH hi
   |7,ho=>exact sv ho (bg rfl (aj 6 rfl))
   |8,ho=>exact sv ho (afd rfl (aj 7 rfl))
   |9,ho=>exact sv ho (afe rfl (aj 7 rfl))
   |10,ho=>exact sv ho (aff rfl (aj 7 rfl))
   |11,ho=>exact sv ho (jo rfl (aj 8 rfl))
   |12,ho=>exact sv ho (jo rfl (aj 9 rfl))
   |13,ho=>exact sv ho (jo rfl (aj 10 rfl))
   |n+14,ho=>exact absurd ho aH
  ·intro t i o ht ho u W hf bG aj;have aW:=fw aQ hf afi;have dI:=fw aQ hf afh
   match t,ht with
   |0,ht=>
    have ht:=aA ht;subst ht;obtain rfl:=aA ho;refine⟨aB rfl,Does.call (dH Jj rfl (aj 4 rfl)) ?_⟩;obtain⟨S1,hs,hp⟩:=bG;refine aac (VL.out W) ?_;rintro e w' ⟨rfl,hb⟩;exact⟨_,rfl,rfl,rfl, .of_below hb,S1,hs.below HK hb,hp⟩
   |1,ht=>
    have ht:=aA ht;subst ht;obtain rfl:=aA ho;refine⟨aB rfl,Does.call (bV UO rfl (aj 3 rfl) (aj 5 rfl)) ?_⟩;obtain⟨S1,hs,hp⟩:=bG;have mW:aZ B u0 q T S m W:=hp ▸ hs;refine aac (HGT.out W mW) ?_;rintro e w' ⟨rfl,h1,h2⟩;exact⟨_,rfl,rfl,rfl,h2,S,h1,rfl⟩
   |n+2,ht=>exact absurd ht aH
  ·intro u W hf bG au;have aW:=fw aQ hf afi;have dI:=fw aQ hf afh;simp only[au.q 0,au.q 1,au.q 2,au.q 3,au.q 4,au.q 5,au.q 6,au.q 7,au.q 8,au.q 9,au.q 10,au.q 11,au.q 12,au.q 13];obtain⟨S1,hs,hp⟩:=bG;have mW:aZ B u0 q T S m W:=hp ▸ hs;have EX:Fr F w2 W:=hf.more λ_=>eu;have fG:=hf.size;have hT3:=hf.blk amM (λa=>a.elim (λa=>by have:=aQ.out _ a;omega) (λa=>by simp at a));have sD:Hid (Fr F w W):=ah ((Fr.of_below HBW).trans EX);have ZY:=ah mW;have vZ:=ah hT3;have q1:=mW.self.cell 1;have fq1:=mW.self.frozen 1;have lq:=mW.self.lt;clear au hf hs hp mW EX hT3 aW dI afh amM afi HSb HBW;generalize rW n=V at*;go_wp2_with fail
   refine(HD.out _).mono ?_;rintro e w4 ⟨rfl,iC⟩;have lD:=ah (ZY.out.below HK iC);have pK:Hid (Fr F w w4):=ah (sD.out.then_ iC);have aq9:=ah (vZ.out.below iC vZ.out.lt);have yU:w.heap.size+2<=w4.heap.size:=by have:=iC.size;omega
   have Dt:=ah (aO.new w4 124 (fO n));have lG:=ah (lD.out.below HK ((aai _ w4).alloc aK (.cells (fO n) 124)));have jl:=ah (aq9.out.alloc (.cells (fO n) 124));have kE:Hid (Fr F w (w4.alloc (.cells (fO n) 124))):=ah (pK.out.then_ ((aai _ w4).alloc aK (.cells (fO n) 124)));have q4:=lD.out.self.cell 1;have fq4:=lD.out.self.frozen 1;have lq4:=lD.out.self.lt;have mQ:=ah (aq9.out.far (p:=⟨q,1,none⟩) (show w.heap.size+1≠q by omega) (.int .i64 0));have l5:w.heap.size+1<w4.heap.size:=by omega
   clear yU hWz fG;have t0:(w4.setCell ⟨q,1,none⟩ (.int .i64 0)).cell? ⟨w.heap.size+1,0,none⟩=some (.int .i64 0):=mQ.out.cell 0;have f0:=mQ.out.frozen 0;have t1:(w4.setCell ⟨q,1,none⟩ (.int .i64 0)).cell? ⟨w.heap.size+1,1,none⟩=some (.int .i64 0):=mQ.out.cell 1;have f1:=mQ.out.frozen 1;have t2:(w4.setCell ⟨q,1,none⟩ (.int .i64 0)).cell? ⟨w.heap.size+1,2,none⟩=some (.int .i64 0):=mQ.out.cell 2;have f2:=mQ.out.frozen 2;have t3:(w4.setCell ⟨q,1,none⟩ (.int .i64 0)).cell? ⟨w.heap.size+1,3,none⟩=some (.int .i64 0):=mQ.out.cell 3;have f3:=mQ.out.frozen 3;have t4:(w4.setCell ⟨q,1,none⟩ (.int .i64 0)).cell? ⟨w.heap.size+1,4,none⟩=some (.int .i64 0):=mQ.out.cell 4;have f4:=mQ.out.frozen 4;have t5:(w4.setCell ⟨q,1,none⟩ (.int .i64 0)).cell? ⟨w.heap.size+1,5,none⟩=some (.int .i64 0):=mQ.out.cell 5;have f5:=mQ.out.frozen 5;have t6:(w4.setCell ⟨q,1,none⟩ (.int .i64 0)).cell? ⟨w.heap.size+1,6,none⟩=some (.int .i64 0):=mQ.out.cell 6;have f6:=mQ.out.frozen 6;have t7:(w4.setCell ⟨q,1,none⟩ (.int .i64 0)).cell? ⟨w.heap.size+1,7,none⟩=some (.int .i64 0):=mQ.out.cell 7;have f7:=mQ.out.frozen 7;clear iC q1 fq1 lq;go_wp2;refine bodyPost_ret (eF mG rfl rfl ((oW mQ).alloc _) rfl) rfl ?_;have hb:=((aai _ ((((((((((w4.setCell ⟨q,1,none⟩ (.int .i64 0)).setCell ⟨w.heap.size+1,0,none⟩ (.int .i64 n.up.1)).setCell ⟨w.heap.size+1,1,none⟩ (.int .i64 n.up.2)).setCell ⟨w.heap.size+1,2,none⟩ (.int .i64 n.left.1)).setCell ⟨w.heap.size+1,3,none⟩ (.int .i64 n.left.2)).setCell ⟨w.heap.size+1,4,none⟩ (.int .i64 n.right.1)).setCell ⟨w.heap.size+1,5,none⟩ (.int .i64 n.right.2)).setCell ⟨w.heap.size+1,6,none⟩ (.int .i64 n.count)).setCell ⟨w.heap.size+1,7,none⟩ (.int .i64 n.height)))).alloc aK (.cells (fO n) 124));exact⟨rfl,((lD.out.set0 HK).far HK mQ ak mJ ay ay ay ay).below HK hb,((aZ.fr0 HS.out.self lD pK).newer mJ ak).then_ hb⟩
end
theorem aiI:∀args w,(callFunc 137 args).run prog w= .ok (.enter 137 args) w:=λargs w=>by kernel_rfl
theorem afj:∀args w,(callFunc 136 args).run prog w= .ok (.enter 136 args) w:=λargs w=>by kernel_rfl
theorem eU:∀args w,(callFunc 67 args).run prog w= .ok (.enter 67 args) w:=λargs w=>by kernel_rfl
theorem abU:∀args w,(callFunc 102 args).run prog w= .ok (.enter 102 args) w:=λargs w=>by kernel_rfl
def dS(S:St)(k:Tok):Nat:=if(S k).isSome then 0 else 1
section
variable {F:Nat->Prop}{B u0 q m:Nat}{T:List bT->Nat->World->Prop}{S:St}{w w':World}
theorem aiJ(K:Kv F B u0 T){k:Tok}{n:TN}(h:aZ B u0 q T S (m+dS S k) w)(hk:yR k)(hn:n.Ok):Calls prog 136 #[.pointer (some ⟨u0,0,none⟩), .string (tkey k), .string (rW n)] w λe w'=>e= .returned (.int .i64 0)/\aZ B u0 q T (upd S k n) m w'/\Fr F w w':=by
 obtain⟨h1,h2,es,h3,h4⟩:=h
 have hd:QU es (tkey k)=dS S k:=by
  unfold QU dS;rw[QW h4 hk]
  cases S k<;>rfl
 rw[<-hd]at h3;refine(K.put (tkey k) (rW n) h3 (afc k n)).mono ?_;rintro e w' ⟨rfl,h5,h6⟩;exact⟨rfl,⟨h6.blk h1 λhF=>by have:=K.low q hF;omega,h2,_,h5,aiE h4 hk hn⟩,h6⟩
theorem dG.set0(K:Kv F B u0 T){P:St->Prop}(h:dG B u0 q T m P w):dG B u0 q T m P (w.setCell ⟨q,1,none⟩ (.int .i64 0)):=by
 obtain⟨S1,h1,h2⟩:=h;exact⟨S1,h1.set0 K,h2⟩
theorem UQ(K:Kv F B u0 T){k:Tok}{n:TN}(h:aZ B u0 q T S (m+dS S k) w)(hk:yR k)(hn:n.Ok):Calls prog 102 #[.pointer (some ⟨q,0,none⟩),aG k,pY n] w λe w'=>e= .returned (.tuple #[])/\aZ B u0 q T (upd S k n) m w'/\Fr F w w':=by
 have hfk:wM k.1/\wM k.2:=yH.fits (.inl hk);have Nj:=aO.new w 71 (aI k);have bD:=(aai w.heap.size w).alloc aK (.cells (aI k) 71);have bK:=bD.alloc bD.size (.cells (fO n) 124);have Z5:=aO.new (w.alloc (.cells (aI k) 71)) 124 (fO n);rw[aad]at Z5;have mW:=h.below K bK;have Ol:=h.self.lt;have P6:=ah mW.self;have q1:=mW.self.cell 1;have HBK:=ah (Nj.alloc (.cells (fO n) 124));have HBT:=ah Z5;have HB:=ah bK;have HK:=ah K;have uz:=ah mW;have aQ:Hid (∀k,F k->k<B):=ah K.low;have rF:=h.hq;have Wj:Hid (w.heap.size+2=((w.alloc (.cells (aI k) 71)).alloc (.cells (fO n) 124)).heap.size):=ah (by rw[aad,aad]);have VL:=ah (λW=>Eh k hfk W);have HEN:=ah (λW=>abR n hn W);have Sj:Hid (∀W,aZ B u0 q T S (m+dS S k) W->_):=ah λW hW=>aiJ K hW hk hn;clear Nj bD bK Z5 h K hk hn hfk mW;go_enter func102,ntmps102
 go_wp2_with fail
 have hz:=HB.out.size
 refine aP (λu=>⟨#[_,_,_,_,_,_,_,_,_,_,_,u 0,u 1,u 2,u 3,u 4,u 5,u 6,u 7,u 8,u 9,u 10,u 11],_⟩)
  [bf q 0,
   bf q 0,
   bf q 0,
   bf q 0,
   bf u0 0,
   aF (aG (k)),
   aF (.string (tkey k)),
   aF (pY (n)),
   aF (.string (rW n)),
   aF (.int .i64 (0)),
   bf q 0,
   bf q 1,
   Fl.any _]
  F [6,8,9] (λj W=>dG B u0 q T (match j with | 3=>m | _=>m+dS S k) (λS1=>match j with | 3=>S1=upd S k n | _=>S1=S) W) aV aV [] rfl aH (by simp<;>omega) (λk hk=>⟨by have:=aQ.out k hk;omega,by simp⟩) ⟨λ_=>undef,rfl⟩ (⟨S,uz.out.below HK aU.drew,rfl⟩) ?_ ?_ ?_
 ·intro i o hi ho u W hf hold aj jP;have aW:=fw aQ hf HBK;have dI:=fw aQ hf HBT;have fQ:=fw aQ hf P6
  match i,ho with
  |0,ho|1,ho=>exact sv ho (bg rfl rfl)
  |2,ho=>exact sv ho (jK rfl (aj 1 rfl))
  |3,ho=>exact sv ho (xU rfl (aj 2 rfl))
  |4,ho=>exact sv ho (xW rfl (aj 3 rfl) (fQ.cell 0))
  |5,ho=>exact sv ho (aC rfl rfl (aW.cell 0) (aW.cell 1))
  |6,ho|8,ho|9,ho=>
   exact absurd aH hi
  |7,ho=>exact sv ho (sK mG rfl rfl dI rfl)
  |10,ho=>exact sv ho (jK rfl (aj 0 rfl))
  |11,ho=>exact sv ho (tZ rfl (aj 10 rfl))
  |12,ho=>
   obtain rfl:=aA ho;exact aY.same (UN rfl (aj 11 rfl) (aj 9 rfl) (fQ.cell 1) (fQ.frozen 1)) rfl rfl trivial (ahL fQ rfl) rfl (λ_ h=>dG.set0 HK h)
  |n+13,ho=>exact absurd ho aH
 ·intro t i o ht ho u W hf bG aj;have aW:=fw aQ hf HBK;have dI:=fw aQ hf HBT;have fQ:=fw aQ hf P6
  match t,ht with
  |0,ht=>
   have ht:=aA ht;subst ht;obtain rfl:=aA ho;refine⟨aB rfl,Does.call (dH Jj rfl (aj 5 rfl)) ?_⟩;obtain⟨S1,hs,hp⟩:dG B u0 q T (m+dS S k) (λS1=>S1=S) W:=bG;refine aac (VL.out W) ?_;rintro e w' ⟨rfl,hb⟩;exact⟨_,rfl,rfl,rfl, .of_below hb,S1,hs.below HK hb,hp⟩
  |1,ht=>
   have ht:=aA ht;subst ht;obtain rfl:=aA ho;refine⟨aB rfl,Does.call (dH aiI rfl (aj 7 rfl)) ?_⟩;obtain⟨S1,hs,hp⟩:dG B u0 q T (m+dS S k) (λS1=>S1=S) W:=bG;refine aac (HEN.out W) ?_;rintro e w' ⟨rfl,hb⟩;exact⟨_,rfl,rfl,rfl, .of_below hb,S1,hs.below HK hb,hp⟩
  |2,ht=>
   have ht:=aA ht;subst ht;obtain rfl:=aA ho;refine⟨aB rfl,Does.call (lQ afj rfl (aj 4 rfl) (aj 6 rfl) (aj 8 rfl)) ?_⟩;obtain⟨S1,hs,hp⟩:dG B u0 q T (m+dS S k) (λS1=>S1=S) W:=bG;refine aac (Sj.out W (hp ▸ hs)) ?_;rintro e w' ⟨rfl,h1,h2⟩;exact⟨_,rfl,rfl,rfl,h2,upd S k n,h1,rfl⟩
  |n+3,ht=>exact absurd ht aH
 ·intro u W hf bG au;have aW:=fw aQ hf HBK;have dI:=fw aQ hf HBT;have fQ:=fw aQ hf P6;simp only[au.q 0,au.q 1,au.q 2,au.q 3,au.q 4,au.q 5,au.q 6,au.q 7,au.q 8,au.q 9,au.q 10,au.q 11];have hFr:Fr F w W:=(Fr.of_below HB).trans (hf.more λ_=>eu);obtain⟨S1,hs,hp⟩:dG B u0 q T m (λS1=>S1=upd S k n) W:=bG;have HE:Hid (aZ B u0 q T (upd S k n) m W/\Fr F w W):=ah ⟨hp ▸ hs,hFr⟩;clear au hf hs hp hFr aW dI fQ P6 HBK HBT HB uz;go_wp2
  go_end0
  exact⟨rfl,HE.out.1,HE.out.2⟩
end
section
variable {F:Nat->Prop}{B u0 q m:Nat}{T:List bT->Nat->World->Prop}{S:St}{w w':World}
theorem afk(K:Kv F B u0 T)(h:aZ B u0 q T S m w){up:Tok} :Calls prog 101 #[.pointer (some ⟨q,0,none⟩),aG dn,aG up] w λe w'=>e= .returned (pY TN.zero)/\aZ B u0 q T S m w'/\Fr F w w':=by
 have bD:=(aai w.heap.size w).alloc aK (.cells (aI dn) 71);have bK:=bD.alloc bD.size (.cells (aI up) 71);have dJ:=bK.alloc bK.size (.cells sF 124);have PY:=((aO.new w 71 (aI dn)).alloc (.cells (aI up) 71)).alloc (.cells sF 124);have hu3:=(aO.new (w.alloc (.cells (aI dn) 71)) 71 (aI up)).alloc (.cells sF 124);have yQ:=aO.new ((w.alloc (.cells (aI dn) 71)).alloc (.cells (aI up) 71)) 124 sF;rw[aad]at hu3;rw[aad,aad]at yQ;have Ol:=h.self.lt;have rF:=h.hq;have Wn:=ah PY;have HU3:=ah hu3;have vZ:=ah yQ;have vY:=ah dJ;have HK:=ah K;have MO:=ah h;have aQ:Hid (∀k,F k->k<B):=ah K.low;have wP:=ah (QZ K (h.below K dJ));have HN:=ah (λW=>dX W);clear PY hu3 yQ bD bK dJ h K;go_enter func101,ntmps101
 go_wp2_with fail
 refine aac wP ?_;rintro e w1 ⟨rfl,jr,eH⟩;have dZ:∀g,w.heap.size<=g->¬F g:=λg hg a=>by have:=aQ.out g a;omega
 have gI:=acN vY.out.size eH.size;have lt3:=vZ.out.lt;have IZ:w.heap.size+3<=w1.heap.size:=by have:=eH.size;omega
 have jY:=ah ((eH.blk Wn (dZ _ aK)).alloc (.cells (fO (TN.zero)) 124));have Z7:=ah ((eH.blk HU3 (dZ _ ak)).alloc (.cells (fO (TN.zero)) 124));have rG:=ah ((eH.blk vZ (dZ _ ak)).alloc (.cells (fO (TN.zero)) 124));have Dt:=ah (aO.new w1 124 (fO (TN.zero)));have rO:=(aai _ w1).alloc aK (.cells (fO (TN.zero)) 124);have lD:=ah (jr.below HK rO);have pK:Hid (Fr F w _):=ah (((Fr.of_below vY).trans eH).then_ rO);have HZA:Hid (w1.heap.size+1=(w1.alloc (.cells (fO (TN.zero)) 124)).heap.size):=ah (aad _ _).symm;clear jr eH rO Wn HU3 vZ vY wP gI lt3 dZ;go_wp2_with fail
 refine aP (λu=>⟨#[_,_,_,_,_,_,_,_,_,_,_,u 0,u 1,u 2,u 3,u 4,u 5,u 6,u 7,u 8,_,_,_,_,_,_,_],_⟩)
  [aF (aG (dn)),
   aF (aG (dn)),
   aF (.bool (false)),
   aF (.bool (false)),
   aF undef,
   aF undef,
   aF undef,
   aF undef,
   aF (.bool false)]
  (λ_=>False) [1] (λ_ _=>True) aV aV [] rfl aH (by simp<;>omega) (λ_ hk=>hk.elim) ⟨λ_=>undef,rfl⟩ (trivial) ?_ ?_ ?_
 ·intro i o hi ho u W hf hold aj jP;have aW:=hf.blk jY eu
  match i,ho with
  |0,ho=>exact sv ho (aC rfl rfl (aW.cell 0) (aW.cell 1))
  |1,ho=>
   exact absurd aH hi
  |2,ho=>exact sv ho (kH rfl (aj 0 rfl) (aj 1 rfl)) (hp:=(by show agD (!decide _)=_;rw[decide_eq_true rfl];rfl))
  |3,ho=>exact sv ho (bg rfl (aj 2 rfl))
  |4,ho|5,ho|6,ho|7,ho=>
   obtain rfl:=aA ho;exact aY.skip ((bI rfl (aT (v:=u 3) rfl (aj 3 rfl))).trans rfl) rfl rfl rfl
  |8,ho=>exact sv ho (mM rfl (aj 3 rfl) rfl)
  |n+9,ho=>exact absurd ho aH
 ·intro t i o ht ho u W hf bG aj;have aW:=hf.blk jY eu
  match t,ht with
  |0,ht=>
   have ht:=aA ht;subst ht;obtain rfl:=aA ho;refine⟨aB rfl,Does.call (fV dP rfl ) ?_⟩;refine aac (HN.out W) ?_;rintro e w' ⟨rfl,hb⟩;exact⟨_,rfl,rfl,rfl, .of_below hb,trivial⟩
  |n+1,ht=>exact absurd ht aH
 ·intro u W hf bG au;have aW:=hf.blk jY eu;simp only[au.q 0,au.q 1,au.q 2,au.q 3,au.q 4,au.q 5,au.q 6,au.q 7,au.q 8];have iL:∀k:Nat,¬ (False\/k∈([]:List Nat)):=λ_=>eu;have Ac:=acN (akX HZA) hf.size;have jU:=hf.low (B:=_) aK (λk a=>(iL k a).elim);have jl:=ah (hf.blk rG (iL _));have BA:=ah (hf.blk Dt (iL _));have lH:=ah (hf.blk jY (iL _));have HU5:=ah (hf.blk Z7 (iL _));have lG:=ah (lD.out.below HK jU);have kE:Hid (Fr F w W):=ah (pK.out.then_ jU);clear au hf iL jU aW bG rG Dt jY Z7 lD pK HZA;have t0:W.cell? ⟨w.heap.size+2,0,none⟩=some (.int .i64 0):=jl.out.cell 0;have ft0:=jl.out.frozen 0;have t1:W.cell? ⟨w.heap.size+2,1,none⟩=some (.int .i64 0):=jl.out.cell 1;have ft1:=jl.out.frozen 1;have t2:W.cell? ⟨w.heap.size+2,2,none⟩=some (.int .i64 0):=jl.out.cell 2;have ft2:=jl.out.frozen 2;have t3:W.cell? ⟨w.heap.size+2,3,none⟩=some (.int .i64 0):=jl.out.cell 3;have ft3:=jl.out.frozen 3;have t4:W.cell? ⟨w.heap.size+2,4,none⟩=some (.int .i64 0):=jl.out.cell 4;have ft4:=jl.out.frozen 4;have t5:W.cell? ⟨w.heap.size+2,5,none⟩=some (.int .i64 0):=jl.out.cell 5;have ft5:=jl.out.frozen 5;have t6:W.cell? ⟨w.heap.size+2,6,none⟩=some (.int .i64 0):=jl.out.cell 6;have ft6:=jl.out.frozen 6;have t7:W.cell? ⟨w.heap.size+2,7,none⟩=some (.int .i64 0):=jl.out.cell 7;have ft7:=jl.out.frozen 7;have n0:=BA.out.cell 0;have n1:=BA.out.cell 1;have n2:=BA.out.cell 2;have n3:=BA.out.cell 3;have n4:=BA.out.cell 4;have n5:=BA.out.cell 5;have n6:=BA.out.cell 6;have n7:=BA.out.cell 7;have l5:w.heap.size+2<W.heap.size:=by omega
  go_wp2;refine bodyPost_ret (eF mG rfl rfl (oW jl) rfl) rfl ?_;exact⟨rfl,lG.out.far HK jl ak mJ ay ay ay ay,kE.out.newer mJ ak⟩
theorem abV(K:Kv F B u0 T)(h:aZ B u0 q T S m w){k up:Tok}{n:TN}(hk:S k=some n)(hu:n.up=up):Calls prog 101 #[.pointer (some ⟨q,0,none⟩),aG k,aG up] w λe w'=>e= .returned (pY n)/\aZ B u0 q T S m w'/\Fr F w w':=by
 obtain⟨hv,jA⟩:=h.ok k n hk;have HKN:=ah hv.ne;have HU:=ah hu;have bD:=(aai w.heap.size w).alloc aK (.cells (aI k) 71);have bK:=bD.alloc bD.size (.cells (aI up) 71);have dJ:=bK.alloc bK.size (.cells sF 124);have PY:=((aO.new w 71 (aI k)).alloc (.cells (aI up) 71)).alloc (.cells sF 124);have hu3:=(aO.new (w.alloc (.cells (aI k) 71)) 71 (aI up)).alloc (.cells sF 124);have yQ:=aO.new ((w.alloc (.cells (aI k) 71)).alloc (.cells (aI up) 71)) 124 sF;rw[aad]at hu3;rw[aad,aad]at yQ;have Ol:=h.self.lt;have rF:=h.hq;have Wn:=ah PY;have HU3:=ah hu3;have vZ:=ah yQ;have vY:=ah dJ;have HK:=ah K;have MO:=ah h;have aQ:Hid (∀k,F k->k<B):=ah K.low;have wP:=ah (rX K (h.below K dJ) hk);have HN:=ah (λW=>dX W);clear PY hu3 yQ bD bK dJ h K hk hv jA hu;go_enter func101,ntmps101
 go_wp2_with fail
 refine aac wP ?_;rintro e w1 ⟨rfl,jr,eH⟩;have dZ:∀g,w.heap.size<=g->¬F g:=λg hg a=>by have:=aQ.out g a;omega
 have gI:=acN vY.out.size eH.size;have lt3:=vZ.out.lt;have IZ:w.heap.size+3<=w1.heap.size:=by have:=eH.size;omega
 have jY:=ah ((eH.blk Wn (dZ _ aK)).alloc (.cells (fO (n)) 124));have Z7:=ah ((eH.blk HU3 (dZ _ ak)).alloc (.cells (fO (n)) 124));have rG:=ah ((eH.blk vZ (dZ _ ak)).alloc (.cells (fO (n)) 124));have Dt:=ah (aO.new w1 124 (fO (n)));have rO:=(aai _ w1).alloc aK (.cells (fO (n)) 124);have lD:=ah (jr.below HK rO);have pK:Hid (Fr F w _):=ah (((Fr.of_below vY).trans eH).then_ rO);have HZA:Hid (w1.heap.size+1=(w1.alloc (.cells (fO (n)) 124)).heap.size):=ah (aad _ _).symm;clear jr eH rO Wn HU3 vZ vY wP gI lt3 dZ;go_wp2_with fail
 refine aP (λu=>⟨#[_,_,_,_,_,_,_,_,_,_,_,u 0,u 1,u 2,u 3,u 4,u 5,u 6,u 7,u 8,_,_,_,_,_,_,_],_⟩)
  [aF (aG (k)),
   aF (aG (dn)),
   aF (.bool (true)),
   aF (.bool (true)),
   bf w1.heap.size 0,
   aF (aG ((n).up)),
   aF (aG (up)),
   aF (.bool (false)),
   aF (.bool (false))]
  (λ_=>False) [1] (λ_ _=>True) aV aV [] rfl aH (by simp<;>omega) (λ_ hk=>hk.elim) ⟨λ_=>undef,rfl⟩ (trivial) ?_ ?_ ?_
 ·intro i o hi ho u W hf hold aj jP;have aW:=hf.blk jY eu;have dI:=hf.blk Z7 eu;have fQ:=hf.blk Dt eu
  match i,ho with
  |0,ho=>exact sv ho (aC rfl rfl (aW.cell 0) (aW.cell 1))
  |1,ho=>
   exact absurd aH hi
  |2,ho=>exact sv ho (kH rfl (aj 0 rfl) (aj 1 rfl)) (hp:=(by show agD (!decide _)=_;rw[decide_eq_false HKN.out];rfl))
  |3,ho=>exact sv ho (bg rfl (aj 2 rfl))
  |4,ho=>
   obtain rfl:=aA ho;exact aY.nS ((bI rfl (aT (v:=u 3) rfl (aj 3 rfl))).trans rfl) (sQ rfl rfl) rfl rfl rfl
  |5,ho=>
   obtain rfl:=aA ho;exact aY.nS ((bI rfl (aT (v:=u 3) rfl (aj 3 rfl))).trans rfl) (aC rfl (aj 4 rfl) (fQ.cell 0) (fQ.cell 1)) rfl rfl rfl
  |6,ho=>
   obtain rfl:=aA ho;exact aY.nS ((bI rfl (aT (v:=u 3) rfl (aj 3 rfl))).trans rfl) (aC rfl rfl (dI.cell 0) (dI.cell 1)) rfl rfl rfl
  |7,ho=>
   obtain rfl:=aA ho;exact aY.nS ((bI rfl (aT (v:=u 3) rfl (aj 3 rfl))).trans rfl) (kH rfl (aj 5 rfl) (aj 6 rfl)) rfl (by show agD (!decide _)=_;rw[decide_eq_true HU.out];rfl) rfl
  |8,ho=>exact sv ho (mM rfl (aj 3 rfl) (aj 7 rfl))
  |n+9,ho=>exact absurd ho aH
 ·intro t i o ht ho u W hf bG aj;have aW:=hf.blk jY eu;have dI:=hf.blk Z7 eu;have fQ:=hf.blk Dt eu
  match t,ht with
  |0,ht=>
   have ht:=aA ht;subst ht;obtain rfl:=aA ho;refine⟨aB rfl,Does.call (fV dP rfl ) ?_⟩;refine aac (HN.out W) ?_;rintro e w' ⟨rfl,hb⟩;exact⟨_,rfl,rfl,rfl, .of_below hb,trivial⟩
  |n+1,ht=>exact absurd ht aH
 ·intro u W hf bG au;have aW:=hf.blk jY eu;have dI:=hf.blk Z7 eu;have fQ:=hf.blk Dt eu;simp only[au.q 0,au.q 1,au.q 2,au.q 3,au.q 4,au.q 5,au.q 6,au.q 7,au.q 8];have iL:∀k:Nat,¬ (False\/k∈([]:List Nat)):=λ_=>eu;have Ac:=acN (akX HZA) hf.size;have jU:=hf.low (B:=_) aK (λk a=>(iL k a).elim);have jl:=ah (hf.blk rG (iL _));have BA:=ah (hf.blk Dt (iL _));have lH:=ah (hf.blk jY (iL _));have HU5:=ah (hf.blk Z7 (iL _));have lG:=ah (lD.out.below HK jU);have kE:Hid (Fr F w W):=ah (pK.out.then_ jU);clear au hf iL jU aW dI fQ bG rG Dt jY Z7 lD pK HZA;have t0:W.cell? ⟨w.heap.size+2,0,none⟩=some (.int .i64 0):=jl.out.cell 0;have ft0:=jl.out.frozen 0;have t1:W.cell? ⟨w.heap.size+2,1,none⟩=some (.int .i64 0):=jl.out.cell 1;have ft1:=jl.out.frozen 1;have t2:W.cell? ⟨w.heap.size+2,2,none⟩=some (.int .i64 0):=jl.out.cell 2;have ft2:=jl.out.frozen 2;have t3:W.cell? ⟨w.heap.size+2,3,none⟩=some (.int .i64 0):=jl.out.cell 3;have ft3:=jl.out.frozen 3;have t4:W.cell? ⟨w.heap.size+2,4,none⟩=some (.int .i64 0):=jl.out.cell 4;have ft4:=jl.out.frozen 4;have t5:W.cell? ⟨w.heap.size+2,5,none⟩=some (.int .i64 0):=jl.out.cell 5;have ft5:=jl.out.frozen 5;have t6:W.cell? ⟨w.heap.size+2,6,none⟩=some (.int .i64 0):=jl.out.cell 6;have ft6:=jl.out.frozen 6;have t7:W.cell? ⟨w.heap.size+2,7,none⟩=some (.int .i64 0):=jl.out.cell 7;have ft7:=jl.out.frozen 7;have n0:=BA.out.cell 0;have n1:=BA.out.cell 1;have n2:=BA.out.cell 2;have n3:=BA.out.cell 3;have n4:=BA.out.cell 4;have n5:=BA.out.cell 5;have n6:=BA.out.cell 6;have n7:=BA.out.cell 7;have l5:w.heap.size+2<W.heap.size:=by omega
  go_wp2;refine bodyPost_ret (eF mG rfl rfl (oW jl) rfl) rfl ?_;exact⟨rfl,lG.out.far HK jl ak mJ ay ay ay ay,kE.out.newer mJ ak⟩
theorem afl(K:Kv F B u0 T)(h:aZ B u0 q T S m w){k up:Tok}{n:TN}(hk:S k=some n)(hu:n.up≠up)(hup:yH up):Calls prog 101 #[.pointer (some ⟨q,0,none⟩),aG k,aG up] w λe w'=>e= .returned (pY { n with up:=up })/\aZ B u0 q T (upd S k { n with up:=up }) m w'/\Fr F w w':=by
 obtain⟨hv,jA⟩:=h.ok k n hk;have HKN:=ah hv.ne;have HU:=ah hu;have atl:({ n with up:=up } :TN).Ok:=⟨hup,jA.left,jA.right,jA.count,jA.height⟩;have hd0:dS S k=0:=by unfold dS;rw[hk];rfl
 have Xy:=ah (λW (hW:aZ B u0 q T S m W)=>UQ K (m:=m) (by rw[hd0];exact hW) hv atl);have bD:=(aai w.heap.size w).alloc aK (.cells (aI k) 71);have bK:=bD.alloc bD.size (.cells (aI up) 71);have dJ:=bK.alloc bK.size (.cells sF 124);have PY:=((aO.new w 71 (aI k)).alloc (.cells (aI up) 71)).alloc (.cells sF 124);have hu3:=(aO.new (w.alloc (.cells (aI k) 71)) 71 (aI up)).alloc (.cells sF 124);have yQ:=aO.new ((w.alloc (.cells (aI k) 71)).alloc (.cells (aI up) 71)) 124 sF;rw[aad]at hu3;rw[aad,aad]at yQ;have Ol:=h.self.lt;have rF:=h.hq;have Wn:=ah PY;have HU3:=ah hu3;have vZ:=ah yQ;have vY:=ah dJ;have HK:=ah K;have MO:=ah h;have aQ:Hid (∀k,F k->k<B):=ah K.low;have wP:=ah (rX K (h.below K dJ) hk);have HN:=ah (λW=>dX W);clear PY hu3 yQ bD bK dJ h K hk hv jA atl hd0 hu hup;go_enter func101,ntmps101
 go_wp2_with fail
 refine aac wP ?_;rintro e w1 ⟨rfl,jr,eH⟩;have dZ:∀g,w.heap.size<=g->¬F g:=λg hg a=>by have:=aQ.out g a;omega
 have gI:=acN vY.out.size eH.size;have lt3:=vZ.out.lt;have IZ:w.heap.size+3<=w1.heap.size:=by have:=eH.size;omega
 have jY:=ah ((eH.blk Wn (dZ _ aK)).alloc (.cells (fO (n)) 124));have Z7:=ah ((eH.blk HU3 (dZ _ ak)).alloc (.cells (fO (n)) 124));have rG:=ah ((eH.blk vZ (dZ _ ak)).alloc (.cells (fO (n)) 124));have Dt:=ah (aO.new w1 124 (fO (n)));have rO:=(aai _ w1).alloc aK (.cells (fO (n)) 124);have lD:=ah (jr.below HK rO);have pK:Hid (Fr F w _):=ah (((Fr.of_below vY).trans eH).then_ rO);have HZA:Hid (w1.heap.size+1=(w1.alloc (.cells (fO (n)) 124)).heap.size):=ah (aad _ _).symm;clear jr eH rO Wn HU3 vZ vY wP gI lt3 dZ;go_wp2_with fail
 refine aP (λu=>⟨#[_,_,_,_,_,_,_,_,_,_,_,u 0,u 1,u 2,u 3,u 4,u 5,u 6,u 7,u 8,_,_,_,_,_,_,_],_⟩)
  [aF (aG (k)),
   aF (aG (dn)),
   aF (.bool (true)),
   aF (.bool (true)),
   bf w1.heap.size 0,
   aF (aG ((n).up)),
   aF (aG (up)),
   aF (.bool (true)),
   aF (.bool (true))]
  (λ_=>False) [1] (λ_ _=>True) aV aV [] rfl aH (by simp<;>omega) (λ_ hk=>hk.elim) ⟨λ_=>undef,rfl⟩ (trivial) ?_ ?_ ?_
 ·intro i o hi ho u W hf hold aj jP;have aW:=hf.blk jY eu;have dI:=hf.blk Z7 eu;have fQ:=hf.blk Dt eu
  match i,ho with
  |0,ho=>exact sv ho (aC rfl rfl (aW.cell 0) (aW.cell 1))
  |1,ho=>
   exact absurd aH hi
  |2,ho=>exact sv ho (kH rfl (aj 0 rfl) (aj 1 rfl)) (hp:=(by show agD (!decide _)=_;rw[decide_eq_false HKN.out];rfl))
  |3,ho=>exact sv ho (bg rfl (aj 2 rfl))
  |4,ho=>
   obtain rfl:=aA ho;exact aY.nS ((bI rfl (aT (v:=u 3) rfl (aj 3 rfl))).trans rfl) (sQ rfl rfl) rfl rfl rfl
  |5,ho=>
   obtain rfl:=aA ho;exact aY.nS ((bI rfl (aT (v:=u 3) rfl (aj 3 rfl))).trans rfl) (aC rfl (aj 4 rfl) (fQ.cell 0) (fQ.cell 1)) rfl rfl rfl
  |6,ho=>
   obtain rfl:=aA ho;exact aY.nS ((bI rfl (aT (v:=u 3) rfl (aj 3 rfl))).trans rfl) (aC rfl rfl (dI.cell 0) (dI.cell 1)) rfl rfl rfl
  |7,ho=>
   obtain rfl:=aA ho;exact aY.nS ((bI rfl (aT (v:=u 3) rfl (aj 3 rfl))).trans rfl) (kH rfl (aj 5 rfl) (aj 6 rfl)) rfl (by show agD (!decide _)=_;rw[decide_eq_false HU.out];rfl) rfl
  |8,ho=>exact sv ho (mM rfl (aj 3 rfl) (aj 7 rfl))
  |n+9,ho=>exact absurd ho aH
 ·intro t i o ht ho u W hf bG aj;have aW:=hf.blk jY eu;have dI:=hf.blk Z7 eu;have fQ:=hf.blk Dt eu
  match t,ht with
  |0,ht=>
   have ht:=aA ht;subst ht;obtain rfl:=aA ho;refine⟨aB rfl,Does.call (fV dP rfl ) ?_⟩;refine aac (HN.out W) ?_;rintro e w' ⟨rfl,hb⟩;exact⟨_,rfl,rfl,rfl, .of_below hb,trivial⟩
  |n+1,ht=>exact absurd ht aH
 ·intro u W hf bG au;have aW:=hf.blk jY eu;have dI:=hf.blk Z7 eu;have fQ:=hf.blk Dt eu;simp only[au.q 0,au.q 1,au.q 2,au.q 3,au.q 4,au.q 5,au.q 6,au.q 7,au.q 8];have iL:∀k:Nat,¬ (False\/k∈([]:List Nat)):=λ_=>eu;have Ac:=acN (akX HZA) hf.size;have jU:=hf.low (B:=_) aK (λk a=>(iL k a).elim);have jl:=ah (hf.blk rG (iL _));have BA:=ah (hf.blk Dt (iL _));have lH:=ah (hf.blk jY (iL _));have HU5:=ah (hf.blk Z7 (iL _));have lG:=ah (lD.out.below HK jU);have kE:Hid (Fr F w W):=ah (pK.out.then_ jU);clear au hf iL jU aW dI fQ bG rG Dt jY Z7 lD pK HZA;have n0:=BA.out.cell 0;have n1:=BA.out.cell 1;have fn0:=BA.out.frozen 0;have fn1:=BA.out.frozen 1;have p0:=HU5.out.cell 0;have p1:=HU5.out.cell 1;have Oj:Hid (aO ((W.setCell ⟨w1.heap.size,0,none⟩ (.int .i64 up.1)).setCell ⟨w1.heap.size,1,none⟩ (.int .i64 up.2)) w1.heap.size 124 (fO { n with up:=up })):=ah ((BA.out.dO 0 (.int .i64 up.1)).dO 1 (.int .i64 up.2));have wZ:Fr (λk=>k=w1.heap.size) W ((W.setCell ⟨w1.heap.size,0,none⟩ (.int .i64 up.1)).setCell ⟨w1.heap.size,1,none⟩ (.int .i64 up.2)):=jM;have Du:=ah (wZ.blk lH ak);have mQ:=ah (wZ.blk jl ak);have yS:=ah (lG.out.far HK BA ak wZ ay ay ay ay);have vS:=ah (kE.out.newer wZ ak);have VF:W.heap.size<=((W.setCell ⟨w1.heap.size,0,none⟩ (.int .i64 up.1)).setCell ⟨w1.heap.size,1,none⟩ (.int .i64 up.2)).heap.size:=wZ.size;have k0:((W.setCell ⟨w1.heap.size,0,none⟩ (.int .i64 up.1)).setCell ⟨w1.heap.size,1,none⟩ (.int .i64 up.2)).cell? ⟨w.heap.size,0,none⟩=some (.int .i64 k.1):=Du.out.cell 0;have k1:((W.setCell ⟨w1.heap.size,0,none⟩ (.int .i64 up.1)).setCell ⟨w1.heap.size,1,none⟩ (.int .i64 up.2)).cell? ⟨w.heap.size,1,none⟩=some (.int .i64 k.2):=Du.out.cell 1;have m0:((W.setCell ⟨w1.heap.size,0,none⟩ (.int .i64 up.1)).setCell ⟨w1.heap.size,1,none⟩ (.int .i64 up.2)).cell? ⟨w1.heap.size,0,none⟩=some (.int .i64 up.1):=Oj.out.cell 0;have m1:((W.setCell ⟨w1.heap.size,0,none⟩ (.int .i64 up.1)).setCell ⟨w1.heap.size,1,none⟩ (.int .i64 up.2)).cell? ⟨w1.heap.size,1,none⟩=some (.int .i64 up.2):=Oj.out.cell 1;have m2:((W.setCell ⟨w1.heap.size,0,none⟩ (.int .i64 up.1)).setCell ⟨w1.heap.size,1,none⟩ (.int .i64 up.2)).cell? ⟨w1.heap.size,2,none⟩=some (.int .i64 n.left.1):=Oj.out.cell 2;have m3:((W.setCell ⟨w1.heap.size,0,none⟩ (.int .i64 up.1)).setCell ⟨w1.heap.size,1,none⟩ (.int .i64 up.2)).cell? ⟨w1.heap.size,3,none⟩=some (.int .i64 n.left.2):=Oj.out.cell 3;have m4:((W.setCell ⟨w1.heap.size,0,none⟩ (.int .i64 up.1)).setCell ⟨w1.heap.size,1,none⟩ (.int .i64 up.2)).cell? ⟨w1.heap.size,4,none⟩=some (.int .i64 n.right.1):=Oj.out.cell 4;have m5:((W.setCell ⟨w1.heap.size,0,none⟩ (.int .i64 up.1)).setCell ⟨w1.heap.size,1,none⟩ (.int .i64 up.2)).cell? ⟨w1.heap.size,5,none⟩=some (.int .i64 n.right.2):=Oj.out.cell 5;have m6:((W.setCell ⟨w1.heap.size,0,none⟩ (.int .i64 up.1)).setCell ⟨w1.heap.size,1,none⟩ (.int .i64 up.2)).cell? ⟨w1.heap.size,6,none⟩=some (.int .i64 n.count):=Oj.out.cell 6;have m7:((W.setCell ⟨w1.heap.size,0,none⟩ (.int .i64 up.1)).setCell ⟨w1.heap.size,1,none⟩ (.int .i64 up.2)).cell? ⟨w1.heap.size,7,none⟩=some (.int .i64 n.height):=Oj.out.cell 7;clear wZ BA lH jl lG kE HU5;go_wp2_with fail
  refine aac (Xy.out _ yS) ?_;rintro e w7 ⟨rfl,Z8,y7⟩;have dZ:∀g,w.heap.size<=g->¬F g:=λg hg a=>by have:=aQ.out g a;omega
  have nJ:=ah (y7.blk mQ (dZ _ ak));have ZW:=ah (y7.blk Oj (dZ _ ak));have HS7:=ah Z8;have xA:Hid (Fr F w w7):=ah (vS.out.trans y7);have l7:=nJ.out.lt;clear Z8 y7 k0 k1 m0 m1 m2 m3 m4 m5 m6 m7 n0 n1 p0 p1 fn0 fn1 Du mQ yS vS Oj Xy dZ;have t0:w7.cell? ⟨w.heap.size+2,0,none⟩=some (.int .i64 0):=nJ.out.cell 0;have ft0:=nJ.out.frozen 0;have t1:w7.cell? ⟨w.heap.size+2,1,none⟩=some (.int .i64 0):=nJ.out.cell 1;have ft1:=nJ.out.frozen 1;have t2:w7.cell? ⟨w.heap.size+2,2,none⟩=some (.int .i64 0):=nJ.out.cell 2;have ft2:=nJ.out.frozen 2;have t3:w7.cell? ⟨w.heap.size+2,3,none⟩=some (.int .i64 0):=nJ.out.cell 3;have ft3:=nJ.out.frozen 3;have t4:w7.cell? ⟨w.heap.size+2,4,none⟩=some (.int .i64 0):=nJ.out.cell 4;have ft4:=nJ.out.frozen 4;have t5:w7.cell? ⟨w.heap.size+2,5,none⟩=some (.int .i64 0):=nJ.out.cell 5;have ft5:=nJ.out.frozen 5;have t6:w7.cell? ⟨w.heap.size+2,6,none⟩=some (.int .i64 0):=nJ.out.cell 6;have ft6:=nJ.out.frozen 6;have t7:w7.cell? ⟨w.heap.size+2,7,none⟩=some (.int .i64 0):=nJ.out.cell 7;have ft7:=nJ.out.frozen 7;have m0:w7.cell? ⟨w1.heap.size,0,none⟩=some (.int .i64 up.1):=ZW.out.cell 0;have m1:w7.cell? ⟨w1.heap.size,1,none⟩=some (.int .i64 up.2):=ZW.out.cell 1;have m2:w7.cell? ⟨w1.heap.size,2,none⟩=some (.int .i64 n.left.1):=ZW.out.cell 2;have m3:w7.cell? ⟨w1.heap.size,3,none⟩=some (.int .i64 n.left.2):=ZW.out.cell 3;have m4:w7.cell? ⟨w1.heap.size,4,none⟩=some (.int .i64 n.right.1):=ZW.out.cell 4;have m5:w7.cell? ⟨w1.heap.size,5,none⟩=some (.int .i64 n.right.2):=ZW.out.cell 5;have m6:w7.cell? ⟨w1.heap.size,6,none⟩=some (.int .i64 n.count):=ZW.out.cell 6;have m7:w7.cell? ⟨w1.heap.size,7,none⟩=some (.int .i64 n.height):=ZW.out.cell 7;go_wp2;refine bodyPost_ret (eF mG rfl rfl (oW nJ) rfl) rfl ?_;exact⟨rfl,HS7.out.far HK nJ ak mJ ay ay ay ay,xA.out.newer mJ ak⟩
end
end Go.Proofs.YtadnmegdbllaoaaGreatDoor
namespace Sq
open Bt
def hgS(S:St)(up:Tok):Bt->St
 | .nil=>S
 | .node l k r=>upd S k (nd up l r)
theorem afm{S:St}{k:Tok}{n:TN}(h:S k=some n):upd S k n=S:=by
 funext j
 unfold upd;split
 ·rename_i e;rw[e,h]
 ·rfl
theorem uf(S:St)(up:Tok)(t:Bt):Same t.list S (hgS S up t):=by
 cases t with
 |nil=>exact Same.refl _ _
 |node l k r=>exact(wL S k _).more λx hx=>by rw[List.mem_singleton]at hx;subst hx;simp[list]
theorem zN{S:St}{up:Tok}{t:Bt}(h:Sub S t)(hn:t.list.Nodup):eY (hgS S up t) up t:=by
 cases t with
 |nil=>trivial
 |node l k r=>
  obtain⟨up0,h⟩:=h;exact ae8 up h hn
def Q5(S:St)(l:Bt)(k:Tok)(r:Bt):St:=upd (hgS (hgS S k l) k r) k (nd dn l r)
theorem Zr{S:St}{l r:Bt}{k:Tok}(hl:Sub S l)(hr:Sub S r)(hn:(node l k r).list.Nodup):Sub (hgS S k l) r/\hgS (hgS S k l) k r k=S k/\eY (Q5 S l k r) dn (node l k r)/\Same (node l k r).list S (Q5 S l k r):=by
 obtain⟨n1,n2,n3,n4,n5⟩:=nodup_node hn;have s1:=uf S k l;have s2:=uf (hgS S k l) k r;have h1:=zN (up:=k) hl n1;have uG:Sub (hgS S k l) r:=hr.same s1 λx hx hm=>n5 x hm hx;have h2:=zN (up:=k) uG n2;have YA:eY (hgS (hgS S k l) k r) k l:=h1.same s2 λx hx hm=>n5 x hx hm;refine⟨uG,(s2 k n4).trans (s1 k n3),ae9 YA h2 hn,λx hx=> ?_⟩;have hx':x ∉ l.list/\x≠k/\x ∉ r.list:=by simpa[list]using hx
 unfold Q5 upd;rw[if_neg hx'.2.1];exact(s2 x hx'.2.2).trans (s1 x hx'.1)
theorem akz{S:St}(hS:∀x n,S x=some n->yR x/\n.Ok){t:Bt}(h:Sub S t):yH t.rt:=by
 cases t with
 |nil=>exact .inr rfl
 |node l k r=>
  obtain⟨up,h1,_⟩:=h;exact .inl (hS _ _ h1).1
end Sq
namespace Go.Proofs.YtadnmegdbllaoaaGreatDoor
open Go.RowKit Go.Shelf Sq Tryz
theorem KZ:∀args w,(callFunc 101 args).run prog w= .ok (.enter 101 args) w:=λargs w=>by kernel_rfl
section
variable {F:Nat->Prop}{B u0 q m:Nat}{T:List bT->Nat->World->Prop}{S:St}{w w':World}{l r t:Bt}{k up:Tok}
theorem Lc(K:Kv F B u0 T)(h:aZ B u0 q T S m w)(ht:Sub S t)(hup:yH up):Calls prog 101 #[.pointer (some ⟨q,0,none⟩),aG t.rt,aG up] w λe w'=>e= .returned (pY (tv up t))/\aZ B u0 q T (hgS S up t) m w'/\Fr F w w':=by
 cases t with
 |nil=>exact afk K h
 |node l k r=>
  obtain⟨up0,h1,_⟩:=ht;by_cases e:up0=up
  ·subst e;have:=abV K h h1 (up:=up0) rfl
   rwa [show hgS S up0 (.node l k r)=S from afm h1]
  ·exact afl K h h1 e hup
theorem UR(K:Kv F B u0 T)(h:aZ B u0 q T S (m+dS S k) w)(hl:Sub S l)(hr:Sub S r)(hn:(Bt.node l k r).list.Nodup)(hk:yR k)(hc:l.cnt+r.cnt+1<=250):Calls prog 74 #[.pointer (some ⟨q,0,none⟩),aG k,aG l.rt,aG r.rt] w λe w'=>e= .returned (aG k)/\aZ B u0 q T (Q5 S l k r) m w'/\Fr F w w':=by
 obtain⟨uG,hd,_,_⟩:=Zr hl hr hn;have zX:=akz h.ok hl;have Wp:=akz h.ok hr;have Ik:=Bt.lC l;have Jv:=Bt.lC r;have N8:dS (hgS (hgS S k l) k r) k=dS S k:=by unfold dS;rw[hd]
 have jA:(nd dn l r).Ok:=⟨.inr rfl,zX,Wp,by show l.cnt+r.cnt+1<_;omega,by show max l.ht r.ht+1<_;omega⟩;have HG1:=ah (λW (hW:aZ B u0 q T S (m+dS S k) W)=>Lc K hW hl (up:=k) (.inl hk));have Sl:=ah (λW (hW:aZ B u0 q T (hgS S k l) (m+dS S k) W)=>Lc K hW uG (up:=k) (.inl hk));have HN:=ah (λW=>dX W);obtain⟨lt,hlt⟩:=aJ (l.rt);obtain⟨rt,gy⟩:=aJ (r.rt)
 have Xy:Hid (∀W,aZ B u0 q T (hgS (hgS S k l) k r) (m+dS S k) W->Calls prog 102 #[.pointer (some ⟨q,0,none⟩),aG k,pY ⟨dn,lt,rt,l.cnt+r.cnt+1,max l.ht r.ht+1⟩] W λe w'=>e= .returned (.tuple #[])/\aZ B u0 q T (Q5 S l k r) m w'/\Fr F W w'):=ah λW hW=>by
  have:=UQ K (m:=m) (S:=hgS (hgS S k l) k r) (k:=k) (by rw[N8];exact hW) hk jA;rw[show nd dn l r=⟨dn,lt,rt,l.cnt+r.cnt+1,max l.ht r.ht+1⟩by rw[hlt,gy];rfl]at this;unfold Q5;rw[show nd dn l r=⟨dn,lt,rt,l.cnt+r.cnt+1,max l.ht r.ht+1⟩by rw[hlt,gy];rfl];exact this
 rw[<-hlt]at HG1 ⊢;rw[<-gy]at Sl ⊢;have bD:=(aai w.heap.size w).alloc aK (.cells (aI k) 71);have bK:=bD.alloc bD.size (.cells (aI lt) 71);have dJ:=bK.alloc bK.size (.cells (aI rt) 71);have iC:=dJ.alloc dJ.size (.cells #[.int .i64 0, .int .i64 0] 71);have Ce:=(((aO.new w 71 (aI k)).alloc (.cells (aI lt) 71)).alloc (.cells (aI rt) 71)).alloc (.cells #[.int .i64 0, .int .i64 0] 71);have yP:=((aO.new (w.alloc (.cells (aI k) 71)) 71 (aI lt)).alloc (.cells (aI rt) 71)).alloc (.cells #[.int .i64 0, .int .i64 0] 71);have qm:=(aO.new ((w.alloc (.cells (aI k) 71)).alloc (.cells (aI lt) 71)) 71 (aI rt)).alloc (.cells #[.int .i64 0, .int .i64 0] 71);have vw:=aO.new (((w.alloc (.cells (aI k) 71)).alloc (.cells (aI lt) 71)).alloc (.cells (aI rt) 71)) 71 #[.int .i64 0, .int .i64 0];rw[aad]at yP;rw[aad,aad]at qm;rw[aad,aad,aad]at vw;have Ol:=h.self.lt;have rF:=h.hq;have jY:=ah Ce;have qc:=ah yP;have kV:=ah qm;have rG:=ah vw;have oD:=ah iC;have HK:=ah K;have lD:=ah (h.below K iC);have aQ:Hid (∀k,F k->k<B):=ah K.low;have HTC:=ah (fun(u:Tok) (t:Bt)=>vN u t);have HTH:=ah (fun(u:Tok) (t:Bt)=>kP u t);clear Ce yP qm vw bD bK dJ iC h K hl hr hn hk uG hd zX Wp N8 jA hlt gy;go_enter func74,ntmps74
 go_wp2_with fail
 have hz:=oD.out.size;have yU:=rG.out.lt
 refine aP (λu=>⟨#[_,_,_,_,_,_,_,_,_,u 8,u 9,u 0,u 1,u 2,u 3,u 4,u 5,u 6,u 7,_,_,_,_,_,_,_,_,_,_,_,_,_,_,_,_,_,_,_,_],_⟩)
  [bf q 0,
   aF (aG (lt)),
   aF (aG (k)),
   aF (pY (tv k l)),
   bf q 0,
   aF (aG (rt)),
   aF (aG (k)),
   aF (pY (tv k r)),
   Fl.box _ 124 sF,
   Fl.box _ 124 sF,
   Fl.fill _ 8 124 (fO (tv k l)),
   Fl.fill _ 9 124 (fO (tv k r))]
  F [3,7] (λj W=>dG B u0 q T (m+dS S k) (λS1=>match j with | 0=>S1=S | 1=>S1=hgS S k l | _=>S1=hgS (hgS S k l) k r) W) aV aV [] rfl aH (by simp<;>omega) (λk hk=>⟨by have:=aQ.out k hk;omega,by simp⟩) ⟨λ_=>undef,rfl⟩ (⟨S,lD.out.below HK aU.drew,rfl⟩) ?_ ?_ ?_
 ·intro i o hi ho u W hf hold aj jP;have aW:=fw aQ hf jY;have dI:=fw aQ hf qc;have fQ:=fw aQ hf kV
  match i,ho with
  |0,ho|4,ho=>exact sv ho (bg rfl rfl)
  |1,ho=>exact sv ho (aC rfl rfl (dI.cell 0) (dI.cell 1))
  |2,ho|6,ho=>exact sv ho (aC rfl rfl (aW.cell 0) (aW.cell 1))
  |3,ho|7,ho=>
   exact absurd aH hi
  |5,ho=>exact sv ho (aC rfl rfl (fQ.cell 0) (fQ.cell 1))
  |8,ho|9,ho=>
   obtain rfl:=aA ho;exact aY.mem (oZ rfl) rfl rfl rfl ⟨_,rfl⟩ (.inl rfl) (λ_ h=>dG.below HK h (aU.alloc aK _))
  |10,ho=>
   obtain rfl:=aA ho;obtain⟨iR,gI⟩:=jP 8 rfl;have jd:=gI _ _ rfl;obtain⟨bz,jw⟩:=aj 8 rfl;rw[jw]at iR jd;change _<=bz at iR;change aO W bz _ _ at jd;exact aY.oh (ig rfl jw (aj 3 rfl) jd) rfl rfl rfl jw iR (λ_ dK=>(λ_ h=>dG.far HK h jd ak dK ay ay ay ay))
  |11,ho=>
   obtain rfl:=aA ho;obtain⟨iR,gI⟩:=jP 9 rfl;have jd:=gI _ _ rfl;obtain⟨bz,jw⟩:=aj 9 rfl;rw[jw]at iR jd;change _<=bz at iR;change aO W bz _ _ at jd;exact aY.oh (ig rfl jw (aj 7 rfl) jd) rfl rfl rfl jw iR (λ_ dK=>(λ_ h=>dG.far HK h jd ak dK ay ay ay ay))
  |n+12,ho=>exact absurd ho aH
 ·intro t i o ht ho u W hf bG aj;have aW:=fw aQ hf jY;have dI:=fw aQ hf qc;have fQ:=fw aQ hf kV
  match t,ht with
  |0,ht=>
   have ht:=aA ht;subst ht;obtain rfl:=aA ho;refine⟨aB rfl,Does.call (lQ KZ rfl (aj 0 rfl) (aj 1 rfl) (aj 2 rfl)) ?_⟩;obtain⟨S1,hs,hp⟩:dG B u0 q T (m+dS S k) (λS1=>S1=S) W:=bG;refine aac (HG1.out W (hp ▸ hs)) ?_;rintro e w' ⟨rfl,h1,h2⟩;exact⟨_,rfl,rfl,rfl,h2,_,h1,rfl⟩
  |1,ht=>
   have ht:=aA ht;subst ht;obtain rfl:=aA ho;refine⟨aB rfl,Does.call (lQ KZ rfl (aj 4 rfl) (aj 5 rfl) (aj 6 rfl)) ?_⟩;obtain⟨S1,hs,hp⟩:dG B u0 q T (m+dS S k) (λS1=>S1=hgS S k l) W:=bG;refine aac (Sl.out W (hp ▸ hs)) ?_;rintro e w' ⟨rfl,h1,h2⟩;exact⟨_,rfl,rfl,rfl,h2,_,h1,rfl⟩
  |n+2,ht=>exact absurd ht aH
 ·intro u W hf bG au;have aW:=fw aQ hf jY;have dI:=fw aQ hf qc;have fQ:=fw aQ hf kV;have e0:=au.q 0;have e1:=au.q 1;have e2:=au.q 2;have e3:=au.q 3;have e4:=au.q 4;have e5:=au.q 5;have e6:=au.q 6;have e7:=au.q 7;obtain⟨b8,e8⟩:∃b,u 8= .pointer (some ⟨b,0,none⟩):=au.p 8 ay trivial;obtain⟨b9,e9⟩:∃b,u 9= .pointer (some ⟨b,0,none⟩):=au.p 9 ay trivial;have Ld:=(au.p 10 ay trivial);change _<=mX (u 8)/\aO W (mX (u 8)) _ _ at Ld;rw[e8]at Ld;have hl8:=Ld.1;change _<=b8 at hl8
  replace Ld:=Ld.2
  change aO W b8 _ _ at Ld;have lS:=(au.p 11 ay trivial);change _<=mX (u 9)/\aO W (mX (u 9)) _ _ at lS;rw[e9]at lS;have hl9:=lS.1;change _<=b9 at hl9
  replace lS:=lS.2
  change aO W b9 _ _ at lS;simp only[e0,e1,e2,e3,e4,e5,e6,e7,e8,e9];have dZ:∀g,w.heap.size<=g->¬ (F g\/g∈([]:List Nat)):=λg hg a=>a.elim (λa=>by have:=aQ.out g a;omega) (λa=>by simp at a);obtain⟨S1,hs,hp⟩:dG B u0 q T (m+dS S k) (λS1=>S1=hgS (hgS S k l) k r) W:=bG;have EX:Fr F w W:=(Fr.of_below oD).trans (hf.more λ_=>eu);have dL:b8≠b9:=λe=>au.ne 8 9 ay ay trivial trivial rfl rfl ay (by rw[e8,e9,e]);have Ac:=hf.size;have lH:=ah (hf.blk jY (dZ _ aK));have xg:=ah (hf.blk qc (dZ _ ak));have nX:=ah (hf.blk kV (dZ _ ak));have jl:=ah (hf.blk rG (dZ _ ak));have lG:Hid (aZ B u0 q T (hgS (hgS S k l) k r) (m+dS S k) W):=ah (hp ▸ hs);have kE:=ah EX;obtain⟨tx,pU⟩:=aJ (tv k l);obtain⟨ty,uy⟩:=aJ (tv k r);have hxc:tx.count=l.cnt:=pU ▸ HTC.out k l;have Bc:tx.height=l.ht:=pU ▸ HTH.out k l;have hyc:ty.count=r.cnt:=uy ▸ HTC.out k r;have Bf:ty.height=r.ht:=uy ▸ HTH.out k r;rw[<-pU]at Ld ⊢;rw[<-uy]at lS ⊢;have HX:=ah Ld;have HY:=ah lS;have HXC:=ah hxc;have I7:=ah Bc;have HYC:=ah hyc;have I8:=ah Bf;obtain⟨w5,oI⟩:=aJ (W);rw[<-oI]at HX HY lH xg nX jl lG kE Ac ⊢;clear au hf hs hp EX dZ aW dI fQ jY qc kV rG lD oD HG1 Sl HTC HTH hxc Bc hyc Bf Ld lS pU uy e0 e1 e2 e3 e4 e5 e6 e7 e8 e9 oI u W;go_wp2_with fail
  refine aP (λu=>⟨#[_,_,_,_,_,_,_,_,_,_,_,_,_,_,_,_,_,_,_,u 0,u 1,u 2,u 3,u 4,u 5,u 6,u 7,u 8,u 9,u 10,u 11,u 12,u 13,u 14,u 15,u 16,u 17,u 18,_],_⟩)
   [bf q 0,
    aF (aG (k)),
    aF (aG (dn)),
    aF (aG (lt)),
    aF (aG (rt)),
    bf b8 6,
    aF (.int .i64 (((l.cnt:Nat):Int))),
    bf b9 6,
    aF (.int .i64 (((r.cnt:Nat):Int))),
    aF (.int .i64 (((l.cnt+r.cnt:Nat):Int))),
    aF (.int .i64 (((l.cnt+r.cnt+1:Nat):Int))),
    bf b8 7,
    aF (.int .i64 (((l.ht:Nat):Int))),
    bf b9 7,
    aF (.int .i64 (((r.ht:Nat):Int))),
    aF (.int .i64 (((max l.ht r.ht:Nat):Int))),
    aF (.int .i64 (((max l.ht r.ht+1:Nat):Int))),
    aF (pY (⟨dn,lt,rt,l.cnt+r.cnt+1,max l.ht r.ht+1⟩)),
    aF (.tuple #[])]
   F [2,18] (λj W=>dG B u0 q T (match j with | 2=>m | _=>m+dS S k) (λS1=>match j with | 2=>S1=Q5 S l k r | _=>S1=hgS (hgS S k l) k r) W) aV aV [] rfl aH (by simp<;>omega) (λk hk=>⟨by have:=aQ.out k hk;omega,by simp⟩) ⟨λ_=>undef,rfl⟩ (⟨_,lG.out.below HK aU.drew,rfl⟩) ?_ ?_ ?_
  ·intro i o hi ho u W hf hold aj jP;have aW:=fw aQ hf lH;have dI:=fw aQ hf xg;have fQ:=fw aQ hf nX;have nY:=fw aQ hf HX;have Om:=fw aQ hf HY
   match i,ho with
   |0,ho=>exact sv ho (bg rfl rfl)
   |1,ho=>exact sv ho (aC rfl rfl (aW.cell 0) (aW.cell 1))
   |2,ho|18,ho=>
    exact absurd aH hi
   |3,ho=>exact sv ho (aC rfl rfl (dI.cell 0) (dI.cell 1))
   |4,ho=>exact sv ho (aC rfl rfl (fQ.cell 0) (fQ.cell 1))
   |5,ho|7,ho=>exact sv ho (F7 rfl rfl)
   |6,ho=>exact sv ho (jS rfl (aj 5 rfl) (nY.cell 6)) (hp:=(by show acS _ _=_;rw[HXC.out]))
   |8,ho=>exact sv ho (jS rfl (aj 7 rfl) (Om.cell 6)) (hp:=(by show acS _ _=_;rw[HYC.out]))
   |9,ho=>exact sv ho (FN rfl (aj 6 rfl) (aj 8 rfl)) (hp:=(by show acS _ (IntKind.i64.wrap _)=acS _ _;rw[acK _ ak];exact congrArg (acS _) ak))
   |10,ho=>exact sv ho (FN rfl (aj 9 rfl) rfl) (hp:=(by show acS _ (IntKind.i64.wrap _)=acS _ _;rw[acK _ ak];exact congrArg (acS _) ak))
   |11,ho|13,ho=>exact sv ho (Po rfl rfl)
   |12,ho=>exact sv ho (jS rfl (aj 11 rfl) (nY.cell 7)) (hp:=(by show acS _ _=_;rw[I7.out]))
   |14,ho=>exact sv ho (jS rfl (aj 13 rfl) (Om.cell 7)) (hp:=(by show acS _ _=_;rw[I8.out]))
   |15,ho=>exact sv ho (amK rfl (aj 12 rfl) (aj 14 rfl) rfl rfl) (hp:=(by show acS _ (max _ _)=acS _ _;exact congrArg (acS _) ak))
   |16,ho=>exact sv ho (FN rfl (aj 15 rfl) rfl) (hp:=(by show acS _ (IntKind.i64.wrap _)=acS _ _;rw[acK _ ak];exact congrArg (acS _) ak))
   |17,ho=>exact sv ho (afg rfl (aj 2 rfl) (aj 3 rfl) (aj 4 rfl) (aj 10 rfl) (aj 16 rfl))
   |n+19,ho=>exact absurd ho aH
  ·intro t i o ht ho u W hf bG aj;have aW:=fw aQ hf lH;have dI:=fw aQ hf xg;have fQ:=fw aQ hf nX;have nY:=fw aQ hf HX;have Om:=fw aQ hf HY
   match t,ht with
   |0,ht=>
    have ht:=aA ht;subst ht;obtain rfl:=aA ho;refine⟨aB rfl,Does.call (fV dP rfl ) ?_⟩;obtain⟨S1,hs,hp⟩:dG B u0 q T (m+dS S k) (λS1=>S1=hgS (hgS S k l) k r) W:=bG;refine aac (HN.out W) ?_;rintro e w' ⟨rfl,hb⟩;exact⟨_,rfl,rfl,rfl, .of_below hb,S1,hs.below HK hb,hp⟩
   |1,ht=>
    have ht:=aA ht;subst ht;obtain rfl:=aA ho;refine⟨aB rfl,Does.call (lQ abU rfl (aj 0 rfl) (aj 1 rfl) (aj 17 rfl)) ?_⟩;obtain⟨S1,hs,hp⟩:dG B u0 q T (m+dS S k) (λS1=>S1=hgS (hgS S k l) k r) W:=bG;refine aac (Xy.out W (hp ▸ hs)) ?_;rintro e w' ⟨rfl,h1,h2⟩;exact⟨_,rfl,rfl,rfl,h2,_,h1,rfl⟩
   |n+2,ht=>exact absurd ht aH
  ·intro u W hf bG au;have aW:=fw aQ hf lH;have dI:=fw aQ hf xg;have fQ:=fw aQ hf nX;have nY:=fw aQ hf HX;have Om:=fw aQ hf HY;simp only[au.q 0,au.q 1,au.q 2,au.q 3,au.q 4,au.q 5,au.q 6,au.q 7,au.q 8,au.q 9,au.q 10,au.q 11,au.q 12,au.q 13,au.q 14,au.q 15,au.q 16,au.q 17,au.q 18];have dZ:∀g,w.heap.size<=g->¬ (F g\/g∈([]:List Nat)):=λg hg a=>a.elim (λa=>by have:=aQ.out g a;omega) (λa=>by simp at a);obtain⟨S1,hs,hp⟩:dG B u0 q T m (λS1=>S1=Q5 S l k r) W:=bG;have yS:Hid (aZ B u0 q T (Q5 S l k r) m W):=ah (hp ▸ hs);have vS:Hid (Fr F w W):=ah (kE.out.trans (hf.more λ_=>eu));have mQ:=ah (hf.blk jl (dZ _ ak));have k0:W.cell? ⟨w.heap.size,0,none⟩=some (.int .i64 k.1):=aW.cell 0;have k1:W.cell? ⟨w.heap.size,1,none⟩=some (.int .i64 k.2):=aW.cell 1;have t0:=mQ.out.cell 0;have t1:=mQ.out.cell 1;have f0:=mQ.out.frozen 0;have f1:=mQ.out.frozen 1;clear au hf hs hp dZ aW dI fQ nY Om lH xg nX jl lG kE HX HY;go_wp2;refine bodyPost_ret (eF dW rfl rfl (nD (p:=k) mQ) rfl) rfl ?_;exact⟨rfl,yS.out.far HK mQ ak jM ay ay ay ay,vS.out.newer jM ak⟩
end
end Go.Proofs.YtadnmegdbllaoaaGreatDoor
namespace Sq
open Bt
structure Mk(S S':St)(t:Bt):Prop where
 hang:eY S' dn t
 same:Same t.list S S'
section
variable {S S1 S2 S3:St}{la lb ma mb l r ra rb t t1 t2:Bt}{lk mk k rk:Tok}
theorem Mk.sub(h:Mk S S1 t1):Sub S1 t1:=⟨_,h.hang⟩
theorem Mk.keep(h:Mk S S1 t1)(hs:Sub S t)(hd:∀x,x∈t.list->x ∉ t1.list):Sub S1 t:=hs.same h.same hd
theorem Mk.after(h:Mk S S1 t1)(h2:Mk S1 S2 t2)(MJ:∀x,x∈t1.list->x∈t2.list):Mk S S2 t2:=⟨h2.hang,(h.same.more MJ).trans h2.same⟩
theorem apart{a b:List Tok}(h:(a++b).Nodup):a.Nodup/\b.Nodup/\∀x,x∈a->x ∉ b:=by
 rw[List.nodup_append]at h;exact⟨h.1,h.2.1,λx h1 h2=>h.2.2 x h1 x h2 rfl⟩
theorem Sub.kids(h:Sub S (node l k r)):eY S k l/\eY S k r/\∃n,S k=some n:=by
 obtain⟨up,h1,h2,h3⟩:=h;exact⟨h2,h3,_,h1⟩
theorem aiK(hl:Sub S (node la lk lb))(hn:(node (node la lk lb) k r).list.Nodup):
  (node lb k r).list.Nodup/\(node la lk (node lb k r)).list.Nodup/\∀S1,Mk S S1 (node lb k r)->Sub S1 la/\(∃n,S1 lk=some n)/\∀S2,Mk S1 S2 (node la lk (node lb k r))->Mk S S2 (node la lk (node lb k r)):=by
 have e:(node la lk (node lb k r)).list=(node (node la lk lb) k r).list:=by simp[list]
 have e2:(node (node la lk lb) k r).list=(la.list++ [lk])++(node lb k r).list:=by simp[list]
 have uF:=hn;rw[e2]at uF;obtain⟨n1,n2,n3⟩:=apart uF;obtain⟨h1,h2,n,h3⟩:=hl.kids;refine⟨n2,e ▸ hn,λS1 hm=>⟨hm.keep ⟨_,h1⟩ λx hx=>n3 x (by simp[hx]),⟨n,(hm.same lk (n3 lk (by simp))).trans h3⟩,λS2 AX=>hm.after AX λx hx=>by rw[e,e2];exact acL _ hx⟩⟩
theorem aiL(hl:Sub S (node la lk (node ma mk mb)))(hr:Sub S r)(hn:(node (node la lk (node ma mk mb)) k r).list.Nodup)(hk:∃n,S k=some n):
  Sub S la/\Sub S ma/\(∃n,S lk=some n)/\(node la lk ma).list.Nodup/\(node mb k r).list.Nodup/\(node (node la lk ma) mk (node mb k r)).list.Nodup/\
  ∀S1,Mk S S1 (node la lk ma)->Sub S1 mb/\Sub S1 r/\(∃n,S1 k=some n)/\∀S2,Mk S1 S2 (node mb k r)->Sub S2 (node la lk ma)/\(∃n,S2 mk=some n)/\
   ∀S3,Mk S2 S3 (node (node la lk ma) mk (node mb k r))->Mk S S3 (node (node la lk ma) mk (node mb k r)):=by
 have e:(node (node la lk ma) mk (node mb k r)).list=(node (node la lk (node ma mk mb)) k r).list:=by simp[list]
 have e2:(node (node la lk (node ma mk mb)) k r).list=(node la lk ma).list++([mk]++(node mb k r).list):=by simp[list]
 have uF:=hn;rw[e2]at uF;obtain⟨n1,n2,n3⟩:=apart uF;obtain⟨n4,n5,n6⟩:=apart n2;obtain⟨h1,h2,n,h3⟩:=hl.kids;obtain⟨h4,h5,n',h6⟩:=(show Sub S (node ma mk mb)from⟨_,h2⟩).kids;obtain⟨nk,hk⟩:=hk;refine⟨⟨_,h1⟩,⟨_,h4⟩,⟨_,h3⟩,n1,n5,e ▸ hn,λS1 hm=> ?_⟩;have hd:∀x,x∈(node mb k r).list->x ∉ (node la lk ma).list:=λx hx jB=>n3 x jB (acL _ hx);refine⟨hm.keep ⟨_,h5⟩ λx hx=>hd x (by simp[list,hx]),hm.keep hr λx hx=>hd x (by simp[list,hx]),⟨nk,(hm.same k (hd k (by simp[list]))).trans hk⟩,λS2 AX=> ?_⟩;refine⟨AX.keep hm.sub λx hx jB=>hd x jB hx,⟨n',(AX.same mk (n6 mk (by simp))).trans ((hm.same mk (λhx=>n3 mk hx (by simp))).trans h6)⟩,λS3 hm3=> ?_⟩;have jr:∀x,x∈(node la lk ma).list->x∈(node (node la lk ma) mk (node mb k r)).list:=λx hx=>by rw[e,e2];exact acM _ hx
 have mW:∀x,x∈(node mb k r).list->x∈(node (node la lk ma) mk (node mb k r)).list:=λx hx=>by rw[e,e2];exact acL _ (acL _ hx)
 exact⟨hm3.hang,(hm.same.more jr).trans ((AX.same.more mW).trans hm3.same)⟩
theorem aiM(hr:Sub S (node ra rk rb))(hn:(node l k (node ra rk rb)).list.Nodup):
  (node l k ra).list.Nodup/\(node (node l k ra) rk rb).list.Nodup/\Sub S ra/\∀S1,Mk S S1 (node l k ra)->Sub S1 rb/\(∃n,S1 rk=some n)/\∀S2,Mk S1 S2 (node (node l k ra) rk rb)->Mk S S2 (node (node l k ra) rk rb):=by
 have e:(node (node l k ra) rk rb).list=(node l k (node ra rk rb)).list:=by simp[list]
 have e2:(node l k (node ra rk rb)).list=(node l k ra).list++([rk]++rb.list):=by simp[list]
 have uF:=hn;rw[e2]at uF;obtain⟨n1,n2,n3⟩:=apart uF;obtain⟨h1,h2,n,h3⟩:=hr.kids;refine⟨n1,e ▸ hn,⟨_,h1⟩,λS1 hm=>⟨hm.keep ⟨_,h2⟩ λx hx jB=>n3 x jB (by simp[hx]),⟨n,(hm.same rk (λhx=>n3 rk hx (by simp))).trans h3⟩,λS2 AX=>hm.after AX λx hx=>by rw[e,e2];exact acM _ hx⟩⟩
theorem aiN(hr:Sub S (node (node ma mk mb) rk rb))(hn:(node l k (node (node ma mk mb) rk rb)).list.Nodup):
  Sub S ma/\(node l k ma).list.Nodup/\(node mb rk rb).list.Nodup/\(node (node l k ma) mk (node mb rk rb)).list.Nodup/\
  ∀S1,Mk S S1 (node l k ma)->Sub S1 mb/\Sub S1 rb/\(∃n,S1 rk=some n)/\∀S2,Mk S1 S2 (node mb rk rb)->Sub S2 (node l k ma)/\(∃n,S2 mk=some n)/\
   ∀S3,Mk S2 S3 (node (node l k ma) mk (node mb rk rb))->Mk S S3 (node (node l k ma) mk (node mb rk rb)):=by
 have e:(node (node l k ma) mk (node mb rk rb)).list=(node l k (node (node ma mk mb) rk rb)).list:=by simp[list]
 have e2:(node l k (node (node ma mk mb) rk rb)).list=(node l k ma).list++([mk]++(node mb rk rb).list):=by simp[list]
 have uF:=hn;rw[e2]at uF;obtain⟨n1,n2,n3⟩:=apart uF;obtain⟨n4,n5,n6⟩:=apart n2;obtain⟨h1,h2,n,h3⟩:=hr.kids;obtain⟨h4,h5,n',h6⟩:=(show Sub S (node ma mk mb)from⟨_,h1⟩).kids;refine⟨⟨_,h4⟩,n1,n5,e ▸ hn,λS1 hm=> ?_⟩;have hd:∀x,x∈(node mb rk rb).list->x ∉ (node l k ma).list:=λx hx jB=>n3 x jB (acL _ hx);refine⟨hm.keep ⟨_,h5⟩ λx hx=>hd x (by simp[list,hx]),hm.keep ⟨_,h2⟩ λx hx=>hd x (by simp[list,hx]),⟨n,(hm.same rk (hd rk (by simp[list]))).trans h3⟩,λS2 AX=> ?_⟩;refine⟨AX.keep hm.sub λx hx jB=>hd x jB hx,⟨n',(AX.same mk (n6 mk (by simp))).trans ((hm.same mk (λhx=>n3 mk hx (by simp))).trans h6)⟩,λS3 hm3=> ?_⟩;have jr:∀x,x∈(node l k ma).list->x∈(node (node l k ma) mk (node mb rk rb)).list:=λx hx=>by rw[e,e2];exact acM _ hx
 have mW:∀x,x∈(node mb rk rb).list->x∈(node (node l k ma) mk (node mb rk rb)).list:=λx hx=>by rw[e,e2];exact acL _ (acL _ hx)
 exact⟨hm3.hang,(hm.same.more jr).trans ((AX.same.more mW).trans hm3.same)⟩
theorem aiO(hl:Sub S (node la lk lb))(hn:(node (node la lk lb) k r).list.Nodup):
  (node lb k r).list.Nodup/\(node la lk (link lb k r)).list.Nodup/\Sub S lb/\∀S1,Mk S S1 (link lb k r)->Sub S1 la/\(∃n,S1 lk=some n)/\∀S2,Mk S1 S2 (bal la lk (link lb k r))->Mk S S2 (bal la lk (link lb k r)):=by
 have e:(node la lk (link lb k r)).list=(node (node la lk lb) k r).list:=by simp[list,dD]
 have e2:(node (node la lk lb) k r).list=(la.list++ [lk])++(node lb k r).list:=by simp[list]
 have e3:(link lb k r).list=(node lb k r).list:=dD _ _ _;have uF:=hn;rw[e2]at uF;obtain⟨n1,n2,n3⟩:=apart uF;obtain⟨h1,h2,n,h3⟩:=hl.kids;refine⟨n2,e ▸ hn,⟨_,h2⟩,λS1 hm=>⟨hm.keep ⟨_,h1⟩ λx hx=>by rw[e3];exact n3 x (by simp[hx]),⟨n,(hm.same lk (by rw[e3];exact n3 lk (by simp))).trans h3⟩,λS2 AX=>hm.after AX λx hx=> ?_⟩⟩;rw[Ei];exact acL _ (List.mem_cons_of_mem _ hx)
theorem aiP(hr:Sub S (node ra rk rb))(hn:(node l k (node ra rk rb)).list.Nodup):
  (node l k ra).list.Nodup/\(node (link l k ra) rk rb).list.Nodup/\Sub S ra/\∀S1,Mk S S1 (link l k ra)->Sub S1 rb/\(∃n,S1 rk=some n)/\∀S2,Mk S1 S2 (bal (link l k ra) rk rb)->Mk S S2 (bal (link l k ra) rk rb):=by
 have e:(node (link l k ra) rk rb).list=(node l k (node ra rk rb)).list:=by simp[list,dD]
 have e2:(node l k (node ra rk rb)).list=(node l k ra).list++([rk]++rb.list):=by simp[list]
 have e3:(link l k ra).list=(node l k ra).list:=dD _ _ _;have uF:=hn;rw[e2]at uF;obtain⟨n1,n2,n3⟩:=apart uF;obtain⟨h1,h2,n,h3⟩:=hr.kids;refine⟨n1,e ▸ hn,⟨_,h1⟩,λS1 hm=>⟨hm.keep ⟨_,h2⟩ λx hx jB=>n3 x (e3 ▸ jB) (by simp[hx]),⟨n,(hm.same rk (λhx=>n3 rk (e3 ▸ hx) (by simp))).trans h3⟩,λS2 AX=>hm.after AX λx hx=> ?_⟩⟩;rw[Ei];exact acM _ hx
structure La(S S':St)(t:Bt):Prop where
 sub:Sub S' (last t).1
 same:Same t.list S S'
 ex:∃n,S' (last t).2=some n
theorem aiQ{b c:Bt}{j:Tok}(hl:Sub S (node la k (node b j c)))(hn:(node la k (node b j c)).list.Nodup):
  (node b j c).list.Nodup/\(node la k (last (node b j c)).1).list.Nodup/\∀S1,La S S1 (node b j c)->Sub S1 la/\(∃n,S1 k=some n)/\∀S2,Mk S1 S2 (link la k (last (node b j c)).1)->La S S2 (node la k (node b j c)):=by
 have Dw:=wO (node b j c) (by simp);have e2:(node la k (node b j c)).list=(la.list++ [k])++(node b j c).list:=by simp[list]
 have uF:=hn;rw[e2]at uF;obtain⟨n1,n2,n3⟩:=apart uF;have e4:(node la k (node b j c)).list=(node la k (last (node b j c)).1).list++ [(last (node b j c)).2]:=by rw[e2, <-Dw];simp[list]
 have hn3:=hn;rw[e4]at hn3;obtain⟨n4,_,n5⟩:=apart hn3;obtain⟨h1,h2,n,h3⟩:=hl.kids;refine⟨n2,n4,λS1 hm=>⟨(Sub.same ⟨_,h1⟩ hm.same λx hx=>n3 x (by simp[hx])),⟨n,(hm.same k (n3 k (by simp))).trans h3⟩,λS2 AX=>⟨by simp only[last];exact AX.sub, ?_, ?_⟩⟩⟩
 rotate_left
 ·obtain⟨ne,he⟩:=hm.ex;refine⟨ne,(AX.same (last (node b j c)).2 λhx=> ?_).trans he⟩;rw[dD]at hx;exact n5 _ hx (by simp)
 refine(hm.same.more λx hx=>by rw[e2];exact acL _ hx).trans (AX.same.more λx hx=> ?_);rw[dD]at hx;rw[e4];exact acM _ hx
theorem abW(hr:Sub S r)(hn:(l.list++r.list).Nodup)(h1:l≠nil)(h2:r≠nil):
  glue l r=link (last l).1 (last l).2 r/\(node (last l).1 (last l).2 r).list.Nodup/\(last l).1.cnt+1=l.cnt/\
  ∀S1,La S S1 l->Sub S1 r/\∀S2,Mk S1 S2 (link (last l).1 (last l).2 r)->Mk S S2 (link (last l).1 (last l).2 r):=by
 have Dw:=wO l h1;have e:(node (last l).1 (last l).2 r).list=l.list++r.list:=by rw[<-Dw];simp[list]
 refine⟨?_,e ▸ hn, ?_,λS1 hm=>⟨hr.same hm.same λx hx jB=>(apart hn).2.2 x jB hx,λS2 AX=>⟨AX.hang,(hm.same.more λx hx=> ?_).trans AX.same⟩⟩⟩
 ·cases l with
  |nil=>exact absurd rfl h1
  |node a k b=>cases r with
   |nil=>exact absurd rfl h2
   |node c j d=>rfl
 ·rw[dU,dU, <-Dw];simp
 ·rw[dD];show x∈(node (last l).1 (last l).2 r).list;rw[e];exact acM _ hx
end
end Sq
namespace Go.Proofs.YtadnmegdbllaoaaGreatDoor
open Go.RowKit Go.Shelf Sq Tryz
theorem o8:∀args w,(callFunc 74 args).run prog w= .ok (.enter 74 args) w:=λargs w=>by kernel_rfl
def EY(F:Nat->Prop)(B u0 q:Nat)(T:List bT->Nat->World->Prop)(m:Nat)(S:St)(w:World)(t:Bt)(e:Ending)(w':World):Prop:=e= .returned (aG t.rt)/\(∃S',aZ B u0 q T S' m w'/\Mk S S' t)/\Fr F w w'
theorem Fr.newS{F:Nat->Prop}{w w1 w':World}{L:List Nat}(h:Fr F w w1)(hf:Fr (λk=>F k\/k∈L) w1 w')(hL:∀k,k∈L->w.heap.size<=k):Fr F w w':=
 ⟨hf.os.trans h.os,hf.tape.trans h.tape,hf.output.trans h.output,acN h.size hf.size,λk hk hn=>(hf.block k (Nat.lt_of_lt_of_le hk h.size) λa=>a.elim hn λa=>by have:=hL k a;omega).trans (h.block k hk hn)⟩
section
variable {F:Nat->Prop}{B u0 q m:Nat}{T:List bT->Nat->World->Prop}{S:St}{w w':World}{l r:Bt}{k:Tok}
theorem dY(K:Kv F B u0 T)(h:aZ B u0 q T S m w){up:Tok}{t:Bt}(ht:eY S up t):Calls prog 67 #[.pointer (some ⟨q,0,none⟩),aG t.rt] w λe w'=>e= .returned (pY (tv up t))/\aZ B u0 q T S m w'/\Fr F w w':=by
 cases t with
 |nil=>exact QZ K h
 |node l k r=>exact rX K h ht.1
theorem nO(K:Kv F B u0 T)(h:aZ B u0 q T S m w)(hl:Sub S l)(hr:Sub S r)(hn:(Bt.node l k r).list.Nodup)(hk:∃n,S k=some n)(hc:l.cnt+r.cnt+1<=250):Calls prog 74 #[.pointer (some ⟨q,0,none⟩),aG k,aG l.rt,aG r.rt] w (EY F B u0 q T m S w (.node l k r)):=by
 obtain⟨n,hk⟩:=hk;have hd:dS S k=0:=by unfold dS;rw[hk];rfl
 obtain⟨_,_,h1,h2⟩:=Zr hl hr hn;refine(UR K (m:=m) (by rw[hd];exact h) hl hr hn (h.ok k n hk).1 hc).mono ?_;rintro e w' ⟨rfl,hs,hf⟩;exact⟨rfl,⟨_,hs,h1,h2⟩,hf⟩
end
section
variable {F:Nat->Prop}{B u0 q m:Nat}{T:List bT->Nat->World->Prop}{S:St}{w w':World}
theorem amN(K:Kv F B u0 T)(h:aZ B u0 q T S m w){la lb r:Bt}{lk k:Tok}(hl:Sub S (Bt.node la lk lb))(hr:Sub S (r))(hn:(Bt.node (Bt.node la lk lb) k (r)).list.Nodup)(hk:∃n,S k=some n)(hc:(Bt.node la lk lb).cnt+(r).cnt+1<=250)(hht:r.ht+1<(Bt.node la lk lb).ht)(yh:lb.ht<=la.ht):Calls prog 131 #[.pointer (some ⟨q,0,none⟩),aG k,aG lk,aG (r).rt] w (EY F B u0 q T m S w (Bt.node la lk (Bt.node lb k r))):=by
 obtain⟨MP,qh⟩:=hl;obtain⟨MQ,yV⟩:=hr;have hl:Sub S (Bt.node la lk lb):=⟨MP,qh⟩;have hr:Sub S (r):=⟨MQ,yV⟩;have sG:=ah (λW (hW:aZ B u0 q T S m W)=>dY K hW qh);have vT:=ah (λW (hW:aZ B u0 q T S m W)=>dY K hW yV);obtain⟨tx,pU⟩:=aJ (tv MP (Bt.node la lk lb));obtain⟨ty,uy⟩:=aJ (tv MQ (r));have Bc:tx.height=(Bt.node la lk lb).ht:=pU ▸ kP _ _;have Bf:ty.height=(r).ht:=uy ▸ kP _ _;have Ik:=Bt.lC (Bt.node la lk lb);have Jv:=Bt.lC (r);rw[<-pU]at sG;rw[<-uy]at vT;obtain⟨Oo,P7,_⟩:=hl.kids;obtain⟨n1,n2,dN⟩:=aiK hl hn;have Dy:la.cnt+lb.cnt+1+r.cnt+1<=250:=hc;have HGA:=ah (λW (hW:aZ B u0 q T S m W)=>dY K hW Oo);have HGB:=ah (λW (hW:aZ B u0 q T S m W)=>dY K hW P7);have nI:=ah (λW (hW:aZ B u0 q T S m W)=>nO K hW ⟨_,P7⟩ hr n1 hk ak)
 have uz:Hid (∀S1 W,Mk S S1 (Bt.node lb k r)->aZ B u0 q T S1 m W->Calls prog 74 #[.pointer (some ⟨q,0,none⟩),aG lk,aG la.rt,aG k] W (EY F B u0 q T m S W (Bt.node la lk (Bt.node lb k r)))):=ah λS1 W hm hW=>by
  obtain⟨a1,a2,a3⟩:=dN S1 hm;refine(nO K hW a1 hm.sub n2 a2 (by show la.cnt+(lb.cnt+r.cnt+1)+1<=250;omega)).mono ?_;rintro e w' ⟨rfl,⟨S2,b1,b2⟩,b3⟩;exact⟨rfl,⟨S2,b1,a3 S2 b2⟩,b3⟩
 have ZU:Hid (((lb.ht:Nat):Int)<=((la.ht:Nat):Int)):=ah ak;have Ob:la.rt=tx.left:=by rw[pU];rfl
 have Wq:lb.rt=tx.right:=by rw[pU];rfl
 rw[Ob]at HGA uz;rw[Wq]at HGB nI;have hi:(r.ht:Int)+1<((Bt.node la lk lb).ht:Int):=by omega
 change Hid (∀W _,Calls prog _ #[_,aG lk] W _)at sG;obtain⟨rt,gy⟩:=aJ ((r).rt);rw[<-gy]at vT nI ⊢;obtain⟨nl,Dx⟩:=aJ ((Bt.node la lk lb).ht);obtain⟨nr,IY⟩:=aJ ((r).ht);rw[<-Dx]at Bc Ik hi;rw[<-IY]at Bf Jv hi;have X0:nl<=250:=by omega
 have X3:nr<=250:=by omega
 have I7:=ah Bc;have I8:=ah Bf;have bD:=(aai w.heap.size w).alloc aK (.cells (aI k) 71);have bK:=bD.alloc bD.size (.cells (aI lk) 71);have dJ:=bK.alloc bK.size (.cells (aI rt) 71);have iC:=dJ.alloc dJ.size (.cells #[.int .i64 0, .int .i64 0] 71);have Ce:=(((aO.new w 71 (aI k)).alloc (.cells (aI lk) 71)).alloc (.cells (aI rt) 71)).alloc (.cells #[.int .i64 0, .int .i64 0] 71);have yP:=((aO.new (w.alloc (.cells (aI k) 71)) 71 (aI lk)).alloc (.cells (aI rt) 71)).alloc (.cells #[.int .i64 0, .int .i64 0] 71);have qm:=(aO.new ((w.alloc (.cells (aI k) 71)).alloc (.cells (aI lk) 71)) 71 (aI rt)).alloc (.cells #[.int .i64 0, .int .i64 0] 71);have vw:=aO.new (((w.alloc (.cells (aI k) 71)).alloc (.cells (aI lk) 71)).alloc (.cells (aI rt) 71)) 71 #[.int .i64 0, .int .i64 0];rw[aad]at yP;rw[aad,aad]at qm;rw[aad,aad,aad]at vw;have Ol:=h.self.lt;have rF:=h.hq;have jY:=ah Ce;have qc:=ah yP;have kV:=ah qm;have rG:=ah vw;have oD:=ah iC;have HK:=ah K;have lD:=ah (h.below K iC);have aQ:Hid (∀k,F k->k<B):=ah K.low;clear Ce yP qm vw bD bK dJ iC h K hl hr qh yV hn hk pU uy Bc Bf Dx IY Ik Jv hc Oo P7 n1 n2 dN Dy Ob Wq hht yh gy;go_enter func131,ntmps131
 go_wp2_with fail
 have hz:=oD.out.size;have yU:=rG.out.lt
 refine aP (λu=>⟨#[_,_,_,_,_,_,_,_,_,u 6,u 7,_,_,u 0,u 1,u 2,u 3,u 4,u 5,_,_,_,_,_,_,_,_,_,_,_,_,_,_,_,_,_,_,_,_,_,_,_,_,_,_,_,_,_,_,_,_,_,_,_,_,_,_,_,_,_,_,_,_,_,_,_,_,_,_,_,_,_,_,_,_,_,_,_,_,_,_,_,_,_,_,_,_,_,_,_,_,_,_,_,_,_,_,_,_,_,_,_,_,_,_,_,_,_,_,_,_,_,_,_,_,_,_,_,_,_,_,_,_,_,_,_,_,_,_,_,_],_⟩)
  [bf q 0,
   aF (aG (lk)),
   aF (pY (tx)),
   bf q 0,
   aF (aG (rt)),
   aF (pY (ty)),
   Fl.box _ 124 sF,
   Fl.box _ 124 sF,
   Fl.fill _ 6 124 (fO (tx)),
   Fl.fill _ 7 124 (fO (ty))]
  F [2,5] (λj W=>dG B u0 q T (m) (λS1=>S1=S) W) aV aV [] rfl aH (by simp<;>omega) (λk hk=>⟨by have:=aQ.out k hk;omega,by simp⟩) ⟨λ_=>undef,rfl⟩ (⟨S,lD.out.below HK aU.drew,rfl⟩) ?_ ?_ ?_
 ·intro i o hi ho u W hf hold aj jP;have aW:=fw aQ hf jY;have dI:=fw aQ hf qc;have fQ:=fw aQ hf kV
  match i,ho with
  |0,ho|3,ho=>exact sv ho (bg rfl rfl)
  |1,ho=>exact sv ho (aC rfl rfl (dI.cell 0) (dI.cell 1))
  |2,ho|5,ho=>
   exact absurd aH hi
  |4,ho=>exact sv ho (aC rfl rfl (fQ.cell 0) (fQ.cell 1))
  |6,ho|7,ho=>
   obtain rfl:=aA ho;exact aY.mem (oZ rfl) rfl rfl rfl ⟨_,rfl⟩ (.inl rfl) (λ_ h=>dG.below HK h (aU.alloc aK _))
  |8,ho=>
   obtain rfl:=aA ho;obtain⟨iR,gI⟩:=jP 6 rfl;have jd:=gI _ _ rfl;obtain⟨bz,jw⟩:=aj 6 rfl;rw[jw]at iR jd;change _<=bz at iR;change aO W bz _ _ at jd;exact aY.oh (ig rfl jw (aj 2 rfl) jd) rfl rfl rfl jw iR (λ_ dK=>(λ_ h=>dG.far HK h jd ak dK ay ay ay ay))
  |9,ho=>
   obtain rfl:=aA ho;obtain⟨iR,gI⟩:=jP 7 rfl;have jd:=gI _ _ rfl;obtain⟨bz,jw⟩:=aj 7 rfl;rw[jw]at iR jd;change _<=bz at iR;change aO W bz _ _ at jd;exact aY.oh (ig rfl jw (aj 5 rfl) jd) rfl rfl rfl jw iR (λ_ dK=>(λ_ h=>dG.far HK h jd ak dK ay ay ay ay))
  |n+10,ho=>exact absurd ho aH
 ·intro t i o ht ho u W hf bG aj;have aW:=fw aQ hf jY;have dI:=fw aQ hf qc;have fQ:=fw aQ hf kV
  match t,ht with
  |0,ht=>
   have ht:=aA ht;subst ht;obtain rfl:=aA ho;refine⟨aB rfl,Does.call (bV eU rfl (aj 0 rfl) (aj 1 rfl)) ?_⟩;obtain⟨S1,hs,hp⟩:dG B u0 q T m (λS1=>S1=S) W:=bG;refine aac (sG.out W (hp ▸ hs)) ?_;rintro e w' ⟨rfl,h1,h2⟩;exact⟨_,rfl,rfl,rfl,h2,S,h1,rfl⟩
  |1,ht=>
   have ht:=aA ht;subst ht;obtain rfl:=aA ho;refine⟨aB rfl,Does.call (bV eU rfl (aj 3 rfl) (aj 4 rfl)) ?_⟩;obtain⟨S1,hs,hp⟩:dG B u0 q T m (λS1=>S1=S) W:=bG;refine aac (vT.out W (hp ▸ hs)) ?_;rintro e w' ⟨rfl,h1,h2⟩;exact⟨_,rfl,rfl,rfl,h2,S,h1,rfl⟩
  |n+2,ht=>exact absurd ht aH
 ·intro u W hf bG au;have aW:=fw aQ hf jY;have dI:=fw aQ hf qc;have fQ:=fw aQ hf kV;have e0:=au.q 0;have e1:=au.q 1;have e2:=au.q 2;have e3:=au.q 3;have e4:=au.q 4;have e5:=au.q 5;obtain⟨b6,e6⟩:∃b,u 6= .pointer (some ⟨b,0,none⟩):=au.p 6 ay trivial;obtain⟨b7,e7⟩:∃b,u 7= .pointer (some ⟨b,0,none⟩):=au.p 7 ay trivial;have lX:=(au.p 8 ay trivial);change _<=mX (u 6)/\aO W (mX (u 6)) _ _ at lX;rw[e6]at lX;have Ws:=lX.1;change _<=b6 at Ws
  replace lX:=lX.2
  change aO W b6 _ _ at lX;have lY:=(au.p 9 ay trivial);change _<=mX (u 7)/\aO W (mX (u 7)) _ _ at lY;rw[e7]at lY;have VN:=lY.1;change _<=b7 at VN
  replace lY:=lY.2
  change aO W b7 _ _ at lY;simp only[e0,e1,e2,e3,e4,e5,e6,e7];have dZ:∀g,w.heap.size<=g->¬ (F g\/g∈([]:List Nat)):=λg hg a=>a.elim (λa=>by have:=aQ.out g a;omega) (λa=>by simp at a);obtain⟨S1,hs,hp⟩:dG B u0 q T m (λS1=>S1=S) W:=bG;have EX:Fr F w W:=(Fr.of_below oD).trans (hf.more λ_=>eu);have Ac:=hf.size;have lH:=ah (hf.blk jY (dZ _ aK));have xg:=ah (hf.blk qc (dZ _ ak));have nX:=ah (hf.blk kV (dZ _ ak));have jl:=ah (hf.blk rG (dZ _ ak));have lG:Hid (aZ B u0 q T S m W):=ah (hp ▸ hs);have kE:=ah EX;have HX:=ah lX;have HY:=ah lY;have cx:W.cell? ⟨b6,7,none⟩=some (.int .i64 (nl:Nat)):=(HX.out.cell 7).trans (by show some (acS _ _)=_;rw[I7.out]);have cy:W.cell? ⟨b7,7,none⟩=some (.int .i64 (nr:Nat)):=(HY.out.cell 7).trans (by show some (acS _ _)=_;rw[I8.out]);have q1:W.cell? ⟨q,1,none⟩=some (.int .i64 0):=lG.out.self.cell 1;have hwr:IntKind.i64.wrap ((nr:Int)+1)=(nr:Int)+1:=acK _ ak;have hwl:IntKind.i64.wrap ((nl:Int)+1)=(nl:Int)+1:=acK _ ak;have YJ:=lG.out.self.lt;have EF:=HX.out.lt;have RQ:=HY.out.lt;obtain⟨w5,oI⟩:=aJ (W);rw[<-oI]at HX HY lH xg nX jl lG kE Ac cx cy q1 YJ EF RQ ⊢;clear au hf hs hp EX dZ aW dI fQ jY qc kV rG lD oD sG vT I7 I8 lX lY e0 e1 e2 e3 e4 e5 e6 e7 oI u W;go_wp2_with fail
  refine aP (λu=>⟨#[_,_,_,_,_,_,_,_,_,_,_,_,_,_,_,_,_,_,_,_,_,_,_,_,_,_,_,_,_,_,_,_,_,u 0,u 1,u 2,u 3,u 4,u 5,u 6,u 7,u 8,u 9,u 10,_,_,_,_,_,_,_,_,_,_,_,_,_,_,_,_,_,_,_,_,_,_,_,_,_,_,_,_,_,_,_,_,_,_,_,_,_,_,_,_,_,_,_,_,_,_,_,_,_,_,_,_,_,_,_,_,_,_,_,_,_,_,_,_,_,_,_,_,_,_,_,_,_,_,_,_,_,_,_,_,_,_,_,_,_,_,_],_⟩)
   [bf q 0,
    bf b6 2,
    aF (aG ((tx).left)),
    aF (pY (tv lk la)),
    aF (.int .i64 (((la.ht:Nat):Int))),
    bf q 0,
    bf b6 4,
    aF (aG ((tx).right)),
    aF (pY (tv lk lb)),
    aF (.int .i64 (((lb.ht:Nat):Int))),
    aF (.bool (true))]
   F [3,8] (λj W=>dG B u0 q T (m) (λS1=>S1=S) W) aV aV [] rfl aH (by simp<;>omega) (λk hk=>⟨by have:=aQ.out k hk;omega,by simp⟩) ⟨λ_=>undef,rfl⟩ (⟨S,lG.out.below HK aU.drew,rfl⟩) ?_ ?_ ?_
  ·intro i o hi ho u W hf hold aj jP;have aW:=fw aQ hf HX
   match i,ho with
   |0,ho|5,ho=>exact sv ho (bg rfl rfl)
   |1,ho=>exact sv ho (gG rfl rfl)
   |2,ho=>exact sv ho (aC rfl (aj 1 rfl) (aW.cell 2) (aW.cell 3))
   |3,ho|8,ho=>
    exact absurd aH hi
   |4,ho=>exact sv ho (ou rfl (aj 3 rfl)) (hp:=(by show acS _ _=_;rw[kP]))
   |6,ho=>exact sv ho (fP rfl rfl)
   |7,ho=>exact sv ho (aC rfl (aj 6 rfl) (aW.cell 4) (aW.cell 5))
   |9,ho=>exact sv ho (ou rfl (aj 8 rfl)) (hp:=(by show acS _ _=_;rw[kP]))
   |10,ho=>exact sv ho (QX rfl (aj 4 rfl) (aj 9 rfl)) (hp:=(by show agD (decide _)=_;rw[decide_eq_true ZU.out]))
   |n+11,ho=>exact absurd ho aH
  ·intro t i o ht ho u W hf bG aj;have aW:=fw aQ hf HX
   match t,ht with
   |0,ht=>
    have ht:=aA ht;subst ht;obtain rfl:=aA ho;refine⟨aB rfl,Does.call (bV eU rfl (aj 0 rfl) (aj 2 rfl)) ?_⟩;obtain⟨S1,hs,hp⟩:dG B u0 q T m (λS1=>S1=S) W:=bG;refine aac (HGA.out W (hp ▸ hs)) ?_;rintro e w' ⟨rfl,h1,h2⟩;exact⟨_,rfl,rfl,rfl,h2,S,h1,rfl⟩
   |1,ht=>
    have ht:=aA ht;subst ht;obtain rfl:=aA ho;refine⟨aB rfl,Does.call (bV eU rfl (aj 5 rfl) (aj 7 rfl)) ?_⟩;obtain⟨S1,hs,hp⟩:dG B u0 q T m (λS1=>S1=S) W:=bG;refine aac (HGB.out W (hp ▸ hs)) ?_;rintro e w' ⟨rfl,h1,h2⟩;exact⟨_,rfl,rfl,rfl,h2,S,h1,rfl⟩
   |n+2,ht=>exact absurd ht aH
  ·intro u W hf bG au;have aW:=fw aQ hf HX;have e0:=au.q 0;have e1:=au.q 1;have e2:=au.q 2;have e3:=au.q 3;have e4:=au.q 4;have e5:=au.q 5;have e6:=au.q 6;have e7:=au.q 7;have e8:=au.q 8;have e9:=au.q 9;have e10:=au.q 10;simp only[e0,e1,e2,e3,e4,e5,e6,e7,e8,e9,e10];have dZ:∀g,w.heap.size<=g->¬ (F g\/g∈([]:List Nat)):=λg hg a=>a.elim (λa=>by have:=aQ.out g a;omega) (λa=>by simp at a);obtain⟨S1,hs,hp⟩:dG B u0 q T m (λS1=>S1=S) W:=bG;have hzV:=hf.size;have Du:=ah (hf.blk lH (dZ _ aK));have VO:=ah (hf.blk xg (dZ _ ak));have EZ:=ah (hf.blk nX (dZ _ ak));have mQ:=ah (hf.blk jl (dZ _ ak));have yA:=ah (hf.blk HX (dZ _ ak));have RI:=ah (hf.blk HY (dZ _ ak));have yS:Hid (aZ B u0 q T S m W):=ah (hp ▸ hs);have vS:Hid (Fr F w W):=ah (kE.out.trans (hf.more λ_=>eu));have l6:b6<W.heap.size:=by omega
   have l7:b7<W.heap.size:=by omega
   have lq6:q<W.heap.size:=by omega
   have lt6:w.heap.size+3<W.heap.size:=by omega
   obtain⟨w6,Oc⟩:=aJ (W);rw[<-Oc]at yA RI Du VO EZ mQ yS vS hzV l6 l7 lq6 lt6 ⊢;clear au hf hs hp dZ aW lH xg nX jl lG kE HX HY e0 e1 e2 e3 e4 e5 e6 e7 e8 e9 e10 Oc u W;go_wp2_with fail
   refine aP (λu=>⟨#[_,_,_,_,_,_,_,_,_,_,_,_,_,_,_,_,_,_,_,_,_,_,_,_,_,_,_,_,_,_,_,_,_,_,_,_,_,_,_,_,_,_,_,_,u 0,u 1,u 2,u 3,u 4,u 5,u 6,u 7,u 8,u 9,u 10,_,_,_,_,_,_,_,_,_,_,_,_,_,_,_,_,_,_,_,_,_,_,_,_,_,_,_,_,_,_,_,_,_,_,_,_,_,_,_,_,_,_,_,_,_,_,_,_,_,_,_,_,_,_,_,_,_,_,_,_,_,_,_,_,_,_,_,_,_,_,_,_,_,_,_,_],_⟩)
    [bf q 0,
     aF (aG (lk)),
     bf b6 2,
     aF (aG ((tx).left)),
     bf q 0,
     aF (aG (k)),
     bf b6 4,
     aF (aG ((tx).right)),
     aF (aG (rt)),
     aF (aG (k)),
     aF (aG (lk)),
     Fl.turn _ (w.heap.size+3) 71 (aI (lk)) ak]
    F [9,10] (λj W=>dG B u0 q T (m) (λS1=>match j with | 0=>S1=S | 1=>Mk S S1 (Bt.node lb k r) | _=>Mk S S1 (Bt.node la lk (Bt.node lb k r))) W) aV aV [w.heap.size+3] rfl aH (by simp<;>omega) (λk hk=>⟨by have:=aQ.out k hk;omega,by have:=aQ.out k hk;simp;omega⟩) ⟨λ_=>undef,rfl⟩ (⟨S,yS.out.below HK aU.drew,rfl⟩) ?_ ?_ ?_
   ·intro i o hi ho u W hf hold aj jP;have aW:=fw aQ hf Du;have dI:=fw aQ hf VO;have fQ:=fw aQ hf EZ;have nY:=fw aQ hf yA
    match i,ho with
    |0,ho|4,ho=>exact sv ho (bg rfl rfl)
    |1,ho=>exact sv ho (aC rfl rfl (dI.cell 0) (dI.cell 1))
    |2,ho=>exact sv ho (gG rfl rfl)
    |3,ho=>exact sv ho (aC rfl (aj 2 rfl) (nY.cell 2) (nY.cell 3))
    |5,ho=>exact sv ho (aC rfl rfl (aW.cell 0) (aW.cell 1))
    |6,ho=>exact sv ho (fP rfl rfl)
    |7,ho=>exact sv ho (aC rfl (aj 6 rfl) (nY.cell 4) (nY.cell 5))
    |8,ho=>exact sv ho (aC rfl rfl (fQ.cell 0) (fQ.cell 1))
    |9,ho|10,ho=>
     exact absurd aH hi
    |11,ho=>
     obtain rfl:=aA ho;have Af:aO W (w.heap.size+3) _ _:=Eq.trans (hold _ rfl) mQ;exact aY.yD (hlt:=by omega) (ji rfl rfl (aj 10 rfl) Af) rfl rfl rfl (λ_ dK=>(λ_ h=>dG.far HK h Af ak dK ay ay ay ay))
    |n+12,ho=>exact absurd ho aH
   ·intro t i o ht ho u W hf bG aj;have aW:=fw aQ hf Du;have dI:=fw aQ hf VO;have fQ:=fw aQ hf EZ;have nY:=fw aQ hf yA
    match t,ht with
    |0,ht=>
     have ht:=aA ht;subst ht;obtain rfl:=aA ho;refine⟨aB rfl,Does.call (fU o8 rfl (aj 4 rfl) (aj 5 rfl) (aj 7 rfl) (aj 8 rfl)) ?_⟩;obtain⟨S1,hs,hp⟩:dG B u0 q T m (λS1=>S1=S) W:=bG;refine aac (nI.out W (hp ▸ hs)) ?_;rintro e w' ⟨rfl,⟨S2,h1,h2⟩,h3⟩;exact⟨_,rfl,rfl,rfl,h3,S2,h1,h2⟩
    |1,ht=>
     have ht:=aA ht;subst ht;obtain rfl:=aA ho;refine⟨aB rfl,Does.call (fU o8 rfl (aj 0 rfl) (aj 1 rfl) (aj 3 rfl) (aj 9 rfl)) ?_⟩;obtain⟨S1,hs,hp⟩:dG B u0 q T m (λS1=>Mk S S1 (Bt.node lb k r)) W:=bG;refine aac (uz.out S1 W hp hs) ?_;rintro e w' ⟨rfl,⟨S2,h1,h2⟩,h3⟩;exact⟨_,rfl,rfl,rfl,h3,S2,h1,h2⟩
    |n+2,ht=>exact absurd ht aH
   ·intro u W hf bG au;have aW:=fw aQ hf Du;have dI:=fw aQ hf VO;have fQ:=fw aQ hf EZ;have nY:=fw aQ hf yA;have e0:=au.q 0;have e1:=au.q 1;have e2:=au.q 2;have e3:=au.q 3;have e4:=au.q 4;have e5:=au.q 5;have e6:=au.q 6;have e7:=au.q 7;have e8:=au.q 8;have e9:=au.q 9;have e10:=au.q 10;have Di:=(au.p 11 ay trivial);change aO W (w.heap.size+3) _ _ at Di;simp only[e0,e1,e2,e3,e4,e5,e6,e7,e8,e9,e10];obtain⟨S1,hs,hp⟩:dG B u0 q T m (λS1=>Mk S S1 (Bt.node la lk (Bt.node lb k r))) W:=bG;have HE:Hid (∃S',aZ B u0 q T S' m W/\Mk S S' (Bt.node la lk (Bt.node lb k r))):=ah ⟨S1,hs,hp⟩;have xA:Hid (Fr F w W):=ah (vS.out.newS hf λk hk=>by simp at hk;omega);have nJ:=ah Di;clear au hf hs hp e0 e1 e2 e3 e4 e5 e6 e7 e8 e9 e10 aW dI fQ nY Di;go_wp2;refine bodyPost_ret (eF dW rfl rfl nJ rfl) rfl ?_;exact⟨rfl,HE,xA⟩
end
section
variable {F:Nat->Prop}{B u0 q m:Nat}{T:List bT->Nat->World->Prop}{S:St}{w w':World}
theorem amO(K:Kv F B u0 T)(h:aZ B u0 q T S m w){la ma mb r:Bt}{lk mk k:Tok}(hl:Sub S (Bt.node la lk (Bt.node ma mk mb)))(hr:Sub S (r))(hn:(Bt.node (Bt.node la lk (Bt.node ma mk mb)) k (r)).list.Nodup)(hk:∃n,S k=some n)(hc:(Bt.node la lk (Bt.node ma mk mb)).cnt+(r).cnt+1<=250)(hht:r.ht+1<(Bt.node la lk (Bt.node ma mk mb)).ht)(yh:¬ (Bt.node ma mk mb).ht<=la.ht):Calls prog 131 #[.pointer (some ⟨q,0,none⟩),aG k,aG lk,aG (r).rt] w (EY F B u0 q T m S w (Bt.node (Bt.node la lk ma) mk (Bt.node mb k r))):=by
 obtain⟨MP,qh⟩:=hl;obtain⟨MQ,yV⟩:=hr;have hl:Sub S (Bt.node la lk (Bt.node ma mk mb)):=⟨MP,qh⟩;have hr:Sub S (r):=⟨MQ,yV⟩;have sG:=ah (λW (hW:aZ B u0 q T S m W)=>dY K hW qh);have vT:=ah (λW (hW:aZ B u0 q T S m W)=>dY K hW yV);obtain⟨tx,pU⟩:=aJ (tv MP (Bt.node la lk (Bt.node ma mk mb)));obtain⟨ty,uy⟩:=aJ (tv MQ (r));have Bc:tx.height=(Bt.node la lk (Bt.node ma mk mb)).ht:=pU ▸ kP _ _;have Bf:ty.height=(r).ht:=uy ▸ kP _ _;have Ik:=Bt.lC (Bt.node la lk (Bt.node ma mk mb));have Jv:=Bt.lC (r);rw[<-pU]at sG;rw[<-uy]at vT;obtain⟨Oo,P7,_⟩:=hl.kids;obtain⟨sa,sma,slk,n1,n2,n3,dN⟩:=aiL hl hr hn hk;have Dy:la.cnt+(ma.cnt+mb.cnt+1)+1+r.cnt+1<=250:=hc;obtain⟨tz,htz⟩:=aJ (tv lk (Bt.node ma mk mb));have HGA:=ah (λW (hW:aZ B u0 q T S m W)=>dY K hW Oo);have Wq:mk=tx.right:=by rw[pU];rfl
 have awn:Hid (∀W,aZ B u0 q T S m W->Calls prog 67 #[.pointer (some ⟨q,0,none⟩),aG tx.right] W λe w'=>e= .returned (pY (tv lk (Bt.node ma mk mb)))/\aZ B u0 q T S m w'/\Fr F W w'):=ah λW hW=>by
  rw[<-Wq];exact dY K hW P7
 have awo:Hid (∀W,aZ B u0 q T S m W->Calls prog 67 #[.pointer (some ⟨q,0,none⟩),aG tx.right] W λe w'=>e= .returned (pY tz)/\aZ B u0 q T S m w'/\Fr F W w'):=ah λW hW=>by
  rw[<-Wq,htz];exact dY K hW P7
 have nI:=ah (λW (hW:aZ B u0 q T S m W)=>nO K hW sa sma n1 slk ak)
 have uz:Hid (∀S1 W,Mk S S1 (Bt.node la lk ma)->aZ B u0 q T S1 m W->Calls prog 74 #[.pointer (some ⟨q,0,none⟩),aG k,aG mb.rt,aG r.rt] W (EY F B u0 q T m S1 W (Bt.node mb k r))):=ah λS1 W hm hW=>by
  obtain⟨a1,a2,a3,_⟩:=dN S1 hm;exact nO K hW a1 a2 n2 a3 ak
 have awp:Hid (∀S1 S2 W,Mk S S1 (Bt.node la lk ma)->Mk S1 S2 (Bt.node mb k r)->aZ B u0 q T S2 m W->Calls prog 74 #[.pointer (some ⟨q,0,none⟩),aG tx.right,aG lk,aG k] W (EY F B u0 q T m S W (Bt.node (Bt.node la lk ma) mk (Bt.node mb k r)))):=ah λS1 S2 W hm AX hW=>by
  rw[<-Wq];obtain⟨_,_,_,a4⟩:=dN S1 hm;obtain⟨a5,a6,a7⟩:=a4 S2 AX;refine(nO K hW a5 AX.sub n3 a6 (by show la.cnt+ma.cnt+1+(mb.cnt+r.cnt+1)+1<=250;omega)).mono ?_;rintro e w' ⟨rfl,⟨S3,b1,b2⟩,b3⟩;exact⟨rfl,⟨S3,b1,a7 S3 b2⟩,b3⟩
 have ZU:Hid (((la.ht:Nat):Int)<(((Bt.node ma mk mb).ht:Nat):Int)):=ah ak;have Ob:la.rt=tx.left:=by rw[pU];rfl
 have Z9:ma.rt=tz.left:=by rw[htz];rfl
 have Oe:mb.rt=tz.right:=by rw[htz];rfl
 rw[Ob]at HGA nI;rw[Z9]at nI;rw[Oe]at uz;have hi:(r.ht:Int)+1<((Bt.node la lk (Bt.node ma mk mb)).ht:Int):=by omega
 change Hid (∀W _,Calls prog _ #[_,aG lk] W _)at sG;obtain⟨rt,gy⟩:=aJ ((r).rt);rw[<-gy]at vT uz ⊢;obtain⟨nl,Dx⟩:=aJ ((Bt.node la lk (Bt.node ma mk mb)).ht);obtain⟨nr,IY⟩:=aJ ((r).ht);rw[<-Dx]at Bc Ik hi;rw[<-IY]at Bf Jv hi;have X0:nl<=250:=by omega
 have X3:nr<=250:=by omega
 have I7:=ah Bc;have I8:=ah Bf;have bD:=(aai w.heap.size w).alloc aK (.cells (aI k) 71);have bK:=bD.alloc bD.size (.cells (aI lk) 71);have dJ:=bK.alloc bK.size (.cells (aI rt) 71);have iC:=dJ.alloc dJ.size (.cells #[.int .i64 0, .int .i64 0] 71);have Ce:=(((aO.new w 71 (aI k)).alloc (.cells (aI lk) 71)).alloc (.cells (aI rt) 71)).alloc (.cells #[.int .i64 0, .int .i64 0] 71);have yP:=((aO.new (w.alloc (.cells (aI k) 71)) 71 (aI lk)).alloc (.cells (aI rt) 71)).alloc (.cells #[.int .i64 0, .int .i64 0] 71);have qm:=(aO.new ((w.alloc (.cells (aI k) 71)).alloc (.cells (aI lk) 71)) 71 (aI rt)).alloc (.cells #[.int .i64 0, .int .i64 0] 71);have vw:=aO.new (((w.alloc (.cells (aI k) 71)).alloc (.cells (aI lk) 71)).alloc (.cells (aI rt) 71)) 71 #[.int .i64 0, .int .i64 0];rw[aad]at yP;rw[aad,aad]at qm;rw[aad,aad,aad]at vw;have Ol:=h.self.lt;have rF:=h.hq;have jY:=ah Ce;have qc:=ah yP;have kV:=ah qm;have rG:=ah vw;have oD:=ah iC;have HK:=ah K;have lD:=ah (h.below K iC);have aQ:Hid (∀k,F k->k<B):=ah K.low;clear Ce yP qm vw bD bK dJ iC h K hl hr qh yV hn hk pU uy Bc Bf Dx IY Ik Jv hc Oo P7 sa sma slk n1 n2 n3 dN Dy htz Ob Wq Z9 Oe hht yh gy;go_enter func131,ntmps131
 go_wp2_with fail
 have hz:=oD.out.size;have yU:=rG.out.lt
 refine aP (λu=>⟨#[_,_,_,_,_,_,_,_,_,u 6,u 7,_,_,u 0,u 1,u 2,u 3,u 4,u 5,_,_,_,_,_,_,_,_,_,_,_,_,_,_,_,_,_,_,_,_,_,_,_,_,_,_,_,_,_,_,_,_,_,_,_,_,_,_,_,_,_,_,_,_,_,_,_,_,_,_,_,_,_,_,_,_,_,_,_,_,_,_,_,_,_,_,_,_,_,_,_,_,_,_,_,_,_,_,_,_,_,_,_,_,_,_,_,_,_,_,_,_,_,_,_,_,_,_,_,_,_,_,_,_,_,_,_,_,_,_,_,_],_⟩)
  [bf q 0,
   aF (aG (lk)),
   aF (pY (tx)),
   bf q 0,
   aF (aG (rt)),
   aF (pY (ty)),
   Fl.box _ 124 sF,
   Fl.box _ 124 sF,
   Fl.fill _ 6 124 (fO (tx)),
   Fl.fill _ 7 124 (fO (ty))]
  F [2,5] (λj W=>dG B u0 q T (m) (λS1=>S1=S) W) aV aV [] rfl aH (by simp<;>omega) (λk hk=>⟨by have:=aQ.out k hk;omega,by simp⟩) ⟨λ_=>undef,rfl⟩ (⟨S,lD.out.below HK aU.drew,rfl⟩) ?_ ?_ ?_
 ·intro i o hi ho u W hf hold aj jP;have aW:=fw aQ hf jY;have dI:=fw aQ hf qc;have fQ:=fw aQ hf kV
  match i,ho with
  |0,ho|3,ho=>exact sv ho (bg rfl rfl)
  |1,ho=>exact sv ho (aC rfl rfl (dI.cell 0) (dI.cell 1))
  |2,ho|5,ho=>
   exact absurd aH hi
  |4,ho=>exact sv ho (aC rfl rfl (fQ.cell 0) (fQ.cell 1))
  |6,ho|7,ho=>
   obtain rfl:=aA ho;exact aY.mem (oZ rfl) rfl rfl rfl ⟨_,rfl⟩ (.inl rfl) (λ_ h=>dG.below HK h (aU.alloc aK _))
  |8,ho=>
   obtain rfl:=aA ho;obtain⟨iR,gI⟩:=jP 6 rfl;have jd:=gI _ _ rfl;obtain⟨bz,jw⟩:=aj 6 rfl;rw[jw]at iR jd;change _<=bz at iR;change aO W bz _ _ at jd;exact aY.oh (ig rfl jw (aj 2 rfl) jd) rfl rfl rfl jw iR (λ_ dK=>(λ_ h=>dG.far HK h jd ak dK ay ay ay ay))
  |9,ho=>
   obtain rfl:=aA ho;obtain⟨iR,gI⟩:=jP 7 rfl;have jd:=gI _ _ rfl;obtain⟨bz,jw⟩:=aj 7 rfl;rw[jw]at iR jd;change _<=bz at iR;change aO W bz _ _ at jd;exact aY.oh (ig rfl jw (aj 5 rfl) jd) rfl rfl rfl jw iR (λ_ dK=>(λ_ h=>dG.far HK h jd ak dK ay ay ay ay))
  |n+10,ho=>exact absurd ho aH
 ·intro t i o ht ho u W hf bG aj;have aW:=fw aQ hf jY;have dI:=fw aQ hf qc;have fQ:=fw aQ hf kV
  match t,ht with
  |0,ht=>
   have ht:=aA ht;subst ht;obtain rfl:=aA ho;refine⟨aB rfl,Does.call (bV eU rfl (aj 0 rfl) (aj 1 rfl)) ?_⟩;obtain⟨S1,hs,hp⟩:dG B u0 q T m (λS1=>S1=S) W:=bG;refine aac (sG.out W (hp ▸ hs)) ?_;rintro e w' ⟨rfl,h1,h2⟩;exact⟨_,rfl,rfl,rfl,h2,S,h1,rfl⟩
  |1,ht=>
   have ht:=aA ht;subst ht;obtain rfl:=aA ho;refine⟨aB rfl,Does.call (bV eU rfl (aj 3 rfl) (aj 4 rfl)) ?_⟩;obtain⟨S1,hs,hp⟩:dG B u0 q T m (λS1=>S1=S) W:=bG;refine aac (vT.out W (hp ▸ hs)) ?_;rintro e w' ⟨rfl,h1,h2⟩;exact⟨_,rfl,rfl,rfl,h2,S,h1,rfl⟩
  |n+2,ht=>exact absurd ht aH
 ·intro u W hf bG au;have aW:=fw aQ hf jY;have dI:=fw aQ hf qc;have fQ:=fw aQ hf kV;have e0:=au.q 0;have e1:=au.q 1;have e2:=au.q 2;have e3:=au.q 3;have e4:=au.q 4;have e5:=au.q 5;obtain⟨b6,e6⟩:∃b,u 6= .pointer (some ⟨b,0,none⟩):=au.p 6 ay trivial;obtain⟨b7,e7⟩:∃b,u 7= .pointer (some ⟨b,0,none⟩):=au.p 7 ay trivial;have lX:=(au.p 8 ay trivial);change _<=mX (u 6)/\aO W (mX (u 6)) _ _ at lX;rw[e6]at lX;have Ws:=lX.1;change _<=b6 at Ws
  replace lX:=lX.2
  change aO W b6 _ _ at lX;have lY:=(au.p 9 ay trivial);change _<=mX (u 7)/\aO W (mX (u 7)) _ _ at lY;rw[e7]at lY;have VN:=lY.1;change _<=b7 at VN
  replace lY:=lY.2
  change aO W b7 _ _ at lY;simp only[e0,e1,e2,e3,e4,e5,e6,e7];have dZ:∀g,w.heap.size<=g->¬ (F g\/g∈([]:List Nat)):=λg hg a=>a.elim (λa=>by have:=aQ.out g a;omega) (λa=>by simp at a);obtain⟨S1,hs,hp⟩:dG B u0 q T m (λS1=>S1=S) W:=bG;have EX:Fr F w W:=(Fr.of_below oD).trans (hf.more λ_=>eu);have Ac:=hf.size;have lH:=ah (hf.blk jY (dZ _ aK));have xg:=ah (hf.blk qc (dZ _ ak));have nX:=ah (hf.blk kV (dZ _ ak));have jl:=ah (hf.blk rG (dZ _ ak));have lG:Hid (aZ B u0 q T S m W):=ah (hp ▸ hs);have kE:=ah EX;have HX:=ah lX;have HY:=ah lY;have cx:W.cell? ⟨b6,7,none⟩=some (.int .i64 (nl:Nat)):=(HX.out.cell 7).trans (by show some (acS _ _)=_;rw[I7.out]);have cy:W.cell? ⟨b7,7,none⟩=some (.int .i64 (nr:Nat)):=(HY.out.cell 7).trans (by show some (acS _ _)=_;rw[I8.out]);have q1:W.cell? ⟨q,1,none⟩=some (.int .i64 0):=lG.out.self.cell 1;have hwr:IntKind.i64.wrap ((nr:Int)+1)=(nr:Int)+1:=acK _ ak;have hwl:IntKind.i64.wrap ((nl:Int)+1)=(nl:Int)+1:=acK _ ak;have YJ:=lG.out.self.lt;have EF:=HX.out.lt;have RQ:=HY.out.lt;obtain⟨w5,oI⟩:=aJ (W);rw[<-oI]at HX HY lH xg nX jl lG kE Ac cx cy q1 YJ EF RQ ⊢;clear au hf hs hp EX dZ aW dI fQ jY qc kV rG lD oD sG vT I7 I8 lX lY e0 e1 e2 e3 e4 e5 e6 e7 oI u W;go_wp2_with fail
  refine aP (λu=>⟨#[_,_,_,_,_,_,_,_,_,_,_,_,_,_,_,_,_,_,_,_,_,_,_,_,_,_,_,_,_,_,_,_,_,u 0,u 1,u 2,u 3,u 4,u 5,u 6,u 7,u 8,u 9,u 10,_,_,_,_,_,_,_,_,_,_,_,_,_,_,_,_,_,_,_,_,_,_,_,_,_,_,_,_,_,_,_,_,_,_,_,_,_,_,_,_,_,_,_,_,_,_,_,_,_,_,_,_,_,_,_,_,_,_,_,_,_,_,_,_,_,_,_,_,_,_,_,_,_,_,_,_,_,_,_,_,_,_,_,_,_,_,_],_⟩)
   [bf q 0,
    bf b6 2,
    aF (aG ((tx).left)),
    aF (pY (tv lk la)),
    aF (.int .i64 (((la.ht:Nat):Int))),
    bf q 0,
    bf b6 4,
    aF (aG ((tx).right)),
    aF (pY (tv lk (Bt.node ma mk mb))),
    aF (.int .i64 ((((Bt.node ma mk mb).ht:Nat):Int))),
    aF (.bool (false))]
   F [3,8] (λj W=>dG B u0 q T (m) (λS1=>S1=S) W) aV aV [] rfl aH (by simp<;>omega) (λk hk=>⟨by have:=aQ.out k hk;omega,by simp⟩) ⟨λ_=>undef,rfl⟩ (⟨S,lG.out.below HK aU.drew,rfl⟩) ?_ ?_ ?_
  ·intro i o hi ho u W hf hold aj jP;have aW:=fw aQ hf HX
   match i,ho with
   |0,ho|5,ho=>exact sv ho (bg rfl rfl)
   |1,ho=>exact sv ho (gG rfl rfl)
   |2,ho=>exact sv ho (aC rfl (aj 1 rfl) (aW.cell 2) (aW.cell 3))
   |3,ho|8,ho=>
    exact absurd aH hi
   |4,ho=>exact sv ho (ou rfl (aj 3 rfl)) (hp:=(by show acS _ _=_;rw[kP]))
   |6,ho=>exact sv ho (fP rfl rfl)
   |7,ho=>exact sv ho (aC rfl (aj 6 rfl) (aW.cell 4) (aW.cell 5))
   |9,ho=>exact sv ho (ou rfl (aj 8 rfl)) (hp:=(by show acS _ _=_;rw[kP]))
   |10,ho=>exact sv ho (QX rfl (aj 4 rfl) (aj 9 rfl)) (hp:=(by show agD (decide _)=_;rw[decide_eq_false (Int.not_le.2 ZU.out)]))
   |n+11,ho=>exact absurd ho aH
  ·intro t i o ht ho u W hf bG aj;have aW:=fw aQ hf HX
   match t,ht with
   |0,ht=>
    have ht:=aA ht;subst ht;obtain rfl:=aA ho;refine⟨aB rfl,Does.call (bV eU rfl (aj 0 rfl) (aj 2 rfl)) ?_⟩;obtain⟨S1,hs,hp⟩:dG B u0 q T m (λS1=>S1=S) W:=bG;refine aac (HGA.out W (hp ▸ hs)) ?_;rintro e w' ⟨rfl,h1,h2⟩;exact⟨_,rfl,rfl,rfl,h2,S,h1,rfl⟩
   |1,ht=>
    have ht:=aA ht;subst ht;obtain rfl:=aA ho;refine⟨aB rfl,Does.call (bV eU rfl (aj 5 rfl) (aj 7 rfl)) ?_⟩;obtain⟨S1,hs,hp⟩:dG B u0 q T m (λS1=>S1=S) W:=bG;refine aac (awn.out W (hp ▸ hs)) ?_;rintro e w' ⟨rfl,h1,h2⟩;exact⟨_,rfl,rfl,rfl,h2,S,h1,rfl⟩
   |n+2,ht=>exact absurd ht aH
  ·intro u W hf bG au;have aW:=fw aQ hf HX;have e0:=au.q 0;have e1:=au.q 1;have e2:=au.q 2;have e3:=au.q 3;have e4:=au.q 4;have e5:=au.q 5;have e6:=au.q 6;have e7:=au.q 7;have e8:=au.q 8;have e9:=au.q 9;have e10:=au.q 10;simp only[e0,e1,e2,e3,e4,e5,e6,e7,e8,e9,e10];have dZ:∀g,w.heap.size<=g->¬ (F g\/g∈([]:List Nat)):=λg hg a=>a.elim (λa=>by have:=aQ.out g a;omega) (λa=>by simp at a);obtain⟨S1,hs,hp⟩:dG B u0 q T m (λS1=>S1=S) W:=bG;have hzV:=hf.size;have Du:=ah (hf.blk lH (dZ _ aK));have VO:=ah (hf.blk xg (dZ _ ak));have EZ:=ah (hf.blk nX (dZ _ ak));have mQ:=ah (hf.blk jl (dZ _ ak));have yA:=ah (hf.blk HX (dZ _ ak));have RI:=ah (hf.blk HY (dZ _ ak));have yS:Hid (aZ B u0 q T S m W):=ah (hp ▸ hs);have vS:Hid (Fr F w W):=ah (kE.out.trans (hf.more λ_=>eu));have l6:b6<W.heap.size:=by omega
   have l7:b7<W.heap.size:=by omega
   have lq6:q<W.heap.size:=by omega
   have lt6:w.heap.size+3<W.heap.size:=by omega
   obtain⟨w6,Oc⟩:=aJ (W);rw[<-Oc]at yA RI Du VO EZ mQ yS vS hzV l6 l7 lq6 lt6 ⊢;clear au hf hs hp dZ aW lH xg nX jl lG kE HX HY e0 e1 e2 e3 e4 e5 e6 e7 e8 e9 e10 Oc u W;have c0:w6.cell? ⟨b6,4,none⟩=some (.int .i64 tx.right.1):=yA.out.cell 4;have c1:w6.cell? ⟨b6,5,none⟩=some (.int .i64 tx.right.2):=yA.out.cell 5;go_wp2_with fail
   refine aac (awo.out _ yS) ?_;rintro e w7 ⟨rfl,Z8,y7⟩;have dZ:∀g,w.heap.size<=g->¬F g:=λg hg a=>by have:=aQ.out g a;omega
   have rO:=(aai _ w7).alloc aK (.cells (fO tz) 124);have hz7:=y7.size;have Xc:=ah ((y7.blk Du (dZ _ aK)).alloc (.cells (fO tz) 124));have HL8:=ah ((y7.blk VO (dZ _ ak)).alloc (.cells (fO tz) 124));have MR:=ah ((y7.blk EZ (dZ _ ak)).alloc (.cells (fO tz) 124));have yZ:=ah ((y7.blk mQ (dZ _ ak)).alloc (.cells (fO tz) 124));have GU:=ah ((y7.blk yA (dZ _ ak)).alloc (.cells (fO tz) 124));have HY8:=ah ((y7.blk RI (dZ _ ak)).alloc (.cells (fO tz) 124));have HZ8:=ah (aO.new w7 124 (fO tz));have HS8:=ah (Z8.below HK rO);have Iu:Hid (Fr F w _):=ah ((vS.out.trans y7).then_ rO);have l8:w7.heap.size<(w7.alloc (.cells (fO tz) 124)).heap.size:=by rw[aad];omega
   have m6:b6<(w7.alloc (.cells (fO tz) 124)).heap.size:=by omega
   have m7:b7<(w7.alloc (.cells (fO tz) 124)).heap.size:=by omega
   have mq:q<(w7.alloc (.cells (fO tz) 124)).heap.size:=by omega
   have mt:w.heap.size+3<(w7.alloc (.cells (fO tz) 124)).heap.size:=by omega
   have nz:w.heap.size+3<w7.heap.size:=by omega
   obtain⟨w8,Iy⟩:=aJ (w7.alloc (.cells (fO tz) 124));rw[<-Iy]at Xc HL8 MR yZ GU HY8 HZ8 HS8 Iu l8 m6 m7 mq mt;clear Z8 y7 rO dZ c0 c1 Du VO EZ mQ yA RI yS vS;go_wp2_with fail
   rw[show w7.alloc (.cells #[.int .i64 tz.up.1, .int .i64 tz.up.2, .int .i64 tz.left.1, .int .i64 tz.left.2, .int .i64 tz.right.1, .int .i64 tz.right.2, .int .i64 tz.count, .int .i64 tz.height] 124)=w8 from Iy.symm];clear Iy
   refine aP (λu=>⟨#[_,_,_,_,_,_,_,_,_,_,_,_,_,_,_,_,_,_,_,_,_,_,_,_,_,_,_,_,_,_,_,_,_,_,_,_,_,_,_,_,_,_,_,_,_,_,_,_,_,_,_,_,_,_,_,_,_,_,_,u 0,u 1,u 2,u 3,u 4,u 5,u 6,u 7,u 8,u 9,u 10,u 11,u 12,u 13,u 14,u 15,u 16,_,_,_,_,_,_,_,_,_,_,_,_,_,_,_,_,_,_,_,_,_,_,_,_,_,_,_,_,_,_,_,_,_,_,_,_,_,_,_,_,_,_,_,_,_,_,_,_,_,_,_,_,_,_,_],_⟩)
    [bf q 0,
     bf b6 4,
     aF (aG ((tx).right)),
     bf q 0,
     aF (aG (lk)),
     bf b6 2,
     aF (aG ((tx).left)),
     bf w7.heap.size 2,
     aF (aG ((tz).left)),
     aF (aG (lk)),
     bf q 0,
     aF (aG (k)),
     bf w7.heap.size 4,
     aF (aG ((tz).right)),
     aF (aG (rt)),
     aF (aG (k)),
     aF (aG (mk)),
     Fl.turn _ (w.heap.size+3) 71 (aI (mk)) ak]
    F [9,15,16] (λj W=>dG B u0 q T (m) (λS1=>match j with | 0=>S1=S | 1=>Mk S S1 (Bt.node la lk ma) | 2=>∃S2,Mk S S2 (Bt.node la lk ma)/\Mk S2 S1 (Bt.node mb k r) | _=>Mk S S1 (Bt.node (Bt.node la lk ma) mk (Bt.node mb k r))) W) aV aV [w.heap.size+3] rfl aH (by simp<;>omega) (λk hk=>⟨by have:=aQ.out k hk;omega,by have:=aQ.out k hk;simp;omega⟩) ⟨λ_=>undef,rfl⟩ (⟨S,HS8.out.below HK aU.drew,rfl⟩) ?_ ?_ ?_
   ·intro i o hi ho u W hf hold aj jP;have aW:=fw aQ hf Xc;have dI:=fw aQ hf HL8;have fQ:=fw aQ hf MR;have nY:=fw aQ hf GU;have Om:=fw aQ hf HZ8
    match i,ho with
    |0,ho|3,ho|10,ho=>exact sv ho (bg rfl rfl)
    |1,ho|12,ho=>exact sv ho (fP rfl rfl)
    |2,ho=>exact sv ho (aC rfl (aj 1 rfl) (nY.cell 4) (nY.cell 5))
    |4,ho=>exact sv ho (aC rfl rfl (dI.cell 0) (dI.cell 1))
    |5,ho|7,ho=>exact sv ho (gG rfl rfl)
    |6,ho=>exact sv ho (aC rfl (aj 5 rfl) (nY.cell 2) (nY.cell 3))
    |8,ho=>exact sv ho (aC rfl (aj 7 rfl) (Om.cell 2) (Om.cell 3))
    |9,ho|15,ho|16,ho=>
     exact absurd aH hi
    |11,ho=>exact sv ho (aC rfl rfl (aW.cell 0) (aW.cell 1))
    |13,ho=>exact sv ho (aC rfl (aj 12 rfl) (Om.cell 4) (Om.cell 5))
    |14,ho=>exact sv ho (aC rfl rfl (fQ.cell 0) (fQ.cell 1))
    |17,ho=>
     obtain rfl:=aA ho;have Af:aO W (w.heap.size+3) _ _:=Eq.trans (hold _ rfl) yZ;exact aY.yD (hlt:=by omega) (ji rfl rfl (aj 16 rfl) Af) rfl rfl rfl (λ_ dK=>(λ_ h=>dG.far HK h Af ak dK ay ay ay ay))
    |n+18,ho=>exact absurd ho aH
   ·intro t i o ht ho u W hf bG aj;have aW:=fw aQ hf Xc;have dI:=fw aQ hf HL8;have fQ:=fw aQ hf MR;have nY:=fw aQ hf GU;have Om:=fw aQ hf HZ8
    match t,ht with
    |0,ht=>
     have ht:=aA ht;subst ht;obtain rfl:=aA ho;refine⟨aB rfl,Does.call (fU o8 rfl (aj 3 rfl) (aj 4 rfl) (aj 6 rfl) (aj 8 rfl)) ?_⟩;obtain⟨S1,hs,hp⟩:dG B u0 q T m (λS1=>S1=S) W:=bG;refine aac (nI.out W (hp ▸ hs)) ?_;rintro e w' ⟨rfl,⟨S2,h1,h2⟩,h3⟩;exact⟨_,rfl,rfl,rfl,h3,S2,h1,h2⟩
    |1,ht=>
     have ht:=aA ht;subst ht;obtain rfl:=aA ho;refine⟨aB rfl,Does.call (fU o8 rfl (aj 10 rfl) (aj 11 rfl) (aj 13 rfl) (aj 14 rfl)) ?_⟩;obtain⟨S1,hs,hp⟩:dG B u0 q T m (λS1=>Mk S S1 (Bt.node la lk ma)) W:=bG;refine aac (uz.out S1 W hp hs) ?_;rintro e w' ⟨rfl,⟨S2,h1,h2⟩,h3⟩;exact⟨_,rfl,rfl,rfl,h3,S2,h1,S1,hp,h2⟩
    |2,ht=>
     have ht:=aA ht;subst ht;obtain rfl:=aA ho;refine⟨aB rfl,Does.call (fU o8 rfl (aj 0 rfl) (aj 2 rfl) (aj 9 rfl) (aj 15 rfl)) ?_⟩;obtain⟨S1,hs,S2,hp,Gu⟩:dG B u0 q T m (λS1=>∃S2,Mk S S2 (Bt.node la lk ma)/\Mk S2 S1 (Bt.node mb k r)) W:=bG;refine aac (awp.out S2 S1 W hp Gu hs) ?_;rintro e w' ⟨rfl,⟨S3,h1,h2⟩,h3⟩;exact⟨_,rfl,rfl,rfl,h3,S3,h1,h2⟩
    |n+3,ht=>exact absurd ht aH
   ·intro u W hf bG au;have aW:=fw aQ hf Xc;have dI:=fw aQ hf HL8;have fQ:=fw aQ hf MR;have nY:=fw aQ hf GU;have Om:=fw aQ hf HZ8;have e0:=au.q 0;have e1:=au.q 1;have e2:=au.q 2;have e3:=au.q 3;have e4:=au.q 4;have e5:=au.q 5;have e6:=au.q 6;have e7:=au.q 7;have e8:=au.q 8;have e9:=au.q 9;have e10:=au.q 10;have e11:=au.q 11;have e12:=au.q 12;have e13:=au.q 13;have e14:=au.q 14;have e15:=au.q 15;have e16:=au.q 16;have X5:=(au.p 17 ay trivial);change aO W (w.heap.size+3) _ _ at X5;simp only[e0,e1,e2,e3,e4,e5,e6,e7,e8,e9,e10,e11,e12,e13,e14,e15,e16];obtain⟨S1,hs,hp⟩:dG B u0 q T m (λS1=>Mk S S1 (Bt.node (Bt.node la lk ma) mk (Bt.node mb k r))) W:=bG;have HE:Hid (∃S',aZ B u0 q T S' m W/\Mk S S' (Bt.node (Bt.node la lk ma) mk (Bt.node mb k r))):=ah ⟨S1,hs,hp⟩;have xA:Hid (Fr F w W):=ah (Iu.out.newS hf λk hk=>by simp at hk;omega);have nJ:=ah X5;clear au hf hs hp e0 e1 e2 e3 e4 e5 e6 e7 e8 e9 e10 e11 e12 e13 e14 e15 e16 aW dI fQ nY Om X5;go_wp2;refine bodyPost_ret (eF dW rfl rfl nJ rfl) rfl ?_;exact⟨rfl,HE,xA⟩
end
section
variable {F:Nat->Prop}{B u0 q m:Nat}{T:List bT->Nat->World->Prop}{S:St}{w w':World}
theorem amP(K:Kv F B u0 T)(h:aZ B u0 q T S m w){l ra rb:Bt}{k rk:Tok}(hl:Sub S (l))(hr:Sub S (Bt.node ra rk rb))(hn:(Bt.node (l) k (Bt.node ra rk rb)).list.Nodup)(hk:∃n,S k=some n)(hc:(l).cnt+(Bt.node ra rk rb).cnt+1<=250)(hht:l.ht+1<(Bt.node ra rk rb).ht)(yh:ra.ht<=rb.ht):Calls prog 131 #[.pointer (some ⟨q,0,none⟩),aG k,aG (l).rt,aG rk] w (EY F B u0 q T m S w (Bt.node (Bt.node l k ra) rk rb)):=by
 obtain⟨MP,qh⟩:=hl;obtain⟨MQ,yV⟩:=hr;have hl:Sub S (l):=⟨MP,qh⟩;have hr:Sub S (Bt.node ra rk rb):=⟨MQ,yV⟩;have sG:=ah (λW (hW:aZ B u0 q T S m W)=>dY K hW qh);have vT:=ah (λW (hW:aZ B u0 q T S m W)=>dY K hW yV);obtain⟨tx,pU⟩:=aJ (tv MP (l));obtain⟨ty,uy⟩:=aJ (tv MQ (Bt.node ra rk rb));have Bc:tx.height=(l).ht:=pU ▸ kP _ _;have Bf:ty.height=(Bt.node ra rk rb).ht:=uy ▸ kP _ _;have Ik:=Bt.lC (l);have Jv:=Bt.lC (Bt.node ra rk rb);rw[<-pU]at sG;rw[<-uy]at vT;obtain⟨Oo,P7,_⟩:=hr.kids;obtain⟨n1,n2,sra,dN⟩:=aiM hr hn;have Dy:l.cnt+(ra.cnt+rb.cnt+1)+1<=250:=hc;have HGA:=ah (λW (hW:aZ B u0 q T S m W)=>dY K hW Oo);have HGB:=ah (λW (hW:aZ B u0 q T S m W)=>dY K hW P7);have nI:=ah (λW (hW:aZ B u0 q T S m W)=>nO K hW hl sra n1 hk ak)
 have uz:Hid (∀S1 W,Mk S S1 (Bt.node l k ra)->aZ B u0 q T S1 m W->Calls prog 74 #[.pointer (some ⟨q,0,none⟩),aG rk,aG k,aG rb.rt] W (EY F B u0 q T m S W (Bt.node (Bt.node l k ra) rk rb))):=ah λS1 W hm hW=>by
  obtain⟨a1,a2,a3⟩:=dN S1 hm;refine(nO K hW hm.sub a1 n2 a2 (by show l.cnt+ra.cnt+1+rb.cnt+1<=250;omega)).mono ?_;rintro e w' ⟨rfl,⟨S2,b1,b2⟩,b3⟩;exact⟨rfl,⟨S2,b1,a3 S2 b2⟩,b3⟩
 have ZU:Hid (((ra.ht:Nat):Int)<=((rb.ht:Nat):Int)):=ah ak;have hyl:ra.rt=ty.left:=by rw[uy];rfl
 have hyr:rb.rt=ty.right:=by rw[uy];rfl
 rw[hyl]at HGA nI;rw[hyr]at HGB uz;have EH:¬ ((Bt.node ra rk rb).ht:Int)+1<(l.ht:Int):=by omega
 have hi:(l.ht:Int)+1<((Bt.node ra rk rb).ht:Int):=by omega
 obtain⟨lt,hlt⟩:=aJ ((l).rt);rw[<-hlt]at sG nI ⊢;change Hid (∀W _,Calls prog _ #[_,aG rk] W _)at vT;obtain⟨nl,Dx⟩:=aJ ((l).ht);obtain⟨nr,IY⟩:=aJ ((Bt.node ra rk rb).ht);rw[<-Dx]at Bc Ik hi EH;rw[<-IY]at Bf Jv hi EH;have X0:nl<=250:=by omega
 have X3:nr<=250:=by omega
 have I7:=ah Bc;have I8:=ah Bf;have bD:=(aai w.heap.size w).alloc aK (.cells (aI k) 71);have bK:=bD.alloc bD.size (.cells (aI lt) 71);have dJ:=bK.alloc bK.size (.cells (aI rk) 71);have iC:=dJ.alloc dJ.size (.cells #[.int .i64 0, .int .i64 0] 71);have Ce:=(((aO.new w 71 (aI k)).alloc (.cells (aI lt) 71)).alloc (.cells (aI rk) 71)).alloc (.cells #[.int .i64 0, .int .i64 0] 71);have yP:=((aO.new (w.alloc (.cells (aI k) 71)) 71 (aI lt)).alloc (.cells (aI rk) 71)).alloc (.cells #[.int .i64 0, .int .i64 0] 71);have qm:=(aO.new ((w.alloc (.cells (aI k) 71)).alloc (.cells (aI lt) 71)) 71 (aI rk)).alloc (.cells #[.int .i64 0, .int .i64 0] 71);have vw:=aO.new (((w.alloc (.cells (aI k) 71)).alloc (.cells (aI lt) 71)).alloc (.cells (aI rk) 71)) 71 #[.int .i64 0, .int .i64 0];rw[aad]at yP;rw[aad,aad]at qm;rw[aad,aad,aad]at vw;have Ol:=h.self.lt;have rF:=h.hq;have jY:=ah Ce;have qc:=ah yP;have kV:=ah qm;have rG:=ah vw;have oD:=ah iC;have HK:=ah K;have lD:=ah (h.below K iC);have aQ:Hid (∀k,F k->k<B):=ah K.low;clear Ce yP qm vw bD bK dJ iC h K hl hr qh yV hn hk pU uy Bc Bf Dx IY Ik Jv hc Oo P7 n1 n2 sra dN Dy hyl hyr hht yh hlt;go_enter func131,ntmps131
 go_wp2_with fail
 have hz:=oD.out.size;have yU:=rG.out.lt
 refine aP (λu=>⟨#[_,_,_,_,_,_,_,_,_,u 6,u 7,_,_,u 0,u 1,u 2,u 3,u 4,u 5,_,_,_,_,_,_,_,_,_,_,_,_,_,_,_,_,_,_,_,_,_,_,_,_,_,_,_,_,_,_,_,_,_,_,_,_,_,_,_,_,_,_,_,_,_,_,_,_,_,_,_,_,_,_,_,_,_,_,_,_,_,_,_,_,_,_,_,_,_,_,_,_,_,_,_,_,_,_,_,_,_,_,_,_,_,_,_,_,_,_,_,_,_,_,_,_,_,_,_,_,_,_,_,_,_,_,_,_,_,_,_,_],_⟩)
  [bf q 0,
   aF (aG (lt)),
   aF (pY (tx)),
   bf q 0,
   aF (aG (rk)),
   aF (pY (ty)),
   Fl.box _ 124 sF,
   Fl.box _ 124 sF,
   Fl.fill _ 6 124 (fO (tx)),
   Fl.fill _ 7 124 (fO (ty))]
  F [2,5] (λj W=>dG B u0 q T (m) (λS1=>S1=S) W) aV aV [] rfl aH (by simp<;>omega) (λk hk=>⟨by have:=aQ.out k hk;omega,by simp⟩) ⟨λ_=>undef,rfl⟩ (⟨S,lD.out.below HK aU.drew,rfl⟩) ?_ ?_ ?_
 ·intro i o hi ho u W hf hold aj jP;have aW:=fw aQ hf jY;have dI:=fw aQ hf qc;have fQ:=fw aQ hf kV
  match i,ho with
  |0,ho|3,ho=>exact sv ho (bg rfl rfl)
  |1,ho=>exact sv ho (aC rfl rfl (dI.cell 0) (dI.cell 1))
  |2,ho|5,ho=>
   exact absurd aH hi
  |4,ho=>exact sv ho (aC rfl rfl (fQ.cell 0) (fQ.cell 1))
  |6,ho|7,ho=>
   obtain rfl:=aA ho;exact aY.mem (oZ rfl) rfl rfl rfl ⟨_,rfl⟩ (.inl rfl) (λ_ h=>dG.below HK h (aU.alloc aK _))
  |8,ho=>
   obtain rfl:=aA ho;obtain⟨iR,gI⟩:=jP 6 rfl;have jd:=gI _ _ rfl;obtain⟨bz,jw⟩:=aj 6 rfl;rw[jw]at iR jd;change _<=bz at iR;change aO W bz _ _ at jd;exact aY.oh (ig rfl jw (aj 2 rfl) jd) rfl rfl rfl jw iR (λ_ dK=>(λ_ h=>dG.far HK h jd ak dK ay ay ay ay))
  |9,ho=>
   obtain rfl:=aA ho;obtain⟨iR,gI⟩:=jP 7 rfl;have jd:=gI _ _ rfl;obtain⟨bz,jw⟩:=aj 7 rfl;rw[jw]at iR jd;change _<=bz at iR;change aO W bz _ _ at jd;exact aY.oh (ig rfl jw (aj 5 rfl) jd) rfl rfl rfl jw iR (λ_ dK=>(λ_ h=>dG.far HK h jd ak dK ay ay ay ay))
  |n+10,ho=>exact absurd ho aH
 ·intro t i o ht ho u W hf bG aj;have aW:=fw aQ hf jY;have dI:=fw aQ hf qc;have fQ:=fw aQ hf kV
  match t,ht with
  |0,ht=>
   have ht:=aA ht;subst ht;obtain rfl:=aA ho;refine⟨aB rfl,Does.call (bV eU rfl (aj 0 rfl) (aj 1 rfl)) ?_⟩;obtain⟨S1,hs,hp⟩:dG B u0 q T m (λS1=>S1=S) W:=bG;refine aac (sG.out W (hp ▸ hs)) ?_;rintro e w' ⟨rfl,h1,h2⟩;exact⟨_,rfl,rfl,rfl,h2,S,h1,rfl⟩
  |1,ht=>
   have ht:=aA ht;subst ht;obtain rfl:=aA ho;refine⟨aB rfl,Does.call (bV eU rfl (aj 3 rfl) (aj 4 rfl)) ?_⟩;obtain⟨S1,hs,hp⟩:dG B u0 q T m (λS1=>S1=S) W:=bG;refine aac (vT.out W (hp ▸ hs)) ?_;rintro e w' ⟨rfl,h1,h2⟩;exact⟨_,rfl,rfl,rfl,h2,S,h1,rfl⟩
  |n+2,ht=>exact absurd ht aH
 ·intro u W hf bG au;have aW:=fw aQ hf jY;have dI:=fw aQ hf qc;have fQ:=fw aQ hf kV;have e0:=au.q 0;have e1:=au.q 1;have e2:=au.q 2;have e3:=au.q 3;have e4:=au.q 4;have e5:=au.q 5;obtain⟨b6,e6⟩:∃b,u 6= .pointer (some ⟨b,0,none⟩):=au.p 6 ay trivial;obtain⟨b7,e7⟩:∃b,u 7= .pointer (some ⟨b,0,none⟩):=au.p 7 ay trivial;have lX:=(au.p 8 ay trivial);change _<=mX (u 6)/\aO W (mX (u 6)) _ _ at lX;rw[e6]at lX;have Ws:=lX.1;change _<=b6 at Ws
  replace lX:=lX.2
  change aO W b6 _ _ at lX;have lY:=(au.p 9 ay trivial);change _<=mX (u 7)/\aO W (mX (u 7)) _ _ at lY;rw[e7]at lY;have VN:=lY.1;change _<=b7 at VN
  replace lY:=lY.2
  change aO W b7 _ _ at lY;simp only[e0,e1,e2,e3,e4,e5,e6,e7];have dZ:∀g,w.heap.size<=g->¬ (F g\/g∈([]:List Nat)):=λg hg a=>a.elim (λa=>by have:=aQ.out g a;omega) (λa=>by simp at a);obtain⟨S1,hs,hp⟩:dG B u0 q T m (λS1=>S1=S) W:=bG;have EX:Fr F w W:=(Fr.of_below oD).trans (hf.more λ_=>eu);have Ac:=hf.size;have lH:=ah (hf.blk jY (dZ _ aK));have xg:=ah (hf.blk qc (dZ _ ak));have nX:=ah (hf.blk kV (dZ _ ak));have jl:=ah (hf.blk rG (dZ _ ak));have lG:Hid (aZ B u0 q T S m W):=ah (hp ▸ hs);have kE:=ah EX;have HX:=ah lX;have HY:=ah lY;have cx:W.cell? ⟨b6,7,none⟩=some (.int .i64 (nl:Nat)):=(HX.out.cell 7).trans (by show some (acS _ _)=_;rw[I7.out]);have cy:W.cell? ⟨b7,7,none⟩=some (.int .i64 (nr:Nat)):=(HY.out.cell 7).trans (by show some (acS _ _)=_;rw[I8.out]);have q1:W.cell? ⟨q,1,none⟩=some (.int .i64 0):=lG.out.self.cell 1;have hwr:IntKind.i64.wrap ((nr:Int)+1)=(nr:Int)+1:=acK _ ak;have hwl:IntKind.i64.wrap ((nl:Int)+1)=(nl:Int)+1:=acK _ ak;have YJ:=lG.out.self.lt;have EF:=HX.out.lt;have RQ:=HY.out.lt;obtain⟨w5,oI⟩:=aJ (W);rw[<-oI]at HX HY lH xg nX jl lG kE Ac cx cy q1 YJ EF RQ ⊢;clear au hf hs hp EX dZ aW dI fQ jY qc kV rG lD oD sG vT I7 I8 lX lY e0 e1 e2 e3 e4 e5 e6 e7 oI u W;go_wp2_with fail
  refine aP (λu=>⟨#[_,_,_,_,_,_,_,_,_,_,_,_,_,_,_,_,_,_,_,_,_,_,_,_,_,_,_,_,_,_,_,_,_,_,_,_,_,_,_,_,_,_,_,_,_,_,_,_,_,_,_,_,_,_,_,_,_,_,_,_,_,_,_,_,_,_,_,_,_,_,_,_,_,_,_,_,_,_,_,_,_,_,_,u 0,u 1,u 2,u 3,u 4,u 5,u 6,u 7,u 8,u 9,u 10,_,_,_,_,_,_,_,_,_,_,_,_,_,_,_,_,_,_,_,_,_,_,_,_,_,_,_,_,_,_,_,_,_,_,_,_,_],_⟩)
   [bf q 0,
    bf b7 4,
    aF (aG ((ty).right)),
    aF (pY (tv rk rb)),
    aF (.int .i64 (((rb.ht:Nat):Int))),
    bf q 0,
    bf b7 2,
    aF (aG ((ty).left)),
    aF (pY (tv rk ra)),
    aF (.int .i64 (((ra.ht:Nat):Int))),
    aF (.bool (true))]
   F [3,8] (λj W=>dG B u0 q T (m) (λS1=>S1=S) W) aV aV [] rfl aH (by simp<;>omega) (λk hk=>⟨by have:=aQ.out k hk;omega,by simp⟩) ⟨λ_=>undef,rfl⟩ (⟨S,lG.out.below HK aU.drew,rfl⟩) ?_ ?_ ?_
  ·intro i o hi ho u W hf hold aj jP;have aW:=fw aQ hf HY
   match i,ho with
   |0,ho|5,ho=>exact sv ho (bg rfl rfl)
   |1,ho=>exact sv ho (fP rfl rfl)
   |2,ho=>exact sv ho (aC rfl (aj 1 rfl) (aW.cell 4) (aW.cell 5))
   |3,ho|8,ho=>
    exact absurd aH hi
   |4,ho=>exact sv ho (ou rfl (aj 3 rfl)) (hp:=(by show acS _ _=_;rw[kP]))
   |6,ho=>exact sv ho (gG rfl rfl)
   |7,ho=>exact sv ho (aC rfl (aj 6 rfl) (aW.cell 2) (aW.cell 3))
   |9,ho=>exact sv ho (ou rfl (aj 8 rfl)) (hp:=(by show acS _ _=_;rw[kP]))
   |10,ho=>exact sv ho (QX rfl (aj 4 rfl) (aj 9 rfl)) (hp:=(by show agD (decide _)=_;rw[decide_eq_true ZU.out]))
   |n+11,ho=>exact absurd ho aH
  ·intro t i o ht ho u W hf bG aj;have aW:=fw aQ hf HY
   match t,ht with
   |0,ht=>
    have ht:=aA ht;subst ht;obtain rfl:=aA ho;refine⟨aB rfl,Does.call (bV eU rfl (aj 0 rfl) (aj 2 rfl)) ?_⟩;obtain⟨S1,hs,hp⟩:dG B u0 q T m (λS1=>S1=S) W:=bG;refine aac (HGB.out W (hp ▸ hs)) ?_;rintro e w' ⟨rfl,h1,h2⟩;exact⟨_,rfl,rfl,rfl,h2,S,h1,rfl⟩
   |1,ht=>
    have ht:=aA ht;subst ht;obtain rfl:=aA ho;refine⟨aB rfl,Does.call (bV eU rfl (aj 5 rfl) (aj 7 rfl)) ?_⟩;obtain⟨S1,hs,hp⟩:dG B u0 q T m (λS1=>S1=S) W:=bG;refine aac (HGA.out W (hp ▸ hs)) ?_;rintro e w' ⟨rfl,h1,h2⟩;exact⟨_,rfl,rfl,rfl,h2,S,h1,rfl⟩
   |n+2,ht=>exact absurd ht aH
  ·intro u W hf bG au;have aW:=fw aQ hf HY;have e0:=au.q 0;have e1:=au.q 1;have e2:=au.q 2;have e3:=au.q 3;have e4:=au.q 4;have e5:=au.q 5;have e6:=au.q 6;have e7:=au.q 7;have e8:=au.q 8;have e9:=au.q 9;have e10:=au.q 10;simp only[e0,e1,e2,e3,e4,e5,e6,e7,e8,e9,e10];have dZ:∀g,w.heap.size<=g->¬ (F g\/g∈([]:List Nat)):=λg hg a=>a.elim (λa=>by have:=aQ.out g a;omega) (λa=>by simp at a);obtain⟨S1,hs,hp⟩:dG B u0 q T m (λS1=>S1=S) W:=bG;have hzV:=hf.size;have Du:=ah (hf.blk lH (dZ _ aK));have VO:=ah (hf.blk xg (dZ _ ak));have EZ:=ah (hf.blk nX (dZ _ ak));have mQ:=ah (hf.blk jl (dZ _ ak));have yA:=ah (hf.blk HX (dZ _ ak));have RI:=ah (hf.blk HY (dZ _ ak));have yS:Hid (aZ B u0 q T S m W):=ah (hp ▸ hs);have vS:Hid (Fr F w W):=ah (kE.out.trans (hf.more λ_=>eu));have l6:b6<W.heap.size:=by omega
   have l7:b7<W.heap.size:=by omega
   have lq6:q<W.heap.size:=by omega
   have lt6:w.heap.size+3<W.heap.size:=by omega
   obtain⟨w6,Oc⟩:=aJ (W);rw[<-Oc]at yA RI Du VO EZ mQ yS vS hzV l6 l7 lq6 lt6 ⊢;clear au hf hs hp dZ aW lH xg nX jl lG kE HX HY e0 e1 e2 e3 e4 e5 e6 e7 e8 e9 e10 Oc u W;go_wp2_with fail
   refine aP (λu=>⟨#[_,_,_,_,_,_,_,_,_,_,_,_,_,_,_,_,_,_,_,_,_,_,_,_,_,_,_,_,_,_,_,_,_,_,_,_,_,_,_,_,_,_,_,_,_,_,_,_,_,_,_,_,_,_,_,_,_,_,_,_,_,_,_,_,_,_,_,_,_,_,_,_,_,_,_,_,_,_,_,_,_,_,_,_,_,_,_,_,_,_,_,_,_,_,u 0,u 1,u 2,u 3,u 4,u 5,u 6,u 7,u 8,u 9,u 10,_,_,_,_,_,_,_,_,_,_,_,_,_,_,_,_,_,_,_,_,_,_,_,_,_,_],_⟩)
    [bf q 0,
     aF (aG (rk)),
     bf q 0,
     aF (aG (k)),
     aF (aG (lt)),
     bf b7 2,
     aF (aG ((ty).left)),
     aF (aG (k)),
     bf b7 4,
     aF (aG ((ty).right)),
     aF (aG (rk)),
     Fl.turn _ (w.heap.size+3) 71 (aI (rk)) ak]
    F [7,10] (λj W=>dG B u0 q T (m) (λS1=>match j with | 0=>S1=S | 1=>Mk S S1 (Bt.node l k ra) | _=>Mk S S1 (Bt.node (Bt.node l k ra) rk rb)) W) aV aV [w.heap.size+3] rfl aH (by simp<;>omega) (λk hk=>⟨by have:=aQ.out k hk;omega,by have:=aQ.out k hk;simp;omega⟩) ⟨λ_=>undef,rfl⟩ (⟨S,yS.out.below HK aU.drew,rfl⟩) ?_ ?_ ?_
   ·intro i o hi ho u W hf hold aj jP;have aW:=fw aQ hf Du;have dI:=fw aQ hf VO;have fQ:=fw aQ hf EZ;have nY:=fw aQ hf RI
    match i,ho with
    |0,ho|2,ho=>exact sv ho (bg rfl rfl)
    |1,ho=>exact sv ho (aC rfl rfl (fQ.cell 0) (fQ.cell 1))
    |3,ho=>exact sv ho (aC rfl rfl (aW.cell 0) (aW.cell 1))
    |4,ho=>exact sv ho (aC rfl rfl (dI.cell 0) (dI.cell 1))
    |5,ho=>exact sv ho (gG rfl rfl)
    |6,ho=>exact sv ho (aC rfl (aj 5 rfl) (nY.cell 2) (nY.cell 3))
    |7,ho|10,ho=>
     exact absurd aH hi
    |8,ho=>exact sv ho (fP rfl rfl)
    |9,ho=>exact sv ho (aC rfl (aj 8 rfl) (nY.cell 4) (nY.cell 5))
    |11,ho=>
     obtain rfl:=aA ho;have Af:aO W (w.heap.size+3) _ _:=Eq.trans (hold _ rfl) mQ;exact aY.yD (hlt:=by omega) (ji rfl rfl (aj 10 rfl) Af) rfl rfl rfl (λ_ dK=>(λ_ h=>dG.far HK h Af ak dK ay ay ay ay))
    |n+12,ho=>exact absurd ho aH
   ·intro t i o ht ho u W hf bG aj;have aW:=fw aQ hf Du;have dI:=fw aQ hf VO;have fQ:=fw aQ hf EZ;have nY:=fw aQ hf RI
    match t,ht with
    |0,ht=>
     have ht:=aA ht;subst ht;obtain rfl:=aA ho;refine⟨aB rfl,Does.call (fU o8 rfl (aj 2 rfl) (aj 3 rfl) (aj 4 rfl) (aj 6 rfl)) ?_⟩;obtain⟨S1,hs,hp⟩:dG B u0 q T m (λS1=>S1=S) W:=bG;refine aac (nI.out W (hp ▸ hs)) ?_;rintro e w' ⟨rfl,⟨S2,h1,h2⟩,h3⟩;exact⟨_,rfl,rfl,rfl,h3,S2,h1,h2⟩
    |1,ht=>
     have ht:=aA ht;subst ht;obtain rfl:=aA ho;refine⟨aB rfl,Does.call (fU o8 rfl (aj 0 rfl) (aj 1 rfl) (aj 7 rfl) (aj 9 rfl)) ?_⟩;obtain⟨S1,hs,hp⟩:dG B u0 q T m (λS1=>Mk S S1 (Bt.node l k ra)) W:=bG;refine aac (uz.out S1 W hp hs) ?_;rintro e w' ⟨rfl,⟨S2,h1,h2⟩,h3⟩;exact⟨_,rfl,rfl,rfl,h3,S2,h1,h2⟩
    |n+2,ht=>exact absurd ht aH
   ·intro u W hf bG au;have aW:=fw aQ hf Du;have dI:=fw aQ hf VO;have fQ:=fw aQ hf EZ;have nY:=fw aQ hf RI;have e0:=au.q 0;have e1:=au.q 1;have e2:=au.q 2;have e3:=au.q 3;have e4:=au.q 4;have e5:=au.q 5;have e6:=au.q 6;have e7:=au.q 7;have e8:=au.q 8;have e9:=au.q 9;have e10:=au.q 10;have Di:=(au.p 11 ay trivial);change aO W (w.heap.size+3) _ _ at Di;simp only[e0,e1,e2,e3,e4,e5,e6,e7,e8,e9,e10];obtain⟨S1,hs,hp⟩:dG B u0 q T m (λS1=>Mk S S1 (Bt.node (Bt.node l k ra) rk rb)) W:=bG;have HE:Hid (∃S',aZ B u0 q T S' m W/\Mk S S' (Bt.node (Bt.node l k ra) rk rb)):=ah ⟨S1,hs,hp⟩;have xA:Hid (Fr F w W):=ah (vS.out.newS hf λk hk=>by simp at hk;omega);have nJ:=ah Di;clear au hf hs hp e0 e1 e2 e3 e4 e5 e6 e7 e8 e9 e10 aW dI fQ nY Di;go_wp2;refine bodyPost_ret (eF dW rfl rfl nJ rfl) rfl ?_;exact⟨rfl,HE,xA⟩
end
end Go.Proofs.YtadnmegdbllaoaaGreatDoor
