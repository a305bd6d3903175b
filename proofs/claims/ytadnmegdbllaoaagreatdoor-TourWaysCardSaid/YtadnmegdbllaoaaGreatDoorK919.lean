/- Part of this proof. -/
import Derived.Test.YtadnmegdbllaoaaGreatDoorK918
set_option maxRecDepth 100000
set_option maxHeartbeats 8000000
open Eq renaming trans->ag1
open Go.Calls renaming mono->aac
open Go.IntWalk renaming i64_in->acK
open Go.RowKit.Below renaming refl->aai
open Go.Value renaming bool->agD,int->acS
open Go.World renaming size_alloc->aad,size_setCell->akW
open List renaming getD_eq_getElem?_getD->ac6,getElem?_eq_getElem->acU,getElem_mem->acT,mem_append->aaf,mem_singleton->acI,nodup_append->acG,take_length->ahe,take_succ_eq_append_getElem->acO
namespace Go.Proofs.YtadnmegdbllaoaaGreatDoor
open Go.RowKit Go.Shelf Sq Tryz
section
variable {F:Nat->Prop}{B u0 q m:Nat}{T:List bT->Nat->World->Prop}{S:St}{w w':World}
theorem amQ(K:Kv F B u0 T)(h:aZ B u0 q T S m w){l ma mb rb:Bt}{k mk rk:Tok}(hl:Sub S (l))(hr:Sub S (Bt.node (Bt.node ma mk mb) rk rb))(hn:(Bt.node (l) k (Bt.node (Bt.node ma mk mb) rk rb)).list.Nodup)(hk:∃n,S k=some n)(hc:(l).cnt+(Bt.node (Bt.node ma mk mb) rk rb).cnt+1<=250)(hht:l.ht+1<(Bt.node (Bt.node ma mk mb) rk rb).ht)(yh:¬ (Bt.node ma mk mb).ht<=rb.ht):Calls prog 131 #[.pointer (some ⟨q,0,none⟩),aG k,aG (l).rt,aG rk] w (EY F B u0 q T m S w (Bt.node (Bt.node l k ma) mk (Bt.node mb rk rb))):=by
 obtain⟨MP,qh⟩:=hl;obtain⟨MQ,yV⟩:=hr;have hl:Sub S (l):=⟨MP,qh⟩;have hr:Sub S (Bt.node (Bt.node ma mk mb) rk rb):=⟨MQ,yV⟩;have sG:=ah (λW (hW:aZ B u0 q T S m W)=>dY K hW qh);have vT:=ah (λW (hW:aZ B u0 q T S m W)=>dY K hW yV);obtain⟨tx,pU⟩:=aJ (tv MP (l));obtain⟨ty,uy⟩:=aJ (tv MQ (Bt.node (Bt.node ma mk mb) rk rb));have Bc:tx.height=(l).ht:=pU ▸ kP _ _;have Bf:ty.height=(Bt.node (Bt.node ma mk mb) rk rb).ht:=uy ▸ kP _ _;have Ik:=Bt.lC (l);have Jv:=Bt.lC (Bt.node (Bt.node ma mk mb) rk rb);rw[<-pU]at sG;rw[<-uy]at vT;obtain⟨Oo,P7,_⟩:=hr.kids;obtain⟨sma,n1,n2,n3,dN⟩:=aiN hr hn;have Dy:l.cnt+((ma.cnt+mb.cnt+1)+rb.cnt+1)+1<=250:=hc;obtain⟨tz,htz⟩:=aJ (tv rk (Bt.node ma mk mb));have hyl:mk=ty.left:=by rw[uy];rfl
 have hyr:rb.rt=ty.right:=by rw[uy];rfl
 have Z9:ma.rt=tz.left:=by rw[htz];rfl
 have Oe:mb.rt=tz.right:=by rw[htz];rfl
 have HGB:=ah (λW (hW:aZ B u0 q T S m W)=>dY K hW P7)
 have awq:Hid (∀W,aZ B u0 q T S m W->Calls prog 67 #[.pointer (some ⟨q,0,none⟩),aG ty.left] W λe w'=>e= .returned (pY (tv rk (Bt.node ma mk mb)))/\aZ B u0 q T S m w'/\Fr F W w'):=ah λW hW=>by
  rw[<-hyl];exact dY K hW Oo
 have awr:Hid (∀W,aZ B u0 q T S m W->Calls prog 67 #[.pointer (some ⟨q,0,none⟩),aG ty.left] W λe w'=>e= .returned (pY tz)/\aZ B u0 q T S m w'/\Fr F W w'):=ah λW hW=>by
  rw[<-hyl,htz];exact dY K hW Oo
 have nI:=ah (λW (hW:aZ B u0 q T S m W)=>nO K hW hl sma n1 hk ak)
 have uz:Hid (∀S1 W,Mk S S1 (Bt.node l k ma)->aZ B u0 q T S1 m W->Calls prog 74 #[.pointer (some ⟨q,0,none⟩),aG rk,aG mb.rt,aG rb.rt] W (EY F B u0 q T m S1 W (Bt.node mb rk rb))):=ah λS1 W hm hW=>by
  obtain⟨a1,a2,a3,_⟩:=dN S1 hm;exact nO K hW a1 a2 n2 a3 ak
 have ZY:Hid (∀S1 S2 W,Mk S S1 (Bt.node l k ma)->Mk S1 S2 (Bt.node mb rk rb)->aZ B u0 q T S2 m W->Calls prog 74 #[.pointer (some ⟨q,0,none⟩),aG ty.left,aG k,aG rk] W (EY F B u0 q T m S W (Bt.node (Bt.node l k ma) mk (Bt.node mb rk rb)))):=ah λS1 S2 W hm AX hW=>by
  rw[<-hyl];obtain⟨_,_,_,a4⟩:=dN S1 hm;obtain⟨a5,a6,a7⟩:=a4 S2 AX;refine(nO K hW a5 AX.sub n3 a6 (by show l.cnt+ma.cnt+1+(mb.cnt+rb.cnt+1)+1<=250;omega)).mono ?_;rintro e w' ⟨rfl,⟨S3,b1,b2⟩,b3⟩;exact⟨rfl,⟨S3,b1,a7 S3 b2⟩,b3⟩
 have ZU:Hid (((rb.ht:Nat):Int)<(((Bt.node ma mk mb).ht:Nat):Int)):=ah ak;rw[hyr]at HGB uz;rw[Z9]at nI;rw[Oe]at uz;have EH:¬ ((Bt.node (Bt.node ma mk mb) rk rb).ht:Int)+1<(l.ht:Int):=by omega
 have hi:(l.ht:Int)+1<((Bt.node (Bt.node ma mk mb) rk rb).ht:Int):=by omega
 obtain⟨lt,hlt⟩:=aJ ((l).rt);rw[<-hlt]at sG nI ⊢;change Hid (∀W _,Calls prog _ #[_,aG rk] W _)at vT;obtain⟨nl,Dx⟩:=aJ ((l).ht);obtain⟨nr,IY⟩:=aJ ((Bt.node (Bt.node ma mk mb) rk rb).ht);rw[<-Dx]at Bc Ik hi EH;rw[<-IY]at Bf Jv hi EH;have X0:nl<=250:=by omega
 have X3:nr<=250:=by omega
 have I7:=ah Bc;have I8:=ah Bf;have bD:=(aai w.heap.size w).alloc aK (.cells (aI k) 71);have bK:=bD.alloc bD.size (.cells (aI lt) 71);have dJ:=bK.alloc bK.size (.cells (aI rk) 71);have iC:=dJ.alloc dJ.size (.cells #[.int .i64 0, .int .i64 0] 71);have Ce:=(((aO.new w 71 (aI k)).alloc (.cells (aI lt) 71)).alloc (.cells (aI rk) 71)).alloc (.cells #[.int .i64 0, .int .i64 0] 71);have yP:=((aO.new (w.alloc (.cells (aI k) 71)) 71 (aI lt)).alloc (.cells (aI rk) 71)).alloc (.cells #[.int .i64 0, .int .i64 0] 71);have qm:=(aO.new ((w.alloc (.cells (aI k) 71)).alloc (.cells (aI lt) 71)) 71 (aI rk)).alloc (.cells #[.int .i64 0, .int .i64 0] 71);have vw:=aO.new (((w.alloc (.cells (aI k) 71)).alloc (.cells (aI lt) 71)).alloc (.cells (aI rk) 71)) 71 #[.int .i64 0, .int .i64 0];rw[aad]at yP;rw[aad,aad]at qm;rw[aad,aad,aad]at vw;have Ol:=h.self.lt;have rF:=h.hq;have jY:=ah Ce;have qc:=ah yP;have kV:=ah qm;have rG:=ah vw;have oD:=ah iC;have HK:=ah K;have lD:=ah (h.below K iC);have aQ:Hid (∀k,F k->k<B):=ah K.low;clear Ce yP qm vw bD bK dJ iC h K hl hr qh yV hn hk pU uy Bc Bf Dx IY Ik Jv hc Oo P7 sma n1 n2 n3 dN Dy htz hyl hyr Z9 Oe hht yh hlt;go_enter func131,ntmps131
 go_wp2_with fail
 have hz:=oD.out.size;have yU:=rG.out.lt
 refine aP (λu=>⟨#[_,_,_,_,_,_,_,_,_,u 6,u 7,_,_,u 0,u 1,u 2,u 3,u 4,u 5,_,_,_,_,_,_,_,_,_,_,_,_,_,_,_,_,_,_,_,_,_,_,_,_,_,_,_,_,_,_,_,_,_,_,_,_,_,_,_,_,_,_,_,_,_,_,_,_,_,_,_,_,_,_,_,_,_,_,_,_,_,_,_,_,_,_,_,_,_,_,_,_,_,_,_,_,_,_,_,_,_,_,_,_,_,_,_,_,_,_,_,_,_,_,_,_,_,_,_,_,_,_,_,_,_,_,_,_,_,_,_,_],_⟩)
  [bf q 0,
   aF (aG (lt)),
   aF (pY (tx)),
   bf q 0,
   aF (aG (rk)),
   aF (pY (ty)),
   Fl.box _ 124 sF,
   Fl.box _ 124 sF,
   Fl.fill _ 6 124 (fO (tx)),
   Fl.fill _ 7 124 (fO (ty))]
  F [2,5] (λj W=>dG B u0 q T (m) (λS1=>S1=S) W) aV aV [] rfl aH (by simp<;>omega) (λk hk=>⟨by have:=aQ.out k hk;omega,by simp⟩) ⟨λ_=>undef,rfl⟩ (⟨S,lD.out.below HK aU.drew,rfl⟩) ?_ ?_ ?_
 ·intro i o hi ho u W hf hold aj jP;have aW:=fw aQ hf jY;have dI:=fw aQ hf qc;have fQ:=fw aQ hf kV
  match i,ho with
  |0,ho|3,ho=>exact sv ho (bg rfl rfl)
  |1,ho=>exact sv ho (aC rfl rfl (dI.cell 0) (dI.cell 1))
  |2,ho|5,ho=>
   exact absurd aH hi
  |4,ho=>exact sv ho (aC rfl rfl (fQ.cell 0) (fQ.cell 1))
  |6,ho|7,ho=>
   obtain rfl:=aA ho;exact aY.mem (oZ rfl) rfl rfl rfl ⟨_,rfl⟩ (.inl rfl) (λ_ h=>dG.below HK h (aU.alloc aK _))
  |8,ho=>
   obtain rfl:=aA ho;obtain⟨iR,gI⟩:=jP 6 rfl;have jd:=gI _ _ rfl;obtain⟨bz,jw⟩:=aj 6 rfl;rw[jw]at iR jd;change _<=bz at iR;change aO W bz _ _ at jd;exact aY.oh (ig rfl jw (aj 2 rfl) jd) rfl rfl rfl jw iR (λ_ dK=>(λ_ h=>dG.far HK h jd ak dK ay ay ay ay))
  |9,ho=>
   obtain rfl:=aA ho;obtain⟨iR,gI⟩:=jP 7 rfl;have jd:=gI _ _ rfl;obtain⟨bz,jw⟩:=aj 7 rfl;rw[jw]at iR jd;change _<=bz at iR;change aO W bz _ _ at jd;exact aY.oh (ig rfl jw (aj 5 rfl) jd) rfl rfl rfl jw iR (λ_ dK=>(λ_ h=>dG.far HK h jd ak dK ay ay ay ay))
  |n+10,ho=>exact absurd ho aH
 ·intro t i o ht ho u W hf bG aj;have aW:=fw aQ hf jY;have dI:=fw aQ hf qc;have fQ:=fw aQ hf kV
  match t,ht with
  |0,ht=>
   have ht:=aA ht;subst ht;obtain rfl:=aA ho;refine⟨aB rfl,Does.call (bV eU rfl (aj 0 rfl) (aj 1 rfl)) ?_⟩;obtain⟨S1,hs,hp⟩:dG B u0 q T m (λS1=>S1=S) W:=bG;refine aac (sG.out W (hp ▸ hs)) ?_;rintro e w' ⟨rfl,h1,h2⟩;exact⟨_,rfl,rfl,rfl,h2,S,h1,rfl⟩
  |1,ht=>
   have ht:=aA ht;subst ht;obtain rfl:=aA ho;refine⟨aB rfl,Does.call (bV eU rfl (aj 3 rfl) (aj 4 rfl)) ?_⟩;obtain⟨S1,hs,hp⟩:dG B u0 q T m (λS1=>S1=S) W:=bG;refine aac (vT.out W (hp ▸ hs)) ?_;rintro e w' ⟨rfl,h1,h2⟩;exact⟨_,rfl,rfl,rfl,h2,S,h1,rfl⟩
  |n+2,ht=>exact absurd ht aH
 ·intro u W hf bG au;have aW:=fw aQ hf jY;have dI:=fw aQ hf qc;have fQ:=fw aQ hf kV;have e0:=au.q 0;have e1:=au.q 1;have e2:=au.q 2;have e3:=au.q 3;have e4:=au.q 4;have e5:=au.q 5;obtain⟨b6,e6⟩:∃b,u 6= .pointer (some ⟨b,0,none⟩):=au.p 6 ay trivial;obtain⟨b7,e7⟩:∃b,u 7= .pointer (some ⟨b,0,none⟩):=au.p 7 ay trivial;have lX:=(au.p 8 ay trivial);change _<=mX (u 6)/\aO W (mX (u 6)) _ _ at lX;rw[e6]at lX;have Ws:=lX.1;change _<=b6 at Ws
  replace lX:=lX.2
  change aO W b6 _ _ at lX;have lY:=(au.p 9 ay trivial);change _<=mX (u 7)/\aO W (mX (u 7)) _ _ at lY;rw[e7]at lY;have VN:=lY.1;change _<=b7 at VN
  replace lY:=lY.2
  change aO W b7 _ _ at lY;simp only[e0,e1,e2,e3,e4,e5,e6,e7];have dZ:∀g,w.heap.size<=g->¬ (F g\/g∈([]:List Nat)):=λg hg a=>a.elim (λa=>by have:=aQ.out g a;omega) (λa=>by simp at a);obtain⟨S1,hs,hp⟩:dG B u0 q T m (λS1=>S1=S) W:=bG;have EX:Fr F w W:=(Fr.of_below oD).trans (hf.more λ_=>eu);have Ac:=hf.size;have lH:=ah (hf.blk jY (dZ _ aK));have xg:=ah (hf.blk qc (dZ _ ak));have nX:=ah (hf.blk kV (dZ _ ak));have jl:=ah (hf.blk rG (dZ _ ak));have lG:Hid (aZ B u0 q T S m W):=ah (hp ▸ hs);have kE:=ah EX;have HX:=ah lX;have HY:=ah lY;have cx:W.cell? ⟨b6,7,none⟩=some (.int .i64 (nl:Nat)):=(HX.out.cell 7).trans (by show some (acS _ _)=_;rw[I7.out]);have cy:W.cell? ⟨b7,7,none⟩=some (.int .i64 (nr:Nat)):=(HY.out.cell 7).trans (by show some (acS _ _)=_;rw[I8.out]);have q1:W.cell? ⟨q,1,none⟩=some (.int .i64 0):=lG.out.self.cell 1;have hwr:IntKind.i64.wrap ((nr:Int)+1)=(nr:Int)+1:=acK _ ak;have hwl:IntKind.i64.wrap ((nl:Int)+1)=(nl:Int)+1:=acK _ ak;have YJ:=lG.out.self.lt;have EF:=HX.out.lt;have RQ:=HY.out.lt;obtain⟨w5,oI⟩:=aJ (W);rw[<-oI]at HX HY lH xg nX jl lG kE Ac cx cy q1 YJ EF RQ ⊢;clear au hf hs hp EX dZ aW dI fQ jY qc kV rG lD oD sG vT I7 I8 lX lY e0 e1 e2 e3 e4 e5 e6 e7 oI u W;go_wp2_with fail
  refine aP (λu=>⟨#[_,_,_,_,_,_,_,_,_,_,_,_,_,_,_,_,_,_,_,_,_,_,_,_,_,_,_,_,_,_,_,_,_,_,_,_,_,_,_,_,_,_,_,_,_,_,_,_,_,_,_,_,_,_,_,_,_,_,_,_,_,_,_,_,_,_,_,_,_,_,_,_,_,_,_,_,_,_,_,_,_,_,_,u 0,u 1,u 2,u 3,u 4,u 5,u 6,u 7,u 8,u 9,u 10,_,_,_,_,_,_,_,_,_,_,_,_,_,_,_,_,_,_,_,_,_,_,_,_,_,_,_,_,_,_,_,_,_,_,_,_,_],_⟩)
   [bf q 0,
    bf b7 4,
    aF (aG ((ty).right)),
    aF (pY (tv rk rb)),
    aF (.int .i64 (((rb.ht:Nat):Int))),
    bf q 0,
    bf b7 2,
    aF (aG ((ty).left)),
    aF (pY (tv rk (Bt.node ma mk mb))),
    aF (.int .i64 ((((Bt.node ma mk mb).ht:Nat):Int))),
    aF (.bool (false))]
   F [3,8] (λj W=>dG B u0 q T (m) (λS1=>S1=S) W) aV aV [] rfl aH (by simp<;>omega) (λk hk=>⟨by have:=aQ.out k hk;omega,by simp⟩) ⟨λ_=>undef,rfl⟩ (⟨S,lG.out.below HK aU.drew,rfl⟩) ?_ ?_ ?_
  ·intro i o hi ho u W hf hold aj jP;have aW:=fw aQ hf HY
   match i,ho with
   |0,ho|5,ho=>exact sv ho (bg rfl rfl)
   |1,ho=>exact sv ho (fP rfl rfl)
   |2,ho=>exact sv ho (aC rfl (aj 1 rfl) (aW.cell 4) (aW.cell 5))
   |3,ho|8,ho=>
    exact absurd aH hi
   |4,ho=>exact sv ho (ou rfl (aj 3 rfl)) (hp:=(by show acS _ _=_;rw[kP]))
   |6,ho=>exact sv ho (gG rfl rfl)
   |7,ho=>exact sv ho (aC rfl (aj 6 rfl) (aW.cell 2) (aW.cell 3))
   |9,ho=>exact sv ho (ou rfl (aj 8 rfl)) (hp:=(by show acS _ _=_;rw[kP]))
   |10,ho=>exact sv ho (QX rfl (aj 4 rfl) (aj 9 rfl)) (hp:=(by show agD (decide _)=_;rw[decide_eq_false (Int.not_le.2 ZU.out)]))
   |n+11,ho=>exact absurd ho aH
  ·intro t i o ht ho u W hf bG aj;have aW:=fw aQ hf HY
   match t,ht with
   |0,ht=>
    have ht:=aA ht;subst ht;obtain rfl:=aA ho;refine⟨aB rfl,Does.call (bV eU rfl (aj 0 rfl) (aj 2 rfl)) ?_⟩;obtain⟨S1,hs,hp⟩:dG B u0 q T m (λS1=>S1=S) W:=bG;refine aac (HGB.out W (hp ▸ hs)) ?_;rintro e w' ⟨rfl,h1,h2⟩;exact⟨_,rfl,rfl,rfl,h2,S,h1,rfl⟩
   |1,ht=>
    have ht:=aA ht;subst ht;obtain rfl:=aA ho;refine⟨aB rfl,Does.call (bV eU rfl (aj 5 rfl) (aj 7 rfl)) ?_⟩;obtain⟨S1,hs,hp⟩:dG B u0 q T m (λS1=>S1=S) W:=bG;refine aac (awq.out W (hp ▸ hs)) ?_;rintro e w' ⟨rfl,h1,h2⟩;exact⟨_,rfl,rfl,rfl,h2,S,h1,rfl⟩
   |n+2,ht=>exact absurd ht aH
  ·intro u W hf bG au;have aW:=fw aQ hf HY;have e0:=au.q 0;have e1:=au.q 1;have e2:=au.q 2;have e3:=au.q 3;have e4:=au.q 4;have e5:=au.q 5;have e6:=au.q 6;have e7:=au.q 7;have e8:=au.q 8;have e9:=au.q 9;have e10:=au.q 10;simp only[e0,e1,e2,e3,e4,e5,e6,e7,e8,e9,e10];have dZ:∀g,w.heap.size<=g->¬ (F g\/g∈([]:List Nat)):=λg hg a=>a.elim (λa=>by have:=aQ.out g a;omega) (λa=>by simp at a);obtain⟨S1,hs,hp⟩:dG B u0 q T m (λS1=>S1=S) W:=bG;have hzV:=hf.size;have Du:=ah (hf.blk lH (dZ _ aK));have VO:=ah (hf.blk xg (dZ _ ak));have EZ:=ah (hf.blk nX (dZ _ ak));have mQ:=ah (hf.blk jl (dZ _ ak));have yA:=ah (hf.blk HX (dZ _ ak));have RI:=ah (hf.blk HY (dZ _ ak));have yS:Hid (aZ B u0 q T S m W):=ah (hp ▸ hs);have vS:Hid (Fr F w W):=ah (kE.out.trans (hf.more λ_=>eu));have l6:b6<W.heap.size:=by omega
   have l7:b7<W.heap.size:=by omega
   have lq6:q<W.heap.size:=by omega
   have lt6:w.heap.size+3<W.heap.size:=by omega
   obtain⟨w6,Oc⟩:=aJ (W);rw[<-Oc]at yA RI Du VO EZ mQ yS vS hzV l6 l7 lq6 lt6 ⊢;clear au hf hs hp dZ aW lH xg nX jl lG kE HX HY e0 e1 e2 e3 e4 e5 e6 e7 e8 e9 e10 Oc u W;have c0:w6.cell? ⟨b7,2,none⟩=some (.int .i64 ty.left.1):=RI.out.cell 2;have c1:w6.cell? ⟨b7,3,none⟩=some (.int .i64 ty.left.2):=RI.out.cell 3;go_wp2_with fail
   refine aac (awr.out _ yS) ?_;rintro e w7 ⟨rfl,Z8,y7⟩;have dZ:∀g,w.heap.size<=g->¬F g:=λg hg a=>by have:=aQ.out g a;omega
   have rO:=(aai _ w7).alloc aK (.cells (fO tz) 124);have hz7:=y7.size;have Xc:=ah ((y7.blk Du (dZ _ aK)).alloc (.cells (fO tz) 124));have HL8:=ah ((y7.blk VO (dZ _ ak)).alloc (.cells (fO tz) 124));have MR:=ah ((y7.blk EZ (dZ _ ak)).alloc (.cells (fO tz) 124));have yZ:=ah ((y7.blk mQ (dZ _ ak)).alloc (.cells (fO tz) 124));have GU:=ah ((y7.blk yA (dZ _ ak)).alloc (.cells (fO tz) 124));have HY8:=ah ((y7.blk RI (dZ _ ak)).alloc (.cells (fO tz) 124));have HZ8:=ah (aO.new w7 124 (fO tz));have HS8:=ah (Z8.below HK rO);have Iu:Hid (Fr F w _):=ah ((vS.out.trans y7).then_ rO);have l8:w7.heap.size<(w7.alloc (.cells (fO tz) 124)).heap.size:=by rw[aad];omega
   have m6:b6<(w7.alloc (.cells (fO tz) 124)).heap.size:=by omega
   have m7:b7<(w7.alloc (.cells (fO tz) 124)).heap.size:=by omega
   have mq:q<(w7.alloc (.cells (fO tz) 124)).heap.size:=by omega
   have mt:w.heap.size+3<(w7.alloc (.cells (fO tz) 124)).heap.size:=by omega
   have nz:w.heap.size+3<w7.heap.size:=by omega
   obtain⟨w8,Iy⟩:=aJ (w7.alloc (.cells (fO tz) 124));rw[<-Iy]at Xc HL8 MR yZ GU HY8 HZ8 HS8 Iu l8 m6 m7 mq mt;clear Z8 y7 rO dZ c0 c1 Du VO EZ mQ yA RI yS vS;go_wp2_with fail
   rw[show w7.alloc (.cells #[.int .i64 tz.up.1, .int .i64 tz.up.2, .int .i64 tz.left.1, .int .i64 tz.left.2, .int .i64 tz.right.1, .int .i64 tz.right.2, .int .i64 tz.count, .int .i64 tz.height] 124)=w8 from Iy.symm];clear Iy
   refine aP (λu=>⟨#[_,_,_,_,_,_,_,_,_,_,_,_,_,_,_,_,_,_,_,_,_,_,_,_,_,_,_,_,_,_,_,_,_,_,_,_,_,_,_,_,_,_,_,_,_,_,_,_,_,_,_,_,_,_,_,_,_,_,_,_,_,_,_,_,_,_,_,_,_,_,_,_,_,_,_,_,_,_,_,_,_,_,_,_,_,_,_,_,_,_,_,_,_,_,_,_,_,_,_,_,_,_,_,_,_,_,_,_,_,u 0,u 1,u 2,u 3,u 4,u 5,u 6,u 7,u 8,u 9,u 10,u 11,u 12,u 13,u 14,u 15,u 16,_,_,_,_,_],_⟩)
    [bf q 0,
     bf b7 2,
     aF (aG ((ty).left)),
     bf q 0,
     aF (aG (k)),
     aF (aG (lt)),
     bf w7.heap.size 2,
     aF (aG ((tz).left)),
     aF (aG (k)),
     bf q 0,
     aF (aG (rk)),
     bf w7.heap.size 4,
     aF (aG ((tz).right)),
     bf b7 4,
     aF (aG ((ty).right)),
     aF (aG (rk)),
     aF (aG (mk)),
     Fl.turn _ (w.heap.size+3) 71 (aI (mk)) ak]
    F [8,15,16] (λj W=>dG B u0 q T (m) (λS1=>match j with | 0=>S1=S | 1=>Mk S S1 (Bt.node l k ma) | 2=>∃S2,Mk S S2 (Bt.node l k ma)/\Mk S2 S1 (Bt.node mb rk rb) | _=>Mk S S1 (Bt.node (Bt.node l k ma) mk (Bt.node mb rk rb))) W) aV aV [w.heap.size+3] rfl aH (by simp<;>omega) (λk hk=>⟨by have:=aQ.out k hk;omega,by have:=aQ.out k hk;simp;omega⟩) ⟨λ_=>undef,rfl⟩ (⟨S,HS8.out.below HK aU.drew,rfl⟩) ?_ ?_ ?_
   ·intro i o hi ho u W hf hold aj jP;have aW:=fw aQ hf Xc;have dI:=fw aQ hf HL8;have fQ:=fw aQ hf MR;have nY:=fw aQ hf HY8;have Om:=fw aQ hf HZ8
    match i,ho with
    |0,ho|3,ho|9,ho=>exact sv ho (bg rfl rfl)
    |1,ho|6,ho=>exact sv ho (gG rfl rfl)
    |2,ho=>exact sv ho (aC rfl (aj 1 rfl) (nY.cell 2) (nY.cell 3))
    |4,ho=>exact sv ho (aC rfl rfl (aW.cell 0) (aW.cell 1))
    |5,ho=>exact sv ho (aC rfl rfl (dI.cell 0) (dI.cell 1))
    |7,ho=>exact sv ho (aC rfl (aj 6 rfl) (Om.cell 2) (Om.cell 3))
    |8,ho|15,ho|16,ho=>
     exact absurd aH hi
    |10,ho=>exact sv ho (aC rfl rfl (fQ.cell 0) (fQ.cell 1))
    |11,ho|13,ho=>exact sv ho (fP rfl rfl)
    |12,ho=>exact sv ho (aC rfl (aj 11 rfl) (Om.cell 4) (Om.cell 5))
    |14,ho=>exact sv ho (aC rfl (aj 13 rfl) (nY.cell 4) (nY.cell 5))
    |17,ho=>
     obtain rfl:=aA ho;have Af:aO W (w.heap.size+3) _ _:=ag1 (hold _ rfl) yZ;exact aY.yD (hlt:=by omega) (ji rfl rfl (aj 16 rfl) Af) rfl rfl rfl (λ_ dK=>(λ_ h=>dG.far HK h Af ak dK ay ay ay ay))
    |n+18,ho=>exact absurd ho aH
   ·intro t i o ht ho u W hf bG aj;have aW:=fw aQ hf Xc;have dI:=fw aQ hf HL8;have fQ:=fw aQ hf MR;have nY:=fw aQ hf HY8;have Om:=fw aQ hf HZ8
    match t,ht with
    |0,ht=>
     have ht:=aA ht;subst ht;obtain rfl:=aA ho;refine⟨aB rfl,Does.call (fU o8 rfl (aj 3 rfl) (aj 4 rfl) (aj 5 rfl) (aj 7 rfl)) ?_⟩;obtain⟨S1,hs,hp⟩:dG B u0 q T m (λS1=>S1=S) W:=bG;refine aac (nI.out W (hp ▸ hs)) ?_;rintro e w' ⟨rfl,⟨S2,h1,h2⟩,h3⟩;exact⟨_,rfl,rfl,rfl,h3,S2,h1,h2⟩
    |1,ht=>
     have ht:=aA ht;subst ht;obtain rfl:=aA ho;refine⟨aB rfl,Does.call (fU o8 rfl (aj 9 rfl) (aj 10 rfl) (aj 12 rfl) (aj 14 rfl)) ?_⟩;obtain⟨S1,hs,hp⟩:dG B u0 q T m (λS1=>Mk S S1 (Bt.node l k ma)) W:=bG;refine aac (uz.out S1 W hp hs) ?_;rintro e w' ⟨rfl,⟨S2,h1,h2⟩,h3⟩;exact⟨_,rfl,rfl,rfl,h3,S2,h1,S1,hp,h2⟩
    |2,ht=>
     have ht:=aA ht;subst ht;obtain rfl:=aA ho;refine⟨aB rfl,Does.call (fU o8 rfl (aj 0 rfl) (aj 2 rfl) (aj 8 rfl) (aj 15 rfl)) ?_⟩;obtain⟨S1,hs,S2,hp,Gu⟩:dG B u0 q T m (λS1=>∃S2,Mk S S2 (Bt.node l k ma)/\Mk S2 S1 (Bt.node mb rk rb)) W:=bG;refine aac (ZY.out S2 S1 W hp Gu hs) ?_;rintro e w' ⟨rfl,⟨S3,h1,h2⟩,h3⟩;exact⟨_,rfl,rfl,rfl,h3,S3,h1,h2⟩
    |n+3,ht=>exact absurd ht aH
   ·intro u W hf bG au;have aW:=fw aQ hf Xc;have dI:=fw aQ hf HL8;have fQ:=fw aQ hf MR;have nY:=fw aQ hf HY8;have Om:=fw aQ hf HZ8;have e0:=au.q 0;have e1:=au.q 1;have e2:=au.q 2;have e3:=au.q 3;have e4:=au.q 4;have e5:=au.q 5;have e6:=au.q 6;have e7:=au.q 7;have e8:=au.q 8;have e9:=au.q 9;have e10:=au.q 10;have e11:=au.q 11;have e12:=au.q 12;have e13:=au.q 13;have e14:=au.q 14;have e15:=au.q 15;have e16:=au.q 16;have X5:=(au.p 17 ay trivial);change aO W (w.heap.size+3) _ _ at X5;simp only[e0,e1,e2,e3,e4,e5,e6,e7,e8,e9,e10,e11,e12,e13,e14,e15,e16];obtain⟨S1,hs,hp⟩:dG B u0 q T m (λS1=>Mk S S1 (Bt.node (Bt.node l k ma) mk (Bt.node mb rk rb))) W:=bG;have HE:Hid (∃S',aZ B u0 q T S' m W/\Mk S S' (Bt.node (Bt.node l k ma) mk (Bt.node mb rk rb))):=ah ⟨S1,hs,hp⟩;have xA:Hid (Fr F w W):=ah (Iu.out.newS hf λk hk=>by simp at hk;omega);have nJ:=ah X5;clear au hf hs hp e0 e1 e2 e3 e4 e5 e6 e7 e8 e9 e10 e11 e12 e13 e14 e15 e16 aW dI fQ nY Om X5;go_wp2;refine bodyPost_ret (eF dW rfl rfl nJ rfl) rfl ?_;exact⟨rfl,HE,xA⟩
end
section
variable {F:Nat->Prop}{B u0 q m:Nat}{T:List bT->Nat->World->Prop}{S:St}{w w':World}
theorem ara(K:Kv F B u0 T)(h:aZ B u0 q T S m w){l r:Bt}{k:Tok}(hl:Sub S (l))(hr:Sub S (r))(hn:(Bt.node (l) k (r)).list.Nodup)(hk:∃n,S k=some n)(hc:(l).cnt+(r).cnt+1<=250)(h1:¬r.ht+1<l.ht)(h2:¬l.ht+1<r.ht):Calls prog 131 #[.pointer (some ⟨q,0,none⟩),aG k,aG (l).rt,aG (r).rt] w (EY F B u0 q T m S w (Bt.node l k r)):=by
 obtain⟨MP,qh⟩:=hl;obtain⟨MQ,yV⟩:=hr;have hl:Sub S (l):=⟨MP,qh⟩;have hr:Sub S (r):=⟨MQ,yV⟩;have sG:=ah (λW (hW:aZ B u0 q T S m W)=>dY K hW qh);have vT:=ah (λW (hW:aZ B u0 q T S m W)=>dY K hW yV);obtain⟨tx,pU⟩:=aJ (tv MP (l));obtain⟨ty,uy⟩:=aJ (tv MQ (r));have Bc:tx.height=(l).ht:=pU ▸ kP _ _;have Bf:ty.height=(r).ht:=uy ▸ kP _ _;have Ik:=Bt.lC (l);have Jv:=Bt.lC (r);rw[<-pU]at sG;rw[<-uy]at vT;have nI:=ah (λW (hW:aZ B u0 q T S m W)=>nO K hW hl hr hn hk hc);have EH:¬ (r.ht:Int)+1<(l.ht:Int):=by omega
 have hi:¬ (l.ht:Int)+1<(r.ht:Int):=by omega
 obtain⟨lt,hlt⟩:=aJ ((l).rt);rw[<-hlt]at sG nI ⊢;obtain⟨rt,gy⟩:=aJ ((r).rt);rw[<-gy]at vT nI ⊢;obtain⟨nl,Dx⟩:=aJ ((l).ht);obtain⟨nr,IY⟩:=aJ ((r).ht);rw[<-Dx]at Bc Ik hi EH;rw[<-IY]at Bf Jv hi EH;have X0:nl<=250:=by omega
 have X3:nr<=250:=by omega
 have I7:=ah Bc;have I8:=ah Bf;have bD:=(aai w.heap.size w).alloc aK (.cells (aI k) 71);have bK:=bD.alloc bD.size (.cells (aI lt) 71);have dJ:=bK.alloc bK.size (.cells (aI rt) 71);have iC:=dJ.alloc dJ.size (.cells #[.int .i64 0, .int .i64 0] 71);have Ce:=(((aO.new w 71 (aI k)).alloc (.cells (aI lt) 71)).alloc (.cells (aI rt) 71)).alloc (.cells #[.int .i64 0, .int .i64 0] 71);have yP:=((aO.new (w.alloc (.cells (aI k) 71)) 71 (aI lt)).alloc (.cells (aI rt) 71)).alloc (.cells #[.int .i64 0, .int .i64 0] 71);have qm:=(aO.new ((w.alloc (.cells (aI k) 71)).alloc (.cells (aI lt) 71)) 71 (aI rt)).alloc (.cells #[.int .i64 0, .int .i64 0] 71);have vw:=aO.new (((w.alloc (.cells (aI k) 71)).alloc (.cells (aI lt) 71)).alloc (.cells (aI rt) 71)) 71 #[.int .i64 0, .int .i64 0];rw[aad]at yP;rw[aad,aad]at qm;rw[aad,aad,aad]at vw;have Ol:=h.self.lt;have rF:=h.hq;have jY:=ah Ce;have qc:=ah yP;have kV:=ah qm;have rG:=ah vw;have oD:=ah iC;have HK:=ah K;have lD:=ah (h.below K iC);have aQ:Hid (∀k,F k->k<B):=ah K.low;clear Ce yP qm vw bD bK dJ iC h K hl hr qh yV hn hk pU uy Bc Bf Dx IY Ik Jv hc h1 h2 gy hlt;go_enter func131,ntmps131
 go_wp2_with fail
 have hz:=oD.out.size;have yU:=rG.out.lt
 refine aP (λu=>⟨#[_,_,_,_,_,_,_,_,_,u 6,u 7,_,_,u 0,u 1,u 2,u 3,u 4,u 5,_,_,_,_,_,_,_,_,_,_,_,_,_,_,_,_,_,_,_,_,_,_,_,_,_,_,_,_,_,_,_,_,_,_,_,_,_,_,_,_,_,_,_,_,_,_,_,_,_,_,_,_,_,_,_,_,_,_,_,_,_,_,_,_,_,_,_,_,_,_,_,_,_,_,_,_,_,_,_,_,_,_,_,_,_,_,_,_,_,_,_,_,_,_,_,_,_,_,_,_,_,_,_,_,_,_,_,_,_,_,_,_],_⟩)
  [bf q 0,
   aF (aG (lt)),
   aF (pY (tx)),
   bf q 0,
   aF (aG (rt)),
   aF (pY (ty)),
   Fl.box _ 124 sF,
   Fl.box _ 124 sF,
   Fl.fill _ 6 124 (fO (tx)),
   Fl.fill _ 7 124 (fO (ty))]
  F [2,5] (λj W=>dG B u0 q T (m) (λS1=>S1=S) W) aV aV [] rfl aH (by simp<;>omega) (λk hk=>⟨by have:=aQ.out k hk;omega,by simp⟩) ⟨λ_=>undef,rfl⟩ (⟨S,lD.out.below HK aU.drew,rfl⟩) ?_ ?_ ?_
 ·intro i o hi ho u W hf hold aj jP;have aW:=fw aQ hf jY;have dI:=fw aQ hf qc;have fQ:=fw aQ hf kV
  match i,ho with
  |0,ho|3,ho=>exact sv ho (bg rfl rfl)
  |1,ho=>exact sv ho (aC rfl rfl (dI.cell 0) (dI.cell 1))
  |2,ho|5,ho=>
   exact absurd aH hi
  |4,ho=>exact sv ho (aC rfl rfl (fQ.cell 0) (fQ.cell 1))
  |6,ho|7,ho=>
   obtain rfl:=aA ho;exact aY.mem (oZ rfl) rfl rfl rfl ⟨_,rfl⟩ (.inl rfl) (λ_ h=>dG.below HK h (aU.alloc aK _))
  |8,ho=>
   obtain rfl:=aA ho;obtain⟨iR,gI⟩:=jP 6 rfl;have jd:=gI _ _ rfl;obtain⟨bz,jw⟩:=aj 6 rfl;rw[jw]at iR jd;change _<=bz at iR;change aO W bz _ _ at jd;exact aY.oh (ig rfl jw (aj 2 rfl) jd) rfl rfl rfl jw iR (λ_ dK=>(λ_ h=>dG.far HK h jd ak dK ay ay ay ay))
  |9,ho=>
   obtain rfl:=aA ho;obtain⟨iR,gI⟩:=jP 7 rfl;have jd:=gI _ _ rfl;obtain⟨bz,jw⟩:=aj 7 rfl;rw[jw]at iR jd;change _<=bz at iR;change aO W bz _ _ at jd;exact aY.oh (ig rfl jw (aj 5 rfl) jd) rfl rfl rfl jw iR (λ_ dK=>(λ_ h=>dG.far HK h jd ak dK ay ay ay ay))
  |n+10,ho=>exact absurd ho aH
 ·intro t i o ht ho u W hf bG aj;have aW:=fw aQ hf jY;have dI:=fw aQ hf qc;have fQ:=fw aQ hf kV
  match t,ht with
  |0,ht=>
   have ht:=aA ht;subst ht;obtain rfl:=aA ho;refine⟨aB rfl,Does.call (bV eU rfl (aj 0 rfl) (aj 1 rfl)) ?_⟩;obtain⟨S1,hs,hp⟩:dG B u0 q T m (λS1=>S1=S) W:=bG;refine aac (sG.out W (hp ▸ hs)) ?_;rintro e w' ⟨rfl,h1,h2⟩;exact⟨_,rfl,rfl,rfl,h2,S,h1,rfl⟩
  |1,ht=>
   have ht:=aA ht;subst ht;obtain rfl:=aA ho;refine⟨aB rfl,Does.call (bV eU rfl (aj 3 rfl) (aj 4 rfl)) ?_⟩;obtain⟨S1,hs,hp⟩:dG B u0 q T m (λS1=>S1=S) W:=bG;refine aac (vT.out W (hp ▸ hs)) ?_;rintro e w' ⟨rfl,h1,h2⟩;exact⟨_,rfl,rfl,rfl,h2,S,h1,rfl⟩
  |n+2,ht=>exact absurd ht aH
 ·intro u W hf bG au;have aW:=fw aQ hf jY;have dI:=fw aQ hf qc;have fQ:=fw aQ hf kV;have e0:=au.q 0;have e1:=au.q 1;have e2:=au.q 2;have e3:=au.q 3;have e4:=au.q 4;have e5:=au.q 5;obtain⟨b6,e6⟩:∃b,u 6= .pointer (some ⟨b,0,none⟩):=au.p 6 ay trivial;obtain⟨b7,e7⟩:∃b,u 7= .pointer (some ⟨b,0,none⟩):=au.p 7 ay trivial;have lX:=(au.p 8 ay trivial);change _<=mX (u 6)/\aO W (mX (u 6)) _ _ at lX;rw[e6]at lX;have Ws:=lX.1;change _<=b6 at Ws
  replace lX:=lX.2
  change aO W b6 _ _ at lX;have lY:=(au.p 9 ay trivial);change _<=mX (u 7)/\aO W (mX (u 7)) _ _ at lY;rw[e7]at lY;have VN:=lY.1;change _<=b7 at VN
  replace lY:=lY.2
  change aO W b7 _ _ at lY;simp only[e0,e1,e2,e3,e4,e5,e6,e7];have dZ:∀g,w.heap.size<=g->¬ (F g\/g∈([]:List Nat)):=λg hg a=>a.elim (λa=>by have:=aQ.out g a;omega) (λa=>by simp at a);obtain⟨S1,hs,hp⟩:dG B u0 q T m (λS1=>S1=S) W:=bG;have EX:Fr F w W:=(Fr.of_below oD).trans (hf.more λ_=>eu);have Ac:=hf.size;have lH:=ah (hf.blk jY (dZ _ aK));have xg:=ah (hf.blk qc (dZ _ ak));have nX:=ah (hf.blk kV (dZ _ ak));have jl:=ah (hf.blk rG (dZ _ ak));have lG:Hid (aZ B u0 q T S m W):=ah (hp ▸ hs);have kE:=ah EX;have HX:=ah lX;have HY:=ah lY;have cx:W.cell? ⟨b6,7,none⟩=some (.int .i64 (nl:Nat)):=(HX.out.cell 7).trans (by show some (acS _ _)=_;rw[I7.out]);have cy:W.cell? ⟨b7,7,none⟩=some (.int .i64 (nr:Nat)):=(HY.out.cell 7).trans (by show some (acS _ _)=_;rw[I8.out]);have q1:W.cell? ⟨q,1,none⟩=some (.int .i64 0):=lG.out.self.cell 1;have hwr:IntKind.i64.wrap ((nr:Int)+1)=(nr:Int)+1:=acK _ ak;have hwl:IntKind.i64.wrap ((nl:Int)+1)=(nl:Int)+1:=acK _ ak;have YJ:=lG.out.self.lt;have EF:=HX.out.lt;have RQ:=HY.out.lt;obtain⟨w5,oI⟩:=aJ (W);rw[<-oI]at HX HY lH xg nX jl lG kE Ac cx cy q1 YJ EF RQ ⊢;clear au hf hs hp EX dZ aW dI fQ jY qc kV rG lD oD sG vT I7 I8 lX lY e0 e1 e2 e3 e4 e5 e6 e7 oI u W;have k0:w5.cell? ⟨w.heap.size,0,none⟩=some (.int .i64 k.1):=lH.out.cell 0;have l0:w5.cell? ⟨w.heap.size+1,0,none⟩=some (.int .i64 lt.1):=xg.out.cell 0;have r0:w5.cell? ⟨w.heap.size+2,0,none⟩=some (.int .i64 rt.1):=nX.out.cell 0;have k1:w5.cell? ⟨w.heap.size,1,none⟩=some (.int .i64 k.2):=lH.out.cell 1;have l1:w5.cell? ⟨w.heap.size+1,1,none⟩=some (.int .i64 lt.2):=xg.out.cell 1;have r1:w5.cell? ⟨w.heap.size+2,1,none⟩=some (.int .i64 rt.2):=nX.out.cell 1;go_wp2_with fail
  refine aac (nI.out _ lG) ?_;rintro e w6 ⟨rfl,⟨S2,Jw,hm6⟩,wZ⟩;have hT6:=wZ.blk jl (λa=>by have:=aQ.out _ a;omega);have mQ:=ah hT6;have yS:=ah Jw;have RJ:=ah hm6;have vS:Hid (Fr F w w6):=ah (kE.out.trans wZ);have t0:=hT6.cell 0;have t1:=hT6.cell 1;have f0:=hT6.frozen 0;have f1:=hT6.frozen 1;clear Jw hm6 wZ hT6 cx cy q1 k0 k1 l0 l1 r0 r1 lH xg nX jl lG kE HX HY;go_wp2;refine bodyPost_ret (eF dW rfl rfl (nD (p:=k) mQ) rfl) rfl ?_;exact⟨rfl,⟨S2,yS.out.far HK mQ ak jM ay ay ay ay,RJ⟩,vS.out.newer jM ak⟩
end
section
variable {F:Nat->Prop}{B u0 q m:Nat}{T:List bT->Nat->World->Prop}{S:St}{w:World}
theorem Zt(K:Kv F B u0 T)(h:aZ B u0 q T S m w){l r:Bt}{k:Tok}(hl:Sub S l)(hr:Sub S r)(hn:(Bt.node l k r).list.Nodup)(hk:∃n,S k=some n)(hc:l.cnt+r.cnt+1<=250):Calls prog 131 #[.pointer (some ⟨q,0,none⟩),aG k,aG l.rt,aG r.rt] w (EY F B u0 q T m S w (bal l k r)):=by
 by_cases h1:r.ht+1<l.ht
 ·cases l with
  |nil=>simp[Bt.ht]at h1
  |node la lk lb=>
   by_cases h2:lb.ht<=la.ht
   ·rw[show bal (Bt.node la lk lb) k r=Bt.node la lk (Bt.node lb k r)by unfold bal;rw[if_pos h1];simp only;rw[if_pos h2]];exact amN K h hl hr hn hk hc h1 h2
   ·cases lb with
    |nil=>simp[Bt.ht]at h2
    |node ma mk mb=>
     rw[show bal (Bt.node la lk (Bt.node ma mk mb)) k r=Bt.node (Bt.node la lk ma) mk (Bt.node mb k r)by unfold bal;rw[if_pos h1];simp only;rw[if_neg h2]];exact amO K h hl hr hn hk hc h1 h2
 ·by_cases h2:l.ht+1<r.ht
  ·cases r with
   |nil=>simp[Bt.ht]at h2
   |node ra rk rb=>
    by_cases h3:ra.ht<=rb.ht
    ·rw[show bal l k (Bt.node ra rk rb)=Bt.node (Bt.node l k ra) rk rb by unfold bal;rw[if_neg h1,if_pos h2];simp only;rw[if_pos h3]];exact amP K h hl hr hn hk hc h2 h3
    ·cases ra with
     |nil=>simp[Bt.ht]at h3
     |node ma mk mb=>
      rw[show bal l k (Bt.node (Bt.node ma mk mb) rk rb)=Bt.node (Bt.node l k ma) mk (Bt.node mb rk rb)by unfold bal;rw[if_neg h1,if_pos h2];simp only;rw[if_neg h3]];exact amQ K h hl hr hn hk hc h2 h3
  ·rw[show bal l k r=Bt.node l k r by unfold bal;rw[if_neg h1,if_neg h2]];exact ara K h hl hr hn hk hc h1 h2
end
theorem zO:∀args w,(callFunc 97 args).run prog w= .ok (.enter 97 args) w:=λargs w=>by kernel_rfl
theorem Zu:∀args w,(callFunc 131 args).run prog w= .ok (.enter 131 args) w:=λargs w=>by kernel_rfl
section
variable {F:Nat->Prop}{B u0 q m:Nat}{T:List bT->Nat->World->Prop}{S:St}{w w':World}
theorem amR(K:Kv F B u0 T)(h:aZ B u0 q T S m w){la lb r:Bt}{lk k:Tok}(hl:Sub S (Bt.node la lk lb))(hr:Sub S (r))(hn:(Bt.node (Bt.node la lk lb) k (r)).list.Nodup)(hk:∃n,S k=some n)(hc:(Bt.node la lk lb).cnt+(r).cnt+1<=250)(hht:r.ht+1<(Bt.node la lk lb).ht)(UU:∀S W,aZ B u0 q T S m W->Sub S lb->Sub S r->(Bt.node lb k r).list.Nodup->(∃n,S k=some n)->lb.cnt+r.cnt+1<=250->Calls prog 97 #[.pointer (some ⟨q,0,none⟩),aG lb.rt,aG k,aG r.rt] W (EY F B u0 q T m S W (link lb k r))):Calls prog 97 #[.pointer (some ⟨q,0,none⟩),aG lk,aG k,aG (r).rt] w (EY F B u0 q T m S w (link (Bt.node la lk lb) k r)):=by
 obtain⟨MP,qh⟩:=hl;obtain⟨MQ,yV⟩:=hr;have hl:Sub S (Bt.node la lk lb):=⟨MP,qh⟩;have hr:Sub S (r):=⟨MQ,yV⟩;have sG:=ah (λW (hW:aZ B u0 q T S m W)=>dY K hW qh);have vT:=ah (λW (hW:aZ B u0 q T S m W)=>dY K hW yV);obtain⟨tx,pU⟩:=aJ (tv MP (Bt.node la lk lb));obtain⟨ty,uy⟩:=aJ (tv MQ (r));have Bc:tx.height=(Bt.node la lk lb).ht:=pU ▸ kP _ _;have Bf:ty.height=(r).ht:=uy ▸ kP _ _;have Ik:=Bt.lC (Bt.node la lk lb);have Jv:=Bt.lC (r);rw[<-pU]at sG;rw[<-uy]at vT;rw[afa hht];obtain⟨Oo,P7,_⟩:=hl.kids;obtain⟨n1,n2,slb,dN⟩:=aiO hl hn;have Dy:la.cnt+lb.cnt+1+r.cnt+1<=250:=hc;have VP:=UM lb k r;obtain⟨t1,pI⟩:=aJ (link lb k r);obtain⟨t2,AZ⟩:=aJ (bal la lk t1);have nI:=ah (λW (hW:aZ B u0 q T S m W)=>UU S W hW slb hr n1 hk ak);rw[<-pI]at nI dN n2 VP ⊢;rw[<-AZ]at dN ⊢
 have uz:Hid (∀S1 W,Mk S S1 t1->aZ B u0 q T S1 m W->Calls prog 131 #[.pointer (some ⟨q,0,none⟩),aG lk,aG la.rt,aG t1.rt] W (EY F B u0 q T m S W t2)):=ah λS1 W hm hW=>by
  obtain⟨a1,a2,a3⟩:=dN S1 hm;refine(Zt K hW a1 hm.sub n2 a2 ak).mono ?_;rw[<-AZ];rintro e w' ⟨rfl,⟨S2,b1,b2⟩,b3⟩;exact⟨rfl,⟨S2,b1,a3 S2 b2⟩,b3⟩
 have Ob:la.rt=tx.left:=by rw[pU];rfl
 have Wq:lb.rt=tx.right:=by rw[pU];rfl
 rw[Ob]at uz;rw[Wq]at nI;have hi:(r.ht:Int)+1<((Bt.node la lk lb).ht:Int):=by omega
 change Hid (∀W _,Calls prog _ #[_,aG lk] W _)at sG;obtain⟨rt,gy⟩:=aJ ((r).rt);rw[<-gy]at vT nI ⊢;obtain⟨nl,Dx⟩:=aJ ((Bt.node la lk lb).ht);obtain⟨nr,IY⟩:=aJ ((r).ht);rw[<-Dx]at Bc Ik hi;rw[<-IY]at Bf Jv hi;have X0:nl<=250:=by omega
 have X3:nr<=250:=by omega
 have I7:=ah Bc;have I8:=ah Bf;have bD:=(aai w.heap.size w).alloc aK (.cells (aI lk) 71);have bK:=bD.alloc bD.size (.cells (aI k) 71);have dJ:=bK.alloc bK.size (.cells (aI rt) 71);have iC:=dJ.alloc dJ.size (.cells #[.int .i64 0, .int .i64 0] 71);have Ce:=(((aO.new w 71 (aI lk)).alloc (.cells (aI k) 71)).alloc (.cells (aI rt) 71)).alloc (.cells #[.int .i64 0, .int .i64 0] 71);have yP:=((aO.new (w.alloc (.cells (aI lk) 71)) 71 (aI k)).alloc (.cells (aI rt) 71)).alloc (.cells #[.int .i64 0, .int .i64 0] 71);have qm:=(aO.new ((w.alloc (.cells (aI lk) 71)).alloc (.cells (aI k) 71)) 71 (aI rt)).alloc (.cells #[.int .i64 0, .int .i64 0] 71);have vw:=aO.new (((w.alloc (.cells (aI lk) 71)).alloc (.cells (aI k) 71)).alloc (.cells (aI rt) 71)) 71 #[.int .i64 0, .int .i64 0];rw[aad]at yP;rw[aad,aad]at qm;rw[aad,aad,aad]at vw;have Ol:=h.self.lt;have rF:=h.hq;have jY:=ah Ce;have qc:=ah yP;have kV:=ah qm;have rG:=ah vw;have oD:=ah iC;have HK:=ah K;have lD:=ah (h.below K iC);have aQ:Hid (∀k,F k->k<B):=ah K.low;clear Ce yP qm vw bD bK dJ iC h K hl hr qh yV hn hk pU uy Bc Bf Dx IY Ik Jv hc Oo P7 n1 n2 slb dN Dy VP pI AZ Ob Wq hht UU gy;go_enter func97,ntmps97
 go_wp2_with fail
 have hz:=oD.out.size;have yU:=rG.out.lt
 refine aP (λu=>⟨#[_,_,_,_,_,_,_,_,_,u 6,u 7,u 0,u 1,u 2,u 3,u 4,u 5,_,_,_,_,_,_,_,_,_,_,_,_,_,_,_,_,_,_,_,_,_,_,_,_,_,_,_,_,_,_,_,_,_,_,_,_,_,_,_,_,_,_,_,_,_,_,_,_],_⟩)
  [bf q 0,
   aF (aG (lk)),
   aF (pY (tx)),
   bf q 0,
   aF (aG (rt)),
   aF (pY (ty)),
   Fl.box _ 124 sF,
   Fl.box _ 124 sF,
   Fl.fill _ 6 124 (fO (tx)),
   Fl.fill _ 7 124 (fO (ty))]
  F [2,5] (λj W=>dG B u0 q T (m) (λS1=>S1=S) W) aV aV [] rfl aH (by simp<;>omega) (λk hk=>⟨by have:=aQ.out k hk;omega,by simp⟩) ⟨λ_=>undef,rfl⟩ (⟨S,lD.out.below HK aU.drew,rfl⟩) ?_ ?_ ?_
 ·intro i o hi ho u W hf hold aj jP;have aW:=fw aQ hf jY;have dI:=fw aQ hf qc;have fQ:=fw aQ hf kV
  match i,ho with
  |0,ho|3,ho=>exact sv ho (bg rfl rfl)
  |1,ho=>exact sv ho (aC rfl rfl (aW.cell 0) (aW.cell 1))
  |2,ho|5,ho=>
   exact absurd aH hi
  |4,ho=>exact sv ho (aC rfl rfl (fQ.cell 0) (fQ.cell 1))
  |6,ho|7,ho=>
   obtain rfl:=aA ho;exact aY.mem (oZ rfl) rfl rfl rfl ⟨_,rfl⟩ (.inl rfl) (λ_ h=>dG.below HK h (aU.alloc aK _))
  |8,ho=>
   obtain rfl:=aA ho;obtain⟨iR,gI⟩:=jP 6 rfl;have jd:=gI _ _ rfl;obtain⟨bz,jw⟩:=aj 6 rfl;rw[jw]at iR jd;change _<=bz at iR;change aO W bz _ _ at jd;exact aY.oh (ig rfl jw (aj 2 rfl) jd) rfl rfl rfl jw iR (λ_ dK=>(λ_ h=>dG.far HK h jd ak dK ay ay ay ay))
  |9,ho=>
   obtain rfl:=aA ho;obtain⟨iR,gI⟩:=jP 7 rfl;have jd:=gI _ _ rfl;obtain⟨bz,jw⟩:=aj 7 rfl;rw[jw]at iR jd;change _<=bz at iR;change aO W bz _ _ at jd;exact aY.oh (ig rfl jw (aj 5 rfl) jd) rfl rfl rfl jw iR (λ_ dK=>(λ_ h=>dG.far HK h jd ak dK ay ay ay ay))
  |n+10,ho=>exact absurd ho aH
 ·intro t i o ht ho u W hf bG aj;have aW:=fw aQ hf jY;have dI:=fw aQ hf qc;have fQ:=fw aQ hf kV
  match t,ht with
  |0,ht=>
   have ht:=aA ht;subst ht;obtain rfl:=aA ho;refine⟨aB rfl,Does.call (bV eU rfl (aj 0 rfl) (aj 1 rfl)) ?_⟩;obtain⟨S1,hs,hp⟩:dG B u0 q T m (λS1=>S1=S) W:=bG;refine aac (sG.out W (hp ▸ hs)) ?_;rintro e w' ⟨rfl,h1,h2⟩;exact⟨_,rfl,rfl,rfl,h2,S,h1,rfl⟩
  |1,ht=>
   have ht:=aA ht;subst ht;obtain rfl:=aA ho;refine⟨aB rfl,Does.call (bV eU rfl (aj 3 rfl) (aj 4 rfl)) ?_⟩;obtain⟨S1,hs,hp⟩:dG B u0 q T m (λS1=>S1=S) W:=bG;refine aac (vT.out W (hp ▸ hs)) ?_;rintro e w' ⟨rfl,h1,h2⟩;exact⟨_,rfl,rfl,rfl,h2,S,h1,rfl⟩
  |n+2,ht=>exact absurd ht aH
 ·intro u W hf bG au;have aW:=fw aQ hf jY;have dI:=fw aQ hf qc;have fQ:=fw aQ hf kV;have e0:=au.q 0;have e1:=au.q 1;have e2:=au.q 2;have e3:=au.q 3;have e4:=au.q 4;have e5:=au.q 5;obtain⟨b6,e6⟩:∃b,u 6= .pointer (some ⟨b,0,none⟩):=au.p 6 ay trivial;obtain⟨b7,e7⟩:∃b,u 7= .pointer (some ⟨b,0,none⟩):=au.p 7 ay trivial;have lX:=(au.p 8 ay trivial);change _<=mX (u 6)/\aO W (mX (u 6)) _ _ at lX;rw[e6]at lX;have Ws:=lX.1;change _<=b6 at Ws
  replace lX:=lX.2
  change aO W b6 _ _ at lX;have lY:=(au.p 9 ay trivial);change _<=mX (u 7)/\aO W (mX (u 7)) _ _ at lY;rw[e7]at lY;have VN:=lY.1;change _<=b7 at VN
  replace lY:=lY.2
  change aO W b7 _ _ at lY;simp only[e0,e1,e2,e3,e4,e5,e6,e7];have dZ:∀g,w.heap.size<=g->¬ (F g\/g∈([]:List Nat)):=λg hg a=>a.elim (λa=>by have:=aQ.out g a;omega) (λa=>by simp at a);obtain⟨S1,hs,hp⟩:dG B u0 q T m (λS1=>S1=S) W:=bG;have EX:Fr F w W:=(Fr.of_below oD).trans (hf.more λ_=>eu);have Ac:=hf.size;have lH:=ah (hf.blk jY (dZ _ aK));have xg:=ah (hf.blk qc (dZ _ ak));have nX:=ah (hf.blk kV (dZ _ ak));have jl:=ah (hf.blk rG (dZ _ ak));have lG:Hid (aZ B u0 q T S m W):=ah (hp ▸ hs);have kE:=ah EX;have HX:=ah lX;have HY:=ah lY;have cx:W.cell? ⟨b6,7,none⟩=some (.int .i64 (nl:Nat)):=(HX.out.cell 7).trans (by show some (acS _ _)=_;rw[I7.out]);have cy:W.cell? ⟨b7,7,none⟩=some (.int .i64 (nr:Nat)):=(HY.out.cell 7).trans (by show some (acS _ _)=_;rw[I8.out]);have q1:W.cell? ⟨q,1,none⟩=some (.int .i64 0):=lG.out.self.cell 1;have hwr:IntKind.i64.wrap ((nr:Int)+1)=(nr:Int)+1:=acK _ ak;have hwl:IntKind.i64.wrap ((nl:Int)+1)=(nl:Int)+1:=acK _ ak;have YJ:=lG.out.self.lt;have EF:=HX.out.lt;have RQ:=HY.out.lt;obtain⟨w5,oI⟩:=aJ (W);rw[<-oI]at HX HY lH xg nX jl lG kE Ac cx cy q1 YJ EF RQ ⊢;clear au hf hs hp EX dZ aW dI fQ jY qc kV rG lD oD sG vT I7 I8 lX lY e0 e1 e2 e3 e4 e5 e6 e7 oI u W;go_wp2_with fail
  refine aP (λu=>⟨#[_,_,_,_,_,_,_,_,_,_,_,_,_,_,_,_,_,_,_,_,_,_,_,_,_,_,_,_,_,_,_,u 0,u 1,u 2,u 3,u 4,u 5,u 6,u 7,u 8,u 9,u 10,_,_,_,_,_,_,_,_,_,_,_,_,_,_,_,_,_,_,_,_,_,_,_],_⟩)
   [bf q 0,
    aF (aG (lk)),
    bf b6 2,
    aF (aG ((tx).left)),
    bf q 0,
    bf b6 4,
    aF (aG ((tx).right)),
    aF (aG (k)),
    aF (aG (rt)),
    aF (aG (t1.rt)),
    aF (aG (t2.rt)),
    Fl.turn _ (w.heap.size+3) 71 (aI (t2.rt)) ak]
   F [9,10] (λj W=>dG B u0 q T (m) (λS1=>match j with | 0=>S1=S | 1=>Mk S S1 (t1) | _=>Mk S S1 (t2)) W) aV aV [w.heap.size+3] rfl aH (by simp<;>omega) (λk hk=>⟨by have:=aQ.out k hk;omega,by have:=aQ.out k hk;simp;omega⟩) ⟨λ_=>undef,rfl⟩ (⟨S,lG.out.below HK aU.drew,rfl⟩) ?_ ?_ ?_
  ·intro i o hi ho u W hf hold aj jP;have aW:=fw aQ hf lH;have dI:=fw aQ hf xg;have fQ:=fw aQ hf nX;have nY:=fw aQ hf HX
   match i,ho with
   |0,ho|4,ho=>exact sv ho (bg rfl rfl)
   |1,ho=>exact sv ho (aC rfl rfl (aW.cell 0) (aW.cell 1))
   |2,ho=>exact sv ho (gG rfl rfl)
   |3,ho=>exact sv ho (aC rfl (aj 2 rfl) (nY.cell 2) (nY.cell 3))
   |5,ho=>exact sv ho (fP rfl rfl)
   |6,ho=>exact sv ho (aC rfl (aj 5 rfl) (nY.cell 4) (nY.cell 5))
   |7,ho=>exact sv ho (aC rfl rfl (dI.cell 0) (dI.cell 1))
   |8,ho=>exact sv ho (aC rfl rfl (fQ.cell 0) (fQ.cell 1))
   |9,ho|10,ho=>
    exact absurd aH hi
   |11,ho=>
    obtain rfl:=aA ho;have Af:aO W (w.heap.size+3) _ _:=ag1 (hold _ rfl) jl;exact aY.yD (hlt:=by omega) (ji rfl rfl (aj 10 rfl) Af) rfl rfl rfl (λ_ dK=>(λ_ h=>dG.far HK h Af ak dK ay ay ay ay))
   |n+12,ho=>exact absurd ho aH
  ·intro t i o ht ho u W hf bG aj;have aW:=fw aQ hf lH;have dI:=fw aQ hf xg;have fQ:=fw aQ hf nX;have nY:=fw aQ hf HX
   match t,ht with
   |0,ht=>
    have ht:=aA ht;subst ht;obtain rfl:=aA ho;refine⟨aB rfl,Does.call (fU zO rfl (aj 4 rfl) (aj 6 rfl) (aj 7 rfl) (aj 8 rfl)) ?_⟩;obtain⟨S1,hs,hp⟩:dG B u0 q T m (λS1=>S1=S) W:=bG;refine aac (nI.out W (hp ▸ hs)) ?_;rintro e w' ⟨rfl,⟨S2,h1,h2⟩,h3⟩;exact⟨_,rfl,rfl,rfl,h3,S2,h1,h2⟩
   |1,ht=>
    have ht:=aA ht;subst ht;obtain rfl:=aA ho;refine⟨aB rfl,Does.call (fU Zu rfl (aj 0 rfl) (aj 1 rfl) (aj 3 rfl) (aj 9 rfl)) ?_⟩;obtain⟨S1,hs,hp⟩:dG B u0 q T m (λS1=>Mk S S1 (t1)) W:=bG;refine aac (uz.out S1 W hp hs) ?_;rintro e w' ⟨rfl,⟨S2,h1,h2⟩,h3⟩;exact⟨_,rfl,rfl,rfl,h3,S2,h1,h2⟩
   |n+2,ht=>exact absurd ht aH
  ·intro u W hf bG au;have aW:=fw aQ hf lH;have dI:=fw aQ hf xg;have fQ:=fw aQ hf nX;have nY:=fw aQ hf HX;have e0:=au.q 0;have e1:=au.q 1;have e2:=au.q 2;have e3:=au.q 3;have e4:=au.q 4;have e5:=au.q 5;have e6:=au.q 6;have e7:=au.q 7;have e8:=au.q 8;have e9:=au.q 9;have e10:=au.q 10;have Di:=(au.p 11 ay trivial);change aO W (w.heap.size+3) _ _ at Di;simp only[e0,e1,e2,e3,e4,e5,e6,e7,e8,e9,e10];obtain⟨S1,hs,hp⟩:dG B u0 q T m (λS1=>Mk S S1 (t2)) W:=bG;have HE:Hid (∃S',aZ B u0 q T S' m W/\Mk S S' (t2)):=ah ⟨S1,hs,hp⟩;have xA:Hid (Fr F w W):=ah (kE.out.newS hf λk hk=>by simp at hk;omega);have nJ:=ah Di;clear au hf hs hp e0 e1 e2 e3 e4 e5 e6 e7 e8 e9 e10 aW dI fQ nY Di;go_wp2;refine bodyPost_ret (eF dW rfl rfl nJ rfl) rfl ?_;exact⟨rfl,HE,xA⟩
theorem amS(K:Kv F B u0 T)(h:aZ B u0 q T S m w){l ra rb:Bt}{k rk:Tok}(hl:Sub S (l))(hr:Sub S (Bt.node ra rk rb))(hn:(Bt.node (l) k (Bt.node ra rk rb)).list.Nodup)(hk:∃n,S k=some n)(hc:(l).cnt+(Bt.node ra rk rb).cnt+1<=250)(hht:l.ht+1<(Bt.node ra rk rb).ht)(UU:∀S W,aZ B u0 q T S m W->Sub S l->Sub S ra->(Bt.node l k ra).list.Nodup->(∃n,S k=some n)->l.cnt+ra.cnt+1<=250->Calls prog 97 #[.pointer (some ⟨q,0,none⟩),aG l.rt,aG k,aG ra.rt] W (EY F B u0 q T m S W (link l k ra))):Calls prog 97 #[.pointer (some ⟨q,0,none⟩),aG (l).rt,aG k,aG rk] w (EY F B u0 q T m S w (link l k (Bt.node ra rk rb))):=by
 obtain⟨MP,qh⟩:=hl;obtain⟨MQ,yV⟩:=hr;have hl:Sub S (l):=⟨MP,qh⟩;have hr:Sub S (Bt.node ra rk rb):=⟨MQ,yV⟩;have sG:=ah (λW (hW:aZ B u0 q T S m W)=>dY K hW qh);have vT:=ah (λW (hW:aZ B u0 q T S m W)=>dY K hW yV);obtain⟨tx,pU⟩:=aJ (tv MP (l));obtain⟨ty,uy⟩:=aJ (tv MQ (Bt.node ra rk rb));have Bc:tx.height=(l).ht:=pU ▸ kP _ _;have Bf:ty.height=(Bt.node ra rk rb).ht:=uy ▸ kP _ _;have Ik:=Bt.lC (l);have Jv:=Bt.lC (Bt.node ra rk rb);rw[<-pU]at sG;rw[<-uy]at vT;have h0:¬ (Bt.node ra rk rb).ht+1<l.ht:=by omega
 rw[afb h0 hht];obtain⟨Oo,P7,_⟩:=hr.kids;obtain⟨n1,n2,sra,dN⟩:=aiP hr hn;have Dy:l.cnt+(ra.cnt+rb.cnt+1)+1<=250:=hc;have VP:=UM l k ra;obtain⟨t1,pI⟩:=aJ (link l k ra);obtain⟨t2,AZ⟩:=aJ (bal t1 rk rb);have nI:=ah (λW (hW:aZ B u0 q T S m W)=>UU S W hW hl sra n1 hk ak);rw[<-pI]at nI dN n2 VP ⊢;rw[<-AZ]at dN ⊢
 have uz:Hid (∀S1 W,Mk S S1 t1->aZ B u0 q T S1 m W->Calls prog 131 #[.pointer (some ⟨q,0,none⟩),aG rk,aG t1.rt,aG rb.rt] W (EY F B u0 q T m S W t2)):=ah λS1 W hm hW=>by
  obtain⟨a1,a2,a3⟩:=dN S1 hm;refine(Zt K hW hm.sub a1 n2 a2 ak).mono ?_;rw[<-AZ];rintro e w' ⟨rfl,⟨S2,b1,b2⟩,b3⟩;exact⟨rfl,⟨S2,b1,a3 S2 b2⟩,b3⟩
 have hyl:ra.rt=ty.left:=by rw[uy];rfl
 have hyr:rb.rt=ty.right:=by rw[uy];rfl
 rw[hyl]at nI;rw[hyr]at uz;have EH:¬ ((Bt.node ra rk rb).ht:Int)+1<(l.ht:Int):=by omega
 have hi:(l.ht:Int)+1<((Bt.node ra rk rb).ht:Int):=by omega
 obtain⟨lt,hlt⟩:=aJ ((l).rt);rw[<-hlt]at sG nI ⊢;change Hid (∀W _,Calls prog _ #[_,aG rk] W _)at vT;obtain⟨nl,Dx⟩:=aJ ((l).ht);obtain⟨nr,IY⟩:=aJ ((Bt.node ra rk rb).ht);rw[<-Dx]at Bc Ik hi EH;rw[<-IY]at Bf Jv hi EH;have X0:nl<=250:=by omega
 have X3:nr<=250:=by omega
 have I7:=ah Bc;have I8:=ah Bf;have bD:=(aai w.heap.size w).alloc aK (.cells (aI lt) 71);have bK:=bD.alloc bD.size (.cells (aI k) 71);have dJ:=bK.alloc bK.size (.cells (aI rk) 71);have iC:=dJ.alloc dJ.size (.cells #[.int .i64 0, .int .i64 0] 71);have Ce:=(((aO.new w 71 (aI lt)).alloc (.cells (aI k) 71)).alloc (.cells (aI rk) 71)).alloc (.cells #[.int .i64 0, .int .i64 0] 71);have yP:=((aO.new (w.alloc (.cells (aI lt) 71)) 71 (aI k)).alloc (.cells (aI rk) 71)).alloc (.cells #[.int .i64 0, .int .i64 0] 71);have qm:=(aO.new ((w.alloc (.cells (aI lt) 71)).alloc (.cells (aI k) 71)) 71 (aI rk)).alloc (.cells #[.int .i64 0, .int .i64 0] 71);have vw:=aO.new (((w.alloc (.cells (aI lt) 71)).alloc (.cells (aI k) 71)).alloc (.cells (aI rk) 71)) 71 #[.int .i64 0, .int .i64 0];rw[aad]at yP;rw[aad,aad]at qm;rw[aad,aad,aad]at vw;have Ol:=h.self.lt;have rF:=h.hq;have jY:=ah Ce;have qc:=ah yP;have kV:=ah qm;have rG:=ah vw;have oD:=ah iC;have HK:=ah K;have lD:=ah (h.below K iC);have aQ:Hid (∀k,F k->k<B):=ah K.low;clear Ce yP qm vw bD bK dJ iC h K hl hr qh yV hn hk pU uy Bc Bf Dx IY Ik Jv hc Oo P7 n1 n2 sra dN Dy VP pI AZ hyl hyr hht h0 UU hlt;go_enter func97,ntmps97
 go_wp2_with fail
 have hz:=oD.out.size;have yU:=rG.out.lt
 refine aP (λu=>⟨#[_,_,_,_,_,_,_,_,_,u 6,u 7,u 0,u 1,u 2,u 3,u 4,u 5,_,_,_,_,_,_,_,_,_,_,_,_,_,_,_,_,_,_,_,_,_,_,_,_,_,_,_,_,_,_,_,_,_,_,_,_,_,_,_,_,_,_,_,_,_,_,_,_],_⟩)
  [bf q 0,
   aF (aG (lt)),
   aF (pY (tx)),
   bf q 0,
   aF (aG (rk)),
   aF (pY (ty)),
   Fl.box _ 124 sF,
   Fl.box _ 124 sF,
   Fl.fill _ 6 124 (fO (tx)),
   Fl.fill _ 7 124 (fO (ty))]
  F [2,5] (λj W=>dG B u0 q T (m) (λS1=>S1=S) W) aV aV [] rfl aH (by simp<;>omega) (λk hk=>⟨by have:=aQ.out k hk;omega,by simp⟩) ⟨λ_=>undef,rfl⟩ (⟨S,lD.out.below HK aU.drew,rfl⟩) ?_ ?_ ?_
 ·intro i o hi ho u W hf hold aj jP;have aW:=fw aQ hf jY;have dI:=fw aQ hf qc;have fQ:=fw aQ hf kV
  match i,ho with
  |0,ho|3,ho=>exact sv ho (bg rfl rfl)
  |1,ho=>exact sv ho (aC rfl rfl (aW.cell 0) (aW.cell 1))
  |2,ho|5,ho=>
   exact absurd aH hi
  |4,ho=>exact sv ho (aC rfl rfl (fQ.cell 0) (fQ.cell 1))
  |6,ho|7,ho=>
   obtain rfl:=aA ho;exact aY.mem (oZ rfl) rfl rfl rfl ⟨_,rfl⟩ (.inl rfl) (λ_ h=>dG.below HK h (aU.alloc aK _))
  |8,ho=>
   obtain rfl:=aA ho;obtain⟨iR,gI⟩:=jP 6 rfl;have jd:=gI _ _ rfl;obtain⟨bz,jw⟩:=aj 6 rfl;rw[jw]at iR jd;change _<=bz at iR;change aO W bz _ _ at jd;exact aY.oh (ig rfl jw (aj 2 rfl) jd) rfl rfl rfl jw iR (λ_ dK=>(λ_ h=>dG.far HK h jd ak dK ay ay ay ay))
  |9,ho=>
   obtain rfl:=aA ho;obtain⟨iR,gI⟩:=jP 7 rfl;have jd:=gI _ _ rfl;obtain⟨bz,jw⟩:=aj 7 rfl;rw[jw]at iR jd;change _<=bz at iR;change aO W bz _ _ at jd;exact aY.oh (ig rfl jw (aj 5 rfl) jd) rfl rfl rfl jw iR (λ_ dK=>(λ_ h=>dG.far HK h jd ak dK ay ay ay ay))
  |n+10,ho=>exact absurd ho aH
 ·intro t i o ht ho u W hf bG aj;have aW:=fw aQ hf jY;have dI:=fw aQ hf qc;have fQ:=fw aQ hf kV
  match t,ht with
  |0,ht=>
   have ht:=aA ht;subst ht;obtain rfl:=aA ho;refine⟨aB rfl,Does.call (bV eU rfl (aj 0 rfl) (aj 1 rfl)) ?_⟩;obtain⟨S1,hs,hp⟩:dG B u0 q T m (λS1=>S1=S) W:=bG;refine aac (sG.out W (hp ▸ hs)) ?_;rintro e w' ⟨rfl,h1,h2⟩;exact⟨_,rfl,rfl,rfl,h2,S,h1,rfl⟩
  |1,ht=>
   have ht:=aA ht;subst ht;obtain rfl:=aA ho;refine⟨aB rfl,Does.call (bV eU rfl (aj 3 rfl) (aj 4 rfl)) ?_⟩;obtain⟨S1,hs,hp⟩:dG B u0 q T m (λS1=>S1=S) W:=bG;refine aac (vT.out W (hp ▸ hs)) ?_;rintro e w' ⟨rfl,h1,h2⟩;exact⟨_,rfl,rfl,rfl,h2,S,h1,rfl⟩
  |n+2,ht=>exact absurd ht aH
 ·intro u W hf bG au;have aW:=fw aQ hf jY;have dI:=fw aQ hf qc;have fQ:=fw aQ hf kV;have e0:=au.q 0;have e1:=au.q 1;have e2:=au.q 2;have e3:=au.q 3;have e4:=au.q 4;have e5:=au.q 5;obtain⟨b6,e6⟩:∃b,u 6= .pointer (some ⟨b,0,none⟩):=au.p 6 ay trivial;obtain⟨b7,e7⟩:∃b,u 7= .pointer (some ⟨b,0,none⟩):=au.p 7 ay trivial;have lX:=(au.p 8 ay trivial);change _<=mX (u 6)/\aO W (mX (u 6)) _ _ at lX;rw[e6]at lX;have Ws:=lX.1;change _<=b6 at Ws
  replace lX:=lX.2
  change aO W b6 _ _ at lX;have lY:=(au.p 9 ay trivial);change _<=mX (u 7)/\aO W (mX (u 7)) _ _ at lY;rw[e7]at lY;have VN:=lY.1;change _<=b7 at VN
  replace lY:=lY.2
  change aO W b7 _ _ at lY;simp only[e0,e1,e2,e3,e4,e5,e6,e7];have dZ:∀g,w.heap.size<=g->¬ (F g\/g∈([]:List Nat)):=λg hg a=>a.elim (λa=>by have:=aQ.out g a;omega) (λa=>by simp at a);obtain⟨S1,hs,hp⟩:dG B u0 q T m (λS1=>S1=S) W:=bG;have EX:Fr F w W:=(Fr.of_below oD).trans (hf.more λ_=>eu);have Ac:=hf.size;have lH:=ah (hf.blk jY (dZ _ aK));have xg:=ah (hf.blk qc (dZ _ ak));have nX:=ah (hf.blk kV (dZ _ ak));have jl:=ah (hf.blk rG (dZ _ ak));have lG:Hid (aZ B u0 q T S m W):=ah (hp ▸ hs);have kE:=ah EX;have HX:=ah lX;have HY:=ah lY;have cx:W.cell? ⟨b6,7,none⟩=some (.int .i64 (nl:Nat)):=(HX.out.cell 7).trans (by show some (acS _ _)=_;rw[I7.out]);have cy:W.cell? ⟨b7,7,none⟩=some (.int .i64 (nr:Nat)):=(HY.out.cell 7).trans (by show some (acS _ _)=_;rw[I8.out]);have q1:W.cell? ⟨q,1,none⟩=some (.int .i64 0):=lG.out.self.cell 1;have hwr:IntKind.i64.wrap ((nr:Int)+1)=(nr:Int)+1:=acK _ ak;have hwl:IntKind.i64.wrap ((nl:Int)+1)=(nl:Int)+1:=acK _ ak;have YJ:=lG.out.self.lt;have EF:=HX.out.lt;have RQ:=HY.out.lt;obtain⟨w5,oI⟩:=aJ (W);rw[<-oI]at HX HY lH xg nX jl lG kE Ac cx cy q1 YJ EF RQ ⊢;clear au hf hs hp EX dZ aW dI fQ jY qc kV rG lD oD sG vT I7 I8 lX lY e0 e1 e2 e3 e4 e5 e6 e7 oI u W;go_wp2_with fail
  refine aP (λu=>⟨#[_,_,_,_,_,_,_,_,_,_,_,_,_,_,_,_,_,_,_,_,_,_,_,_,_,_,_,_,_,_,_,_,_,_,_,_,_,_,_,_,_,_,_,_,_,_,_,_,_,u 0,u 1,u 2,u 3,u 4,u 5,u 6,u 7,u 8,u 9,u 10,_,_,_,_,_],_⟩)
   [bf q 0,
    aF (aG (rk)),
    bf q 0,
    aF (aG (lt)),
    aF (aG (k)),
    bf b7 2,
    aF (aG ((ty).left)),
    aF (aG (t1.rt)),
    bf b7 4,
    aF (aG ((ty).right)),
    aF (aG (t2.rt)),
    Fl.turn _ (w.heap.size+3) 71 (aI (t2.rt)) ak]
   F [7,10] (λj W=>dG B u0 q T (m) (λS1=>match j with | 0=>S1=S | 1=>Mk S S1 (t1) | _=>Mk S S1 (t2)) W) aV aV [w.heap.size+3] rfl aH (by simp<;>omega) (λk hk=>⟨by have:=aQ.out k hk;omega,by have:=aQ.out k hk;simp;omega⟩) ⟨λ_=>undef,rfl⟩ (⟨S,lG.out.below HK aU.drew,rfl⟩) ?_ ?_ ?_
  ·intro i o hi ho u W hf hold aj jP;have aW:=fw aQ hf lH;have dI:=fw aQ hf xg;have fQ:=fw aQ hf nX;have nY:=fw aQ hf HY
   match i,ho with
   |0,ho|2,ho=>exact sv ho (bg rfl rfl)
   |1,ho=>exact sv ho (aC rfl rfl (fQ.cell 0) (fQ.cell 1))
   |3,ho=>exact sv ho (aC rfl rfl (aW.cell 0) (aW.cell 1))
   |4,ho=>exact sv ho (aC rfl rfl (dI.cell 0) (dI.cell 1))
   |5,ho=>exact sv ho (gG rfl rfl)
   |6,ho=>exact sv ho (aC rfl (aj 5 rfl) (nY.cell 2) (nY.cell 3))
   |7,ho|10,ho=>
    exact absurd aH hi
   |8,ho=>exact sv ho (fP rfl rfl)
   |9,ho=>exact sv ho (aC rfl (aj 8 rfl) (nY.cell 4) (nY.cell 5))
   |11,ho=>
    obtain rfl:=aA ho;have Af:aO W (w.heap.size+3) _ _:=ag1 (hold _ rfl) jl;exact aY.yD (hlt:=by omega) (ji rfl rfl (aj 10 rfl) Af) rfl rfl rfl (λ_ dK=>(λ_ h=>dG.far HK h Af ak dK ay ay ay ay))
   |n+12,ho=>exact absurd ho aH
  ·intro t i o ht ho u W hf bG aj;have aW:=fw aQ hf lH;have dI:=fw aQ hf xg;have fQ:=fw aQ hf nX;have nY:=fw aQ hf HY
   match t,ht with
   |0,ht=>
    have ht:=aA ht;subst ht;obtain rfl:=aA ho;refine⟨aB rfl,Does.call (fU zO rfl (aj 2 rfl) (aj 3 rfl) (aj 4 rfl) (aj 6 rfl)) ?_⟩;obtain⟨S1,hs,hp⟩:dG B u0 q T m (λS1=>S1=S) W:=bG;refine aac (nI.out W (hp ▸ hs)) ?_;rintro e w' ⟨rfl,⟨S2,h1,h2⟩,h3⟩;exact⟨_,rfl,rfl,rfl,h3,S2,h1,h2⟩
   |1,ht=>
    have ht:=aA ht;subst ht;obtain rfl:=aA ho;refine⟨aB rfl,Does.call (fU Zu rfl (aj 0 rfl) (aj 1 rfl) (aj 7 rfl) (aj 9 rfl)) ?_⟩;obtain⟨S1,hs,hp⟩:dG B u0 q T m (λS1=>Mk S S1 (t1)) W:=bG;refine aac (uz.out S1 W hp hs) ?_;rintro e w' ⟨rfl,⟨S2,h1,h2⟩,h3⟩;exact⟨_,rfl,rfl,rfl,h3,S2,h1,h2⟩
   |n+2,ht=>exact absurd ht aH
  ·intro u W hf bG au;have aW:=fw aQ hf lH;have dI:=fw aQ hf xg;have fQ:=fw aQ hf nX;have nY:=fw aQ hf HY;have e0:=au.q 0;have e1:=au.q 1;have e2:=au.q 2;have e3:=au.q 3;have e4:=au.q 4;have e5:=au.q 5;have e6:=au.q 6;have e7:=au.q 7;have e8:=au.q 8;have e9:=au.q 9;have e10:=au.q 10;have Di:=(au.p 11 ay trivial);change aO W (w.heap.size+3) _ _ at Di;simp only[e0,e1,e2,e3,e4,e5,e6,e7,e8,e9,e10];obtain⟨S1,hs,hp⟩:dG B u0 q T m (λS1=>Mk S S1 (t2)) W:=bG;have HE:Hid (∃S',aZ B u0 q T S' m W/\Mk S S' (t2)):=ah ⟨S1,hs,hp⟩;have xA:Hid (Fr F w W):=ah (kE.out.newS hf λk hk=>by simp at hk;omega);have nJ:=ah Di;clear au hf hs hp e0 e1 e2 e3 e4 e5 e6 e7 e8 e9 e10 aW dI fQ nY Di;go_wp2;refine bodyPost_ret (eF dW rfl rfl nJ rfl) rfl ?_;exact⟨rfl,HE,xA⟩
theorem afn(K:Kv F B u0 T)(h:aZ B u0 q T S m w){l r:Bt}{k:Tok}(hl:Sub S (l))(hr:Sub S (r))(hn:(Bt.node (l) k (r)).list.Nodup)(hk:∃n,S k=some n)(hc:(l).cnt+(r).cnt+1<=250)(h1:¬r.ht+1<l.ht)(h2:¬l.ht+1<r.ht):Calls prog 97 #[.pointer (some ⟨q,0,none⟩),aG (l).rt,aG k,aG (r).rt] w (EY F B u0 q T m S w (link l k r)):=by
 obtain⟨MP,qh⟩:=hl;obtain⟨MQ,yV⟩:=hr;have hl:Sub S (l):=⟨MP,qh⟩;have hr:Sub S (r):=⟨MQ,yV⟩;have sG:=ah (λW (hW:aZ B u0 q T S m W)=>dY K hW qh);have vT:=ah (λW (hW:aZ B u0 q T S m W)=>dY K hW yV);obtain⟨tx,pU⟩:=aJ (tv MP (l));obtain⟨ty,uy⟩:=aJ (tv MQ (r));have Bc:tx.height=(l).ht:=pU ▸ kP _ _;have Bf:ty.height=(r).ht:=uy ▸ kP _ _;have Ik:=Bt.lC (l);have Jv:=Bt.lC (r);rw[<-pU]at sG;rw[<-uy]at vT;rw[XV h1 h2];have nI:=ah (λW (hW:aZ B u0 q T S m W)=>nO K hW hl hr hn hk hc);have EH:¬ (r.ht:Int)+1<(l.ht:Int):=by omega
 have hi:¬ (l.ht:Int)+1<(r.ht:Int):=by omega
 obtain⟨lt,hlt⟩:=aJ ((l).rt);rw[<-hlt]at sG nI ⊢;obtain⟨rt,gy⟩:=aJ ((r).rt);rw[<-gy]at vT nI ⊢;obtain⟨nl,Dx⟩:=aJ ((l).ht);obtain⟨nr,IY⟩:=aJ ((r).ht);rw[<-Dx]at Bc Ik hi EH;rw[<-IY]at Bf Jv hi EH;have X0:nl<=250:=by omega
 have X3:nr<=250:=by omega
 have I7:=ah Bc;have I8:=ah Bf;have bD:=(aai w.heap.size w).alloc aK (.cells (aI lt) 71);have bK:=bD.alloc bD.size (.cells (aI k) 71);have dJ:=bK.alloc bK.size (.cells (aI rt) 71);have iC:=dJ.alloc dJ.size (.cells #[.int .i64 0, .int .i64 0] 71);have Ce:=(((aO.new w 71 (aI lt)).alloc (.cells (aI k) 71)).alloc (.cells (aI rt) 71)).alloc (.cells #[.int .i64 0, .int .i64 0] 71);have yP:=((aO.new (w.alloc (.cells (aI lt) 71)) 71 (aI k)).alloc (.cells (aI rt) 71)).alloc (.cells #[.int .i64 0, .int .i64 0] 71);have qm:=(aO.new ((w.alloc (.cells (aI lt) 71)).alloc (.cells (aI k) 71)) 71 (aI rt)).alloc (.cells #[.int .i64 0, .int .i64 0] 71);have vw:=aO.new (((w.alloc (.cells (aI lt) 71)).alloc (.cells (aI k) 71)).alloc (.cells (aI rt) 71)) 71 #[.int .i64 0, .int .i64 0];rw[aad]at yP;rw[aad,aad]at qm;rw[aad,aad,aad]at vw;have Ol:=h.self.lt;have rF:=h.hq;have jY:=ah Ce;have qc:=ah yP;have kV:=ah qm;have rG:=ah vw;have oD:=ah iC;have HK:=ah K;have lD:=ah (h.below K iC);have aQ:Hid (∀k,F k->k<B):=ah K.low;clear Ce yP qm vw bD bK dJ iC h K hl hr qh yV hn hk pU uy Bc Bf Dx IY Ik Jv hc h1 h2 gy hlt;go_enter func97,ntmps97
 go_wp2_with fail
 have hz:=oD.out.size;have yU:=rG.out.lt
 refine aP (λu=>⟨#[_,_,_,_,_,_,_,_,_,u 6,u 7,u 0,u 1,u 2,u 3,u 4,u 5,_,_,_,_,_,_,_,_,_,_,_,_,_,_,_,_,_,_,_,_,_,_,_,_,_,_,_,_,_,_,_,_,_,_,_,_,_,_,_,_,_,_,_,_,_,_,_,_],_⟩)
  [bf q 0,
   aF (aG (lt)),
   aF (pY (tx)),
   bf q 0,
   aF (aG (rt)),
   aF (pY (ty)),
   Fl.box _ 124 sF,
   Fl.box _ 124 sF,
   Fl.fill _ 6 124 (fO (tx)),
   Fl.fill _ 7 124 (fO (ty))]
  F [2,5] (λj W=>dG B u0 q T (m) (λS1=>S1=S) W) aV aV [] rfl aH (by simp<;>omega) (λk hk=>⟨by have:=aQ.out k hk;omega,by simp⟩) ⟨λ_=>undef,rfl⟩ (⟨S,lD.out.below HK aU.drew,rfl⟩) ?_ ?_ ?_
 ·intro i o hi ho u W hf hold aj jP;have aW:=fw aQ hf jY;have dI:=fw aQ hf qc;have fQ:=fw aQ hf kV
  match i,ho with
  |0,ho|3,ho=>exact sv ho (bg rfl rfl)
  |1,ho=>exact sv ho (aC rfl rfl (aW.cell 0) (aW.cell 1))
  |2,ho|5,ho=>
   exact absurd aH hi
  |4,ho=>exact sv ho (aC rfl rfl (fQ.cell 0) (fQ.cell 1))
  |6,ho|7,ho=>
   obtain rfl:=aA ho;exact aY.mem (oZ rfl) rfl rfl rfl ⟨_,rfl⟩ (.inl rfl) (λ_ h=>dG.below HK h (aU.alloc aK _))
  |8,ho=>
   obtain rfl:=aA ho;obtain⟨iR,gI⟩:=jP 6 rfl;have jd:=gI _ _ rfl;obtain⟨bz,jw⟩:=aj 6 rfl;rw[jw]at iR jd;change _<=bz at iR;change aO W bz _ _ at jd;exact aY.oh (ig rfl jw (aj 2 rfl) jd) rfl rfl rfl jw iR (λ_ dK=>(λ_ h=>dG.far HK h jd ak dK ay ay ay ay))
  |9,ho=>
   obtain rfl:=aA ho;obtain⟨iR,gI⟩:=jP 7 rfl;have jd:=gI _ _ rfl;obtain⟨bz,jw⟩:=aj 7 rfl;rw[jw]at iR jd;change _<=bz at iR;change aO W bz _ _ at jd;exact aY.oh (ig rfl jw (aj 5 rfl) jd) rfl rfl rfl jw iR (λ_ dK=>(λ_ h=>dG.far HK h jd ak dK ay ay ay ay))
  |n+10,ho=>exact absurd ho aH
 ·intro t i o ht ho u W hf bG aj;have aW:=fw aQ hf jY;have dI:=fw aQ hf qc;have fQ:=fw aQ hf kV
  match t,ht with
  |0,ht=>
   have ht:=aA ht;subst ht;obtain rfl:=aA ho;refine⟨aB rfl,Does.call (bV eU rfl (aj 0 rfl) (aj 1 rfl)) ?_⟩;obtain⟨S1,hs,hp⟩:dG B u0 q T m (λS1=>S1=S) W:=bG;refine aac (sG.out W (hp ▸ hs)) ?_;rintro e w' ⟨rfl,h1,h2⟩;exact⟨_,rfl,rfl,rfl,h2,S,h1,rfl⟩
  |1,ht=>
   have ht:=aA ht;subst ht;obtain rfl:=aA ho;refine⟨aB rfl,Does.call (bV eU rfl (aj 3 rfl) (aj 4 rfl)) ?_⟩;obtain⟨S1,hs,hp⟩:dG B u0 q T m (λS1=>S1=S) W:=bG;refine aac (vT.out W (hp ▸ hs)) ?_;rintro e w' ⟨rfl,h1,h2⟩;exact⟨_,rfl,rfl,rfl,h2,S,h1,rfl⟩
  |n+2,ht=>exact absurd ht aH
 ·intro u W hf bG au;have aW:=fw aQ hf jY;have dI:=fw aQ hf qc;have fQ:=fw aQ hf kV;have e0:=au.q 0;have e1:=au.q 1;have e2:=au.q 2;have e3:=au.q 3;have e4:=au.q 4;have e5:=au.q 5;obtain⟨b6,e6⟩:∃b,u 6= .pointer (some ⟨b,0,none⟩):=au.p 6 ay trivial;obtain⟨b7,e7⟩:∃b,u 7= .pointer (some ⟨b,0,none⟩):=au.p 7 ay trivial;have lX:=(au.p 8 ay trivial);change _<=mX (u 6)/\aO W (mX (u 6)) _ _ at lX;rw[e6]at lX;have Ws:=lX.1;change _<=b6 at Ws
  replace lX:=lX.2
  change aO W b6 _ _ at lX;have lY:=(au.p 9 ay trivial);change _<=mX (u 7)/\aO W (mX (u 7)) _ _ at lY;rw[e7]at lY;have VN:=lY.1;change _<=b7 at VN
  replace lY:=lY.2
  change aO W b7 _ _ at lY;simp only[e0,e1,e2,e3,e4,e5,e6,e7];have dZ:∀g,w.heap.size<=g->¬ (F g\/g∈([]:List Nat)):=λg hg a=>a.elim (λa=>by have:=aQ.out g a;omega) (λa=>by simp at a);obtain⟨S1,hs,hp⟩:dG B u0 q T m (λS1=>S1=S) W:=bG;have EX:Fr F w W:=(Fr.of_below oD).trans (hf.more λ_=>eu);have Ac:=hf.size;have lH:=ah (hf.blk jY (dZ _ aK));have xg:=ah (hf.blk qc (dZ _ ak));have nX:=ah (hf.blk kV (dZ _ ak));have jl:=ah (hf.blk rG (dZ _ ak));have lG:Hid (aZ B u0 q T S m W):=ah (hp ▸ hs);have kE:=ah EX;have HX:=ah lX;have HY:=ah lY;have cx:W.cell? ⟨b6,7,none⟩=some (.int .i64 (nl:Nat)):=(HX.out.cell 7).trans (by show some (acS _ _)=_;rw[I7.out]);have cy:W.cell? ⟨b7,7,none⟩=some (.int .i64 (nr:Nat)):=(HY.out.cell 7).trans (by show some (acS _ _)=_;rw[I8.out]);have q1:W.cell? ⟨q,1,none⟩=some (.int .i64 0):=lG.out.self.cell 1;have hwr:IntKind.i64.wrap ((nr:Int)+1)=(nr:Int)+1:=acK _ ak;have hwl:IntKind.i64.wrap ((nl:Int)+1)=(nl:Int)+1:=acK _ ak;have YJ:=lG.out.self.lt;have EF:=HX.out.lt;have RQ:=HY.out.lt;obtain⟨w5,oI⟩:=aJ (W);rw[<-oI]at HX HY lH xg nX jl lG kE Ac cx cy q1 YJ EF RQ ⊢;clear au hf hs hp EX dZ aW dI fQ jY qc kV rG lD oD sG vT I7 I8 lX lY e0 e1 e2 e3 e4 e5 e6 e7 oI u W;have k0:w5.cell? ⟨w.heap.size,0,none⟩=some (.int .i64 lt.1):=lH.out.cell 0;have l0:w5.cell? ⟨w.heap.size+1,0,none⟩=some (.int .i64 k.1):=xg.out.cell 0;have r0:w5.cell? ⟨w.heap.size+2,0,none⟩=some (.int .i64 rt.1):=nX.out.cell 0;have k1:w5.cell? ⟨w.heap.size,1,none⟩=some (.int .i64 lt.2):=lH.out.cell 1;have l1:w5.cell? ⟨w.heap.size+1,1,none⟩=some (.int .i64 k.2):=xg.out.cell 1;have r1:w5.cell? ⟨w.heap.size+2,1,none⟩=some (.int .i64 rt.2):=nX.out.cell 1;go_wp2_with fail
  refine aac (nI.out _ lG) ?_;rintro e w6 ⟨rfl,⟨S2,Jw,hm6⟩,wZ⟩;have hT6:=wZ.blk jl (λa=>by have:=aQ.out _ a;omega);have mQ:=ah hT6;have yS:=ah Jw;have RJ:=ah hm6;have vS:Hid (Fr F w w6):=ah (kE.out.trans wZ);have t0:=hT6.cell 0;have t1:=hT6.cell 1;have f0:=hT6.frozen 0;have f1:=hT6.frozen 1;clear Jw hm6 wZ hT6 cx cy q1 k0 k1 l0 l1 r0 r1 lH xg nX jl lG kE HX HY;go_wp2;refine bodyPost_ret (eF dW rfl rfl (nD (p:=k) mQ) rfl) rfl ?_;exact⟨rfl,⟨S2,yS.out.far HK mQ ak jM ay ay ay ay,RJ⟩,vS.out.newer jM ak⟩
end
section
variable {F:Nat->Prop}{B u0 q m:Nat}{T:List bT->Nat->World->Prop}{k:Tok}
theorem aiR(K:Kv F B u0 T):∀ (n:Nat) (l r:Bt),l.cnt+r.cnt<=n->∀S w,aZ B u0 q T S m w->Sub S l->Sub S r->(Bt.node l k r).list.Nodup->(∃n,S k=some n)->l.cnt+r.cnt+1<=250->Calls prog 97 #[.pointer (some ⟨q,0,none⟩),aG l.rt,aG k,aG r.rt] w (EY F B u0 q T m S w (link l k r)):=by
 intro n
 induction n with
 |zero=>
  intro l r hz S w h hl hr hn hk hc;have h1:=Bt.lC l;have h2:=Bt.lC r;exact afn K h hl hr hn hk hc ak ak
 |succ n ih=>
  intro l r hz S w h hl hr hn hk hc;by_cases h1:r.ht+1<l.ht
  ·cases l with
   |nil=>simp[Bt.ht]at h1
   |node la lk lb=>exact amR K h hl hr hn hk hc h1 (ih lb r (by simp only[Bt.cnt]at hz;omega))
  ·by_cases h2:l.ht+1<r.ht
   ·cases r with
    |nil=>simp[Bt.ht]at h2
    |node ra rk rb=>exact amS K h hl hr hn hk hc h2 (ih l ra (by simp only[Bt.cnt]at hz;omega))
   ·exact afn K h hl hr hn hk hc h1 h2
theorem link_any(K:Kv F B u0 T){S:St}{w:World}(h:aZ B u0 q T S m w){l r:Bt}(hl:Sub S l)(hr:Sub S r)(hn:(Bt.node l k r).list.Nodup)(hk:∃n,S k=some n)(hc:l.cnt+r.cnt+1<=250):Calls prog 97 #[.pointer (some ⟨q,0,none⟩),aG l.rt,aG k,aG r.rt] w (EY F B u0 q T m S w (link l k r)):=
 aiR K _ l r aK S w h hl hr hn hk hc
end
def LaE(F:Nat->Prop)(B u0 q:Nat)(T:List bT->Nat->World->Prop)(m:Nat)(S:St)(w:World)(t:Bt)(e:Ending)(w':World):Prop:=e= .returned (.tuple #[aG (last t).1.rt,aG (last t).2])/\(∃S',aZ B u0 q T S' m w'/\La S S' t)/\Fr F w w'
theorem Pq{fn:Func}{p u:Tmp}{ty ty':TypeId}{tmps:Array Value}{w:World}{g g' n n':Nat}{cs cs':Array Value}(hT:kG ty n)(hT':kG ty' n')(h:fn.results= #[.cell p ty, .cell u ty'])(hp:tmps.getD p undef= .pointer (some ⟨g,0,none⟩))(hB:aO w g ty cs)(hn:cs.size=n)(hq:tmps.getD u undef= .pointer (some ⟨g',0,none⟩))(hB':aO w g' ty' cs')(ZK:cs'.size=n'):(results fn tmps).run prog w= .ok (.tuple #[.agg cs, .agg cs']) w:=by
 have hp':tmps[p]?.getD undef= .pointer (some ⟨g,0,none⟩):=by simpa using hp
 have hq':tmps[u]?.getD undef= .pointer (some ⟨g',0,none⟩):=by simpa using hq
 simp only[results,h];simp[hp',hq',asAddr,jJ hT hB hn,jJ hT' hB' ZK]
section
variable {F:Nat->Prop}{B u0 q m:Nat}{T:List bT->Nat->World->Prop}{S:St}{w w':World}
theorem amT(K:Kv F B u0 T)(h:aZ B u0 q T S m w){la:Bt}{k:Tok}(hl:Sub S (Bt.node la k Bt.nil))(_hn:(Bt.node la k Bt.nil).list.Nodup):Calls prog 135 #[.pointer (some ⟨q,0,none⟩),aG k] w (LaE F B u0 q T m S w (Bt.node la k Bt.nil)):=by
 obtain⟨up,qh⟩:=hl;obtain⟨hv,jA⟩:=h.ok k _ qh.1;have wP:=ah (λW (hW:aZ B u0 q T S m W)=>rX K hW qh.1);have awt:Hid (Sub S (Sq.last (Bt.node la k Bt.nil)).1):=ah ⟨k,qh.2.1⟩;have HEX:Hid (∃n,S (Sq.last (Bt.node la k Bt.nil)).2=some n):=ah ⟨_,qh.1⟩;obtain⟨tx,pU⟩:=aJ (nd up la (Bt.nil));rw[<-pU]at wP;have Ob:la.rt=tx.left:=by rw[pU];rfl
 have Wq:dn=tx.right:=by rw[pU];rfl
 have HXR:=ah Wq.symm;have HXL:=ah Ob;have bD:=(aai w.heap.size w).alloc aK (.cells (aI k) 71);have bK:=bD.alloc bD.size (.cells #[.int .i64 0, .int .i64 0] 71);have dJ:=bK.alloc bK.size (.cells #[.int .i64 0, .int .i64 0] 71);have PY:=((aO.new w 71 (aI k)).alloc (.cells #[.int .i64 0, .int .i64 0] 71)).alloc (.cells #[.int .i64 0, .int .i64 0] 71);have V3:=(aO.new (w.alloc (.cells (aI k) 71)) 71 #[.int .i64 0, .int .i64 0]).alloc (.cells #[.int .i64 0, .int .i64 0] 71);have he3:=aO.new ((w.alloc (.cells (aI k) 71)).alloc (.cells #[.int .i64 0, .int .i64 0] 71)) 71 #[.int .i64 0, .int .i64 0];rw[aad]at V3;rw[aad,aad]at he3;have Ol:=h.self.lt;have rF:=h.hq;have Wn:=ah PY;have HA3:=ah V3;have HE3:=ah he3;have vY:=ah dJ;have HK:=ah K;have Aa:=h.below K dJ;have HG:=ah (wP.out _ Aa);have aQ:Hid (∀k,F k->k<B):=ah K.low;have HN:=ah (λW=>dX W);clear PY V3 he3 bD bK dJ h K qh hv jA Aa wP pU Wq Ob;go_enter func135,ntmps135
 go_wp2_with fail
 refine aac HG ?_;rintro e w1 ⟨rfl,jr,eH⟩;have dZ:∀g,w.heap.size<=g->¬F g:=λg hg a=>by have:=aQ.out g a;omega
 have IZ:=HE3.out.lt;have gI:=eH.size;have rO:=(aai _ w1).alloc aK (.cells (fO tx) 124);have jY:=ah ((eH.blk Wn (dZ _ aK)).alloc (.cells (fO tx) 124));have HA4:=ah ((eH.blk HA3 (dZ _ ak)).alloc (.cells (fO tx) 124));have HE4:=ah ((eH.blk HE3 (dZ _ ak)).alloc (.cells (fO tx) 124));have uJ:=ah (aO.new w1 124 (fO tx));have lD:=ah (jr.below HK rO);have pK:Hid (Fr F w _):=ah (((Fr.of_below vY).trans eH).then_ rO);have PV:w1.heap.size<(w1.alloc (.cells (fO tx) 124)).heap.size:=by rw[aad];omega
 have RN:=ah lD.out.self;obtain⟨w4,vU⟩:=aJ (w1.alloc (.cells (fO tx) 124));rw[<-vU]at jY HA4 HE4 uJ lD pK PV RN;clear jr eH rO Wn HA3 HE3 vY HG dZ;go_wp2_with fail
 rw[show w1.alloc (.cells #[.int .i64 tx.up.1, .int .i64 tx.up.2, .int .i64 tx.left.1, .int .i64 tx.left.2, .int .i64 tx.right.1, .int .i64 tx.right.2, .int .i64 tx.count, .int .i64 tx.height] 124)=w4 from vU.symm];clear vU
 refine aP (λu=>⟨#[_,_,_,_,_,_,_,_,_,_,_,u 0,u 1,u 2,u 3,u 4,u 5,u 6,u 7,u 8,u 9,u 10,_,_,_,_,_,_,_,_,_,_,_,_,_,_,_,_,_],_⟩)
  [bf q 0,
   bf q 0,
   bf q 1,
   aF (.int .i64 (0)),
   aF (.bool (false)),
   aF (.bool (false)),
   bf w1.heap.size 4,
   aF (aG ((tx).right)),
   aF (aG (dn)),
   aF (.bool (true)),
   aF (.bool (true))]
  (λ_=>False) [8] (λ_ _=>True) aV aV [] rfl aH (by simp<;>omega) (λ_ hk=>hk.elim) ⟨λ_=>undef,rfl⟩ (trivial) ?_ ?_ ?_
 ·intro i o hi ho u W hf hold aj jP;have aW:=hf.blk uJ eu;have dI:=hf.blk RN eu
  match i,ho with
  |0,ho=>exact sv ho (bg rfl rfl)
  |1,ho=>exact sv ho (jK rfl (aj 0 rfl))
  |2,ho=>exact sv ho (tZ rfl (aj 1 rfl))
  |3,ho=>exact sv ho (uT rfl (aj 2 rfl) (dI.cell 1))
  |4,ho=>exact sv ho (o7 rfl (aj 3 rfl) rfl)
  |5,ho=>exact sv ho (bg rfl (aj 4 rfl))
  |6,ho=>
   obtain rfl:=aA ho;exact aY.nS ((bI rfl (aT (v:=u 5) rfl (aj 5 rfl))).trans rfl) (fP rfl rfl) rfl rfl rfl
  |7,ho=>
   obtain rfl:=aA ho;exact aY.nS ((bI rfl (aT (v:=u 5) rfl (aj 5 rfl))).trans rfl) (aC rfl (aj 6 rfl) (aW.cell 4) (aW.cell 5)) rfl rfl rfl
  |8,ho=>
   exact absurd aH hi
  |9,ho=>
   obtain rfl:=aA ho;exact aY.nS ((bI rfl (aT (v:=u 5) rfl (aj 5 rfl))).trans rfl) (iI rfl (aj 7 rfl) (aj 8 rfl)) rfl (by show agD (decide _)=_;rw[HXR.out,decide_eq_true rfl]) rfl
  |10,ho=>exact sv ho (mM rfl (aj 5 rfl) (aj 9 rfl))
  |n+11,ho=>exact absurd ho aH
 ·intro t i o ht ho u W hf bG aj;have aW:=hf.blk uJ eu;have dI:=hf.blk RN eu
  match t,ht with
  |0,ht=>
   have ht:=aA ht;subst ht;obtain rfl:=aA ho;refine⟨((bI rfl (aT (v:=u 5) rfl (aj 5 rfl))).trans rfl),Does.call (fV dP rfl ) ?_⟩;refine aac (HN.out W) ?_;rintro e w' ⟨rfl,hb⟩;exact⟨_,rfl,rfl,rfl, .of_below hb,trivial⟩
  |n+1,ht=>exact absurd ht aH
 ·intro u W hf bG au;have aW:=hf.blk uJ eu;have dI:=hf.blk RN eu;have e0:=au.q 0;have e1:=au.q 1;have e2:=au.q 2;have e3:=au.q 3;have e4:=au.q 4;have e5:=au.q 5;have e6:=au.q 6;have e7:=au.q 7;have e8:=au.q 8;have e9:=au.q 9;have e10:=au.q 10;simp only[e0,e1,e2,e3,e4,e5,e6,e7,e8,e9,e10];have iL:∀k:Nat,¬ (False\/k∈([]:List Nat)):=λ_=>eu;have Ac:=hf.size;have jU:=hf.low (B:=_) aK (λk a=>(iL k a).elim);have Nl:=ah (hf.blk HA4 (iL _));have HE5:=ah (hf.blk HE4 (iL _));have vV:=ah (hf.blk uJ (iL _));have lH:=ah (hf.blk jY (iL _));have lG:=ah (lD.out.below HK jU);have kE:Hid (Fr F w W):=ah (pK.out.then_ jU);have hq5:q<W.heap.size:=by omega
  have hx5:w1.heap.size<W.heap.size:=by omega
  obtain⟨w5,oI⟩:=aJ (W);rw[<-oI]at Nl HE5 vV lH lG kE Ac hq5 hx5 ⊢;clear au hf iL jU aW dI bG HA4 HE4 uJ jY lD pK RN HN e0 e1 e2 e3 e4 e5 e6 e7 e8 e9 e10 oI u W;go_wp2_with fail
  refine aP (λu=>⟨#[_,_,_,_,_,_,_,_,_,_,_,_,_,_,_,_,_,_,_,_,_,_,u 0,u 1,u 2,_,_,_,_,_,_,_,_,_,_,_,_,_,_],_⟩)
   [bf w1.heap.size 2,
    aF (aG ((tx).left)),
    aF (aG (k)),
    Fl.turn _ (w.heap.size+1) 71 (aI ((tx).left)) ak,
    Fl.turn _ (w.heap.size+2) 71 (aI (k)) ak]
   F [] (λj W=>dG B u0 q T (m) (λS1=>S1=S) W) aV aV [w.heap.size+1,w.heap.size+2] rfl aH (by simp<;>omega) (λk hk=>⟨by have:=aQ.out k hk;omega,by have:=aQ.out k hk;simp;omega⟩) ⟨λ_=>undef,rfl⟩ (⟨S,lG.out.below HK aU.drew,rfl⟩) ?_ ?_ ?_
  ·intro i o hi ho u W hf hold aj jP;have aW:=fw aQ hf vV;have dI:=fw aQ hf lH
   match i,ho with
   |0,ho=>exact sv ho (gG rfl rfl)
   |1,ho=>exact sv ho (aC rfl (aj 0 rfl) (aW.cell 2) (aW.cell 3))
   |2,ho=>exact sv ho (aC rfl rfl (dI.cell 0) (dI.cell 1))
   |3,ho=>
    obtain rfl:=aA ho;have Af:aO W (w.heap.size+1) _ _:=ag1 (hold _ rfl) Nl;exact aY.yD (hlt:=by omega) (ji rfl rfl (aj 1 rfl) Af) rfl rfl rfl (λ_ dK=>(λ_ h=>dG.far HK h Af ak dK ay ay ay ay))
   |4,ho=>
    obtain rfl:=aA ho;have Af:aO W (w.heap.size+2) _ _:=ag1 (hold _ rfl) HE5;exact aY.yD (hlt:=by omega) (ji rfl rfl (aj 2 rfl) Af) rfl rfl rfl (λ_ dK=>(λ_ h=>dG.far HK h Af ak dK ay ay ay ay))
   |n+5,ho=>exact absurd ho aH
  ·intro t i o ht ho u W hf bG aj;exact absurd ht aH
  ·intro u W hf bG au;have aW:=fw aQ hf vV;have dI:=fw aQ hf lH;have e0:=au.q 0;have e1:=au.q 1;have e2:=au.q 2;have hT3:=(au.p 3 ay trivial);change aO W (w.heap.size+1) _ _ at hT3;have hT4:=(au.p 4 ay trivial);change aO W (w.heap.size+2) _ _ at hT4;simp only[e0,e1,e2];obtain⟨S1,hs,hp⟩:dG B u0 q T m (λS1=>S1=S) W:=bG;have HE:Hid (∃S',aZ B u0 q T S' m W/\La S S' (Bt.node la k Bt.nil)):=ah ⟨S,hp ▸ hs,awt,Same.refl _ _,HEX⟩;have xA:Hid (Fr F w W):=ah (kE.out.newS hf λk hk=>by simp at hk;omega);have YH:=ah hT3;have HE7:=ah hT4;clear au hf hs hp e0 e1 e2 aW dI hT3 hT4;go_wp2;refine bodyPost_ret (Pq dW dW rfl rfl YH rfl rfl HE7 rfl) rfl ?_;exact⟨by rw[<-HXL.out];rfl,HE,xA⟩
theorem amU(K:Kv F B u0 T)(h:aZ B u0 q T S m w){la b c:Bt}{k j:Tok}(hl:Sub S (Bt.node la k (Bt.node b j c)))(hn:(Bt.node la k (Bt.node b j c)).list.Nodup)(hc:(Bt.node la k (Bt.node b j c)).cnt<=250)(UU:∀S W,aZ B u0 q T S m W->Sub S (Bt.node b j c)->(Bt.node b j c).list.Nodup->Calls prog 135 #[.pointer (some ⟨q,0,none⟩),aG j] W (LaE F B u0 q T m S W (Bt.node b j c))):Calls prog 135 #[.pointer (some ⟨q,0,none⟩),aG k] w (LaE F B u0 q T m S w (Bt.node la k (Bt.node b j c))):=by
 obtain⟨up,qh⟩:=hl;obtain⟨hv,jA⟩:=h.ok k _ qh.1;have wP:=ah (λW (hW:aZ B u0 q T S m W)=>rX K hW qh.1);obtain⟨n1,n2,dN⟩:=aiQ ⟨up,qh⟩ hn;have hvj:=(h.ok j _ qh.2.2.1).1.ne;have HJN:=ah hvj;obtain⟨Oo,P7,_⟩:=(show Sub S (Bt.node la k (Bt.node b j c))from⟨up,qh⟩).kids;have HR:=ah (λW (hW:aZ B u0 q T S m W)=>UU S W hW ⟨_,P7⟩ n1);have Dy:la.cnt+(Bt.node b j c).cnt+1<=250:=hc
 have VP:(Sq.last (Bt.node b j c)).1.cnt+1=(Bt.node b j c).cnt:=by
  rw[Bt.dU,Bt.dU, <-wO (Bt.node b j c) aH];simp
 obtain⟨tl,lI⟩:=aJ ((Sq.last (Bt.node b j c)).1);obtain⟨te,hte⟩:=aJ ((Sq.last (Bt.node b j c)).2);have gJ:Sq.last (Bt.node la k (Bt.node b j c))=(link la k tl,te):=by rw[lI,hte];rfl
 rw[<-lI]at VP n2 dN
 have HS:Hid (∀S1 W,La S S1 (Bt.node b j c)->aZ B u0 q T S1 m W->Calls prog 97 #[.pointer (some ⟨q,0,none⟩),aG la.rt,aG k,aG tl.rt] W λe w'=>e= .returned (aG (link la k tl).rt)/\(∃S2,aZ B u0 q T S2 m w'/\La S S2 (Bt.node la k (Bt.node b j c)))/\Fr F W w'):=ah λS1 W hm hW=>by
  obtain⟨a1,a2,a3⟩:=dN S1 hm;refine(link_any K hW a1 (lI ▸ hm.sub) n2 a2 ak).mono ?_;rintro e w' ⟨rfl,⟨S2,b1,b2⟩,b3⟩;exact⟨rfl,⟨S2,b1,a3 S2 b2⟩,b3⟩
 have FW:=ah gJ;unfold LaE at HR;rw[<-lI, <-hte]at HR;obtain⟨tr,Oh⟩:=aJ (link la k tl);rw[<-Oh]at HS;have HTR:=ah Oh;obtain⟨tx,pU⟩:=aJ (nd up la (Bt.node b j c));rw[<-pU]at wP;have Ob:la.rt=tx.left:=by rw[pU];rfl
 have Wq:j=tx.right:=by rw[pU];rfl
 have HXR:=ah Wq.symm;rw[Ob]at HS;have bD:=(aai w.heap.size w).alloc aK (.cells (aI k) 71);have bK:=bD.alloc bD.size (.cells #[.int .i64 0, .int .i64 0] 71);have dJ:=bK.alloc bK.size (.cells #[.int .i64 0, .int .i64 0] 71);have PY:=((aO.new w 71 (aI k)).alloc (.cells #[.int .i64 0, .int .i64 0] 71)).alloc (.cells #[.int .i64 0, .int .i64 0] 71);have V3:=(aO.new (w.alloc (.cells (aI k) 71)) 71 #[.int .i64 0, .int .i64 0]).alloc (.cells #[.int .i64 0, .int .i64 0] 71);have he3:=aO.new ((w.alloc (.cells (aI k) 71)).alloc (.cells #[.int .i64 0, .int .i64 0] 71)) 71 #[.int .i64 0, .int .i64 0];rw[aad]at V3;rw[aad,aad]at he3;have Ol:=h.self.lt;have rF:=h.hq;have Wn:=ah PY;have HA3:=ah V3;have HE3:=ah he3;have vY:=ah dJ;have HK:=ah K;have Aa:=h.below K dJ;have HG:=ah (wP.out _ Aa);have aQ:Hid (∀k,F k->k<B):=ah K.low;have HN:=ah (λW=>dX W);clear PY V3 he3 bD bK dJ h K qh hn hv jA Aa wP pU Wq Oo P7 n1 n2 dN hvj Dy VP lI hte gJ Oh hc UU Ob;go_enter func135,ntmps135
 go_wp2_with fail
 refine aac HG ?_;rintro e w1 ⟨rfl,jr,eH⟩;have dZ:∀g,w.heap.size<=g->¬F g:=λg hg a=>by have:=aQ.out g a;omega
 have IZ:=HE3.out.lt;have gI:=eH.size;have rO:=(aai _ w1).alloc aK (.cells (fO tx) 124);have jY:=ah ((eH.blk Wn (dZ _ aK)).alloc (.cells (fO tx) 124));have HA4:=ah ((eH.blk HA3 (dZ _ ak)).alloc (.cells (fO tx) 124));have HE4:=ah ((eH.blk HE3 (dZ _ ak)).alloc (.cells (fO tx) 124));have uJ:=ah (aO.new w1 124 (fO tx));have lD:=ah (jr.below HK rO);have pK:Hid (Fr F w _):=ah (((Fr.of_below vY).trans eH).then_ rO);have PV:w1.heap.size<(w1.alloc (.cells (fO tx) 124)).heap.size:=by rw[aad];omega
 have RN:=ah lD.out.self;obtain⟨w4,vU⟩:=aJ (w1.alloc (.cells (fO tx) 124));rw[<-vU]at jY HA4 HE4 uJ lD pK PV RN;clear jr eH rO Wn HA3 HE3 vY HG dZ;go_wp2_with fail
 rw[show w1.alloc (.cells #[.int .i64 tx.up.1, .int .i64 tx.up.2, .int .i64 tx.left.1, .int .i64 tx.left.2, .int .i64 tx.right.1, .int .i64 tx.right.2, .int .i64 tx.count, .int .i64 tx.height] 124)=w4 from vU.symm];clear vU
 refine aP (λu=>⟨#[_,_,_,_,_,_,_,_,_,_,_,u 0,u 1,u 2,u 3,u 4,u 5,u 6,u 7,u 8,u 9,u 10,_,_,_,_,_,_,_,_,_,_,_,_,_,_,_,_,_],_⟩)
  [bf q 0,
   bf q 0,
   bf q 1,
   aF (.int .i64 (0)),
   aF (.bool (false)),
   aF (.bool (false)),
   bf w1.heap.size 4,
   aF (aG ((tx).right)),
   aF (aG (dn)),
   aF (.bool (false)),
   aF (.bool (false))]
  (λ_=>False) [8] (λ_ _=>True) aV aV [] rfl aH (by simp<;>omega) (λ_ hk=>hk.elim) ⟨λ_=>undef,rfl⟩ (trivial) ?_ ?_ ?_
 ·intro i o hi ho u W hf hold aj jP;have aW:=hf.blk uJ eu;have dI:=hf.blk RN eu
  match i,ho with
  |0,ho=>exact sv ho (bg rfl rfl)
  |1,ho=>exact sv ho (jK rfl (aj 0 rfl))
  |2,ho=>exact sv ho (tZ rfl (aj 1 rfl))
  |3,ho=>exact sv ho (uT rfl (aj 2 rfl) (dI.cell 1))
  |4,ho=>exact sv ho (o7 rfl (aj 3 rfl) rfl)
  |5,ho=>exact sv ho (bg rfl (aj 4 rfl))
  |6,ho=>
   obtain rfl:=aA ho;exact aY.nS ((bI rfl (aT (v:=u 5) rfl (aj 5 rfl))).trans rfl) (fP rfl rfl) rfl rfl rfl
  |7,ho=>
   obtain rfl:=aA ho;exact aY.nS ((bI rfl (aT (v:=u 5) rfl (aj 5 rfl))).trans rfl) (aC rfl (aj 6 rfl) (aW.cell 4) (aW.cell 5)) rfl rfl rfl
  |8,ho=>
   exact absurd aH hi
  |9,ho=>
   obtain rfl:=aA ho;exact aY.nS ((bI rfl (aT (v:=u 5) rfl (aj 5 rfl))).trans rfl) (iI rfl (aj 7 rfl) (aj 8 rfl)) rfl (by show agD (decide _)=_;rw[HXR.out,decide_eq_false HJN.out]) rfl
  |10,ho=>exact sv ho (mM rfl (aj 5 rfl) (aj 9 rfl))
  |n+11,ho=>exact absurd ho aH
 ·intro t i o ht ho u W hf bG aj;have aW:=hf.blk uJ eu;have dI:=hf.blk RN eu
  match t,ht with
  |0,ht=>
   have ht:=aA ht;subst ht;obtain rfl:=aA ho;refine⟨((bI rfl (aT (v:=u 5) rfl (aj 5 rfl))).trans rfl),Does.call (fV dP rfl ) ?_⟩;refine aac (HN.out W) ?_;rintro e w' ⟨rfl,hb⟩;exact⟨_,rfl,rfl,rfl, .of_below hb,trivial⟩
  |n+1,ht=>exact absurd ht aH
 ·intro u W hf bG au;have aW:=hf.blk uJ eu;have dI:=hf.blk RN eu;have e0:=au.q 0;have e1:=au.q 1;have e2:=au.q 2;have e3:=au.q 3;have e4:=au.q 4;have e5:=au.q 5;have e6:=au.q 6;have e7:=au.q 7;have e8:=au.q 8;have e9:=au.q 9;have e10:=au.q 10;simp only[e0,e1,e2,e3,e4,e5,e6,e7,e8,e9,e10];have iL:∀k:Nat,¬ (False\/k∈([]:List Nat)):=λ_=>eu;have Ac:=hf.size;have jU:=hf.low (B:=_) aK (λk a=>(iL k a).elim);have Nl:=ah (hf.blk HA4 (iL _));have HE5:=ah (hf.blk HE4 (iL _));have vV:=ah (hf.blk uJ (iL _));have lH:=ah (hf.blk jY (iL _));have lG:=ah (lD.out.below HK jU);have kE:Hid (Fr F w W):=ah (pK.out.then_ jU);have hq5:q<W.heap.size:=by omega
  have hx5:w1.heap.size<W.heap.size:=by omega
  obtain⟨w5,oI⟩:=aJ (W);rw[<-oI]at Nl HE5 vV lH lG kE Ac hq5 hx5 ⊢;clear au hf iL jU aW dI bG HA4 HE4 uJ jY lD pK RN HN e0 e1 e2 e3 e4 e5 e6 e7 e8 e9 e10 oI u W;have x4:w5.cell? ⟨w1.heap.size,4,none⟩=some (.int .i64 j.1):=(vV.out.cell 4).trans (by show some (acS _ tx.right.1)=_;rw[HXR.out]);have x5:w5.cell? ⟨w1.heap.size,5,none⟩=some (.int .i64 j.2):=(vV.out.cell 5).trans (by show some (acS _ tx.right.2)=_;rw[HXR.out]);go_wp2_with fail
  refine aac (HR.out _ lG) ?_;rintro e w6 ⟨rfl,⟨S6,Jw,arb⟩,wZ⟩;have dZ:∀g,w.heap.size<=g->¬F g:=λg hg a=>by have:=aQ.out g a;omega
  have VF:=wZ.size;have HA6:=ah (wZ.blk Nl (dZ _ ak));have HE6:=ah (wZ.blk HE5 (dZ _ ak));have yA:=ah (wZ.blk vV (dZ _ ak));have Du:=ah (wZ.blk lH (dZ _ ak));have yS:=ah Jw;have awu:=ah arb;have vS:Hid (Fr F w w6):=ah (kE.out.trans wZ);have t0:=HE6.out.cell 0;have t1:=HE6.out.cell 1;have f0:=HE6.out.frozen 0;have f1:=HE6.out.frozen 1;have l5:=HE6.out.lt;have Gu:Fr (λk=>k=w.heap.size+1+1) w6 ((w6.setCell ⟨w.heap.size+1+1,0,none⟩ (.int .i64 te.1)).setCell ⟨w.heap.size+1+1,1,none⟩ (.int .i64 te.2)):=jM;have hz7:=Gu.size;have hb7:=(aai _ ((w6.setCell ⟨w.heap.size+1+1,0,none⟩ (.int .i64 te.1)).setCell ⟨w.heap.size+1+1,1,none⟩ (.int .i64 te.2))).alloc aK (.cells (aI tl.rt) 71);have HE7:=ah ((nD (p:=te) HE6).alloc (.cells (aI tl.rt) 71));have YH:=ah ((Gu.blk HA6 ak).alloc (.cells (aI tl.rt) 71));have Cj:=ah ((Gu.blk yA ak).alloc (.cells (aI tl.rt) 71));have HK7:=ah ((Gu.blk Du ak).alloc (.cells (aI tl.rt) 71));have HS7:=ah ((yS.out.far HK HE6 ak Gu ay ay ay ay).below HK hb7);have xA:Hid (Fr F w _):=ah ((vS.out.newer Gu ak).then_ hb7);have ht7:=aO.new ((w6.setCell ⟨w.heap.size+1+1,0,none⟩ (.int .i64 te.1)).setCell ⟨w.heap.size+1+1,1,none⟩ (.int .i64 te.2)) 71 (aI tl.rt);rw[akW,akW]at ht7;have VN:=ht7.lt;have nJ:=ah ht7;obtain⟨w7,YE⟩:=aJ (((w6.setCell ⟨w.heap.size+1+1,0,none⟩ (.int .i64 te.1)).setCell ⟨w.heap.size+1+1,1,none⟩ (.int .i64 te.2)).alloc (.cells (aI tl.rt) 71));rw[<-YE]at HE7 YH Cj HK7 HS7 xA nJ VN;clear Jw arb wZ dZ Nl HE5 vV lH lG kE x4 x5 HR Gu hz7 hb7 ht7;go_wp2_with fail
  rw[show(((w6.setCell ⟨w.heap.size+1+1,0,none⟩ (.int .i64 te.1)).setCell ⟨w.heap.size+1+1,1,none⟩ (.int .i64 te.2)).alloc (.cells #[.int .i64 tl.rt.1, .int .i64 tl.rt.2] 71))=w7 from YE.symm];clear YE HA6 HE6 yA Du yS vS t0 t1 f0 f1
  refine aP (λu=>⟨#[_,_,_,_,_,_,_,_,_,_,_,_,_,_,_,_,_,_,_,_,_,_,_,_,_,_,_,_,_,_,_,_,u 0,u 1,u 2,u 3,u 4,u 5,u 6],_⟩)
   [bf q 0,
    bf w1.heap.size 2,
    aF (aG ((tx).left)),
    aF (aG (k)),
    aF (aG (tl.rt)),
    aF (aG (tr.rt)),
    aF (aG (te)),
    Fl.turn _ (w.heap.size+1) 71 (aI (tr.rt)) ak,
    Fl.any _]
   F [5] (λnn W=>dG B u0 q T (m) (λS1=>match nn with | 0=>S1=S6 | _=>La S S1 (Bt.node la k (Bt.node b j c))) W) aV aV [w.heap.size+1] rfl aH (by simp<;>omega) (λk hk=>⟨by have:=aQ.out k hk;omega,by have:=aQ.out k hk;simp;omega⟩) ⟨λ_=>undef,rfl⟩ (⟨S6,HS7.out.below HK aU.drew,rfl⟩) ?_ ?_ ?_
  ·intro i o hi ho u W hf hold aj jP;have aW:=fw aQ hf Cj;have dI:=fw aQ hf HK7;have fQ:=fw aQ hf nJ;have nY:=fw aQ hf HE7
   match i,ho with
   |0,ho=>exact sv ho (bg rfl rfl)
   |1,ho=>exact sv ho (gG rfl rfl)
   |2,ho=>exact sv ho (aC rfl (aj 1 rfl) (aW.cell 2) (aW.cell 3))
   |3,ho=>exact sv ho (aC rfl rfl (dI.cell 0) (dI.cell 1))
   |4,ho=>exact sv ho (aC rfl rfl (fQ.cell 0) (fQ.cell 1))
   |5,ho=>
    exact absurd aH hi
   |6,ho=>exact sv ho (aC rfl rfl (nY.cell 0) (nY.cell 1))
   |7,ho=>
    obtain rfl:=aA ho;have Af:aO W (w.heap.size+1) _ _:=ag1 (hold _ rfl) YH;exact aY.yD (hlt:=by omega) (ji rfl rfl (aj 5 rfl) Af) rfl rfl rfl (λ_ dK=>(λ_ h=>dG.far HK h Af ak dK ay ay ay ay))
   |8,ho=>
    obtain rfl:=aA ho;exact aY.apO (ji rfl rfl (aj 6 rfl) nY) nY rfl rfl rfl (λ_ dK=>(λ_ h=>dG.far HK h nY ak dK ay ay ay ay))
   |n+9,ho=>exact absurd ho aH
  ·intro t i o ht ho u W hf bG aj;have aW:=fw aQ hf Cj;have dI:=fw aQ hf HK7;have fQ:=fw aQ hf nJ;have nY:=fw aQ hf HE7
   match t,ht with
   |0,ht=>
    have ht:=aA ht;subst ht;obtain rfl:=aA ho;refine⟨aB rfl,Does.call (fU zO rfl (aj 0 rfl) (aj 2 rfl) (aj 3 rfl) (aj 4 rfl)) ?_⟩;obtain⟨S1,hs,hp⟩:dG B u0 q T m (λS1=>S1=S6) W:=bG;refine aac (HS.out S1 W (by rw[hp];exact awu) hs) ?_;rintro e w' ⟨rfl,⟨S2,h1,h2⟩,h3⟩;exact⟨_,rfl,rfl,rfl,h3,S2,h1,h2⟩
   |n+1,ht=>exact absurd ht aH
  ·intro u W hf bG au;have aW:=fw aQ hf Cj;have dI:=fw aQ hf HK7;have fQ:=fw aQ hf nJ;have nY:=fw aQ hf HE7;have e0:=au.q 0;have e1:=au.q 1;have e2:=au.q 2;have e3:=au.q 3;have e4:=au.q 4;have e5:=au.q 5;have e6:=au.q 6;have hT7:=(au.p 7 ay trivial);change aO W (w.heap.size+1) _ _ at hT7;simp only[e0,e1,e2,e3,e4,e5,e6];obtain⟨S1,hs,hp⟩:dG B u0 q T m (λS1=>La S S1 (Bt.node la k (Bt.node b j c))) W:=bG;have HE:Hid (∃S',aZ B u0 q T S' m W/\La S S' (Bt.node la k (Bt.node b j c))):=ah ⟨S1,hs,hp⟩;have Iu:Hid (Fr F w W):=ah (xA.out.newS hf λk hk=>by simp at hk;omega);have HA8:=ah hT7;have HE8:=ah nY;clear au hf hs hp e0 e1 e2 e3 e4 e5 e6 aW dI fQ nY hT7;go_wp2;refine bodyPost_ret (Pq dW dW rfl rfl HA8 rfl rfl HE8 rfl) rfl ?_;exact⟨by rw[FW.out, <-HTR.out],HE,Iu⟩
end
theorem last_any{F:Nat->Prop}{B u0 q m:Nat}{T:List bT->Nat->World->Prop}(K:Kv F B u0 T):∀ (t:Bt) (S:St) (w:World),aZ B u0 q T S m w->Sub S t->t.list.Nodup->t.cnt<=250->t≠Bt.nil->Calls prog 135 #[.pointer (some ⟨q,0,none⟩),aG t.rt] w (LaE F B u0 q T m S w t)
 | .nil,_,_,_,_,_,_,h=>absurd rfl h
 | .node la k .nil,S,w,h,hs,hn,_,_=>amT K h hs hn
 | .node la k (.node b j c),S,w,h,hs,hn,hc,_=>amU K h hs hn hc λS W h2 mW uF=>last_any K (.node b j c) S W h2 mW uF (by simp only[Bt.cnt]at hc ⊢;omega) aH
theorem X6{S:St}(hS:∀x n,S x=some n->yR x/\n.Ok){t:Bt}(h:Sub S t)(hn:t≠Bt.nil):¬dn.1=t.rt.1:=by
 cases t with
 |nil=>exact absurd rfl hn
 |node l k r=>
  obtain⟨up,h1,_⟩:=h;have:=(hS _ _ h1).1.1.2;show ¬ (4294967295:Int)=k.1;omega
section
variable {F:Nat->Prop}{B u0 q m:Nat}{T:List bT->Nat->World->Prop}{S:St}{w w':World}
theorem afo(K:Kv F B u0 T)(h:aZ B u0 q T S m w){l r:Bt}(hl:Sub S l)(hr:Sub S r)(hn:(l.list++r.list).Nodup)(hc:l.cnt+r.cnt<=250)(h1:l≠Bt.nil)(h2:r≠Bt.nil):Calls prog 100 #[.pointer (some ⟨q,0,none⟩),aG l.rt,aG r.rt] w (EY F B u0 q T m S w (glue l r)):=by
 obtain⟨g1,g2,g3,dN⟩:=abW hr hn h1 h2;have hlr:=X6 h.ok hl h1;have Wu:=X6 h.ok hr h2;have HL:=ah (λW (hW:aZ B u0 q T S m W)=>last_any K l S W hW hl (acG.1 hn).1 ak h1);obtain⟨tl,lI⟩:=aJ ((Sq.last l).1);obtain⟨te,hte⟩:=aJ ((Sq.last l).2);rw[g1];rw[<-lI, <-hte]at g2 dN ⊢;rw[<-lI]at g3
 have HS:Hid (∀S1 W,La S S1 l->aZ B u0 q T S1 m W->Calls prog 97 #[.pointer (some ⟨q,0,none⟩),aG tl.rt,aG te,aG r.rt] W (EY F B u0 q T m S W (link tl te r))):=ah λS1 W hm hW=>by
  obtain⟨a1,a2⟩:=dN S1 hm;refine(link_any K hW (lI ▸ hm.sub) a1 g2 (hte ▸ hm.ex) ak).mono ?_;rintro e w' ⟨rfl,⟨S2,b1,b2⟩,b3⟩;exact⟨rfl,⟨S2,b1,a2 S2 b2⟩,b3⟩
 unfold LaE at HL;rw[<-lI, <-hte]at HL;obtain⟨lt,hlt⟩:=aJ (l.rt);obtain⟨rt,gy⟩:=aJ (r.rt);obtain⟨tr,Oh⟩:=aJ (link tl te r);rw[<-hlt]at hlr HL ⊢;rw[<-gy]at Wu HS ⊢;rw[<-Oh]at HS ⊢;have HNL:=ah hlr;have HNR:=ah Wu;have bD:=(aai w.heap.size w).alloc aK (.cells (aI lt) 71);have bK:=bD.alloc bD.size (.cells (aI rt) 71);have dJ:=bK.alloc bK.size (.cells #[.int .i64 0, .int .i64 0] 71);have Gs:=((aO.new w 71 (aI lt)).alloc (.cells (aI rt) 71)).alloc (.cells #[.int .i64 0, .int .i64 0] 71);have Il:=(aO.new (w.alloc (.cells (aI lt) 71)) 71 (aI rt)).alloc (.cells #[.int .i64 0, .int .i64 0] 71);have yQ:=aO.new ((w.alloc (.cells (aI lt) 71)).alloc (.cells (aI rt) 71)) 71 #[.int .i64 0, .int .i64 0];rw[aad]at Il;rw[aad,aad]at yQ;have Ol:=h.self.lt;have rF:=h.hq;have HL3:=ah Gs;have AV:=ah Il;have vZ:=ah yQ;have vY:=ah dJ;have HK:=ah K;have ZY:=ah (h.below K dJ);have aQ:Hid (∀k,F k->k<B):=ah K.low;have HN:=ah (λW=>dX W);clear Gs Il yQ bD bK dJ h K g1 g2 g3 dN hl hr hn hc h1 h2 hlr Wu hlt gy Oh lI hte;go_enter func100,ntmps100
 go_wp2_with fail
 refine aac (HN.out _) ?_;rintro e w4 ⟨rfl,iC⟩;have IZ:=vZ.out.lt;have yU:=iC.size;have qc:=ah ((Fr.of_below (S:=λ_=>False) iC).blk HL3 (λa=>a));have kV:=ah ((Fr.of_below (S:=λ_=>False) iC).blk AV (λa=>a));have rG:=ah ((Fr.of_below (S:=λ_=>False) iC).blk vZ (λa=>a));have lD:=ah (ZY.out.below HK iC);have pK:Hid (Fr F w w4):=ah ((Fr.of_below (S:=F) vY).then_ iC);have k0:w4.cell? ⟨w.heap.size,0,none⟩=some (.int .i64 lt.1):=qc.out.cell 0;have k1:w4.cell? ⟨w.heap.size,1,none⟩=some (.int .i64 lt.2):=qc.out.cell 1;have r0:w4.cell? ⟨w.heap.size+1,0,none⟩=some (.int .i64 rt.1):=kV.out.cell 0;have r1:w4.cell? ⟨w.heap.size+1,1,none⟩=some (.int .i64 rt.2):=kV.out.cell 1;have cl:=HNL.out;have cr:=HNR.out;clear iC HL3 AV vZ ZY vY;go_wp2_with fail
 refine aac (HL.out _ lD) ?_;rintro e w5 ⟨rfl,⟨S5,MS,ard⟩,Iz⟩;have dZ:∀g,w.heap.size<=g->¬F g:=λg hg a=>by have:=aQ.out g a;omega
 have PV:=Iz.size;have BR:=((aai _ w5).alloc aK (.cells (aI tl.rt) 71)).alloc (by rw[aad];omega) (.cells (aI te) 71);have nX:=ah (Iz.blk kV (dZ _ ak));have jl:=ah (Iz.blk rG (dZ _ ak));have mQ:=ah ((jl.out.alloc (.cells (aI tl.rt) 71)).alloc (.cells (aI te) 71));have yS:=ah (MS.below HK BR);have HLA:=ah ard;have vS:Hid (Fr F w _):=ah ((pK.out.trans Iz).then_ BR);have l5:=nX.out.lt;have l4:w.heap.size<w5.heap.size:=by omega
 have q0:w5.cell? ⟨w.heap.size+1,0,none⟩=some (.int .i64 rt.1):=nX.out.cell 0;have q1:w5.cell? ⟨w.heap.size+1,1,none⟩=some (.int .i64 rt.2):=nX.out.cell 1;clear MS ard Iz k0 k1 r0 r1 cl cr qc kV rG lD pK HL BR jl;go_wp2_with fail
 refine aac (HS.out S5 _ HLA yS) ?_;rintro e w7 ⟨rfl,⟨S7,Z8,hm7⟩,y7⟩;have nJ:=ah (y7.blk mQ (dZ _ ak));have t0:=nJ.out.cell 0;have t1:=nJ.out.cell 1;have f0:=nJ.out.frozen 0;have f1:=nJ.out.frozen 1;have Gu:Fr (λk=>k=w.heap.size+1+1) w7 ((w7.setCell ⟨w.heap.size+1+1,0,none⟩ (.int .i64 tr.rt.1)).setCell ⟨w.heap.size+1+1,1,none⟩ (.int .i64 tr.rt.2)):=jM;have HE:=ah (nD (p:=tr.rt) nJ);have HS8:=ah (Z8.far HK nJ ak Gu ay ay ay ay);have HM:=ah hm7;have Iu:=ah ((vS.out.trans y7).newer Gu ak);clear Z8 hm7 y7 Gu nJ mQ yS HLA vS HS q0 q1 nX;go_wp2;refine bodyPost_ret (eF dW rfl rfl HE rfl) rfl ?_;exact⟨rfl,⟨S7,HS8,HM⟩,Iu⟩
end
section
variable {F:Nat->Prop}{B u0 q m:Nat}{T:List bT->Nat->World->Prop}{S:St}{w w':World}
theorem Le(K:Kv F B u0 T)(h:aZ B u0 q T S m w){t:Bt}(ht:Sub S t)(hn:t≠Bt.nil):Calls prog 99 #[.pointer (some ⟨q,0,none⟩),aG t.rt] w λe w'=>e= .returned (.tuple #[])/\aZ B u0 q T (hgS S dn t) m w'/\Fr F w w':=by
 have gy:=X6 h.ok ht hn;have HG:=ah (λW (hW:aZ B u0 q T S m W)=>Lc K (up:=dn) hW ht (.inr rfl));obtain⟨k,hk⟩:=aJ (t.rt);rw[<-hk]at gy HG ⊢;have HNK:Hid (¬k=dn):=ah λe=>gy (by rw[e]);have bD:=(aai w.heap.size w).alloc aK (.cells (aI k) 71);have E5:=aO.new w 71 (aI k);have HL1:=ah E5;have zZ:=ah bD;have HK:=ah K;have nI:=ah (h.below K bD);have Ol:=h.self.lt;have rF:=h.hq;have aQ:Hid (∀k,F k->k<B):=ah K.low;have HN:=ah (λW=>dX W);clear bD E5 h K ht hn gy hk;go_enter func99,ntmps99
 go_wp2_with fail
 refine aP (λu=>⟨#[_,_,_,_,u 0,u 1,u 2,_,_,_,_],_⟩)
  [aF (aG (k)),
   aF (aG (dn)),
   aF (.bool (true))]
  (λ_=>False) [1] (λ_ _=>True) aV aV [] rfl aH (by simp<;>omega) (λ_ hk=>hk.elim) ⟨λ_=>undef,rfl⟩ (trivial) ?_ ?_ ?_
 ·intro i o hi ho u W hf hold aj jP;have aW:=hf.blk HL1 eu
  match i,ho with
  |0,ho=>exact sv ho (aC rfl rfl (aW.cell 0) (aW.cell 1))
  |1,ho=>
   exact absurd aH hi
  |2,ho=>exact sv ho (kH rfl (aj 0 rfl) (aj 1 rfl)) (hp:=(by show agD (!decide _)=_;rw[decide_eq_false HNK.out];rfl))
  |n+3,ho=>exact absurd ho aH
 ·intro t i o ht ho u W hf bG aj;have aW:=hf.blk HL1 eu
  match t,ht with
  |0,ht=>
   have ht:=aA ht;subst ht;obtain rfl:=aA ho;refine⟨aB rfl,Does.call (fV dP rfl ) ?_⟩;refine aac (HN.out W) ?_;rintro e w' ⟨rfl,hb⟩;exact⟨_,rfl,rfl,rfl, .of_below hb,trivial⟩
  |n+1,ht=>exact absurd ht aH
 ·intro u W hf bG au;have aW:=hf.blk HL1 eu;have e0:=au.q 0;have e1:=au.q 1;have e2:=au.q 2;simp only[e0,e1,e2];have iL:∀k:Nat,¬ (False\/k∈([]:List Nat)):=λ_=>eu;have Ac:=hf.size;have jU:=hf.low (B:=_) aK (λk a=>(iL k a).elim);have HL2:=ah (hf.blk HL1 (iL _));have uz:=ah (nI.out.below HK jU);have kL:Hid (Fr F w W):=ah ((Fr.of_below zZ).then_ jU);have hq5:w.heap.size<W.heap.size:=HL2.out.lt;obtain⟨w5,oI⟩:=aJ (W);rw[<-oI]at HL2 uz kL Ac hq5 ⊢;clear au hf iL jU aW bG HL1 nI zZ Ac e0 e1 e2 oI u W;go_wp2_with fail
  refine aP (λu=>⟨#[_,_,_,_,_,_,_,u 0,u 1,u 2,u 3],_⟩)
   [bf q 0,
    aF (aG (k)),
    aF (aG (dn)),
    aF (pY (tv dn t))]
   F [2,3] (λj W=>dG B u0 q T (m) (λS1=>match j with | 0=>S1=S | 1=>S1=S | _=>S1=hgS S dn t) W) aV aV [] rfl aH (by simp<;>omega) (λk hk=>⟨by have:=aQ.out k hk;omega,by simp⟩) ⟨λ_=>undef,rfl⟩ (⟨S,uz.out.below HK aU.drew,rfl⟩) ?_ ?_ ?_
  ·intro i o hi ho u W hf hold aj jP;have aW:=fw aQ hf HL2
   match i,ho with
   |0,ho=>exact sv ho (bg rfl rfl)
   |1,ho=>exact sv ho (aC rfl rfl (aW.cell 0) (aW.cell 1))
   |2,ho|3,ho=>
    exact absurd aH hi
   |n+4,ho=>exact absurd ho aH
  ·intro t i o ht ho u W hf bG aj;have aW:=fw aQ hf HL2
   match t,ht with
   |0,ht=>
    have ht:=aA ht;subst ht;obtain rfl:=aA ho;refine⟨aB rfl,Does.call (fV dP rfl ) ?_⟩;obtain⟨S1,hs,hp⟩:dG B u0 q T m (λS1=>S1=S) W:=bG;refine aac (HN.out W) ?_;rintro e w' ⟨rfl,hb⟩;exact⟨_,rfl,rfl,rfl, .of_below hb,S1,hs.below HK hb,hp⟩
   |1,ht=>
    have ht:=aA ht;subst ht;obtain rfl:=aA ho;refine⟨aB rfl,Does.call (lQ KZ rfl (aj 0 rfl) (aj 1 rfl) (aj 2 rfl)) ?_⟩;obtain⟨S1,hs,hp⟩:dG B u0 q T m (λS1=>S1=S) W:=bG;refine aac (HG.out W (hp ▸ hs)) ?_;rintro e w' ⟨rfl,h1,h2⟩;exact⟨_,rfl,rfl,rfl,h2,_,h1,rfl⟩
   |n+2,ht=>exact absurd ht aH
  ·intro u W hf bG au;have aW:=fw aQ hf HL2;have e0:=au.q 0;have e1:=au.q 1;have e2:=au.q 2;have e3:=au.q 3;simp only[e0,e1,e2,e3];obtain⟨S1,hs,hp⟩:dG B u0 q T m (λS1=>S1=hgS S dn t) W:=bG;have HE:Hid (aZ B u0 q T (hgS S dn t) m W):=ah (hp ▸ hs);have xA:Hid (Fr F w W):=ah (kL.out.newS hf λk hk=>by simp at hk);clear au hf hs hp e0 e1 e2 e3 aW;go_wp2
   go_end0
   exact⟨rfl,HE,xA⟩
end
def tokE:Enc Tok where
 enc x:= [.int .i64 x.1, .int .i64 x.2]
 size:=2
 len _:=rfl
 pos:=by decide
 one _ u hu:=by simp at hu;rcases hu with rfl | rfl<;>rfl
theorem xX{w:World}{g k:Nat}{ty:TypeId}{l:List Tok}(hB:aO w g ty (tokE.cells l).toArray)(hk:k<l.length):w.cell? ⟨g,k*2,none⟩=some (.int .i64 l[k].1)/\w.cell? ⟨g,k*2+1,none⟩=some (.int .i64 l[k].2):=by
 have h0:=tokE.cells_at l k hk 0 ay;have h1:=tokE.cells_at l k hk 1 ay;refine⟨(hB.cell _).trans ?_,(hB.cell _).trans ?_⟩
 ·rw[List.getElem?_toArray];exact h0
 ·rw[List.getElem?_toArray];exact h1
theorem qC(a:Int)(w:World):Calls prog 62 #[.int .i64 a] w λe w'=>e= .returned (.int .i64 (if 0<=a/\a<1048576 then 0 else 30))/\w'=w:=by
 by_cases h1:a<0
 ·rw[if_neg ak];go_enter func62,ntmps62
  go_wp2;go_ret;exact⟨rfl,rfl⟩
 ·by_cases h2:a ≥ 1048576
  ·rw[if_neg ak];go_enter func62,ntmps62
   go_wp2;go_ret;exact⟨rfl,rfl⟩
  ·rw[if_pos ak];go_enter func62,ntmps62
   go_wp2;go_ret;exact⟨rfl,rfl⟩
def BgR(S:St)(l:List Tok)(r:Int):Prop:=(r=30/\∃x,x∈l/\¬yR x)\/(r=181/\(∀x,x∈l->yR x)/\∃x,x∈l/\S x=none)\/(r=0/\∀x,x∈l->∃n,S x=some n)
def BgE(F:Nat->Prop)(B u0 q:Nat)(T:List bT->Nat->World->Prop)(m:Nat)(S:St)(l:List Tok)(w:World)(e:Ending)(w':World):Prop:=∃r,e= .returned (.int .i64 r)/\BgR S l r/\aZ B u0 q T S m w'/\Fr F w w'
section
variable {F:Nat->Prop}{B u0 q m:Nat}{T:List bT->Nat->World->Prop}{S:St}{w w':World}
theorem wQ(K:Kv F B u0 T)(h:aZ B u0 q T S m w){g c:Nat}{l:List Tok}(hB:aO w g 71 (tokE.cells l).toArray)(hg:B<=g)(hl:l.length<=100):Calls prog 63 #[.pointer (some ⟨q,0,none⟩), .slice (some ⟨g,0,none⟩) l.length c] w (BgE F B u0 q T m S l w):=by
 have hFL:∀k,F k->k<B:=K.low;have hs0:=h.set0 K;have Ry:=aZ.fr0 (F:=F) h.self h (Fr.of_below aU);have MO:=ah hs0;have HF0:=ah Ry;have HB:=ah hB;have HK:=ah K;have k1:=h.self.cell 1;have f1:=h.self.frozen 1;have hq:=h.self.lt;have rF:=h.hq;have HG:=ah (λW (hW:aZ B u0 q T S m W) {x:Tok} (hx:yR x)=>Zq K hW hx);have VL:=ah (fun(x:Tok) (hx:yR x) W=>Eh x (yH.fits (.inl hx)) W);have HV:=ah qC;have aQ:=ah hFL;clear hs0 Ry h K hB hFL;go_enter func63,ntmps63
 go_wp2
 go_loopw [17] (λi wr=>∃k:Nat,k<=l.length/\i= .int .i64 k/\aZ B u0 q T S m wr/\Fr F w wr/\∀x,x∈l.take k->yR x) (λi _=>l.length-(intOf i).toNat)
 case atStart=>exact⟨0,Nat.zero_le _,rfl,MO,HF0,by simp⟩
 case round=>
  obtain⟨k,hk,rfl,hs,hf,hv⟩:=hrel;have Oe:=hf.size;by_cases hlt:k<l.length
  ·obtain⟨c0,c1⟩:=xX (hf.blk HB (λa=>by have:=aQ.out _ a;omega)) hlt;have HX:=ah (acT hlt);have HT:=ah (acO hlt);have HS:=ah hs;have HF:=ah hf;have HVV:=ah hv;generalize l[k]=x at*;clear hs hf hv;have bD:=(aai _ wr).alloc aK (.cells (aI x) 71);have nI:=ah (HS.out.below HK bD);have l9:=ah (HF.out.then_ bD);clear bD;by_cases v1:0<=x.1/\x.1<1048576
   ·have HV1:Hid (∀W,Calls prog 62 #[.int .i64 x.1] W λe w'=>e= .returned (.int .i64 0)/\w'=W):=ah λW=>by have:=qC x.1 W;rwa [if_pos v1]at this
    by_cases v2:0<=x.2/\x.2<1048576
    ·have HV2:Hid (∀W,Calls prog 62 #[.int .i64 x.2] W λe w'=>e= .returned (.int .i64 0)/\w'=W):=ah λW=>by have:=qC x.2 W;rwa [if_pos v2]at this
     have HXV:Hid (yR x):=ah ⟨v1,v2⟩;clear v1 v2;go_wp2_with fail
     refine(HV1.out _).mono ?_;rintro e w' ⟨rfl,rfl⟩;go_wp2_with fail
     refine(HV2.out _).mono ?_;rintro e w' ⟨rfl,rfl⟩;go_wp2
     go_roundw
     case rel=>exact⟨k+1,by omega,by go_num,nI,l9,λy hy=>by
      rw[HT.out,aaf,acI]at hy;rcases hy with hy | rfl
      ·exact HVV y hy
      ·exact HXV⟩
     case measure=>simp[intOf];omega
    ·have HV2:Hid (∀W,Calls prog 62 #[.int .i64 x.2] W λe w'=>e= .returned (.int .i64 30)/\w'=W):=ah λW=>by have:=qC x.2 W;rwa [if_neg v2]at this
     have HXV:Hid (¬yR x):=ah λa=>v2 a.2;clear v1 v2;go_wp2_with fail
     refine(HV1.out _).mono ?_;rintro e w' ⟨rfl,rfl⟩;go_wp2_with fail
     refine(HV2.out _).mono ?_;rintro e w' ⟨rfl,rfl⟩;go_wp2;go_ret;exact⟨30,rfl, .inl ⟨rfl,x,HX,HXV⟩,nI,l9⟩
   ·have HV1:Hid (∀W,Calls prog 62 #[.int .i64 x.1] W λe w'=>e= .returned (.int .i64 30)/\w'=W):=ah λW=>by have:=qC x.1 W;rwa [if_neg v1]at this
    have HXV:Hid (¬yR x):=ah λa=>v1 a.1;clear v1;go_wp2_with fail
    refine(HV1.out _).mono ?_;rintro e w' ⟨rfl,rfl⟩;go_wp2;go_ret;exact⟨30,rfl, .inl ⟨rfl,x,HX,HXV⟩,nI,l9⟩
  ·obtain rfl:k=l.length:=by omega
   rw[ahe]at hv;have ZV:=ah hv;have MO:=ah hs;have HF0:=ah hf;clear hs hf hv hlt;obtain⟨w2,yY⟩:=aJ (wr);rw[<-yY]at MO HF0 Oe ⊢;clear yY wr;go_wp2
   go_loopw [34] (λi wr=>∃k:Nat,k<=l.length/\i= .int .i64 k/\aZ B u0 q T S m wr/\Fr F w wr/\∀x,x∈l.take k->∃n,S x=some n) (λi _=>l.length-(intOf i).toNat)
   case atStart=>exact⟨0,Nat.zero_le _,rfl,MO,HF0,by simp⟩
   case round=>
    obtain⟨k,hk,rfl,hs,hf,hv⟩:=hrel;have yj:=hf.size;by_cases hlt:k<l.length
    ·obtain⟨c0,c1⟩:=xX (hf.blk HB (λa=>by have:=aQ.out _ a;omega)) hlt;have HX:=ah (acT hlt);have HT:=ah (acO hlt);have HS:=ah hs;have HF:=ah hf;have HVV:=ah hv;have hvx:=ZV.out _ (acT hlt);generalize l[k]=x at*;clear hs hf hv;have HKX:=ah (λW=>VL.out x hvx W)
     obtain⟨gs,gb,hgb,hgx⟩:∃ (gs:ByteArray) (gb:Bool),(gb=true ↔ ∃n,S x=some n)/\∀W,aZ B u0 q T S m W->Calls prog 92 #[.pointer (some ⟨u0,0,none⟩), .string (tkey x)] W λe w'=>e= .returned (.tuple #[.string gs, .bool gb, .int .i64 0])/\aZ B u0 q T S m w'/\Fr F W w':=by
      cases hx:S x with
      |none=>exact⟨⟨#[]⟩,false,by simp,λW hW=>by have:=HG.out W hW hvx;rwa [hx]at this⟩
      |some n=>exact⟨rW n,true,by simp,λW hW=>by have:=HG.out W hW hvx;rwa [hx]at this⟩
     have HGX:=ah hgx;have HGB:=ah hgb;have bD:=(aai _ wr).alloc aK (.cells (aI x) 71);have nI:=ah (HS.out.below HK bD);have l9:=ah (HF.out.then_ bD);have vW:=ah (aO.new wr 71 (aI x));have P6:=ah nI.out.self;have E5:=vW.out.lt;clear bD hgx hgb hvx HG VL HV;obtain⟨w3,Xu⟩:∃x',x'=wr.alloc (.cells (aI x) 71):=⟨_,rfl⟩;rw[<-Xu]at nI l9 vW P6 E5;go_wp2_with fail
     rw[show wr.alloc (.cells #[.int .i64 x.1, .int .i64 x.2] 71)=w3 from Xu.symm];clear Xu
     refine aP (λu=>⟨#[_,_,_,_,_,_,_,_,_,u 11,u 12,u 13,_,_,_,_,_,_,_,_,_,_,_,_,_,_,_,_,_,_,_,_,_,_,_,_,_,_,u 7,u 0,u 1,u 2,u 3,u 4,u 5,u 6,u 8,u 9,u 10,_,_,_,_,_,_],_⟩)
      [bf q 0,
       bf q 0,
       bf q 0,
       bf u0 0,
       aF (aG (x)),
       aF (.string (tkey x)),
       aF (.tuple #[.string (gs), .bool (gb), .int .i64 (0)]),
       aF (.tuple #[.string (gs), .bool (gb), .int .i64 (0)]),
       aF (.string (gs)),
       aF (.bool (gb)),
       aF (.int .i64 (0)),
       aF (.string (gs)),
       aF (.bool (gb)),
       aF (.int .i64 (0))]
      F [5,6] (λj W=>dG B u0 q T (m) (λS1=>S1=S) W) aV aV [] rfl aH (by simp<;>omega) (λk hk=>⟨by have:=aQ.out k hk;omega,by simp⟩) ⟨λi=>match i with | 0=>u39 | 1=>u40 | 2=>u41 | 3=>u42 | 4=>u43 | 5=>u44 | 6=>u45 | 7=>u38 | 8=>u46 | 9=>u47 | 10=>u48 | 11=>u9 | 12=>u10 | 13=>u11 | _=>undef,rfl⟩ (⟨S,nI.out.below HK aU.drew,rfl⟩) ?_ ?_ ?_
     ·intro i o hi ho u W hf hold aj jP;have aW:=fw aQ hf vW;have dI:=fw aQ hf P6
      match i,ho with
      |0,ho=>exact sv ho (bg rfl rfl)
      |1,ho=>exact sv ho (jK rfl (aj 0 rfl))
      |2,ho=>exact sv ho (xU rfl (aj 1 rfl))
      |3,ho=>exact sv ho (xW rfl (aj 2 rfl) (dI.cell 0))
      |4,ho=>exact sv ho (aC rfl rfl (aW.cell 0) (aW.cell 1))
      |5,ho|6,ho=>
       exact absurd aH hi
      |7,ho=>exact sv ho (bg rfl (aj 6 rfl))
      |8,ho=>exact sv ho (afd rfl (aj 7 rfl))
      |9,ho=>exact sv ho (afe rfl (aj 7 rfl))
      |10,ho=>exact sv ho (aff rfl (aj 7 rfl))
      |11,ho=>exact sv ho (jo rfl (aj 8 rfl))
      |12,ho=>exact sv ho (jo rfl (aj 9 rfl))
      |13,ho=>exact sv ho (jo rfl (aj 10 rfl))
      |n+14,ho=>exact absurd ho aH
     ·intro t i o ht ho u W hf bG aj;have aW:=fw aQ hf vW;have dI:=fw aQ hf P6
      match t,ht with
      |0,ht=>
       have ht:=aA ht;subst ht;obtain rfl:=aA ho;refine⟨aB rfl,Does.call (dH Jj rfl (aj 4 rfl)) ?_⟩;obtain⟨S1,hs,hp⟩:=bG;refine aac (HKX.out W) ?_;rintro e w' ⟨rfl,hb⟩;exact⟨_,rfl,rfl,rfl, .of_below hb,S1,hs.below HK hb,hp⟩
      |1,ht=>
       have ht:=aA ht;subst ht;obtain rfl:=aA ho;refine⟨aB rfl,Does.call (bV UO rfl (aj 3 rfl) (aj 5 rfl)) ?_⟩;obtain⟨S1,hs,hp⟩:=bG;have mW:aZ B u0 q T S m W:=hp ▸ hs;refine aac (HGX.out W mW) ?_;rintro e w' ⟨rfl,h1,h2⟩;exact⟨_,rfl,rfl,rfl,h2,S,h1,rfl⟩
      |n+2,ht=>exact absurd ht aH
     ·intro u W hf bG au;have aW:=fw aQ hf vW;have dI:=fw aQ hf P6;have e0:=au.q 0;have e1:=au.q 1;have e2:=au.q 2;have e3:=au.q 3;have e4:=au.q 4;have e5:=au.q 5;have e6:=au.q 6;have e7:=au.q 7;have e8:=au.q 8;have e9:=au.q 9;have e10:=au.q 10;have e11:=au.q 11;have e12:=au.q 12;have e13:=au.q 13;simp only[e0,e1,e2,e3,e4,e5,e6,e7,e8,e9,e10,e11,e12,e13];obtain⟨S1,hs,hp⟩:dG B u0 q T m (λS1=>S1=S) W:=bG;have uz:Hid (aZ B u0 q T S m W):=ah (hp ▸ hs);have kL:Hid (Fr F w W):=ah (l9.out.newS hf λk hk=>by simp at hk);clear au hf hs hp aW dI e0 e1 e2 e3 e4 e5 e6 e7 e8 e9 e10 e11 e12 e13 HGX HKX
      cases gb with
      |false=>
       have HNN:Hid (S x=none):=ah (by
        cases hx:S x with
        |none=>rfl
        |some n=>exact absurd (HGB.out.2 ⟨n,hx⟩) aH)
       go_wp2;go_ret;exact⟨181,rfl, .inr (.inl ⟨rfl,ZV,x,HX,HNN⟩),uz,kL⟩
      |true=>
       have HNN:=ah (HGB.out.1 rfl);go_wp2
       go_roundw
       case rel=>exact⟨k+1,by omega,by go_num,uz,kL,λy hy=>by
        rw[HT.out,aaf,acI]at hy;rcases hy with hy | rfl
        ·exact HVV y hy
        ·exact HNN⟩
       case measure=>simp[intOf];omega
    ·obtain rfl:k=l.length:=by omega
     rw[ahe]at hv;go_wp2;go_ret;exact⟨0,rfl, .inr (.inr ⟨rfl,hv⟩),hs,hf⟩
end
end Go.Proofs.YtadnmegdbllaoaaGreatDoor
namespace Sq
open Bt
def rC(S:St):List (Tok × TN)->Prop
 | []=>False
 | [p]=>S p.1=some p.2/\p.2.up=dn
 |p::p'::l=>S p.1=some p.2/\p.2.up=p'.1/\rC S (p'::l)
theorem rC.at_{S:St} :∀ {l:List (Tok × TN)} (_:rC S l) {i:Nat} (h:i<l.length),S l[i].1=some l[i].2/\((i+1=l.length/\l[i].2.up=dn)\/∃h2:i+1<l.length,l[i].2.up=l[i+1].1)
 | [],h,_,_=>h.elim
 | [p],h,i,hi=>by
  obtain rfl:i=0:=by simp at hi;exact hi
  exact⟨h.1, .inl ⟨rfl,h.2⟩⟩
 |p::p'::l,h,0,hi=>⟨h.1, .inr ⟨by simp,h.2.1⟩⟩
 |p::p'::l,h,i+1,hi=>by
  have:=rC.at_ h.2.2 (i:=i) (by simpa using hi);simpa using this
theorem xY{S:St} :∀ (c:List Up) (a:Bt) (k:Tok) (b:Bt),eY S dn (plug (node a k b) c)->rC S (path a k b c)
 | [],a,k,b,h=>⟨h.1,rfl⟩
 | .L k' r::c,a,k,b,h=>by
  have ih:=xY c (node a k b) k' r h;have h1:=(yG (.L k' r::c) (node a k b) h).2.1;obtain⟨q,hq⟩:=jE c (node a k b) k' r;rw[path,hq];rw[hq]at ih;exact⟨h1,rfl,ih⟩
 | .R l k'::c,a,k,b,h=>by
  have ih:=xY c l k' (node a k b) h;have h1:=(yG (.R l k'::c) (node a k b) h).2.1;obtain⟨q,hq⟩:=jE c l k' (node a k b);rw[path,hq];rw[hq]at ih;exact⟨h1,rfl,ih⟩
def iJ(l:List (Tok × TN)):Nat->Tok
 |0=>dn
 |i+1=>(l.getD i (dn,TN.zero)).1
end Sq
namespace Go.Proofs.YtadnmegdbllaoaaGreatDoor
open Go.RowKit Go.Shelf Sq Tryz
structure aiS(F:Nat->Prop)(B u0 q:Nat)(T:List bT->Nat->World->Prop)(m:Nat)(S:St)(yf:FuncId)(caps:Array Value)(l:List (Tok × TN))(P:Nat->(Nat->Prop)->World->Prop):Prop where
 keep:∀ {i Y G w w'},P i Y w->Fr G w w'->(∀k,G k->k<w.heap.size->¬Y k)->P i Y w'
 lt:∀ {i Y w k},P i Y w->Y k->k<w.heap.size
 lo:∀ {i Y w k},P i Y w->Y k->q<k
 call:∀ (i:Nat) (h:i<l.length) Y w,P i Y w->aZ B u0 q T S m w->Calls prog yf (#[aG l[i].1,pY l[i].2,aG (iJ l i)]++caps) w λe w'=>e= .returned (.tuple #[])/\aZ B u0 q T S m w'/\Fr (λk=>F k\/Y k) w w'/\∃Y',P (i+1) Y' w'/\∀k,Y' k->Y k\/w.heap.size<=k
 enters:∀ (args:Array Value) (w:World),(callFunc yf args).run prog w= .ok (.enter yf args) w
def ClE(F:Nat->Prop)(B u0 q:Nat)(T:List bT->Nat->World->Prop)(m:Nat)(S:St)(l:List (Tok × TN))(P:Nat->(Nat->Prop)->World->Prop)(Y:Nat->Prop)(w:World)(e:Ending)(w':World):Prop:=
 e= .returned (aG (iJ l l.length))/\aZ B u0 q T S m w'/\Fr (λk=>F k\/Y k) w w'/\∃Y',P l.length Y' w'/\∀k,Y' k->Y k\/w.heap.size<=k
theorem Fr.newP{G H:Nat->Prop}{w w1 w':World}(h:Fr G w w1)(hf:Fr H w1 w')(hL:∀k,H k->G k\/w.heap.size<=k):Fr G w w':=
 ⟨hf.os.trans h.os,hf.tape.trans h.tape,hf.output.trans h.output,Nat.le_trans h.size hf.size,λk hk hn=>(hf.block k (Nat.lt_of_lt_of_le hk h.size) λa=>(hL k a).elim hn λa=>by omega).trans (h.block k hk hn)⟩
section
variable {F:Nat->Prop}{B u0 q m:Nat}{T:List bT->Nat->World->Prop}{S:St}{w w':World}
theorem F8(K:Kv F B u0 T)(h:aZ B u0 q T S m w){yf:FuncId}{caps:Array Value}{l:List (Tok × TN)}{P:Nat->(Nat->Prop)->World->Prop}(V:aiS F B u0 q T m S yf caps l P){Y:Nat->Prop}(hP:P 0 Y w){k:Tok}{n:TN}{l':List (Tok × TN)}(hl:l=(k,n)::l')(uD:rC S l)(hn:l.length<=250):Calls prog 64 #[.pointer (some ⟨q,0,none⟩),aG k, .func (.func yf) #[] caps] w (ClE F B u0 q T m S l P Y w):=by
 have bD:=(aai w.heap.size w).alloc aK (.cells (aI k) 71);have bK:=bD.alloc bD.size (.cells #[.int .i64 0, .int .i64 0] 71);have sV:=(aO.new w 71 (aI k)).alloc (.cells #[.int .i64 0, .int .i64 0] 71);have AZ:=aO.new (w.alloc (.cells (aI k) 71)) 71 #[.int .i64 0, .int .i64 0];rw[aad]at AZ;have Ol:=h.self.lt;have rF:=h.hq;have aQ:Hid (∀k,F k->k<B):=ah K.low;have HK2:=ah sV;have qQ:=ah AZ;have qj:=ah bK;have uz:=ah (h.below K bK);have HK:=ah K;have HV:=ah V;have HP2:=ah (V.keep hP (Fr.of_below (S:=λ_=>False) bK) (λ_ a=>a.elim));have HYL:=ah (λk (a:Y k)=>V.lt hP a);have Sj:=ah uD;have HL:=ah hl;have HN:=ah (λW=>dX W);clear bD bK sV AZ h K V hP uD hl;go_enter func64,ntmps64
 go_wp2_with fail
 refine aac (HN.out _) ?_;rintro e w3 ⟨rfl,dJ⟩;have yj:=qQ.out.lt;have IZ:=dJ.size;have iC:=dJ.alloc dJ.size (.cells (aI dn) 71);have jY:=ah ((Fr.of_below (S:=λ_=>False) iC).blk HK2 (λa=>a));have rG:=ah ((Fr.of_below (S:=λ_=>False) iC).blk qQ (λa=>a));have HM4:=ah (aO.new w3 71 (aI dn));have lD:=ah (uz.out.below HK iC);have HP4:=ah (HV.out.keep HP2 (Fr.of_below (S:=λ_=>False) iC) (λ_ a=>a.elim));have pK:Hid (Fr (λk=>F k\/Y k) w _):=ah ((Fr.of_below qj).then_ iC);clear dJ iC HK2 qQ uz HP2;go_wp2_with fail
 have Xu:w.heap.size+1<w3.heap.size:=by omega
 have y1:¬Y w.heap.size:=λa=>by have:=HYL.out _ a;omega
 have y2:¬Y (w.heap.size+1):=λa=>by have:=HYL.out _ a;omega
 have y3:¬Y w3.heap.size:=λa=>by have:=HYL.out _ a;omega
 have HY1:=ah y1;have HY2:=ah y2;have HY3:=ah y3;clear y1 y2 y3
 go_loopw [10] (λi wr=>∃ (j:Nat) (Y':Nat->Prop) (hj:j<l.length),i= .int .i64 j/\aZ B u0 q T S m wr/\P j Y' wr/\aO wr w.heap.size 71 (aI l[j].1)/\aO wr (w.heap.size+1) 71 #[.int .i64 0, .int .i64 0]/\aO wr w3.heap.size 71 (aI (iJ l j))/\Fr (λk=>F k\/Y k) w wr/\(∀k,Y' k->Y k\/w.heap.size<=k)/\¬Y' w.heap.size/\¬Y' (w.heap.size+1)/\¬Y' w3.heap.size) (λi _=>255-(intOf i).toNat)
 case atStart=>exact⟨0,Y,by rw[HL.out];simp,rfl,lD,HP4,by have:=HL.out;subst this;exact jY,rG,HM4,pK,λ_=> .inl,HY1,HY2,HY3⟩
 case round=>
  obtain⟨j,Y',hj,rfl,hs,hp,hk,ht,hm,hf,hy,y1,y2,y3⟩:=hrel;obtain⟨hSk,hup⟩:=Sj.out.at_ hj;have MB:(j:Int)<255:=by omega
  have HG:=ah (rX HK hs hSk);have HCL:=ah (λW hP hS=>HV.out.call j hj Y' W hP hS);obtain⟨kj,hkj⟩:=aJ (l[j].1);obtain⟨nj,VZ⟩:=aJ (l[j].2);obtain⟨fj,hfj⟩:=aJ (iJ l j);rw[<-hkj]at HG hk HCL;rw[<-VZ]at HG HCL hup;rw[<-hfj]at hm HCL;have HUP:=ah hup;have HKJ:=ah hkj;have HNJ:=ah VZ;have Oe:=hf.size;have k0:wr.cell? ⟨w.heap.size,0,none⟩=some (.int .i64 kj.1):=hk.cell 0;have k1:wr.cell? ⟨w.heap.size,1,none⟩=some (.int .i64 kj.2):=hk.cell 1;have hlk:=hk.lt;have hlt:=ht.lt;have hlm:=hm.lt;have lH:=ah hk;have jl:=ah ht;have HM5:=ah hm;have Wv:=ah hp;have kE:=ah hf;have HY5:=ah (⟨hy,y1,y2,y3⟩:(∀k,Y' k->Y k\/w.heap.size<=k)/\¬Y' w.heap.size/\¬Y' (w.heap.size+1)/\¬Y' w3.heap.size);clear hs hp hk ht hm hf hy y1 y2 y3 hSk hup hkj VZ hfj;go_wp2_with fail
  refine aac HG ?_;rintro e w5 ⟨rfl,MS,Iz⟩;have dZ:∀g,w.heap.size<=g->¬F g:=λg hg a=>by have:=aQ.out g a;omega
  have PV:=Iz.size;have ha5:=(aai _ w5).alloc aK (.cells (fO nj) 124);have Rz:=Iz.blk lH (dZ _ aK);have hm5:=Iz.blk HM5 (dZ _ ak);have ht5:=Iz.blk jl (dZ _ ak);have c0:w5.cell? ⟨w.heap.size,0,none⟩=some (.int .i64 kj.1):=Rz.cell 0;have c1:w5.cell? ⟨w.heap.size,1,none⟩=some (.int .i64 kj.2):=Rz.cell 1;have m0:w5.cell? ⟨w3.heap.size,0,none⟩=some (.int .i64 fj.1):=hm5.cell 0;have m1:w5.cell? ⟨w3.heap.size,1,none⟩=some (.int .i64 fj.2):=hm5.cell 1;have q1:w5.cell? ⟨q,1,none⟩=some (.int .i64 0):=MS.self.cell 1;have lk:=Rz.lt;have lm:=hm5.lt;have lq:=MS.self.lt;have Du:=ah (Rz.alloc (.cells (fO nj) 124));have RJ:=ah (hm5.alloc (.cells (fO nj) 124));have mQ:=ah (ht5.alloc (.cells (fO nj) 124));have yA:=ah (aO.new w5 124 (fO nj));have yS:=ah (MS.below HK ha5);have hp5:=HV.out.keep Wv Iz (λk a _ b=>by have:=aQ.out k a;have:=HV.out.lo Wv b;omega);have HP6:=ah (HV.out.keep hp5 (Fr.of_below (S:=λ_=>False) ha5) (λ_ a=>a.elim));have HYZ:=ah (λk (a:Y' k)=>HV.out.lt hp5 a);have vS:Hid (Fr (λk=>F k\/Y k) w _):=ah ((kE.out.trans (Iz.more (λ_=> .inl))).then_ ha5);have VF:(w5.alloc (.cells (fO nj) 124)).heap.size=w5.heap.size+1:=aad ..;have amV:=ah (HCL.out _ HP6 yS);obtain⟨w6,Oc⟩:=aJ (w5.alloc (.cells (fO nj) 124));rw[<-Oc]at Du RJ mQ yA yS HP6 vS amV VF;clear MS Iz ha5 Rz hm5 ht5 hp5 k0 k1 lH jl HM5 Wv kE HG HCL;go_wp2_with fail
  rw[HV.out.enters,Oper.upon_enter,show w5.alloc (.cells #[.int .i64 nj.up.1, .int .i64 nj.up.2, .int .i64 nj.left.1, .int .i64 nj.left.2, .int .i64 nj.right.1, .int .i64 nj.right.2, .int .i64 nj.count, .int .i64 nj.height] 124)=w6 from Oc.symm];refine aac amV ?_;rintro e w7 ⟨rfl,Z8,y7,Y7,hp7,hy7⟩;obtain⟨hy,y1,y2,y3⟩:=HY5.out;have hz7:=y7.size;have y4:¬Y' w5.heap.size:=λa=>by have:=HYZ.out _ a;omega
  have HK7:=ah (y7.blk Du (λa=>a.elim (dZ _ aK) y1));have nJ:=ah (y7.blk mQ (λa=>a.elim (dZ _ ak) y2));have HM7:=ah (y7.blk RJ (λa=>a.elim (dZ _ ak) y3));have Cj:=ah (y7.blk yA (λa=>a.elim (dZ _ ak) y4));have HS7:=ah Z8;have HP7:=ah hp7;have xA:Hid (Fr (λk=>F k\/Y k) w w7):=ah (vS.out.newP y7 (λk a=>a.elim (λa=> .inl (.inl a)) (λa=>(hy k a).imp_left .inr)));have HY7:Hid ((∀k,Y7 k->Y k\/w.heap.size<=k)/\¬Y7 w.heap.size/\¬Y7 (w.heap.size+1)/\¬Y7 w3.heap.size):=ah ⟨λk a=>(hy7 k a).elim (hy k) (λb=> .inr ak),λa=>(hy7 _ a).elim y1 (λb=>by omega),λa=>(hy7 _ a).elim y2 (λb=>by omega),λa=>(hy7 _ a).elim y3 (λb=>by omega)⟩;have hx7:w5.heap.size<w7.heap.size:=by omega
  clear Z8 hp7 y7 hy7 hy y1 y2 y3 y4 Du mQ RJ yA yS HP6 vS HYZ amV HY5 Oc c0 c1 m0 m1 q1;go_wp2_with fail
  rcases HUP.out with⟨he,hu⟩ | ⟨h2,hu⟩
  ·have HU:Hid (nj.up=dn):=ah hu;have HH:=ah he;clear he hu
   refine aP (λu=>⟨#[_,_,_,_,_,_,_,_,_,_,_,_,_,_,_,_,_,_,_,_,_,_,_,_,_,_,u 0,u 1,u 2,u 3,_,_,_,_,_,_,_,_,_],_⟩)
    [bf w5.heap.size 0,
     aF (aG ((nj).up)),
     aF (aG (dn)),
     aF (.bool (true))]
    (λ_=>False) [2] (λ_ _=>True) aV aV [] rfl aH (by simp<;>omega) (λ_ hk=>hk.elim) ⟨λi=>match i with | 0=>u26 | 1=>u27 | 2=>u28 | 3=>u29 | _=>undef,rfl⟩ (trivial) ?_ ?_ ?_
   ·intro i o hi ho u W hf hold aj jP;have aW:=hf.blk Cj eu
    match i,ho with
    |0,ho=>exact sv ho (sQ rfl rfl)
    |1,ho=>exact sv ho (aC rfl (aj 0 rfl) (aW.cell 0) (aW.cell 1))
    |2,ho=>
     exact absurd aH hi
    |3,ho=>exact sv ho (iI rfl (aj 1 rfl) (aj 2 rfl)) (hp:=(by show agD (decide _)=_;rw[decide_eq_true HU.out]))
    |n+4,ho=>exact absurd ho aH
   ·intro t i o ht ho u W hf bG aj;have aW:=hf.blk Cj eu
    match t,ht with
    |0,ht=>
     have ht:=aA ht;subst ht;obtain rfl:=aA ho;refine⟨aB rfl,Does.call (fV dP rfl ) ?_⟩;refine aac (HN.out W) ?_;rintro e w' ⟨rfl,hb⟩;exact⟨_,rfl,rfl,rfl, .of_below hb,trivial⟩
    |n+1,ht=>exact absurd ht aH
   ·intro u W hf bG au;have aW:=hf.blk Cj eu;have e0:=au.q 0;have e1:=au.q 1;have e2:=au.q 2;have e3:=au.q 3;simp only[e0,e1,e2,e3];have iL:∀k:Nat,¬ (False\/k∈([]:List Nat)):=λ_=>eu;have Ac:=hf.size;have jU:=hf.low (B:=_) aK (λk a=>(iL k a).elim);have hk8:=hf.blk HK7 (iL _);have VQ:=hf.blk nJ (iL _);have hm8:=hf.blk HM7 (iL _);have hx8:=hf.blk Cj (iL _);have HS8:=ah (HS7.out.below HK jU);have HP8:=ah (HV.out.keep HP7 (Fr.of_below (S:=λ_=>False) jU) (λ_ a=>a.elim));have Iu:Hid (Fr (λk=>F k\/Y k) w W):=ah (xA.out.then_ jU);obtain⟨w8,Iy⟩:=aJ (W);rw[<-Iy]at hk8 VQ hm8 hx8 HS8 HP8 Iu Ac ⊢;clear au hf iL jU aW bG HK7 nJ HM7 Cj HS7 HP7 xA e0 e1 e2 e3 Iy u W;have c0:w8.cell? ⟨w.heap.size,0,none⟩=some (.int .i64 kj.1):=hk8.cell 0;have c1:w8.cell? ⟨w.heap.size,1,none⟩=some (.int .i64 kj.2):=hk8.cell 1;have t0:=VQ.cell 0;have t1:=VQ.cell 1;have f0:=VQ.frozen 0;have f1:=VQ.frozen 1;have lk8:=hk8.lt;have lt8:=VQ.lt;have Xc:=ah hk8;have yZ:=ah VQ;have HM8:=ah hm8;have GU:=ah hx8;clear hk8 VQ hm8 hx8;go_wp2;have hlen:l.length=j+1:=HH.out.symm;refine bodyPost_ret (eF dW rfl rfl (nD (p:=kj) yZ) rfl) rfl ?_;refine⟨?_,HS8.out.far HK yZ ak jM ay ay ay ay,Iu.out.newer jM ak,Y7,hlen ▸ HV.out.keep HP8 jM (λk a _=>a ▸ HY7.out.2.2.1),HY7.out.1⟩;rw[hlen];show Ending.returned (aG kj)= .returned (aG (l.getD j _).1);rw[ac6,acU hj,HKJ.out];rfl
  ·have hvu:=(HS7.out.ok _ _ (Sj.out.at_ h2).1).1.ne;have HU:Hid (¬nj.up=dn):=ah (by rw[hu];exact hvu);have HH:Hid (∃h2:j+1<l.length,nj.up=l[j+1].1):=ah ⟨h2,hu⟩;clear h2 hu hvu
   refine aP (λu=>⟨#[_,_,_,_,_,_,_,_,_,_,_,_,_,_,_,_,_,_,_,_,_,_,_,_,_,_,u 0,u 1,u 2,u 3,_,_,_,_,_,_,_,_,_],_⟩)
    [bf w5.heap.size 0,
     aF (aG ((nj).up)),
     aF (aG (dn)),
     aF (.bool (false))]
    (λ_=>False) [2] (λ_ _=>True) aV aV [] rfl aH (by simp<;>omega) (λ_ hk=>hk.elim) ⟨λi=>match i with | 0=>u26 | 1=>u27 | 2=>u28 | 3=>u29 | _=>undef,rfl⟩ (trivial) ?_ ?_ ?_
   ·intro i o hi ho u W hf hold aj jP;have aW:=hf.blk Cj eu
    match i,ho with
    |0,ho=>exact sv ho (sQ rfl rfl)
    |1,ho=>exact sv ho (aC rfl (aj 0 rfl) (aW.cell 0) (aW.cell 1))
    |2,ho=>
     exact absurd aH hi
    |3,ho=>exact sv ho (iI rfl (aj 1 rfl) (aj 2 rfl)) (hp:=(by show agD (decide _)=_;rw[decide_eq_false HU.out]))
    |n+4,ho=>exact absurd ho aH
   ·intro t i o ht ho u W hf bG aj;have aW:=hf.blk Cj eu
    match t,ht with
    |0,ht=>
     have ht:=aA ht;subst ht;obtain rfl:=aA ho;refine⟨aB rfl,Does.call (fV dP rfl ) ?_⟩;refine aac (HN.out W) ?_;rintro e w' ⟨rfl,hb⟩;exact⟨_,rfl,rfl,rfl, .of_below hb,trivial⟩
    |n+1,ht=>exact absurd ht aH
   ·intro u W hf bG au;have aW:=hf.blk Cj eu;have e0:=au.q 0;have e1:=au.q 1;have e2:=au.q 2;have e3:=au.q 3;simp only[e0,e1,e2,e3];have iL:∀k:Nat,¬ (False\/k∈([]:List Nat)):=λ_=>eu;have Ac:=hf.size;have jU:=hf.low (B:=_) aK (λk a=>(iL k a).elim);have hk8:=hf.blk HK7 (iL _);have VQ:=hf.blk nJ (iL _);have hm8:=hf.blk HM7 (iL _);have hx8:=hf.blk Cj (iL _);have HS8:=ah (HS7.out.below HK jU);have HP8:=ah (HV.out.keep HP7 (Fr.of_below (S:=λ_=>False) jU) (λ_ a=>a.elim));have Iu:Hid (Fr (λk=>F k\/Y k) w W):=ah (xA.out.then_ jU);obtain⟨w8,Iy⟩:=aJ (W);rw[<-Iy]at hk8 VQ hm8 hx8 HS8 HP8 Iu Ac ⊢;clear au hf iL jU aW bG HK7 nJ HM7 Cj HS7 HP7 xA e0 e1 e2 e3 Iy u W;have c0:w8.cell? ⟨w.heap.size,0,none⟩=some (.int .i64 kj.1):=hk8.cell 0;have c1:w8.cell? ⟨w.heap.size,1,none⟩=some (.int .i64 kj.2):=hk8.cell 1;have t0:=VQ.cell 0;have t1:=VQ.cell 1;have f0:=VQ.frozen 0;have f1:=VQ.frozen 1;have lk8:=hk8.lt;have lt8:=VQ.lt;have Xc:=ah hk8;have yZ:=ah VQ;have HM8:=ah hm8;have GU:=ah hx8;clear hk8 VQ hm8 hx8;have x0:w8.cell? ⟨w5.heap.size,0,none⟩=some (.int .i64 nj.up.1):=GU.out.cell 0;have x1:w8.cell? ⟨w5.heap.size,1,none⟩=some (.int .i64 nj.up.2):=GU.out.cell 1;have m0:=HM8.out.cell 0;have m1:=HM8.out.cell 1;have fm0:=HM8.out.frozen 0;have fm1:=HM8.out.frozen 1;have fk0:=Xc.out.frozen 0;have fk1:=Xc.out.frozen 1;have lm8:=HM8.out.lt;have lx8:=GU.out.lt;have ne1:w.heap.size≠w3.heap.size:=by omega
    have ne2:w5.heap.size≠w3.heap.size:=by omega
    have ne3:w5.heap.size≠w.heap.size:=by omega
    have hA:Fr (λk=>k=w3.heap.size) w8 ((w8.setCell ⟨w3.heap.size,0,none⟩ (.int .i64 kj.1)).setCell ⟨w3.heap.size,1,none⟩ (.int .i64 kj.2)):=jM;have hmA:=nD (p:=kj) HM8;have hkA:=hA.blk Xc ne1;have htA:=hA.blk yZ ak;have hsA:=HS8.out.far HK HM8 ak hA ay ay ay ay;have hpA:=HV.out.keep HP8 hA (λk a _=>a ▸ HY7.out.2.2.2);have hfA:=Iu.out.newer hA ak;obtain⟨wA,hwA⟩:=aJ (((w8.setCell ⟨w3.heap.size,0,none⟩ (.int .i64 kj.1)).setCell ⟨w3.heap.size,1,none⟩ (.int .i64 kj.2)));rw[<-hwA]at hA hmA hkA htA hsA hpA hfA;have hB:Fr (λk=>k=w.heap.size) wA ((wA.setCell ⟨w.heap.size,0,none⟩ (.int .i64 nj.up.1)).setCell ⟨w.heap.size,1,none⟩ (.int .i64 nj.up.2)):=jM;have HKB:=ah (nD (p:=nj.up) hkA);have HMB:=ah (hB.blk hmA (λe=>ne1 e.symm));have HTB:=ah (hB.blk htA ak);have HSB:=ah (hsA.far HK hkA ak hB ay ay ay ay);have HPB:=ah (HV.out.keep hpA hB (λk a _=>a ▸ HY7.out.2.1));have HFB:=ah (hfA.newer hB ak);rw[hwA]at HKB HMB HTB HSB HPB HFB
    have HFO:Hid (kj=iJ l (j+1)):=ah (by
     show kj=(l.getD j _).1
     rw[ac6,acU hj,HKJ.out];rfl)
    clear t0 t1 f0 f1 hA hmA hkA htA hsA hpA hfA hB hwA wA;go_wp2_with fail
    go_region
    go_wp2
    go_roundw
    case rel=>
     obtain⟨h2,hu⟩:=HH.out;have hb:∀W:World,Below W.heap.size W W.drew:=λW=>(aai _ W).drew;exact⟨j+1,Y7,h2,by go_num,HSB.out.below HK (hb _),HV.out.keep HPB (Fr.of_below (S:=λ_=>False) (hb _)) (λ_ a=>a.elim),hu ▸ HKB.out.drew,HTB.out.drew,HFO.out ▸ HMB.out.drew,HFB.out.then_ (hb _),HY7.out.1,HY7.out.2.1,HY7.out.2.2.1,HY7.out.2.2.2⟩
    case measure=>simp[intOf];omega
end
end Go.Proofs.YtadnmegdbllaoaaGreatDoor
namespace Sq
def lastOf(l:List (Tok × TN)):Nat->TN
 |0=>TN.zero
 |i+1=>(l.getD i (dn,TN.zero)).2
end Sq
namespace Go.Proofs.YtadnmegdbllaoaaGreatDoor
open Go.RowKit Go.Shelf Sq Tryz
section
variable {F:Nat->Prop}{B u0 q m:Nat}{T:List bT->Nat->World->Prop}{S:St}{w w':World}
def amW(q g:Nat)(l:List (Tok × TN))(i:Nat)(Y:Nat->Prop)(w:World):Prop:=aO w g 124 (fO (lastOf l i))/\q<g/\Y=λk=>k=g
theorem afp(k f:Tok)(n:TN)(g:Nat)(w:World)(d:TN)(hB:aO w g 124 (fO d)):Calls prog 114 #[aG k,pY n,aG f, .pointer (some ⟨g,0,none⟩)] w λe w'=>e= .returned (.tuple #[])/\∃w1,Fr (λk=>k=g) w w1/\aO w1 g 124 (fO n)/\Below w1.heap.size w1 w':=by
 have HB:=ah hB;have t0:=hB.cell 0;have t1:=hB.cell 1;have t2:=hB.cell 2;have t3:=hB.cell 3;have t4:=hB.cell 4;have t5:=hB.cell 5;have t6:=hB.cell 6;have t7:=hB.cell 7;have f0:=hB.frozen 0;have f1:=hB.frozen 1;have f2:=hB.frozen 2;have f3:=hB.frozen 3;have f4:=hB.frozen 4;have f5:=hB.frozen 5;have f6:=hB.frozen 6;have f7:=hB.frozen 7;have lt:=hB.lt;have lt1:g<w.heap.size+1:=by omega
 have lt2:g<w.heap.size+2:=by omega
 clear hB;go_enter func114,ntmps114
 go_wp2
 go_end0
 exact⟨rfl,_,mJ,oW HB,((aU.alloc aK _).alloc (by rw[aad];omega) _).alloc (by rw[aad,aad];omega) _⟩
theorem aiT(K:Kv F B u0 T)(g:Nat)(l:List (Tok × TN)):aiS F B u0 q T m S 114 #[.pointer (some ⟨g,0,none⟩)] l (amW q g l) where
 keep:=λ{i Y G w w'} h hf hG=>⟨hf.blk h.1 (λa=>hG g a h.1.lt (by rw[h.2.2])),h.2⟩
 lt:=λ{i Y w k} h a=>by
  rw[h.2.2]at a;exact a ▸ h.1.lt
 lo:=λ{i Y w k} h a=>by
  rw[h.2.2]at a;exact a ▸ h.2.1
 enters:=λargs w=>by kernel_rfl
 call:=λi hi Y w h hs=>by
  obtain⟨h1,h2,rfl⟩:=h;refine(afp l[i].1 (iJ l i) l[i].2 g w _ h1).mono ?_;rintro e w' ⟨rfl,w1,hf,hB,hb⟩;have jr:=hs.far K h1 h2 hf ay ay ay ay
  have zX:lastOf l (i+1)=l[i].2:=by
   show(l.getD i _).2=_;rw[ac6,acU hi];rfl
  exact⟨rfl,jr.below K hb,(hf.more λ_=> .inr).then_ hb,_,⟨by rw[zX];exact(Fr.of_below (S:=λ_=>False) hb).blk hB (λa=>a),h2,rfl⟩,λk a=> .inl a⟩
end
theorem NU{fn:Func}{p u s:Tmp}{ty ty':TypeId}{tmps:Array Value}{w:World}{g g' n n':Nat}{cs cs':Array Value}(hT:kG ty n)(hT':kG ty' n')(h:fn.results= #[.cell p ty, .cell u ty', .tmp s])(hp:tmps.getD p undef= .pointer (some ⟨g,0,none⟩))(hB:aO w g ty cs)(hn:cs.size=n)(hq:tmps.getD u undef= .pointer (some ⟨g',0,none⟩))(hB':aO w g' ty' cs')(ZK:cs'.size=n'):(results fn tmps).run prog w= .ok (.tuple #[.agg cs, .agg cs',tmps.getD s undef]) w:=by
 have hp':tmps[p]?.getD undef= .pointer (some ⟨g,0,none⟩):=by simpa using hp
 have hq':tmps[u]?.getD undef= .pointer (some ⟨g',0,none⟩):=by simpa using hq
 simp only[results,h];simp[hp',hq',asAddr,jJ hT hB hn,jJ hT' hB' ZK]
section
variable {F:Nat->Prop}{B u0 q m:Nat}{T:List bT->Nat->World->Prop}{S:St}{w w':World}
theorem Q7(K:Kv F B u0 T)(h:aZ B u0 q T S m w){g c:Nat}{k:Tok}{n:TN}(hB:aO w g 71 (aI k))(hg:B<=g)(hk:S k=some n):Calls prog 63 #[.pointer (some ⟨q,0,none⟩), .slice (some ⟨g,0,none⟩) 1 c] w λe w'=>e= .returned (.int .i64 0)/\aZ B u0 q T S m w'/\Fr F w w':=by
 refine(wQ K h (l:= [k]) hB hg aH).mono ?_;rintro e w' ⟨r,rfl,hr,h1,h2⟩;rcases hr with⟨_,x,hx,hv⟩ | ⟨_,_,x,hx,hv⟩ | ⟨rfl,_⟩
 ·rw[acI]at hx;subst hx;exact absurd (h.ok _ _ hk).1 hv
 ·rw[acI]at hx;subst hx;rw[hk]at hv;cases hv
 ·exact⟨rfl,h1,h2⟩
theorem Dj(K:Kv F B u0 T)(h:aZ B u0 q T S m w){k:Tok}{n:TN}{l l':List (Tok × TN)}(hl:l=(k,n)::l')(uD:rC S l)(hn:l.length<=250):Calls prog 77 #[.pointer (some ⟨q,0,none⟩),aG k] w λe w'=>e= .returned (.tuple #[aG (iJ l l.length),pY (lastOf l l.length), .int .i64 0])/\aZ B u0 q T S m w'/\Fr F w w':=by
 have hk:S k=some n:=by
  have:=(uD.at_ (i:=0) (by rw[hl];simp)).1;subst hl;exact this
 have yx:=ah (λW (hW:aZ B u0 q T S m W) g c (hB:aO W g 71 (aI k)) (hg:B<=g)=>Q7 K hW (c:=c) hB hg hk);have Xv:=ah (λW (hW:aZ B u0 q T S m W) g (hP:amW q g l 0 (λk=>k=g) W)=>F8 K hW (aiT K g l) hP hl uD hn);unfold ClE at Xv;obtain⟨rr,Wu⟩:=aJ (iJ l l.length);obtain⟨nn,BU⟩:=aJ (lastOf l l.length);rw[<-Wu]at Xv;rw[<-Wu, <-BU];have HNN:=ah BU;clear Wu BU;have Ol:=h.self.lt;have rF:=h.hq;have aQ:Hid (∀k,F k->k<B):=ah K.low;have HK:=ah K;have HS:=ah h;obtain⟨wa,hwa⟩:=aJ (w.alloc (.cells (aI k) 71));obtain⟨wb,hwb⟩:=aJ (wa.alloc (.cells #[.int .i64 0, .int .i64 0] 71));obtain⟨wc,hwc⟩:=aJ (wb.alloc (.cells sF 124));obtain⟨wd,hwd⟩:=aJ (wc.alloc (.cells (aI k) 71));have z1:wa.heap.size=w.heap.size+1:=by rw[hwa,aad]
 have z2:wb.heap.size=w.heap.size+1+1:=by rw[hwb,aad,z1]
 have z3:wc.heap.size=w.heap.size+1+1+1:=by rw[hwc,aad,z2]
 have z4:wd.heap.size=w.heap.size+1+1+1+1:=by rw[hwd,aad,z3]
 have ba:=(aai w.heap.size w).alloc aK (.cells (aI k) 71);rw[<-hwa]at ba;have bb:=ba.alloc ak (.cells #[.int .i64 0, .int .i64 0] 71);rw[<-hwb]at bb;have bc:=bb.alloc ak (.cells sF 124);rw[<-hwc]at bc;have bd:=bc.alloc ak (.cells (aI k) 71);rw[<-hwd]at bd;have HKd:Hid (aO wd w.heap.size 71 (aI k)):=ah (by rw[hwd,hwc,hwb,hwa];exact(((aO.new w _ _).alloc _).alloc _).alloc _);have HAd:Hid (aO wd (w.heap.size+1) 71 #[.int .i64 0, .int .i64 0]):=ah (by rw[hwd,hwc,hwb, <-z1];exact((aO.new wa _ _).alloc _).alloc _);have HZd:Hid (aO wd (w.heap.size+1+1) 124 sF):=ah (by rw[hwd,hwc, <-z2];exact(aO.new wb _ _).alloc _);have HRd:Hid (aO wd (w.heap.size+1+1+1) 71 (aI k)):=ah (by rw[hwd, <-z3];exact aO.new wc _ _);have HSd:=ah (h.below K bd);have HFd:Hid (Fr F w wd):=ah (.of_below bd);have HWD:Hid (wd=(((w.alloc (.cells (aI k) 71)).alloc (.cells #[.int .i64 0, .int .i64 0] 71)).alloc (.cells sF 124)).alloc (.cells (aI k) 71)):=ah (by rw[hwd,hwc,hwb,hwa]);clear hwa hwb hwc hwd ba bb bc bd z1 z2 z3 wa wb wc;clear h K hk hl uD HS;go_enter func77,ntmps77
 go_wp2_with fail
 rw[show(((w.alloc (.cells (aI k) 71)).alloc (.cells #[.int .i64 0, .int .i64 0] 71)).alloc (.cells #[.int .i64 0, .int .i64 0, .int .i64 0, .int .i64 0, .int .i64 0, .int .i64 0, .int .i64 0, .int .i64 0] 124)).alloc (.cells #[.int .i64 k.1, .int .i64 k.2] 71)=wd from HWD.out.symm];refine aac (yx.out wd HSd _ _ HRd ak) ?_;rintro e w1 ⟨rfl,jr,eH⟩;have dZ:∀g,w.heap.size<=g->¬F g:=λg hg a=>by have:=aQ.out g a;omega
 have z5:=eH.size;have vg:=eH.blk HKd (dZ _ aK);have ha1:=eH.blk HAd (dZ _ ak);have gI:=eH.blk HZd (dZ _ ak);have c0:w1.cell? ⟨w.heap.size,0,none⟩=some (.int .i64 k.1):=vg.cell 0;have c1:w1.cell? ⟨w.heap.size,1,none⟩=some (.int .i64 k.2):=vg.cell 1;have lk:=vg.lt;have fM:=(aai _ w1).alloc aK (.cells sF 124);have HA2:=ah (ha1.alloc (.cells sF 124));have HZ2:=ah (gI.alloc (.cells sF 124));have uz:=ah (jr.below HK fM);have HP2:Hid (amW q w1.heap.size l 0 (λk=>k=w1.heap.size) _):=ah ⟨aO.new w1 124 (fO TN.zero),by omega,rfl⟩;have kL:Hid (Fr F w _):=ah ((HFd.out.trans eH).then_ fM);clear jr eH vg ha1 gI fM HKd HAd HZd HRd HSd HFd HWD yx;go_wp2_with fail
 refine aac (Xv.out _ uz _ HP2) ?_;rintro e w3 ⟨rfl,Aa,nP,Y3,⟨hp3,_,rfl⟩,_⟩;rw[<-HNN.out]at hp3;have z6:=nP.size;rw[aad]at z6;have V3:=nP.blk HA2 (λa=>a.elim (dZ _ ak) (λa=>by omega));have IZ:=nP.blk HZ2 (λa=>a.elim (dZ _ ak) (λa=>by omega));have c1:w3.cell? ⟨q,1,none⟩=some (.int .i64 0):=Aa.self.cell 1;have lq:=Aa.self.lt;have fM:=(aai _ w3).alloc aK (.cells (aI rr) 71);have HA4:=ah (V3.alloc (.cells (aI rr) 71));have HZ4:=ah (IZ.alloc (.cells (aI rr) 71));have uJ:=ah (hp3.alloc (.cells (aI rr) 71));have kV:=ah (aO.new w3 71 (aI rr));have lD:=ah (Aa.below HK fM);have pK:Hid (Fr F w _):=ah ((kL.out.newP nP (λk a=>a.elim .inl (λa=> .inr ak))).then_ fM);have z7:(w3.alloc (.cells (aI rr) 71)).heap.size=w3.heap.size+1:=aad ..;obtain⟨w4,vU⟩:=aJ (w3.alloc (.cells (aI rr) 71));rw[<-vU]at HA4 HZ4 uJ kV lD pK z7;clear Aa nP hp3 V3 IZ fM HA2 HZ2 uz HP2 kL Xv;go_wp2_with fail
 rw[show w3.alloc (.cells #[.int .i64 rr.1, .int .i64 rr.2] 71)=w4 from vU.symm];clear vU
 refine aP (λu=>⟨#[_,_,_,_,_,_,u 4,_,_,_,_,_,_,_,_,_,_,_,_,_,_,_,_,_,_,_,_,_,_,_,_,_,_,_,u 0,u 1],_⟩)
  [aF (aG (rr)),
   aF (pY (nn)),
   Fl.turn _ (w.heap.size+1) 71 (aI (rr)) ak,
   Fl.turn _ (w.heap.size+1+1) 124 (fO (nn)) ak,
   aF (.int .i64 (0))]
  F [] (λj W=>dG B u0 q T (m) (λS1=>S1=S) W) aV aV [w.heap.size+1,w.heap.size+1+1] rfl aH (by simp<;>omega) (λk hk=>⟨by have:=aQ.out k hk;omega,by have:=aQ.out k hk;simp;omega⟩) ⟨λi=>match i with | 4=> .int .i64 0 | _=>undef,rfl⟩ (⟨S,lD.out.below HK aU.drew,rfl⟩) ?_ ?_ ?_
 ·intro i o hi ho u W hf hold aj jP;have aW:=fw aQ hf kV;have dI:=fw aQ hf uJ
  match i,ho with
  |0,ho=>exact sv ho (aC rfl rfl (aW.cell 0) (aW.cell 1))
  |1,ho=>exact sv ho (sK mG rfl rfl dI rfl)
  |2,ho=>
   obtain rfl:=aA ho;have Af:aO W (w.heap.size+1) _ _:=ag1 (hold _ rfl) HA4;exact aY.yD (hlt:=by omega) (ji rfl rfl (aj 0 rfl) Af) rfl rfl rfl (λ_ dK=>(λ_ h=>dG.far HK h Af ak dK ay ay ay ay))
  |3,ho=>
   obtain rfl:=aA ho;have Af:aO W (w.heap.size+1+1) _ _:=ag1 (hold _ rfl) HZ4;exact aY.yD (hlt:=by omega) (ig rfl rfl (aj 1 rfl) Af) rfl rfl rfl (λ_ dK=>(λ_ h=>dG.far HK h Af ak dK ay ay ay ay))
  |4,ho=>exact sv ho (jo rfl rfl)
  |n+5,ho=>exact absurd ho aH
 ·intro t i o ht ho u W hf bG aj;exact absurd ht aH
 ·intro u W hf bG au;have aW:=fw aQ hf kV;have dI:=fw aQ hf uJ;have e0:=au.q 0;have e1:=au.q 1;have Ba:=(au.p 2 ay trivial);change aO W (w.heap.size+1) _ _ at Ba;have hT3:=(au.p 3 ay trivial);change aO W (w.heap.size+1+1) _ _ at hT3;have e4:=au.q 4;simp only[e0,e1,e4];obtain⟨S1,hs,hp⟩:dG B u0 q T m (λS1=>S1=S) W:=bG;have HE:Hid (aZ B u0 q T S m W):=ah (hp ▸ hs);have xA:Hid (Fr F w W):=ah (pK.out.newS hf λk hk=>by simp at hk;omega);have YH:=ah Ba;have HZ7:=ah hT3;clear au hf hs hp e0 e1 e4 aW dI Ba hT3;go_wp2;refine bodyPost_ret (NU dW mG rfl rfl YH rfl rfl HZ7 rfl) rfl ?_;exact⟨rfl,HE,xA⟩
end
section
variable {F:Nat->Prop}{B u0 q m:Nat}{T:List bT->Nat->World->Prop}{S:St}{w w':World}
theorem zQ(K:Kv F B u0 T)(h:aZ B u0 q T S m w){k:Tok}{n:TN}{l l':List (Tok × TN)}(hl:l=(k,n)::l')(uD:rC S l)(hn:l.length<=250):Calls prog 44 #[.pointer (some ⟨q,0,none⟩),aG k] w λe w'=>e= .returned (.tuple #[.int .i64 (lastOf l l.length).count, .int .i64 0])/\aZ B u0 q T S m w'/\Fr F w w':=by
 have hb:=(aai w.heap.size w).alloc aK (.cells (aI k) 71);have Lh:=ah (Dj K (h.below K hb) hl uD hn);have HF:=ah (Fr.of_below (S:=F) hb);have HK:=ah K;obtain⟨rr,Wu⟩:=aJ (iJ l l.length);obtain⟨nn,BU⟩:=aJ (lastOf l l.length);rw[<-Wu, <-BU]at Lh;rw[<-BU];clear hb h K Wu BU hl uD;go_enter func44,ntmps44
 go_wp2_with fail
 refine aac Lh ?_;rintro e w1 ⟨rfl,jr,eH⟩;have bD:=((aai _ w1).alloc aK (.cells (aI rr) 71)).alloc (by rw[aad];omega) (.cells (fO nn) 124);have nI:=ah (jr.below HK bD);have l9:=ah ((HF.out.trans eH).then_ bD);clear jr eH bD HF Lh;go_wp2;go_ret2;exact⟨rfl,nI,l9⟩
end
section
variable {F:Nat->Prop}{B u0 q m:Nat}{T:List bT->Nat->World->Prop}{S:St}{w w':World}
theorem UW(K:Kv F B u0 T)(h:aZ B u0 q T S m w){k:Tok}(hv:yR k):Calls prog 55 #[.pointer (some ⟨q,0,none⟩),aG k] w λe w'=>e= .returned (.tuple #[.bool (S k).isSome, .int .i64 0])/\aZ B u0 q T S m w'/\Fr F w w':=by
 have hb:=((aai w.heap.size w).alloc aK (.cells (aI k) 71)).alloc (by rw[aad];omega) (.cells (aI k) 71);have ht:=aO.new (w.alloc (.cells (aI k) 71)) 71 (aI k);rw[aad]at ht;have Ol:=h.self.lt;have rF:=h.hq;have yx:=ah (wQ K (h.below K hb) (c:=1) (l:= [k]) ht ak aH);have HF:=ah (Fr.of_below (S:=F) hb);clear hb ht h K;go_enter func55,ntmps55
 go_wp2_with fail
 refine aac yx ?_;rintro e w1 ⟨r,rfl,hr,jr,eH⟩;have nI:=ah jr;have l9:=ah (HF.out.trans eH);clear jr eH HF yx;rcases hr with⟨_,x,hx,hn⟩ | ⟨rfl,_,x,hx,hn⟩ | ⟨rfl,hn⟩
 ·rw[acI]at hx;subst hx;exact absurd hv hn
 ·rw[acI]at hx;subst hx;have HN:=ah hn;clear hn;go_wp2;go_ret2;exact⟨by rw[HN.out];rfl,nI,l9⟩
 ·obtain⟨n,hn⟩:=hn k aH;have HN:=ah hn;clear hn;go_wp2;go_ret2;exact⟨by rw[HN.out];rfl,nI,l9⟩
end
section
variable {F:Nat->Prop}{B u0 q m:Nat}{T:List bT->Nat->World->Prop}{S:St}{w w':World}
theorem aiU(K:Kv F B u0 T)(h:aZ B u0 q T S m w){g c:Nat}{a b:Tok}{n n':TN}(hB:aO w g 71 #[.int .i64 a.1, .int .i64 a.2, .int .i64 b.1, .int .i64 b.2])(hg:B<=g)(ha:S a=some n)(hb:S b=some n'):Calls prog 63 #[.pointer (some ⟨q,0,none⟩), .slice (some ⟨g,0,none⟩) 2 c] w λe w'=>e= .returned (.int .i64 0)/\aZ B u0 q T S m w'/\Fr F w w':=by
 refine(wQ K h (l:= [a,b]) hB hg aH).mono ?_;rintro e w' ⟨r,rfl,hr,h1,h2⟩
 have hx:∀x,x∈ [a,b]->∃n,S x=some n:=λx hx=>by
  simp at hx;rcases hx with rfl | rfl
  ·exact⟨_,ha⟩
  ·exact⟨_,hb⟩
 rcases hr with⟨_,x,ER,hv⟩ | ⟨_,_,x,ER,hv⟩ | ⟨rfl,_⟩
 ·obtain⟨n,hn⟩:=hx x ER;exact absurd (h.ok _ _ hn).1 hv
 ·obtain⟨n,hn⟩:=hx x ER;rw[hn]at hv;cases hv
 ·exact⟨rfl,h1,h2⟩
theorem Q8(K:Kv F B u0 T)(h:aZ B u0 q T S m w){a b:Tok}{n n':TN}{la la' lb lb':List (Tok × TN)}(RX:la=(a,n)::la')(hpa:rC S la)(Wh:la.length<=250)(Nc:lb=(b,n')::lb')(Fb:rC S lb)(xq:lb.length<=250):Calls prog 54 #[.pointer (some ⟨q,0,none⟩),aG a,aG b] w λe w'=>e= .returned (.tuple #[.bool (decide (iJ la la.length=iJ lb lb.length)), .int .i64 0])/\aZ B u0 q T S m w'/\Fr F w w':=by
 have ha:S a=some n:=by
  have:=(hpa.at_ (i:=0) (by rw[RX];simp)).1;subst RX;exact this
 have hb:S b=some n':=by
  have:=(Fb.at_ (i:=0) (by rw[Nc];simp)).1;subst Nc;exact this
 have HTA:=ah (λW (hW:aZ B u0 q T S m W)=>Dj K hW RX hpa Wh);have HTB:=ah (λW (hW:aZ B u0 q T S m W)=>Dj K hW Nc Fb xq);have yx:=ah (λW (hW:aZ B u0 q T S m W) g c hB hg=>aiU K hW (g:=g) (c:=c) hB hg ha hb);obtain⟨ra,hra⟩:=aJ (iJ la la.length);obtain⟨rb,hrb⟩:=aJ (iJ lb lb.length);obtain⟨na,afq⟩:=aJ (lastOf la la.length);obtain⟨nb,afr⟩:=aJ (lastOf lb lb.length);rw[<-hra, <-afq]at HTA;rw[<-hrb, <-afr]at HTB;rw[<-hra, <-hrb];clear hra hrb afq afr ha hb RX Nc hpa Fb Wh xq;have bD:=(aai w.heap.size w).alloc aK (.cells (aI a) 71);have bK:=bD.alloc bD.size (.cells (aI b) 71);have dJ:=bK.alloc bK.size (.cells #[.int .i64 a.1, .int .i64 a.2, .int .i64 b.1, .int .i64 b.2] 71);have ka:=((aO.new w 71 (aI a)).alloc (.cells (aI b) 71)).alloc (.cells #[.int .i64 a.1, .int .i64 a.2, .int .i64 b.1, .int .i64 b.2] 71);have kb:=(aO.new (w.alloc (.cells (aI a) 71)) 71 (aI b)).alloc (.cells #[.int .i64 a.1, .int .i64 a.2, .int .i64 b.1, .int .i64 b.2] 71);have kr:=aO.new ((w.alloc (.cells (aI a) 71)).alloc (.cells (aI b) 71)) 71 #[.int .i64 a.1, .int .i64 a.2, .int .i64 b.1, .int .i64 b.2];rw[aad]at kb;rw[aad,aad]at kr;have Ol:=h.self.lt;have rF:=h.hq;have aQ:Hid (∀k,F k->k<B):=ah K.low;have HKA:=ah ka;have HKB:=ah kb;have BZ:=ah (yx.out _ (h.below K dJ) _ 2 kr ak);have HF0:=ah (Fr.of_below (S:=F) dJ);have HK:=ah K;clear bD bK dJ ka kb kr h K yx;go_enter func54,ntmps54
 go_wp2_with fail
 refine aac BZ ?_;rintro e w1 ⟨rfl,jr,eH⟩;have dZ:∀g,w.heap.size<=g->¬F g:=λg hg a=>by have:=aQ.out g a;omega
 have ka1:=eH.blk HKA (dZ _ aK);have kb1:=eH.blk HKB (dZ _ ak);have c0:w1.cell? ⟨w.heap.size,0,none⟩=some (.int .i64 a.1):=ka1.cell 0;have c1:w1.cell? ⟨w.heap.size,1,none⟩=some (.int .i64 a.2):=ka1.cell 1;have HA:=ah (HTA.out _ jr);have VR:=ah kb1;have l9:=ah (HF0.out.trans eH);clear jr eH ka1 kb1 BZ HF0 HKA HKB HTA;go_wp2_with fail
 refine aac HA ?_;rintro e w2 ⟨rfl,mW,yK⟩;have kb2:=yK.blk VR (dZ _ ak);have d0:w2.cell? ⟨w.heap.size+1,0,none⟩=some (.int .i64 b.1):=kb2.cell 0;have d1:w2.cell? ⟨w.heap.size+1,1,none⟩=some (.int .i64 b.2):=kb2.cell 1;have l2:=kb2.lt;have l3:w.heap.size<w2.heap.size:=by omega
 have dJ:=((aai _ w2).alloc aK (.cells (aI ra) 71)).alloc (by rw[aad];omega) (.cells (fO na) 124);have kr:=(aO.new w2 71 (aI ra)).alloc (.cells (fO na) 124);have HB:=ah (HTB.out _ (mW.below HK dJ));have HR:=ah kr;have kL:=ah ((l9.out.trans yK).then_ dJ);clear mW yK kb2 dJ kr l9 HA VR HTB;go_wp2_with fail
 refine aac HB ?_;rintro e w3 ⟨rfl,Aa,nP⟩;have kr3:=nP.blk HR (dZ _ ak);have r0:w3.cell? ⟨w2.heap.size,0,none⟩=some (.int .i64 ra.1):=kr3.cell 0;have r1:w3.cell? ⟨w2.heap.size,1,none⟩=some (.int .i64 ra.2):=kr3.cell 1;have l4:=kr3.lt;have iC:=((aai _ w3).alloc aK (.cells (aI rb) 71)).alloc (by rw[aad];omega) (.cells (fO nb) 124);have lD:=ah (Aa.below HK iC);have pK:=ah ((kL.out.trans nP).then_ iC);clear Aa nP kr3 iC HR kL HB;have hd:ra=rb ↔ ra.1=rb.1/\ra.2=rb.2:=Prod.ext_iff;have HD:=ah hd;clear hd;go_wp2
 all_goals(go_ret2;refine⟨?_,lD,pK⟩;have hd:=HD.out;simp_all)
end
end Go.Proofs.YtadnmegdbllaoaaGreatDoor
namespace Sq
open Bt
theorem qE:∀ (c:List Up) (a:Bt) (k:Tok) (b:Bt),iJ (path a k b c) (c.length+1)=(plug (node a k b) c).rt/\lastOf (path a k b c) (c.length+1)=tv dn (plug (node a k b) c)
 | [],a,k,b=>⟨rfl,rfl⟩
 | .L k' r::c,a,k,b=>by
  obtain⟨h1,h2⟩:=qE c (node a k b) k' r;exact⟨h1,h2⟩
 | .R l k'::c,a,k,b=>by
  obtain⟨h1,h2⟩:=qE c l k' (node a k b);exact⟨h1,h2⟩
def gv(S:St)(k:Tok):TN:=if k=dn then .zero else(S k).getD .zero
theorem Zv{S:St}{up:Tok}{t:Bt}(hS:∀x n,S x=some n->x≠dn)(h:eY S up t):gv S t.rt=tv up t:=by
 unfold gv
 cases t with
 |nil=>exact if_pos rfl
 |node l k r=>
  show(if k=dn then _ else(S k).getD _)=_;rw[if_neg (hS k _ h.1),h.1];rfl
def YK(S:St)(n:TN)(from_:Tok):Nat:=(if from_=dn\/from_=n.right then(gv S n.left).count else 0)+(if from_≠dn/\from_=n.right then 1 else 0)
def rkS(S:St)(l:List (Tok × TN)):Nat->Nat
 |0=>0
 |i+1=>rkS S l i+YK S (l.getD i (dn,TN.zero)).2 (iJ l i)
def rkU(S:St):Tok->List (Tok × TN)->Nat
 |_, []=>0
 |k,p::l=>YK S p.2 k+rkU S p.1 l
theorem UY(S:St):∀ (l:List (Tok × TN)) (p:Tok × TN) (i:Nat),i<=l.length->rkS S (p::l) (i+1)=YK S p.2 dn+rkU S p.1 (l.take i)
 |l,p,0,_=>by simp[rkS,rkU,iJ]
 | [],p,i+1,h=>absurd h aH
 |q::l,p,i+1,h=>by
  have hi:i<(q::l).length:=by simp at h ⊢;omega
  rw[rkS,UY S (q::l) p i (by simp at h ⊢;omega),acO hi]
  have key:∀ (z:List (Tok × TN)) (k:Tok) (y:Tok × TN),rkU S k (z++ [y])=rkU S k z+YK S y.2 ((z.getLast?.map (·.1)).getD k):=by
   intro z
   induction z with
   |nil=>intro k y;simp[rkU]
   |cons a z ih=>
    intro k y;rw[List.cons_append,rkU,rkU,ih a.1 y]
    have:((a::z).getLast?.map (·.1)).getD k=(z.getLast?.map (·.1)).getD a.1:=by
     cases z with
     |nil=>rfl
     |cons b z=>simp[List.getLast?_cons]
    rw[this];omega
  rw[key]
  have h1:((p::q::l).getD (i+1) (dn,TN.zero)).2=(q::l)[i].2:=by
   rw[List.getD_cons_succ,ac6,acU hi];rfl
  have h2:iJ (p::q::l) (i+1)=(((q::l).take i).getLast?.map (·.1)).getD p.1:=by
   cases i with
   |zero=>rfl
   |succ j=>
    have hj:j<(q::l).length:=by omega
    rw[acO hj];simp only[List.getLast?_append,List.getLast?_singleton];show((p::q::l).getD (j+1) (dn,TN.zero)).1=_;rw[List.getD_cons_succ,ac6,acU hj];rfl
  rw[h1,h2];omega
theorem Lj{S:St}(hS:∀x n,S x=some n->x≠dn):∀ (c:List Up) (a:Bt) (k:Tok) (b:Bt),eY S dn (plug (node a k b) c)->(plug (node a k b) c).list.Nodup->k≠dn->∀p q,path a k b c=p::q->rkU S k q=(jX c).length
 | [],a,k,b,h,hn,hk,p,q,e=>by
  injection e with _ e;subst e;rfl
 | .L k' r::c,a,k,b,h,hn,hk,p,q,e=>by
  injection e with _ e;subst e;have hh:=(yG (.L k' r::c) (node a k b) h).1.2;have h1:eY S (yF c) (node (node a k b) k' r):=(yG c (node (node a k b) k' r) h).2;obtain⟨z,hz⟩:=jE c (node a k b) k' r;have ih:=Lj hS c (node a k b) k' r h hn (hS k' _ h1.1) _ _ hz;rw[hz,rkU,ih]
  have dL:k≠r.rt:=λe=>by
   have uF:=hn;rw[show plug (node a k b) (.L k' r::c)=plug (node (node a k b) k' r) c from rfl,jh,acG]at uF;have hn3:=(acG.1 uF.2.1).1;obtain⟨_,_,_,_,h5⟩:=nodup_node hn3
   cases r with
   |nil=>exact hk e
   |node l2 k2 r2=>
    refine h5 k (by simp[list]) ?_;rw[e];simp[rt,list]
  have:YK S (nd (yF c) (node a k b) r) k=0:=by
   unfold YK;show(if k=dn\/k=r.rt then _ else _)+(if k≠dn/\k=r.rt then _ else _)=0;rw[if_neg (by rintro(e | e);exact hk e;exact dL e),if_neg λe=>dL e.2]
  rw[this];simp[jX]
 | .R l k'::c,a,k,b,h,hn,hk,p,q,e=>by
  injection e with _ e;subst e;have h1:eY S (yF c) (node l k' (node a k b)):=(yG c (node l k' (node a k b)) h).2;obtain⟨z,hz⟩:=jE c l k' (node a k b);have ih:=Lj hS c l k' (node a k b) h hn (hS k' _ h1.1) _ _ hz;rw[hz,rkU,ih]
  have:YK S (nd (yF c) l (node a k b)) k=l.cnt+1:=by
   unfold YK;show(if k=dn\/k=k then(gv S l.rt).count else _)+(if k≠dn/\k=k then 1 else _)=_;rw[if_pos (.inr rfl),if_pos ⟨hk,rfl⟩,Zv hS h1.2.1,vN]
  rw[this];simp[jX,dU];omega
theorem Ej{S:St}(hS:∀x n,S x=some n->x≠dn)(c:List Up)(a:Bt)(k:Tok)(b:Bt)(h:eY S dn (plug (node a k b) c))(hn:(plug (node a k b) c).list.Nodup):rkS S (path a k b c) (path a k b c).length=(jX c++a.list).length:=by
 obtain⟨q,hq⟩:=jE c a k b;have h1:=(yG c (node a k b) h).2;have hu:=Lj hS c a k b h hn (hS k _ h1.1) _ _ hq;rw[hq,List.length_cons,UY S q _ q.length aK,ahe,hu]
 have:YK S (nd (yF c) a b) dn=a.cnt:=by
  unfold YK;rw[if_pos (.inl rfl),if_neg λe=>e.1 rfl];show(gv S a.rt).count+0=_;rw[Zv hS h1.2.1,vN];rfl
 rw[this,List.length_append,dU];omega
end Sq
