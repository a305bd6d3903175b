/- Part of this proof. -/
import Derived.Test.YteppebbmnojapaaGreatDoorL28
import Derived.Test.YteppebbmnojapaaGreatDoorL29
set_option maxRecDepth 100000
set_option maxHeartbeats 8000000
namespace Go.Proofs.YteppebbmnojapaaGreatDoor
open Go.RowKit Go.Shelf
structure ZC(S:Nat->Prop)(dof:FuncId)(caps:Array Value)(g:List Ent->List Ent)(P:World->Prop):Prop where
 keep:∀ {w w'},P w->Fr S w w'->P w'
 call:∀w A c l,P w->SV bD w A c l->l.length<=1000->Calls Tryz.prog dof (#[.slice A l.length c]++caps) w fun e w'=>∃A' c',e= .returned (.slice A' (g l).length c')/\SV bD w' A' c' (g l)/\Below w.heap.size w w'
 enters:∀ (args:Array Value) (w:World),(callFunc dof args).run Tryz.prog w= .ok (.enter dof args) w
 size:∀l,Nd.aK l<=240->Nd.aK (g l)<=1000
theorem ZE{n:Nd.Node}{p:Tp.Part}{i L:Nat}(hf:Nd.fits n=true)(hl:n.leaf=false)(hi:i<n.kids.length)(hp:Tp.PB p L)(hL:L<=2000):NB (Nd.swap n i (i+1) p.1 p.2):=by
 obtain⟨e,h1,h2,h3,h4,_⟩:=Tp.CQ hf hl hi hp
 have hk:=Tp.Ko h3
 have:=hp.len
 refine⟨?_,by omega,by omega, ?_,by omega⟩
 ·rw[e];exact Nat.zero_le _
 ·rw[e];show Nd.aK []<=_;simp[Nd.aK]
theorem ab1{n:Nd.Node}{j:Nat}{pg:Int}(hn:NB n)(hl:n.leaf=false)(hj:j+1<n.kids.length):NB (Nd.swap n j (j+2) [pg] [])/\Tp.cnt (Nd.swap n j (j+2) [pg] [])<=n.kids.length:=by
 rw[Tp.Xk hl hj]
 have:=hn.i
 have:=hn.k
 have:=hn.ks
 have:=Tp.Xl n.keys j
 refine⟨⟨Nat.zero_le _, ?_, ?_, ?_, ?_⟩, ?_⟩
 ·unfold Nd.ah;simp only[List.length_append,List.length_take,List.length_drop,List.length_cons,List.length_nil];omega
 ·unfold Nd.ah;simp only[List.length_append,List.length_take,List.length_drop,List.length_nil];omega
 ·show Nd.aK []<=_;simp[Nd.aK]
 ·show Nd.aF (n.keys.take j++ []++n.keys.drop (j+1))<=_;omega
 ·unfold Tp.cnt Nd.ah;simp only[List.length_append,List.length_take,List.length_drop,List.length_cons,List.length_nil];omega
section
variable {S:Nat->Prop}{B t:Nat}{room:Int}{disk:Tp.aA}{TM:Nat->Tp.Pst->World->Prop}
theorem vM{n:Nd.Node}(h:Nd.fits n=true):n.ents.length<=300/\Nd.aK n.ents<=240:=by
 obtain⟨hr,hs⟩:=Tp.bf.1 h
 obtain⟨leaf,ents,kids,keys⟩:=n
 cases leaf with
 |true=>
  have hs:Nd.aK ents<=240:=hs
  have:=Nd.iM ents
  exact⟨by show ents.length<=_;omega,hs⟩
 |false=>
  obtain⟨rfl,_,_,_⟩:=Nd.aY.1 hr
  exact⟨Nat.zero_le _,by show Nd.aK []<=_;simp[Nd.aK]⟩
theorem CU(M:fU S B t room disk TM)(u:Nat)(root er:Int){dof:FuncId}{caps:Array Value}{g:List Ent->List Ent}{P:World->Prop}(D:ZC S dof caps g P)(key:ByteArray):∀ (f d:Nat) (_:d+f=24) (r:Nat) (σ:Tp.Pst) (id:Int) (_:(Tp.bM room disk g key f σ id).1≠ .error 3) (w:World) (_:P w) (_:On S B t u TM root er (r+8*f) σ w),
  Calls Tryz.prog 205 #[.pointer (some ⟨u,0,none⟩), .int .i64 id, .int .i64 (d:Nat), .string key, .func (.func dof) #[] caps] w (WR S B t u TM root er r (Tp.bM room disk g key f σ id) (600+50*f) w)
 |0,_,_,_,_,_,h3,_,_,_=>absurd rfl h3
 |f+1,d,hdf,r,σ,id,h3,w,hP,h=>by
  obtain⟨n,hv⟩:=Tp.Ip h3
  obtain⟨hfit,hid⟩:=M.ht h.tm hv
  have IH:=Lib.hid (fun r σ id h3 w hP h=>CU M u root er D key f (d+1) (by omega) r σ id h3 w hP h)
  obtain⟨o,ho⟩:∃o,o=Tp.bM room disk g key (f+1) σ id:=⟨_,rfl⟩
  rw[<-ho]at h3 ⊢
  have hsz:=M.size h.tm
  have hun:u<w.heap.size:=h.self.lt
  have hb1:=(Below.refl w.heap.size w).alloc (Nat.le_refl _) (.cells #[.slice none 0 0, .slice none 0 0] 300)
  have hBp:=Blk.new w 300 #[.slice none 0 0, .slice none 0 0]
  have hL:=Lib.hid (pq M u root er (r+8*f+6) σ id d n hv (by omega) _ (show On S B t u TM root er (r+8*f+6+2) σ _ from(h.below M hb1).less M (by omega)))
  have HM:=Lib.hid M
  have HD:=Lib.hid D
  have jP:=Lib.hid hfit
  have HID:=Lib.hid hid
  have HV:=Lib.hid hv
  have HO:=Lib.hid ho
  have H3:=Lib.hid h3
  have HP:=Lib.hid hP
  have HBp:=Lib.hid hBp
  have HB1:=Lib.hid hb1
  have hd24:d<24:=by omega
  clear h hb1 hBp hid hv ho h3 hP hfit D M
  go_enter Tryz.func205,Tryz.ntmps205
  go_wp2_with fail
  refine Calls.mono hL.out ?_
  rintro e w1 ⟨v,rfl,hnf,pG,hf1⟩
  obtain⟨N1,c1,N2,c2,N3,c3,rfl,rn⟩:=hnf
  have hz1:=hf1.size
  simp only[World.size_alloc]at hz1
  have hb2:=(Below.refl w1.heap.size w1).alloc (Nat.le_refl _) (.cells #[.bool n.leaf, .slice N1 n.ents.length c1, .slice N2 n.kids.length c2, .slice N3 n.keys.length c3] 146)
  have hNF:=NF.below (lo:=w.heap.size) (v:= .agg #[.bool n.leaf, .slice N1 n.ents.length c1, .slice N2 n.kids.length c2, .slice N3 n.keys.length c3]) ⟨N1,c1,N2,c2,N3,c3,rfl,LO.lower rn.1 (by simp),LO.lower rn.2.1 (by simp),LO.lower rn.2.2 (by simp)⟩ hb2
  have ab2:Fr S w w1:=(Fr.of_below HB1.out).trans hf1
  have HF2:=Lib.hid (ab2.trans (.of_below hb2))
  have iV:=Lib.hid (pG.below HM.out hb2)
  have TB:=Lib.hid ((hf1.blk HBp.out (HM.out.far hsz)).alloc (.cells #[.bool n.leaf, .slice N1 n.ents.length c1, .slice N2 n.kids.length c2, .slice N3 n.keys.length c3] 146))
  have hBn:=Blk.new w1 146 #[.bool n.leaf, .slice N1 n.ents.length c1, .slice N2 n.kids.length c2, .slice N3 n.keys.length c3]
  have hzz:(w1.alloc (.cells #[.bool n.leaf, .slice N1 n.ents.length c1, .slice N2 n.kids.length c2, .slice N3 n.keys.length c3] 146)).heap.size=w1.heap.size+1:=by simp
  unfold aP
  have HNF:=Lib.hid hNF
  have g0:=hBn.cell 0
  have g1:=hBn.cell 1
  have g2:=hBn.cell 2
  have g3:=hBn.cell 3
  have ln:=hBn.lt
  have HBn:=Lib.hid hBn
  cases hlf:n.leaf with
  |true=>
   rw[hlf]at HNF HF2 iV TB g0 g1 g2 g3 ln HBn hzz
   have hoo:o=Tp.aC room (Tp.fA (Nd.aG (g n.ents))) σ id (Nd.aG (g n.ents)):=by rw[HO.out];exact Tp.Io HV.out hlf
   have HOO:=Lib.hid hoo
   obtain⟨hs1,hs2⟩:=vM jP.out
   have hsv:SV bD (w1.alloc (.cells #[.bool true, .slice N1 n.ents.length c1, .slice N2 n.kids.length c2, .slice N3 n.keys.length c3] 146)) N1 c1 n.ents:=by
    obtain⟨_,_,_,_,_,_,e,h1,_,_⟩:=HNF.out.ns
    unfold aP at e
    simp only[Value.agg.injEq,Array.mk.injEq,List.cons.injEq,Value.slice.injEq,and_true,true_and]at e
    obtain⟨_,⟨rfl,rfl⟩,_⟩:=e
    exact h1
   have hDC:=HD.out.call _ N1 c1 n.ents (HD.out.keep HP.out HF2.out) hsv (by omega)
   have HDC:=Lib.hid hDC
   have HGS:=Lib.hid (HD.out.size n.ents hs2)
   clear hNF hb2 hBn pG hf1 ab2 rn hsv hDC hoo hs1 hs2 hlf
   go_wp2_with fail
   rw[HD.out.enters,Oper.upon_enter]
   refine Calls.mono HDC.out ?_
   rintro e w3 ⟨A',c',rfl,Bo,hb3⟩
   have hz3:=hb3.size
   have hgl:=Nd.iM (g n.ents)
   have hgs:=HGS.out
   have hnb:NB (Nd.aG (g n.ents)):=⟨by show(g n.ents).length<=_;omega,Nat.zero_le _,Nat.zero_le _,by show Nd.aK (g n.ents)<=_;omega,by show Nd.aF []<=_;simp[Nd.aF]⟩
   have HST:=Lib.hid (l9 HM.out u root er (r+8*f+6) (Tp.fA (Nd.aG (g n.ents))) σ id HID.out (.agg #[.bool true, .slice A' (g n.ents).length c', .slice none 0 0, .slice none 0 0]) (Nd.aG (g n.ents)) hnb (by rw[<-HOO.out];exact H3.out) w3 ⟨A',c',none,0,none,0,rfl,Bo,xZ _,xZ _⟩ (iV.out.below HM.out hb3))
   rw[<-HOO.out]at HST
   have HF3:=Lib.hid (HF2.out.trans (.of_below hb3))
   have Em:=Lib.hid (TB.out.below hb3 TB.out.lt)
   have HCN:=Lib.hid (show Tp.cnt (Nd.aG (g n.ents))<=600+50*(f+1)by unfold Tp.cnt Nd.aG;simp only[List.length_nil];omega)
   generalize (g n.ents).length=gl at*
   clear hb3 Bo hgl hgs hnb g0 g1 g2 g3 ln
   go_wp2_with fail
   refine Calls.mono HST.out ?_
   rintro e w4 ⟨v,p,x,rfl,⟨Ap,cp,Aq,cq,rfl,rp1,rp2⟩,hres,ou,hf4⟩
   have hz4:=hf4.size
   have kV:=hf4.blk Em.out (HM.out.far (by omega))
   have d0:=kV.cell 0
   have d1:=kV.cell 1
   have f0:=kV.frozen 0
   have f1:=kV.frozen 1
   have lp:=kV.lt
   have wY:=Lib.hid kV
   have HF4:=Lib.hid (HF3.out.trans hf4)
   have vN:=Lib.hid (ou.less HM.out (show r<=r+8*f+6 by omega))
   have HPI:=Lib.hid (LO.lower rp1 (show w.heap.size<=w3.heap.size by omega))
   have HPK:=Lib.hid (LO.lower rp2 (show w.heap.size<=w3.heap.size by omega))
   have wZ:=Lib.hid (show(o.1= .ok p/\x=0/\Tp.PB p (600+50*(f+1)))\/(o.1= .error 2/\x=2)from hres.imp (fun h=>⟨h.1,h.2.1,h.2.2.mono HCN.out⟩) (fun h=>h))
   unfold qI
   clear hf4 ou rp1 rp2 hres kV
   go_wp2
   try simp only[Exit.inBlock,Exit.then]
   refine bodyPost_ret (aO dM rfl rfl (wY.out.gJ _ _) rfl) rfl ?_
   exact jo HM.out HF4.out vN.out wY.out (Nat.le_refl _) hsz (by omega) (Fr.gJ _ _) (uz (LO.frB HPI.out (Fr.gJ _ _) (fun g hg e=>aB HPI.out wY.out (by decide) (e ▸ hg))) (LO.frB HPK.out (Fr.gJ _ _) (fun g hg e=>aB HPK.out wY.out (by decide) (e ▸ hg)))) wZ.out
  |false=>
   rw[hlf]at HNF HF2 iV TB g0 g1 g2 g3 ln HBn hzz hb2
   have ZF:=iT jP.out
   have hdw:(d:Int)+1=((d+1:Nat):Int):=by omega
   have hks:Nd.tY n.keys:=by
    obtain⟨hr,_⟩:=Tp.bf.1 jP.out
    obtain⟨leaf,ents,kids,keys⟩:=n
    obtain rfl:leaf=false:=hlf
    exact((Nd.jd keys).1 (Nd.aY.1 hr).2.2.2).2
   have hnk:n.keys.length+1=n.kids.length:=by
    obtain⟨hr,_⟩:=Tp.bf.1 jP.out
    obtain⟨leaf,ents,kids,keys⟩:=n
    obtain rfl:leaf=false:=hlf
    exact(Nd.aY.1 hr).2.1
   have hci:=Nd.oN n.keys key
   have HCH:=Lib.hid (vg (.agg #[.bool false, .slice N1 n.ents.length c1, .slice N2 n.kids.length c2, .slice N3 n.keys.length c3]) n key _ HNF.out.ns ZF hks)
   obtain⟨i,hi⟩:∃i,i=Nd.child n.keys key:=⟨_,rfl⟩
   rw[<-hi]at HCH hci
   have hik:i<n.kids.length:=by omega
   have hoo:o=Tp.Il room disk id n i (24-f) (Tp.bM room disk g key f σ (n.kids[i]'hik)):=by
    rw[HO.out,Tp.Es HV.out hlf, <-hi]
    congr 2
    simp[List.getD,hik]
   obtain⟨oc,hoc⟩:∃x,x=Tp.bM room disk g key f σ (n.kids[i]'hik):=⟨_,rfl⟩
   have ab3:oc.1≠ .error 3:=fun hc=>H3.out (by rw[hoo, <-hoc,Tp.CP hc])
   have HIH:=Lib.hid (fun W hP hon=>IH.out (r+6) σ (n.kids[i]'hik) (by rw[<-hoc];exact ab3) W hP hon)
   rw[<-hoc]at HIH hoo
   rw[<-hdw]at HIH
   clear hdw
   obtain⟨bb,oo,rfl,hbb,gk1⟩:=rn.2.1.ls.int hik
   have HCO:=Lib.hid hoo
   have ahW:=Lib.hid ab3
   have HNB:=Lib.hid ZF
   have HNK:=Lib.hid hnk
   have HLF:=Lib.hid hlf
   have hidx:(i:Int)<n.kids.length:=by omega
   have hkl:n.kids.length<=100000:=ZF.i
   have gk2:(w1.alloc (.cells #[.bool false, .slice N1 n.ents.length c1, .slice (some ⟨bb,oo,none⟩) n.kids.length c2, .slice N3 n.keys.length c3] 146)).cell? ⟨bb,oo+i,none⟩=some (.int .i64 (n.kids[i]'hik)):=(hb2.cell (p:=⟨bb,oo+i,none⟩) hbb).trans gk1
   clear hNF hb2 hBn pG hf1 ab2 rn ZF hks hnk hci hi hoo hoc ab3 hlf gk1
   go_wp2_with fail
   generalize (w1.alloc (.cells #[.bool false, .slice N1 n.ents.length c1, .slice (some ⟨bb,oo,none⟩) n.kids.length c2, .slice N3 n.keys.length c3] 146))=w2 at*
   refine HCH.out.mono ?_
   rintro e w3 ⟨rfl,hb3⟩
   have hz3:=hb3.size
   have HF3:=Lib.hid (HF2.out.trans (.of_below hb3))
   have CB:=Lib.hid (iV.out.below HM.out hb3)
   have Em:=Lib.hid (TB.out.below hb3 TB.out.lt)
   have KE:=HBn.out.below hb3 HBn.out.lt
   have agG:=Lib.hid (NF.below HNF.out hb3)
   have gk:=(hb3.cell (p:=⟨bb,oo+i,none⟩) (show bb<w2.heap.size by omega)).trans gk2
   have Y6:bb<w3.heap.size:=by omega
   have g2:=KE.cell 2
   have ln:=KE.lt
   have Ob:=Lib.hid KE
   clear hb3 KE gk2 g0 g1 g3
   go_wp2_with fail
   refine Calls.mono (HIH.out w3 (HD.out.keep HP.out HF3.out) (CB.out.less HM.out (by omega))) ?_
   rintro e w4 ⟨v,p,x,rfl,⟨Ap,cp,Aq,cq,rfl,rp1,rp2⟩,hres,ou,hf4⟩
   have hz4:=hf4.size
   have hb5:=(Below.refl w4.heap.size w4).alloc (Nat.le_refl _) (.cells #[.slice Ap p.1.length cp, .slice Aq p.2.length cq] 300)
   have HF5:=Lib.hid ((HF3.out.trans hf4).trans (.of_below hb5))
   have vK:=Lib.hid (ou.below HM.out hb5)
   have ab4:=(hf4.blk Em.out (HM.out.far (by omega))).alloc (.cells #[.slice Ap p.1.length cp, .slice Aq p.2.length cq] 300)
   have kV:=hf4.blk Em.out (HM.out.far (by omega))
   have rJ:=(hf4.blk Ob.out (HM.out.far (by omega))).alloc (.cells #[.slice Ap p.1.length cp, .slice Aq p.2.length cq] 300)
   have TD:=Blk.new w4 300 #[.slice Ap p.1.length cp, .slice Aq p.2.length cq]
   have agH:=Lib.hid (NF.below (NF.fr agG.out hf4 (fun k hk=>by have:=HM.out.low k hk;omega)) hb5)
   have ahX:(w4.alloc (.cells #[.slice Ap p.1.length cp, .slice Aq p.2.length cq] 300)).heap.size=w4.heap.size+1:=by simp
   unfold qI
   rcases hres with⟨hok,rfl,hpb⟩ | ⟨herr,rfl⟩
   case' inr=>
    have hend:o=(.error 2,oc.2):=by rw[HCO.out,Tp.CP herr]
    have HE:=Lib.hid hend
    have d0:=kV.cell 0
    have d1:=kV.cell 1
    have f0:=kV.frozen 0
    have f1:=kV.frozen 1
    have lp:=kV.lt
    have wY:=Lib.hid kV
    have HF4:=Lib.hid (HF3.out.trans hf4)
    have vN:=Lib.hid ou
    clear hend herr hb5 hf4 ou rp1 rp2 ab4 kV rJ TD gk g2
    go_wp2
    try simp only[Exit.inBlock,Exit.then]
    refine bodyPost_ret (aO dM rfl rfl ((wY.out.gJ _ _).alloc _) rfl) rfl ?_
    exact jo HM.out HF4.out (by rw[HE.out];exact vN.out.less HM.out (by omega)) wY.out (Nat.le_refl _) hsz (by omega) ((Fr.gJ _ _).trans (.of_below ((Below.refl _ _).alloc (Nat.le_refl _) _))) (Cj _ _) (.inr ⟨by rw[HE.out],rfl⟩)
   have hLi:=LO.below rp1 hb5
   have hLk:=LO.below rp2 hb5
   obtain⟨sf1,sf2,sf3,sf4,sf5,_⟩:=Tp.CQ (i:=i) jP.out HLF.out hik hpb
   have ab5:=ZE (i:=i) jP.out HLF.out hik hpb (by omega)
   have hpl:=hpb.len
   have hcr:o=Tp.qx room id (Tp.dU room disk p oc.2 (Nd.swap n i (i+1) p.1 p.2) i (24-f)):=by rw[HCO.out,Tp.Tz hok]
   have hsw:=swap_any (aP n.leaf N1 n.ents.length c1 (some ⟨bb,oo,none⟩) n.kids.length c2 N3 n.keys.length c3) n Ap Aq cp cq i (i+1) p.1 p.2 HLF.out (by omega) (by omega) HNK.out hpb.keys _ (by have:=agH.out.ns;unfold aP;rw[HLF.out];exact this) HNB.out (LO.sv hLi) (LO.sv hLk) (by omega)
   rw[show(((i+1:Nat)):Int)=(i:Int)+1 by omega]at hsw
   unfold aP at hsw
   rw[HLF.out]at hsw
   obtain⟨ns,hns⟩:∃x,x=Nd.swap n i (i+1) p.1 p.2:=⟨_,rfl⟩
   rw[<-hns]at sf1 sf2 sf3 sf4 ab5 hcr hsw
   have aew:ns.leaf=false:=by rw[sf1];rfl
   have hpl2:p.1.length<=10000:=by omega
   have ahY:p.2.length<=10000:=by have:=hpb.keys;omega
   have HSW:=Lib.hid hsw
   have HCR:=Lib.hid hcr
   have HS1:=Lib.hid sf1
   have HS2:=Lib.hid sf2
   have HS3:=Lib.hid sf3
   have HS4:=Lib.hid sf4
   have HS5:=Lib.hid sf5
   have ZG:=Lib.hid ab5
   have aex:=Lib.hid aew
   have HPL:=Lib.hid hpl
   have g0:=rJ.cell 0
   have g1:=rJ.cell 1
   have g2:=rJ.cell 2
   have g3:=rJ.cell 3
   have ln:=rJ.lt
   have p0:=TD.cell 0
   have p1:=TD.cell 1
   have lt5:=TD.lt
   have Oc:=Lib.hid ab4
   have Eo:=Lib.hid rJ
   have aey:=Lib.hid TD
   clear hok hpb hb5 hf4 ou rp1 rp2 ab4 kV rJ TD gk hLi hLk sf1 sf2 sf3 sf4 sf5 ab5 hcr hsw hns aew hpl
   go_wp2_with fail
   generalize (w4.alloc (.cells #[.slice Ap p.1.length cp, .slice Aq p.2.length cq] 300))=w5 at*
   refine HSW.out.mono ?_
   rintro e w6 ⟨vs,rfl,agI,hb6⟩
   have hz6:=hb6.size
   obtain⟨S1,s1,S2,s2,S3,s3,rfl,rs⟩:=agI
   have CV:=Eo.out.below hb6 Eo.out.lt
   have e0:=CV.cell 0
   have e1:=CV.cell 1
   have e2:=CV.cell 2
   have e3:=CV.cell 3
   have f0:=CV.frozen 0
   have f1:=CV.frozen 1
   have f2:=CV.frozen 2
   have f3:=CV.frozen 3
   have ln:=CV.lt
   have Xm:=aey.out.below hb6 aey.out.lt
   have p0:=Xm.cell 0
   have p1:=Xm.cell 1
   have lt6:=Xm.lt
   have hfp:∀a b c d,Fr (fun k=>k=w1.heap.size) w6 ((((w6.setCell ⟨w1.heap.size,0,none⟩ a).setCell ⟨w1.heap.size,1,none⟩ b).setCell ⟨w1.heap.size,2,none⟩ c).setCell ⟨w1.heap.size,3,none⟩ d):=fun a b c d=>Fr.nS a b c d
   have HFP:=Lib.hid hfp
   have agJ:=Lib.hid (NF.lower (lo':=w.heap.size) (v:=aP ns.leaf S1 ns.ents.length s1 S2 ns.kids.length s2 S3 ns.keys.length s3) ⟨S1,s1,S2,s2,S3,s3,rfl,rs⟩ (by omega))
   have HF6:=Lib.hid (HF5.out.trans (.of_below hb6))
   have TF:=Lib.hid (vK.out.below HM.out hb6)
   have Ep:=Lib.hid (Oc.out.below hb6 Oc.out.lt)
   have ab6:=Lib.hid CV
   have hW:∃W,W=((((w6.setCell ⟨w1.heap.size,0,none⟩ (.bool ns.leaf)).setCell ⟨w1.heap.size,1,none⟩ (.slice S1 ns.ents.length s1)).setCell ⟨w1.heap.size,2,none⟩ (.slice S2 ns.kids.length s2)).setCell ⟨w1.heap.size,3,none⟩ (.slice S3 ns.keys.length s3)):=⟨_,rfl⟩
   obtain⟨w7,hw7⟩:=hW
   have Ot:Fr (fun k=>k=w1.heap.size) w6 w7:=by rw[hw7];exact HFP.out _ _ _ _
   have Oi:Blk w7 w1.heap.size 146 #[.bool ns.leaf, .slice S1 ns.ents.length s1, .slice S2 ns.kids.length s2, .slice S3 ns.keys.length s3]:=by rw[hw7];exact ab6.out.kS _ _ _ _
   have hz7:=Ot.size
   have HF7:=Lib.hid (Fr.old (S':=fun k=>S k\/k=w1.heap.size) ((HF6.out.more fun _=> .inl).trans (Ot.more fun _=> .inr)) (fun k hk=>hk.imp_right fun e=>by omega))
   have Tt:=Lib.hid (TF.out.own HM.out Ot ab6.out (by omega) (by omega) (by decide) (by decide) (by decide) (by decide))
   have Zo:=Lib.hid (Ot.blk Ep.out (by omega))
   have aez:=Ot.blk Xm (by omega)
   have aeA:=Lib.hid (NF.frP agJ.out ab6.out Ot)
   have HW7:=Lib.hid hw7
   have abO:=Lib.hid Oi
   have ahZ:=Lib.hid aez
   have ab7:=Lib.hid (show Tp.cnt ns<=600+50*(f+1)by
    have h1:=HS2.out
    have h2:=HPL.out
    have h3:=HS5.out
    have h4:ns.ents.length=0:=by have:=HS1.out;rw[this];rfl
    unfold Tp.cnt;omega)
   clear hb6 CV Xm hfp rs g0 g1 g2 g3 Ot Oi aez
   unfold aP
   by_cases hc:p.1.length=1/\1<ns.kids.length
   ·have hoo:o=Tp.qx room id (Tp.iE room disk oc.2 ns i (24-f)):=by rw[HCR.out];unfold Tp.dU;rw[if_pos hc]
    obtain⟨ofl,hof⟩:∃x,x=Tp.iE room disk oc.2 ns i (24-f):=⟨_,rfl⟩
    have KF:ofl.1≠ .error 3:=fun hcc=>H3.out (by rw[hoo, <-hof,Tp.zy hcc])
    have hd1:d+1=24-f:=by omega
    have hin:i<ns.kids.length:=by have:=HS2.out;omega
    have aeB:ns.keys.length+1=ns.kids.length:=by
     rcases HS3.out with h | h
     ·exact h
     ·omega
    have HFL:=Lib.hid (Xc HM.out u root er r w.heap.size oc.2 (aP ns.leaf S1 ns.ents.length s1 S2 ns.kids.length s2 S3 ns.keys.length s3) ns i (d+1) aex.out aeB HS4.out hin hc.2 ZG.out (by rw[hd1, <-hof];exact KF) w7 aeA.out (by omega) (by have:=HF7.out.size;omega) Tt.out)
    rw[hd1, <-hof]at HFL
    rw[<-hof]at hoo
    rw[show(((24-f:Nat)):Int)=(d:Int)+1 by omega]at HFL
    unfold aP at HFL
    have hp1:((p.1.length:Int)==1)=true:=by rw[beq_iff_eq];omega
    have hk1:1<(ns.kids.length:Int):=by omega
    have hcases:=fun n' h=>Tp.KD (room:=room) (disk:=disk) (σ:=oc.2) (n:=ns) (n':=n') (i:=i) (d:=24-f) hin hc.2 h
    rw[<-hof]at hcases
    have HCS:=Lib.hid hcases
    have HOO:=Lib.hid hoo
    have aeC:=Lib.hid KF
    clear hoo KF hd1 hin aeB hc hcases hof
    go_wp2_with fail
    try simp only[<-HW7.out]
    refine Calls.mono HFL.out ?_
    rintro e w8 ⟨v8,n8,x,rfl,agK,hres,aeD,hf8⟩
    have hz8:=hf8.size
    obtain⟨U1,u1,U2,u2,U3,u3,rfl,ru⟩:=agK
    have CW:=hf8.blk abO.out (HM.out.far (by omega))
    have aeE:=Lib.hid CW
    have e0:=CW.cell 0
    have e1:=CW.cell 1
    have e2:=CW.cell 2
    have e3:=CW.cell 3
    have f0:=CW.frozen 0
    have f1:=CW.frozen 1
    have f2:=CW.frozen 2
    have f3:=CW.frozen 3
    have ln:=CW.lt
    have KG:=hf8.blk Zo.out (HM.out.far (by omega))
    have HF8:=Lib.hid (HF7.out.trans hf8)
    have agL:=Lib.hid aeD
    obtain⟨w9,hw9⟩:∃W,W=((((w8.setCell ⟨w1.heap.size,0,none⟩ (.bool n8.leaf)).setCell ⟨w1.heap.size,1,none⟩ (.slice U1 n8.ents.length u1)).setCell ⟨w1.heap.size,2,none⟩ (.slice U2 n8.kids.length u2)).setCell ⟨w1.heap.size,3,none⟩ (.slice U3 n8.keys.length u3)):=⟨_,rfl⟩
    have TG:Fr (fun k=>k=w1.heap.size) w8 w9:=by rw[hw9];exact Fr.nS _ _ _ _
    have hz9:=TG.size
    have HF9:=Lib.hid (Fr.old (S':=fun k=>S k\/k=w1.heap.size) ((HF8.out.more fun _=> .inl).trans (TG.more fun _=> .inr)) (fun k hk=>hk.imp_right fun e=>by omega))
    have Zz:=Lib.hid (agL.out.own HM.out TG aeE.out (by omega) (by omega) (by decide) (by decide) (by decide) (by decide))
    have aeF:=TG.blk KG (by omega)
    have d0:=KG.cell 0
    have d1:=KG.cell 1
    have q0:=KG.frozen 0
    have q1:=KG.frozen 1
    have lp:=KG.lt
    have Ig:=Lib.hid KG
    have Tf:=Lib.hid aeF
    have agM:=Lib.hid (show NF w.heap.size w8 (aP n8.leaf U1 n8.ents.length u1 U2 n8.kids.length u2 U3 n8.keys.length u3) n8 from⟨U1,u1,U2,u2,U3,u3,rfl,ru⟩)
    have agN:=Lib.hid (NF.frP agM.out aeE.out TG)
    have HW9:=Lib.hid hw9
    unfold aP
    clear hf8 aeD ru CW KG aeF TG hw9
    rcases hres with⟨hok,rfl⟩ | ⟨herr,rfl⟩
    ·have aeG:o=Tp.aC room (Tp.fA n8) ofl.2 id n8:=by rw[HOO.out,Tp.CO hok]
     have ab8:NB n8/\Tp.cnt n8<=600+50*(f+1):=by
      rcases HCS.out n8 hok with h | ⟨j,pg,hj,h⟩
      ·rw[h];exact⟨ZG.out,ab7.out⟩
      ·have h2:=ab1 (pg:=pg) ZG.out aex.out hj
       rw[h]
       exact⟨h2.1,Nat.le_trans h2.2 (by have:=ab7.out;unfold Tp.cnt at this;omega)⟩
     have HO2:=Lib.hid aeG
     have HST:=Lib.hid (l9 HM.out u root er r (Tp.fA n8) ofl.2 id HID.out (aP n8.leaf U1 n8.ents.length u1 U2 n8.kids.length u2 U3 n8.keys.length u3) n8 ab8.1 (by rw[<-HO2.out];exact H3.out) w9 agN.out.ns Zz.out)
     rw[<-HO2.out]at HST
     unfold aP at HST
     have ab9:=Tf
     have HFX:=HF9
     have HCN:=Lib.hid ab8.2
     clear hok aeG ab8
     go_wp2_with fail
     try simp only[<-HW9.out]
     refine Calls.mono HST.out ?_
     rintro e w14 ⟨v,q,x,rfl,⟨Bp,dp,Bq,dq,rfl,rq1,rq2⟩,hres,zx,rO⟩
     have aeo:=rO.size
     have mZ:=rO.blk ab9.out (HM.out.far (by omega))
     have d0:=mZ.cell 0
     have d1:=mZ.cell 1
     have f0:=mZ.frozen 0
     have f1:=mZ.frozen 1
     have lp:=mZ.lt
     have xg:=Lib.hid mZ
     have Xi:=Lib.hid (HFX.out.trans rO)
     have KA:=Lib.hid (zx.less HM.out (show r<=r by omega))
     have HPI:=Lib.hid (LO.lower rq1 (show w.heap.size<=_ by omega))
     have HPK:=Lib.hid (LO.lower rq2 (show w.heap.size<=_ by omega))
     have wZ:=Lib.hid (show(o.1= .ok q/\x=0/\Tp.PB q (600+50*(f+1)))\/(o.1= .error 2/\x=2)from hres.imp (fun h=>⟨h.1,h.2.1,h.2.2.mono HCN.out⟩) (fun h=>h))
     unfold qI
     clear rO zx rq1 rq2 hres mZ
     go_wp2
     try simp only[Exit.inBlock,Exit.then]
     refine bodyPost_ret (aO dM rfl rfl (xg.out.gJ _ _) rfl) rfl ?_
     exact jo HM.out Xi.out KA.out xg.out (Nat.le_refl _) hsz (by omega) (Fr.gJ _ _) (uz (LO.frB HPI.out (Fr.gJ _ _) (fun g hg e=>aB HPI.out xg.out (by decide) (e ▸ hg))) (LO.frB HPK.out (Fr.gJ _ _) (fun g hg e=>aB HPK.out xg.out (by decide) (e ▸ hg)))) wZ.out
    ·have hend:o=(.error 2,ofl.2):=by rw[HOO.out,Tp.zy herr]
     have HE:=Lib.hid hend
     clear herr hend
     go_wp2
     try simp only[Exit.inBlock,Exit.then]
     try simp only[<-HW9.out]
     refine bodyPost_ret (aO dM rfl rfl (Tf.out.gJ _ _) rfl) rfl ?_
     exact jo HM.out HF9.out (by rw[HE.out];exact Zz.out) Tf.out (Nat.le_refl _) hsz (by omega) (Fr.gJ _ _) (Cj _ _) (.inr ⟨by rw[HE.out],rfl⟩)
   ·have hoo:o=Tp.aC room (Tp.fA ns) oc.2 id ns:=by
     rw[HCR.out];unfold Tp.dU;rw[if_neg hc,Tp.CO rfl]
    have HOO:=Lib.hid hoo
    have HST:=Lib.hid (l9 HM.out u root er (r+6) (Tp.fA ns) oc.2 id HID.out (aP ns.leaf S1 ns.ents.length s1 S2 ns.kids.length s2 S3 ns.keys.length s3) ns ZG.out (by rw[<-HOO.out];exact H3.out) w7 aeA.out.ns Tt.out)
    rw[<-HOO.out]at HST
    unfold aP at HST
    have ab9:=Zo
    have HFX:=HF7
    have HCN:=ab7
    have hcond:((p.1.length:Int)==1)=false\/((p.1.length:Int)==1)=true/\¬1<(ns.kids.length:Int):=by
     by_cases h1:p.1.length=1
     ·exact .inr ⟨by rw[beq_iff_eq];omega,by omega⟩
     ·exact .inl (by rw[beq_eq_false_iff_ne];omega)
    clear hc hoo
    rcases hcond with hc1 | ⟨hc1,hc2⟩
    all_goals
     go_wp2_with fail
     try simp only[<-HW7.out]
     refine Calls.mono HST.out ?_
     rintro e w14 ⟨v,q,x,rfl,⟨Bp,dp,Bq,dq,rfl,rq1,rq2⟩,hres,zx,rO⟩
     have aeo:=rO.size
     have mZ:=rO.blk ab9.out (HM.out.far (by omega))
     have d0:=mZ.cell 0
     have d1:=mZ.cell 1
     have f0:=mZ.frozen 0
     have f1:=mZ.frozen 1
     have lp:=mZ.lt
     have xg:=Lib.hid mZ
     have Xi:=Lib.hid (HFX.out.trans rO)
     have KA:=Lib.hid (zx.less HM.out (show r<=r+6 by omega))
     have HPI:=Lib.hid (LO.lower rq1 (show w.heap.size<=_ by omega))
     have HPK:=Lib.hid (LO.lower rq2 (show w.heap.size<=_ by omega))
     have wZ:=Lib.hid (show(o.1= .ok q/\x=0/\Tp.PB q (600+50*(f+1)))\/(o.1= .error 2/\x=2)from hres.imp (fun h=>⟨h.1,h.2.1,h.2.2.mono HCN.out⟩) (fun h=>h))
     unfold qI
     clear rO zx rq1 rq2 hres mZ
     go_wp2
     try simp only[Exit.inBlock,Exit.then]
     refine bodyPost_ret (aO dM rfl rfl (xg.out.gJ _ _) rfl) rfl ?_
     exact jo HM.out Xi.out KA.out xg.out (Nat.le_refl _) hsz (by omega) (Fr.gJ _ _) (uz (LO.frB HPI.out (Fr.gJ _ _) (fun g hg e=>aB HPI.out xg.out (by decide) (e ▸ hg))) (LO.frB HPK.out (Fr.gJ _ _) (fun g hg e=>aB HPK.out xg.out (by decide) (e ▸ hg)))) wZ.out
end
end Go.Proofs.YteppebbmnojapaaGreatDoor
