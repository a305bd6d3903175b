/- Part of this proof. -/
import Derived.Test.YtjoiajmbfbjnnaaGreatDoorV26
import Derived.Test.YtjoiajmbfbjnnaaGreatDoorV27
set_option maxRecDepth 100000
set_option maxHeartbeats 8000000
namespace Go.Proofs.YtjoiajmbfbjnnaaGreatDoor
open Go.RowKit Go.Shelf
structure DoFn(S:Nat->Prop)(dof:FuncId)(caps:Array Value)(g:List Ent->List Ent)(P:World->Prop):Prop where
 keep:∀ {w w'},P w->Fr S w w'->P w'
 call:∀w A c l,P w->SV entE w A c l->l.length<=1000->Calls Tryz.prog dof (#[.slice A l.length c]++caps) w fun e w'=>∃A' c',e= .returned (.slice A' (g l).length c')/\SV entE w' A' c' (g l)/\Below w.heap.size w w'
 enters:∀ (args:Array Value) (w:World),(callFunc dof args).run Tryz.prog w= .ok (.enter dof args) w
 size:∀l,Nd.esize l<=240->Nd.esize (g l)<=1000
theorem nb_swap{n:Nd.Node}{p:Tp.Part}{i L:Nat}(hf:Nd.fits n=true)(hl:n.leaf=false)(hi:i<n.kids.length)(hp:Tp.PB p L)(hL:L<=2000):NB (Nd.swap n i (i+1) p.1 p.2):=by
 obtain⟨e,h1,h2,h3,h4,_⟩:=Tp.swap_facts hf hl hi hp
 have hk:=Tp.ksize_16 h3
 have:=hp.len
 refine⟨?_,by omega,by omega, ?_,by omega⟩
 ·rw[e];exact Nat.zero_le _
 ·rw[e];show Nd.esize []<=_;simp[Nd.esize]
theorem nb_two{n:Nd.Node}{j:Nat}{pg:Int}(hn:NB n)(hl:n.leaf=false)(hj:j+1<n.kids.length):NB (Nd.swap n j (j+2) [pg] [])/\Tp.cnt (Nd.swap n j (j+2) [pg] [])<=n.kids.length:=by
 rw[Tp.swap_two hl hj]
 have:=hn.i
 have:=hn.k
 have:=hn.ks
 have:=Tp.ksize_td n.keys j
 refine⟨⟨Nat.zero_le _, ?_, ?_, ?_, ?_⟩, ?_⟩
 ·unfold Nd.mkInner;simp only[List.length_append,List.length_take,List.length_drop,List.length_cons,List.length_nil];omega
 ·unfold Nd.mkInner;simp only[List.length_append,List.length_take,List.length_drop,List.length_nil];omega
 ·show Nd.esize []<=_;simp[Nd.esize]
 ·show Nd.ksize (n.keys.take j++ []++n.keys.drop (j+1))<=_;omega
 ·unfold Tp.cnt Nd.mkInner;simp only[List.length_append,List.length_take,List.length_drop,List.length_cons,List.length_nil];omega
section
variable {S:Nat->Prop}{B t:Nat}{room:Int}{disk:Tp.Disk}{TM:Nat->Tp.Pst->World->Prop}
theorem fits_small{n:Nd.Node}(h:Nd.fits n=true):n.ents.length<=300/\Nd.esize n.ents<=240:=by
 obtain⟨hr,hs⟩:=Tp.fits_iff.1 h
 obtain⟨leaf,ents,kids,keys⟩:=n
 cases leaf with
 |true=>
  have hs:Nd.esize ents<=240:=hs
  have:=Nd.esize_len ents
  exact⟨by show ents.length<=_;omega,hs⟩
 |false=>
  obtain⟨rfl,_,_,_⟩:=Nd.right_inner.1 hr
  exact⟨Nat.zero_le _,by show Nd.esize []<=_;simp[Nd.esize]⟩
theorem change_any(M:Mach S B t room disk TM)(u:Nat)(root er:Int){dof:FuncId}{caps:Array Value}{g:List Ent->List Ent}{P:World->Prop}(D:DoFn S dof caps g P)(key:ByteArray):∀ (f d:Nat) (_:d+f=24) (r:Nat) (σ:Tp.Pst) (id:Int) (_:(Tp.pChange room disk g key f σ id).1≠ .error 3) (w:World) (_:P w) (_:On S B t u TM root er (r+8*f) σ w),
  Calls Tryz.prog 154 #[.pointer (some ⟨u,0,none⟩), .int .i64 id, .int .i64 (d:Nat), .string key, .func (.func dof) #[] caps] w (StEnd S B t u TM root er r (Tp.pChange room disk g key f σ id) (600+50*f) w)
 |0,_,_,_,_,_,h3,_,_,_=>absurd rfl h3
 |f+1,d,hdf,r,σ,id,h3,w,hP,h=>by
  obtain⟨n,hv⟩:=Tp.pChange_view h3
  obtain⟨hfit,hid⟩:=M.ht h.tm hv
  have IH:=Lib.hid (fun r σ id h3 w hP h=>change_any M u root er D key f (d+1) (by omega) r σ id h3 w hP h)
  obtain⟨o,ho⟩:∃o,o=Tp.pChange room disk g key (f+1) σ id:=⟨_,rfl⟩
  rw[<-ho]at h3 ⊢
  have hsz:=M.size h.tm
  have hun:u<w.heap.size:=h.self.lt
  have hb1:=(Below.refl w.heap.size w).alloc (Nat.le_refl _) (.cells #[.slice none 0 0, .slice none 0 0] 237)
  have hBp:=Blk.new w 237 #[.slice none 0 0, .slice none 0 0]
  have hL:=Lib.hid (load_any M u root er (r+8*f+6) σ id d n hv (by omega) _ (show On S B t u TM root er (r+8*f+6+2) σ _ from(h.below M hb1).less M (by omega)))
  have HM:=Lib.hid M
  have HD:=Lib.hid D
  have HFIT:=Lib.hid hfit
  have HID:=Lib.hid hid
  have HV:=Lib.hid hv
  have HO:=Lib.hid ho
  have H3:=Lib.hid h3
  have HP:=Lib.hid hP
  have HBp:=Lib.hid hBp
  have HB1:=Lib.hid hb1
  have hd24:d<24:=by omega
  clear h hb1 hBp hid hv ho h3 hP hfit D M
  go_enter Tryz.func154,Tryz.ntmps154
  go_wp2_with fail
  refine Calls.mono hL.out ?_
  rintro e w1 ⟨v,rfl,hnf,hon1,hf1⟩
  obtain⟨N1,c1,N2,c2,N3,c3,rfl,rn⟩:=hnf
  have hz1:=hf1.size
  simp only[World.size_alloc]at hz1
  have hb2:=(Below.refl w1.heap.size w1).alloc (Nat.le_refl _) (.cells #[.bool n.leaf, .slice N1 n.ents.length c1, .slice N2 n.kids.length c2, .slice N3 n.keys.length c3] 32)
  have hNF:=NF.below (lo:=w.heap.size) (v:= .agg #[.bool n.leaf, .slice N1 n.ents.length c1, .slice N2 n.kids.length c2, .slice N3 n.keys.length c3]) ⟨N1,c1,N2,c2,N3,c3,rfl,LO.lower rn.1 (by simp),LO.lower rn.2.1 (by simp),LO.lower rn.2.2 (by simp)⟩ hb2
  have hf01:Fr S w w1:=(Fr.of_below HB1.out).trans hf1
  have HF2:=Lib.hid (hf01.trans (.of_below hb2))
  have HON2:=Lib.hid (hon1.below HM.out hb2)
  have HBp2:=Lib.hid ((hf1.blk HBp.out (HM.out.far hsz)).alloc (.cells #[.bool n.leaf, .slice N1 n.ents.length c1, .slice N2 n.kids.length c2, .slice N3 n.keys.length c3] 32))
  have hBn:=Blk.new w1 32 #[.bool n.leaf, .slice N1 n.ents.length c1, .slice N2 n.kids.length c2, .slice N3 n.keys.length c3]
  have hzz:(w1.alloc (.cells #[.bool n.leaf, .slice N1 n.ents.length c1, .slice N2 n.kids.length c2, .slice N3 n.keys.length c3] 32)).heap.size=w1.heap.size+1:=by simp
  unfold nodeV
  have HNF:=Lib.hid hNF
  have g0:=hBn.cell 0
  have g1:=hBn.cell 1
  have g2:=hBn.cell 2
  have g3:=hBn.cell 3
  have ln:=hBn.lt
  have HBn:=Lib.hid hBn
  cases hlf:n.leaf with
  |true=>
   rw[hlf]at HNF HF2 HON2 HBp2 g0 g1 g2 g3 ln HBn hzz
   have hoo:o=Tp.pStore room (Tp.fuelOf (Nd.mkLeaf (g n.ents))) σ id (Nd.mkLeaf (g n.ents)):=by rw[HO.out];exact Tp.pChange_leaf HV.out hlf
   have HOO:=Lib.hid hoo
   obtain⟨hs1,hs2⟩:=fits_small HFIT.out
   have hsv:SV entE (w1.alloc (.cells #[.bool true, .slice N1 n.ents.length c1, .slice N2 n.kids.length c2, .slice N3 n.keys.length c3] 32)) N1 c1 n.ents:=by
    obtain⟨_,_,_,_,_,_,e,h1,_,_⟩:=HNF.out.ns
    unfold nodeV at e
    simp only[Value.agg.injEq,Array.mk.injEq,List.cons.injEq,Value.slice.injEq,and_true,true_and]at e
    obtain⟨_,⟨rfl,rfl⟩,_⟩:=e
    exact h1
   have hDC:=HD.out.call _ N1 c1 n.ents (HD.out.keep HP.out HF2.out) hsv (by omega)
   have HDC:=Lib.hid hDC
   have HGS:=Lib.hid (HD.out.size n.ents hs2)
   clear hNF hb2 hBn hon1 hf1 hf01 rn hsv hDC hoo hs1 hs2 hlf
   go_wp2_with fail
   rw[HD.out.enters,Oper.upon_enter]
   refine Calls.mono HDC.out ?_
   rintro e w3 ⟨A',c',rfl,hsv3,hb3⟩
   have hz3:=hb3.size
   have hgl:=Nd.esize_len (g n.ents)
   have hgs:=HGS.out
   have hnb:NB (Nd.mkLeaf (g n.ents)):=⟨by show(g n.ents).length<=_;omega,Nat.zero_le _,Nat.zero_le _,by show Nd.esize (g n.ents)<=_;omega,by show Nd.ksize []<=_;simp[Nd.ksize]⟩
   have HST:=Lib.hid (store_any HM.out u root er (r+8*f+6) (Tp.fuelOf (Nd.mkLeaf (g n.ents))) σ id HID.out (.agg #[.bool true, .slice A' (g n.ents).length c', .slice none 0 0, .slice none 0 0]) (Nd.mkLeaf (g n.ents)) hnb (by rw[<-HOO.out];exact H3.out) w3 ⟨A',c',none,0,none,0,rfl,hsv3,sv_nil _,sv_nil _⟩ (HON2.out.below HM.out hb3))
   rw[<-HOO.out]at HST
   have HF3:=Lib.hid (HF2.out.trans (.of_below hb3))
   have HBp3:=Lib.hid (HBp2.out.below hb3 HBp2.out.lt)
   have HCN:=Lib.hid (show Tp.cnt (Nd.mkLeaf (g n.ents))<=600+50*(f+1)by unfold Tp.cnt Nd.mkLeaf;simp only[List.length_nil];omega)
   generalize (g n.ents).length=gl at*
   clear hb3 hsv3 hgl hgs hnb g0 g1 g2 g3 ln
   go_wp2_with fail
   refine Calls.mono HST.out ?_
   rintro e w4 ⟨v,p,x,rfl,⟨Ap,cp,Aq,cq,rfl,rp1,rp2⟩,hres,hon4,hf4⟩
   have hz4:=hf4.size
   have hBp4:=hf4.blk HBp3.out (HM.out.far (by omega))
   have d0:=hBp4.cell 0
   have d1:=hBp4.cell 1
   have f0:=hBp4.frozen 0
   have f1:=hBp4.frozen 1
   have lp:=hBp4.lt
   have HBp4:=Lib.hid hBp4
   have HF4:=Lib.hid (HF3.out.trans hf4)
   have HON4:=Lib.hid (hon4.less HM.out (show r<=r+8*f+6 by omega))
   have HPI:=Lib.hid (LO.lower rp1 (show w.heap.size<=w3.heap.size by omega))
   have HPK:=Lib.hid (LO.lower rp2 (show w.heap.size<=w3.heap.size by omega))
   have HRES:=Lib.hid (show(o.1= .ok p/\x=0/\Tp.PB p (600+50*(f+1)))\/(o.1= .error 2/\x=2)from hres.imp (fun h=>⟨h.1,h.2.1,h.2.2.mono HCN.out⟩) (fun h=>h))
   unfold prtV
   clear hf4 hon4 rp1 rp2 hres hBp4
   go_wp2
   try simp only[Exit.inBlock,Exit.then]
   refine bodyPost_ret (res_cell_tmp part_struct rfl rfl (HBp4.out.put2 _ _) rfl) rfl ?_
   exact st_end HM.out HF4.out HON4.out HBp4.out (Nat.le_refl _) hsz (by omega) (Fr.put2 _ _) (pf_mk (LO.frB HPI.out (Fr.put2 _ _) (fun g hg e=>own_blk_ne HPI.out HBp4.out (by decide) (e ▸ hg))) (LO.frB HPK.out (Fr.put2 _ _) (fun g hg e=>own_blk_ne HPK.out HBp4.out (by decide) (e ▸ hg)))) HRES.out
  |false=>
   rw[hlf]at HNF HF2 HON2 HBp2 g0 g1 g2 g3 ln HBn hzz hb2
   have hnbn:=fits_nb HFIT.out
   have hdw:(d:Int)+1=((d+1:Nat):Int):=by omega
   have hks:Nd.KSrt n.keys:=by
    obtain⟨hr,_⟩:=Tp.fits_iff.1 HFIT.out
    obtain⟨leaf,ents,kids,keys⟩:=n
    obtain rfl:leaf=false:=hlf
    exact((Nd.keys_iff keys).1 (Nd.right_inner.1 hr).2.2.2).2
   have hnk:n.keys.length+1=n.kids.length:=by
    obtain⟨hr,_⟩:=Tp.fits_iff.1 HFIT.out
    obtain⟨leaf,ents,kids,keys⟩:=n
    obtain rfl:leaf=false:=hlf
    exact(Nd.right_inner.1 hr).2.1
   have hci:=Nd.child_le n.keys key
   have HCH:=Lib.hid (nchild_any (.agg #[.bool false, .slice N1 n.ents.length c1, .slice N2 n.kids.length c2, .slice N3 n.keys.length c3]) n key _ HNF.out.ns hnbn hks)
   obtain⟨i,hi⟩:∃i,i=Nd.child n.keys key:=⟨_,rfl⟩
   rw[<-hi]at HCH hci
   have hik:i<n.kids.length:=by omega
   have hoo:o=Tp.chRest room disk id n i (24-f) (Tp.pChange room disk g key f σ (n.kids[i]'hik)):=by
    rw[HO.out,Tp.pChange_inner HV.out hlf, <-hi]
    congr 2
    simp[List.getD,hik]
   obtain⟨oc,hoc⟩:∃x,x=Tp.pChange room disk g key f σ (n.kids[i]'hik):=⟨_,rfl⟩
   have hoc3:oc.1≠ .error 3:=fun hc=>H3.out (by rw[hoo, <-hoc,Tp.chRest_err hc])
   have HIH:=Lib.hid (fun W hP hon=>IH.out (r+6) σ (n.kids[i]'hik) (by rw[<-hoc];exact hoc3) W hP hon)
   rw[<-hoc]at HIH hoo
   rw[<-hdw]at HIH
   clear hdw
   obtain⟨bb,oo,rfl,hbb,gk1⟩:=rn.2.1.ls.int hik
   have HCO:=Lib.hid hoo
   have HOC3:=Lib.hid hoc3
   have HNB:=Lib.hid hnbn
   have HNK:=Lib.hid hnk
   have HLF:=Lib.hid hlf
   have hidx:(i:Int)<n.kids.length:=by omega
   have hkl:n.kids.length<=100000:=hnbn.i
   have gk2:(w1.alloc (.cells #[.bool false, .slice N1 n.ents.length c1, .slice (some ⟨bb,oo,none⟩) n.kids.length c2, .slice N3 n.keys.length c3] 32)).cell? ⟨bb,oo+i,none⟩=some (.int .i64 (n.kids[i]'hik)):=(hb2.cell (p:=⟨bb,oo+i,none⟩) hbb).trans gk1
   clear hNF hb2 hBn hon1 hf1 hf01 rn hnbn hks hnk hci hi hoo hoc hoc3 hlf gk1
   go_wp2_with fail
   generalize (w1.alloc (.cells #[.bool false, .slice N1 n.ents.length c1, .slice (some ⟨bb,oo,none⟩) n.kids.length c2, .slice N3 n.keys.length c3] 32))=w2 at*
   refine HCH.out.mono ?_
   rintro e w3 ⟨rfl,hb3⟩
   have hz3:=hb3.size
   have HF3:=Lib.hid (HF2.out.trans (.of_below hb3))
   have HON3:=Lib.hid (HON2.out.below HM.out hb3)
   have HBp3:=Lib.hid (HBp2.out.below hb3 HBp2.out.lt)
   have hBn3:=HBn.out.below hb3 HBn.out.lt
   have HNF3:=Lib.hid (NF.below HNF.out hb3)
   have gk:=(hb3.cell (p:=⟨bb,oo+i,none⟩) (show bb<w2.heap.size by omega)).trans gk2
   have hbb3:bb<w3.heap.size:=by omega
   have g2:=hBn3.cell 2
   have ln:=hBn3.lt
   have HBn3:=Lib.hid hBn3
   clear hb3 hBn3 gk2 g0 g1 g3
   go_wp2_with fail
   refine Calls.mono (HIH.out w3 (HD.out.keep HP.out HF3.out) (HON3.out.less HM.out (by omega))) ?_
   rintro e w4 ⟨v,p,x,rfl,⟨Ap,cp,Aq,cq,rfl,rp1,rp2⟩,hres,hon4,hf4⟩
   have hz4:=hf4.size
   have hb5:=(Below.refl w4.heap.size w4).alloc (Nat.le_refl _) (.cells #[.slice Ap p.1.length cp, .slice Aq p.2.length cq] 237)
   have HF5:=Lib.hid ((HF3.out.trans hf4).trans (.of_below hb5))
   have HON5:=Lib.hid (hon4.below HM.out hb5)
   have hBp5:=(hf4.blk HBp3.out (HM.out.far (by omega))).alloc (.cells #[.slice Ap p.1.length cp, .slice Aq p.2.length cq] 237)
   have hBp4:=hf4.blk HBp3.out (HM.out.far (by omega))
   have hBn5:=(hf4.blk HBn3.out (HM.out.far (by omega))).alloc (.cells #[.slice Ap p.1.length cp, .slice Aq p.2.length cq] 237)
   have hBt5:=Blk.new w4 237 #[.slice Ap p.1.length cp, .slice Aq p.2.length cq]
   have HNF5:=Lib.hid (NF.below (NF.fr HNF3.out hf4 (fun k hk=>by have:=HM.out.low k hk;omega)) hb5)
   have hzz5:(w4.alloc (.cells #[.slice Ap p.1.length cp, .slice Aq p.2.length cq] 237)).heap.size=w4.heap.size+1:=by simp
   unfold prtV
   rcases hres with⟨hok,rfl,hpb⟩ | ⟨herr,rfl⟩
   case' inr=>
    have hend:o=(.error 2,oc.2):=by rw[HCO.out,Tp.chRest_err herr]
    have HE:=Lib.hid hend
    have d0:=hBp4.cell 0
    have d1:=hBp4.cell 1
    have f0:=hBp4.frozen 0
    have f1:=hBp4.frozen 1
    have lp:=hBp4.lt
    have HBp4:=Lib.hid hBp4
    have HF4:=Lib.hid (HF3.out.trans hf4)
    have HON4:=Lib.hid hon4
    clear hend herr hb5 hf4 hon4 rp1 rp2 hBp5 hBp4 hBn5 hBt5 gk g2
    go_wp2
    try simp only[Exit.inBlock,Exit.then]
    refine bodyPost_ret (res_cell_tmp part_struct rfl rfl ((HBp4.out.put2 _ _).alloc _) rfl) rfl ?_
    exact st_end HM.out HF4.out (by rw[HE.out];exact HON4.out.less HM.out (by omega)) HBp4.out (Nat.le_refl _) hsz (by omega) ((Fr.put2 _ _).trans (.of_below ((Below.refl _ _).alloc (Nat.le_refl _) _))) (pf_nil _ _) (.inr ⟨by rw[HE.out],rfl⟩)
   have hLi:=LO.below rp1 hb5
   have hLk:=LO.below rp2 hb5
   obtain⟨sf1,sf2,sf3,sf4,sf5,_⟩:=Tp.swap_facts (i:=i) HFIT.out HLF.out hik hpb
   have hnbs:=nb_swap (i:=i) HFIT.out HLF.out hik hpb (by omega)
   have hpl:=hpb.len
   have hcr:o=Tp.chStore room id (Tp.pFillIf room disk p oc.2 (Nd.swap n i (i+1) p.1 p.2) i (24-f)):=by rw[HCO.out,Tp.chRest_ok hok]
   have hsw:=swap_any (nodeV n.leaf N1 n.ents.length c1 (some ⟨bb,oo,none⟩) n.kids.length c2 N3 n.keys.length c3) n Ap Aq cp cq i (i+1) p.1 p.2 HLF.out (by omega) (by omega) HNK.out hpb.keys _ (by have:=HNF5.out.ns;unfold nodeV;rw[HLF.out];exact this) HNB.out (LO.sv hLi) (LO.sv hLk) (by omega)
   rw[show(((i+1:Nat)):Int)=(i:Int)+1 by omega]at hsw
   unfold nodeV at hsw
   rw[HLF.out]at hsw
   obtain⟨ns,hns⟩:∃x,x=Nd.swap n i (i+1) p.1 p.2:=⟨_,rfl⟩
   rw[<-hns]at sf1 sf2 sf3 sf4 hnbs hcr hsw
   have hnsl:ns.leaf=false:=by rw[sf1];rfl
   have hpl2:p.1.length<=10000:=by omega
   have hpl3:p.2.length<=10000:=by have:=hpb.keys;omega
   have HSW:=Lib.hid hsw
   have HCR:=Lib.hid hcr
   have HS1:=Lib.hid sf1
   have HS2:=Lib.hid sf2
   have HS3:=Lib.hid sf3
   have HS4:=Lib.hid sf4
   have HS5:=Lib.hid sf5
   have HNBS:=Lib.hid hnbs
   have HNSL:=Lib.hid hnsl
   have HPL:=Lib.hid hpl
   have g0:=hBn5.cell 0
   have g1:=hBn5.cell 1
   have g2:=hBn5.cell 2
   have g3:=hBn5.cell 3
   have ln:=hBn5.lt
   have p0:=hBt5.cell 0
   have p1:=hBt5.cell 1
   have lt5:=hBt5.lt
   have HBp5:=Lib.hid hBp5
   have HBn5:=Lib.hid hBn5
   have HBt5:=Lib.hid hBt5
   clear hok hpb hb5 hf4 hon4 rp1 rp2 hBp5 hBp4 hBn5 hBt5 gk hLi hLk sf1 sf2 sf3 sf4 sf5 hnbs hcr hsw hns hnsl hpl
   go_wp2_with fail
   generalize (w4.alloc (.cells #[.slice Ap p.1.length cp, .slice Aq p.2.length cq] 237))=w5 at*
   refine HSW.out.mono ?_
   rintro e w6 ⟨vs,rfl,hnf6,hb6⟩
   have hz6:=hb6.size
   obtain⟨S1,s1,S2,s2,S3,s3,rfl,rs⟩:=hnf6
   have hBn6:=HBn5.out.below hb6 HBn5.out.lt
   have e0:=hBn6.cell 0
   have e1:=hBn6.cell 1
   have e2:=hBn6.cell 2
   have e3:=hBn6.cell 3
   have f0:=hBn6.frozen 0
   have f1:=hBn6.frozen 1
   have f2:=hBn6.frozen 2
   have f3:=hBn6.frozen 3
   have ln:=hBn6.lt
   have hBt6:=HBt5.out.below hb6 HBt5.out.lt
   have p0:=hBt6.cell 0
   have p1:=hBt6.cell 1
   have lt6:=hBt6.lt
   have hfp:∀a b c d,Fr (fun k=>k=w1.heap.size) w6 ((((w6.setCell ⟨w1.heap.size,0,none⟩ a).setCell ⟨w1.heap.size,1,none⟩ b).setCell ⟨w1.heap.size,2,none⟩ c).setCell ⟨w1.heap.size,3,none⟩ d):=fun a b c d=>Fr.put4e a b c d
   have HFP:=Lib.hid hfp
   have HNS6:=Lib.hid (NF.lower (lo':=w.heap.size) (v:=nodeV ns.leaf S1 ns.ents.length s1 S2 ns.kids.length s2 S3 ns.keys.length s3) ⟨S1,s1,S2,s2,S3,s3,rfl,rs⟩ (by omega))
   have HF6:=Lib.hid (HF5.out.trans (.of_below hb6))
   have HON6:=Lib.hid (HON5.out.below HM.out hb6)
   have HBp6:=Lib.hid (HBp5.out.below hb6 HBp5.out.lt)
   have HBn6:=Lib.hid hBn6
   have hW:∃W,W=((((w6.setCell ⟨w1.heap.size,0,none⟩ (.bool ns.leaf)).setCell ⟨w1.heap.size,1,none⟩ (.slice S1 ns.ents.length s1)).setCell ⟨w1.heap.size,2,none⟩ (.slice S2 ns.kids.length s2)).setCell ⟨w1.heap.size,3,none⟩ (.slice S3 ns.keys.length s3)):=⟨_,rfl⟩
   obtain⟨w7,hw7⟩:=hW
   have hfr7:Fr (fun k=>k=w1.heap.size) w6 w7:=by rw[hw7];exact HFP.out _ _ _ _
   have hBn7:Blk w7 w1.heap.size 32 #[.bool ns.leaf, .slice S1 ns.ents.length s1, .slice S2 ns.kids.length s2, .slice S3 ns.keys.length s3]:=by rw[hw7];exact HBn6.out.put4 _ _ _ _
   have hz7:=hfr7.size
   have HF7:=Lib.hid (Fr.old (S':=fun k=>S k\/k=w1.heap.size) ((HF6.out.more fun _=> .inl).trans (hfr7.more fun _=> .inr)) (fun k hk=>hk.imp_right fun e=>by omega))
   have HON7:=Lib.hid (HON6.out.own HM.out hfr7 HBn6.out (by omega) (by omega) (by decide) (by decide) (by decide) (by decide))
   have HBp7:=Lib.hid (hfr7.blk HBp6.out (by omega))
   have hBt7:=hfr7.blk hBt6 (by omega)
   have HNS7:=Lib.hid (NF.frP HNS6.out HBn6.out hfr7)
   have HW7:=Lib.hid hw7
   have HBn7:=Lib.hid hBn7
   have HBt7:=Lib.hid hBt7
   have HCNS:=Lib.hid (show Tp.cnt ns<=600+50*(f+1)by
    have h1:=HS2.out
    have h2:=HPL.out
    have h3:=HS5.out
    have h4:ns.ents.length=0:=by have:=HS1.out;rw[this];rfl
    unfold Tp.cnt;omega)
   clear hb6 hBn6 hBt6 hfp rs g0 g1 g2 g3 hfr7 hBn7 hBt7
   unfold nodeV
   by_cases hc:p.1.length=1/\1<ns.kids.length
   ·have hoo:o=Tp.chStore room id (Tp.pFill room disk oc.2 ns i (24-f)):=by rw[HCR.out];unfold Tp.pFillIf;rw[if_pos hc]
    obtain⟨ofl,hof⟩:∃x,x=Tp.pFill room disk oc.2 ns i (24-f):=⟨_,rfl⟩
    have hof3:ofl.1≠ .error 3:=fun hcc=>H3.out (by rw[hoo, <-hof,Tp.chStore_err hcc])
    have hd1:d+1=24-f:=by omega
    have hin:i<ns.kids.length:=by have:=HS2.out;omega
    have hnk2:ns.keys.length+1=ns.kids.length:=by
     rcases HS3.out with h | h
     ·exact h
     ·omega
    have HFL:=Lib.hid (fill_any HM.out u root er r w.heap.size oc.2 (nodeV ns.leaf S1 ns.ents.length s1 S2 ns.kids.length s2 S3 ns.keys.length s3) ns i (d+1) HNSL.out hnk2 HS4.out hin hc.2 HNBS.out (by rw[hd1, <-hof];exact hof3) w7 HNS7.out (by omega) (by have:=HF7.out.size;omega) HON7.out)
    rw[hd1, <-hof]at HFL
    rw[<-hof]at hoo
    rw[show(((24-f:Nat)):Int)=(d:Int)+1 by omega]at HFL
    unfold nodeV at HFL
    have hp1:((p.1.length:Int)==1)=true:=by rw[beq_iff_eq];omega
    have hk1:1<(ns.kids.length:Int):=by omega
    have hcases:=fun n' h=>Tp.pFill_cases (room:=room) (disk:=disk) (σ:=oc.2) (n:=ns) (n':=n') (i:=i) (d:=24-f) hin hc.2 h
    rw[<-hof]at hcases
    have HCS:=Lib.hid hcases
    have HOO:=Lib.hid hoo
    have HOF3:=Lib.hid hof3
    clear hoo hof3 hd1 hin hnk2 hc hcases hof
    go_wp2_with fail
    try simp only[<-HW7.out]
    refine Calls.mono HFL.out ?_
    rintro e w8 ⟨v8,n8,x,rfl,hnf8,hres,hon8,hf8⟩
    have hz8:=hf8.size
    obtain⟨U1,u1,U2,u2,U3,u3,rfl,ru⟩:=hnf8
    have hBn8:=hf8.blk HBn7.out (HM.out.far (by omega))
    have HBn8:=Lib.hid hBn8
    have e0:=hBn8.cell 0
    have e1:=hBn8.cell 1
    have e2:=hBn8.cell 2
    have e3:=hBn8.cell 3
    have f0:=hBn8.frozen 0
    have f1:=hBn8.frozen 1
    have f2:=hBn8.frozen 2
    have f3:=hBn8.frozen 3
    have ln:=hBn8.lt
    have hBp8:=hf8.blk HBp7.out (HM.out.far (by omega))
    have HF8:=Lib.hid (HF7.out.trans hf8)
    have HON8:=Lib.hid hon8
    obtain⟨w9,hw9⟩:∃W,W=((((w8.setCell ⟨w1.heap.size,0,none⟩ (.bool n8.leaf)).setCell ⟨w1.heap.size,1,none⟩ (.slice U1 n8.ents.length u1)).setCell ⟨w1.heap.size,2,none⟩ (.slice U2 n8.kids.length u2)).setCell ⟨w1.heap.size,3,none⟩ (.slice U3 n8.keys.length u3)):=⟨_,rfl⟩
    have hfr9:Fr (fun k=>k=w1.heap.size) w8 w9:=by rw[hw9];exact Fr.put4e _ _ _ _
    have hz9:=hfr9.size
    have HF9:=Lib.hid (Fr.old (S':=fun k=>S k\/k=w1.heap.size) ((HF8.out.more fun _=> .inl).trans (hfr9.more fun _=> .inr)) (fun k hk=>hk.imp_right fun e=>by omega))
    have HON9:=Lib.hid (HON8.out.own HM.out hfr9 HBn8.out (by omega) (by omega) (by decide) (by decide) (by decide) (by decide))
    have hBp9:=hfr9.blk hBp8 (by omega)
    have d0:=hBp8.cell 0
    have d1:=hBp8.cell 1
    have q0:=hBp8.frozen 0
    have q1:=hBp8.frozen 1
    have lp:=hBp8.lt
    have HBp8:=Lib.hid hBp8
    have HBp9:=Lib.hid hBp9
    have HNF8:=Lib.hid (show NF w.heap.size w8 (nodeV n8.leaf U1 n8.ents.length u1 U2 n8.kids.length u2 U3 n8.keys.length u3) n8 from⟨U1,u1,U2,u2,U3,u3,rfl,ru⟩)
    have HNF9:=Lib.hid (NF.frP HNF8.out HBn8.out hfr9)
    have HW9:=Lib.hid hw9
    unfold nodeV
    clear hf8 hon8 ru hBn8 hBp8 hBp9 hfr9 hw9
    rcases hres with⟨hok,rfl⟩ | ⟨herr,rfl⟩
    ·have hooo:o=Tp.pStore room (Tp.fuelOf n8) ofl.2 id n8:=by rw[HOO.out,Tp.chStore_ok hok]
     have hnb8:NB n8/\Tp.cnt n8<=600+50*(f+1):=by
      rcases HCS.out n8 hok with h | ⟨j,pg,hj,h⟩
      ·rw[h];exact⟨HNBS.out,HCNS.out⟩
      ·have h2:=nb_two (pg:=pg) HNBS.out HNSL.out hj
       rw[h]
       exact⟨h2.1,Nat.le_trans h2.2 (by have:=HCNS.out;unfold Tp.cnt at this;omega)⟩
     have HO2:=Lib.hid hooo
     have HST:=Lib.hid (store_any HM.out u root er r (Tp.fuelOf n8) ofl.2 id HID.out (nodeV n8.leaf U1 n8.ents.length u1 U2 n8.kids.length u2 U3 n8.keys.length u3) n8 hnb8.1 (by rw[<-HO2.out];exact H3.out) w9 HNF9.out.ns HON9.out)
     rw[<-HO2.out]at HST
     unfold nodeV at HST
     have HBpX:=HBp9
     have HFX:=HF9
     have HCN:=Lib.hid hnb8.2
     clear hok hooo hnb8
     go_wp2_with fail
     try simp only[<-HW9.out]
     refine Calls.mono HST.out ?_
     rintro e w14 ⟨v,q,x,rfl,⟨Bp,dp,Bq,dq,rfl,rq1,rq2⟩,hres,hon14,hf14⟩
     have hz14:=hf14.size
     have hBp14:=hf14.blk HBpX.out (HM.out.far (by omega))
     have d0:=hBp14.cell 0
     have d1:=hBp14.cell 1
     have f0:=hBp14.frozen 0
     have f1:=hBp14.frozen 1
     have lp:=hBp14.lt
     have HBp14:=Lib.hid hBp14
     have HF14:=Lib.hid (HFX.out.trans hf14)
     have HON14:=Lib.hid (hon14.less HM.out (show r<=r by omega))
     have HPI:=Lib.hid (LO.lower rq1 (show w.heap.size<=_ by omega))
     have HPK:=Lib.hid (LO.lower rq2 (show w.heap.size<=_ by omega))
     have HRES:=Lib.hid (show(o.1= .ok q/\x=0/\Tp.PB q (600+50*(f+1)))\/(o.1= .error 2/\x=2)from hres.imp (fun h=>⟨h.1,h.2.1,h.2.2.mono HCN.out⟩) (fun h=>h))
     unfold prtV
     clear hf14 hon14 rq1 rq2 hres hBp14
     go_wp2
     try simp only[Exit.inBlock,Exit.then]
     refine bodyPost_ret (res_cell_tmp part_struct rfl rfl (HBp14.out.put2 _ _) rfl) rfl ?_
     exact st_end HM.out HF14.out HON14.out HBp14.out (Nat.le_refl _) hsz (by omega) (Fr.put2 _ _) (pf_mk (LO.frB HPI.out (Fr.put2 _ _) (fun g hg e=>own_blk_ne HPI.out HBp14.out (by decide) (e ▸ hg))) (LO.frB HPK.out (Fr.put2 _ _) (fun g hg e=>own_blk_ne HPK.out HBp14.out (by decide) (e ▸ hg)))) HRES.out
    ·have hend:o=(.error 2,ofl.2):=by rw[HOO.out,Tp.chStore_err herr]
     have HE:=Lib.hid hend
     clear herr hend
     go_wp2
     try simp only[Exit.inBlock,Exit.then]
     try simp only[<-HW9.out]
     refine bodyPost_ret (res_cell_tmp part_struct rfl rfl (HBp9.out.put2 _ _) rfl) rfl ?_
     exact st_end HM.out HF9.out (by rw[HE.out];exact HON9.out) HBp9.out (Nat.le_refl _) hsz (by omega) (Fr.put2 _ _) (pf_nil _ _) (.inr ⟨by rw[HE.out],rfl⟩)
   ·have hoo:o=Tp.pStore room (Tp.fuelOf ns) oc.2 id ns:=by
     rw[HCR.out];unfold Tp.pFillIf;rw[if_neg hc,Tp.chStore_ok rfl]
    have HOO:=Lib.hid hoo
    have HST:=Lib.hid (store_any HM.out u root er (r+6) (Tp.fuelOf ns) oc.2 id HID.out (nodeV ns.leaf S1 ns.ents.length s1 S2 ns.kids.length s2 S3 ns.keys.length s3) ns HNBS.out (by rw[<-HOO.out];exact H3.out) w7 HNS7.out.ns HON7.out)
    rw[<-HOO.out]at HST
    unfold nodeV at HST
    have HBpX:=HBp7
    have HFX:=HF7
    have HCN:=HCNS
    have hcond:((p.1.length:Int)==1)=false\/((p.1.length:Int)==1)=true/\¬1<(ns.kids.length:Int):=by
     by_cases h1:p.1.length=1
     ·exact .inr ⟨by rw[beq_iff_eq];omega,by omega⟩
     ·exact .inl (by rw[beq_eq_false_iff_ne];omega)
    clear hc hoo
    rcases hcond with hc1 | ⟨hc1,hc2⟩
    all_goals
     go_wp2_with fail
     try simp only[<-HW7.out]
     refine Calls.mono HST.out ?_
     rintro e w14 ⟨v,q,x,rfl,⟨Bp,dp,Bq,dq,rfl,rq1,rq2⟩,hres,hon14,hf14⟩
     have hz14:=hf14.size
     have hBp14:=hf14.blk HBpX.out (HM.out.far (by omega))
     have d0:=hBp14.cell 0
     have d1:=hBp14.cell 1
     have f0:=hBp14.frozen 0
     have f1:=hBp14.frozen 1
     have lp:=hBp14.lt
     have HBp14:=Lib.hid hBp14
     have HF14:=Lib.hid (HFX.out.trans hf14)
     have HON14:=Lib.hid (hon14.less HM.out (show r<=r+6 by omega))
     have HPI:=Lib.hid (LO.lower rq1 (show w.heap.size<=_ by omega))
     have HPK:=Lib.hid (LO.lower rq2 (show w.heap.size<=_ by omega))
     have HRES:=Lib.hid (show(o.1= .ok q/\x=0/\Tp.PB q (600+50*(f+1)))\/(o.1= .error 2/\x=2)from hres.imp (fun h=>⟨h.1,h.2.1,h.2.2.mono HCN.out⟩) (fun h=>h))
     unfold prtV
     clear hf14 hon14 rq1 rq2 hres hBp14
     go_wp2
     try simp only[Exit.inBlock,Exit.then]
     refine bodyPost_ret (res_cell_tmp part_struct rfl rfl (HBp14.out.put2 _ _) rfl) rfl ?_
     exact st_end HM.out HF14.out HON14.out HBp14.out (Nat.le_refl _) hsz (by omega) (Fr.put2 _ _) (pf_mk (LO.frB HPI.out (Fr.put2 _ _) (fun g hg e=>own_blk_ne HPI.out HBp14.out (by decide) (e ▸ hg))) (LO.frB HPK.out (Fr.put2 _ _) (fun g hg e=>own_blk_ne HPK.out HBp14.out (by decide) (e ▸ hg)))) HRES.out
end
end Go.Proofs.YtjoiajmbfbjnnaaGreatDoor
