/- Part of this proof. -/
import Derived.Test.YteppebbmnojapaaGreatDoorL25
set_option maxRecDepth 100000
set_option maxHeartbeats 8000000
namespace Go.Proofs.YteppebbmnojapaaGreatDoor
open Go.RowKit Go.Shelf
theorem dM:lW 300 2:=⟨_,Tryz.underlying300,by kernel_rfl⟩
theorem Blk.gJ{w:World}{g:Nat}{ty:TypeId}{a b:Value}(h:Blk w g ty #[a,b])(a' b':Value):Blk ((w.setCell ⟨g,0,none⟩ a').setCell ⟨g,1,none⟩ b') g ty #[a',b']:=by
 have:=(h.aW 0 a').aW 1 b'
 simpa using this
theorem Fr.gJ{w:World}{g:Nat}(a' b':Value):Fr (fun k=>k=g) w ((w.setCell ⟨g,0,none⟩ a').setCell ⟨g,1,none⟩ b'):=(Fr.aW (S:=fun k=>k=g) rfl _).trans (Fr.aW (S:=fun k=>k=g) rfl _)
theorem Kt{n a b:Nd.Node}{k:ByteArray}(h:Nd.split n=some (a,k,b))(hn:NB n):NB a/\NB b:=by
 obtain⟨h1,_,_,_,_,s1,s2,s3,s4⟩:=Tp.rG h
 have:=hn.e
 have:=hn.i
 have:=hn.k
 have:=hn.es
 have:=hn.ks
 unfold Tp.cnt at h1
 have:=s1.length_le
 have:=s2.length_le
 have:=s3.length_le
 have:=s4.length_le
 have:=Tp.FM s1
 have:=Tp.FM s2
 have:=Tp.yu s3
 have:=Tp.yu s4
 have hk1:a.kids.length<=n.kids.length/\b.kids.length<=n.kids.length:=by
  obtain⟨hr,h2⟩:=Tp.rF h
  unfold Nd.split at h
  rw[if_neg (by rw[hr];rintro(h | h); · cases h
                ·exact h2 h)]at h
  split at h
  ·split at h
   ·cases h
   ·simp only[Option.some.injEq,Prod.mk.injEq]at h
    obtain⟨rfl,_,rfl⟩:=h
    exact⟨Nat.zero_le _,Nat.zero_le _⟩
  ·split at h
   ·cases h
   ·simp only[Option.some.injEq,Prod.mk.injEq]at h
    obtain⟨rfl,_,rfl⟩:=h
    exact⟨by simp[Nd.ah,List.length_take];omega,by simp[Nd.ah]⟩
 exact⟨⟨by omega,by omega,by omega,by omega,by omega⟩,⟨by omega,by omega,by omega,by omega,by omega⟩⟩
section
variable {S:Nat->Prop}{B t:Nat}{room:Int}{disk:Tp.aA}{TM:Nat->Tp.Pst->World->Prop}
def WR(S:Nat->Prop)(B t u:Nat)(TM:Nat->Tp.Pst->World->Prop)(root er:Int)(r:Nat)(o:Except Int Tp.Part × Tp.Pst)(L:Nat)(w:World)(e:Ending)(w':World):Prop:=
 ∃v p,∃x:Int,e= .returned (.tuple #[v, .int .i64 x])/\PF w.heap.size w' v p/\((o.1= .ok p/\x=0/\Tp.PB p L)\/(o.1= .error 2/\x=2))/\On S B t u TM root er r o.2 w'/\Fr S w w'
theorem jo(M:fU S B t room disk TM){u r:Nat}{root er x:Int}{o:Except Int Tp.Part × Tp.Pst}{L:Nat}{p:Tp.Part}{w w4 wf:World}{g:Nat}{cs:Array Value}{v:Value}(hF:Fr S w w4)(hon:On S B t u TM root er r o.2 w4)(hB:Blk w4 g 300 cs)(hg:w.heap.size<=g)(hsz:B<=w.heap.size)(hgu:g≠u)(hfr:Fr (fun k=>k=g) w4 wf)(hp:PF w.heap.size wf v p)(hr:(o.1= .ok p/\x=0/\Tp.PB p L)\/(o.1= .error 2/\x=2)):WR S B t u TM root er r o L w (.returned (.tuple #[v, .int .i64 x])) wf:=
 ⟨v,p,x,rfl,hp,hr,hon.own M hfr hB (by omega) hgu (by decide) (by decide) (by decide) (by decide),Fr.old (S':=fun k=>S k\/k=g) ((hF.more fun _=> .inl).trans (hfr.more fun _=> .inr)) (fun k hk=>hk.imp_right fun e=>by omega)⟩
theorem uz{lo:Nat}{w:World}{v1 v2:Value}{p:Tp.Part}(h1:LO aV 3 w lo v1 p.1)(h2:LO keyE 9 w lo v2 p.2):PF lo w (.agg #[v1,v2]) p:=by
 obtain⟨A,c,rfl⟩:=h1.form
 obtain⟨A',c',rfl⟩:=h2.form
 exact⟨A,c,A',c',rfl,h1,h2⟩
theorem On.row(M:fU S B t room disk TM){u r:Nat}{root er:Int}{σ:Tp.Pst}{w w':World}{b e s n:Nat}{v:Value}{xs:List Value}(h:On S B t u TM root er r σ w)(ho:w.ownsRow b e s v n xs)(hb:B<=b)(h0:e≠134)(h1:e≠64)(h2:e≠122)(h3:e≠119)(h4:e≠117)(hg:w.grownBy w' v.ownBlock):On S B t u TM root er r σ w':=by
 refine⟨M.up h.tm (Fr.bW hg) (fun k hk=> ?_),h.self.grown hg (fun e=>aB ho h.self h0 e.symm),h.hu⟩
 obtain⟨cs,hcs⟩:=fG ho hk
 refine⟨Nat.le_trans hb (World.ownsRow.lt ho k hk).1,fun o h=> ?_⟩
 have e:o= .cells cs e:=by have:=h.symm.trans hcs;injection this
 subst e
 exact⟨fun cs' e=>by injection e with _ e;exact h1 e,fun cs' e=>by injection e with _ e;exact h2 e,fun cs' e=>by injection e with _ e;exact h3 e,fun cs' e=>by injection e with _ e;exact h4 e,fun _ _ e=>by cases e⟩
theorem LO.WS{α:Type}{E:Enc α}{ty:TypeId}{w:World}{base s n:Nat}{v:Value}{a b:List α}{xs:List Value}(hs:E.size=s)(hn:n=(a++b).length)(hx:xs=E.cells (a++b))(h:w.ownsRow base ty s v n xs):LO E ty w base v (a++b):=by
 subst hs hn hx;exact h
theorem LO.WT{α:Type}{E:Enc α}{ty:TypeId}{w w':World}{base b e s n:Nat}{v v2:Value}{l:List α}{xs:List Value}(h:LO E ty w base v l)(ho:w.ownsRow b e s v2 n xs)(hne:ty≠e)(hg:w.grownBy w' v2.ownBlock):LO E ty w' base v l:=I8 h ho hne hg
theorem jY{w:World}{g:Nat}{ty:TypeId}{cs:Array Value}(h:w.heap.size=g):Blk (w.alloc (.cells cs ty)) g ty cs:=by subst h;exact Blk.new _ _ _
theorem Cj(lo:Nat)(w:World):PF lo w (.agg #[.slice none 0 0, .slice none 0 0]) ([], []):=⟨none,0,none,0,rfl,LO.nil_ _ _,LO.nil_ _ _⟩
theorem l9(M:fU S B t room disk TM)(u:Nat)(root er:Int)(r:Nat):∀ (f:Nat) (σ:Tp.Pst) (id:Int) (_:fJ id) (v:Value) (n:Nd.Node) (_:NB n) (_:(Tp.aC room f σ id n).1≠ .error 3) (w:World) (_:NS w v n) (_:On S B t u TM root er r σ w),
  Calls Tryz.prog 204 #[.pointer (some ⟨u,0,none⟩), .int .i64 id,v] w (WR S B t u TM root er r (Tp.aC room f σ id n) (Tp.cnt n) w)
 |0,_,_,_,_,_,_,h3,_,_,_=>absurd rfl h3
 |f+1,σ,id,hid,v,n,hnb,h3,w,hns,h=>by
  have IH:=Lib.hid (l9 M u root er r f)
  obtain⟨Ae,ce,Ai,ci,Ay,cy,rfl,q1,q2,q3⟩:=hns
  unfold aP
  obtain⟨o,ho⟩:∃o,o=Tp.aC room (f+1) σ id n:=⟨_,rfl⟩
  rw[<-ho]at h3 ⊢
  have hb1:=(Below.refl w.heap.size w).alloc (Nat.le_refl _) (.cells #[.bool n.leaf, .slice Ae n.ents.length ce, .slice Ai n.kids.length ci, .slice Ay n.keys.length cy] 146)
  have hb2:=hb1.alloc hb1.size (.cells #[.slice none 0 0, .slice none 0 0] 300)
  have hBn:=(Blk.new w 146 #[.bool n.leaf, .slice Ae n.ents.length ce, .slice Ai n.kids.length ci, .slice Ay n.keys.length cy]).alloc (.cells #[.slice none 0 0, .slice none 0 0] 300)
  have hBp:=Blk.new (w.alloc (.cells #[.bool n.leaf, .slice Ae n.ents.length ce, .slice Ai n.kids.length ci, .slice Ay n.keys.length cy] 146)) 300 #[.slice none 0 0, .slice none 0 0]
  simp only[World.size_alloc]at hBp
  have abK:∀W,Below w.heap.size w W->NS W (.agg #[.bool n.leaf, .slice Ae n.ents.length ce, .slice Ai n.kids.length ci, .slice Ay n.keys.length cy]) n:=fun W hbW=>⟨Ae,ce,Ai,ci,Ay,cy,rfl,q1.up hbW,q2.up hbW,q3.up hbW⟩
  have hEM:=Lib.hid (fun W hbW=>NH _ n W (abK W hbW) hnb)
  have hsz:=M.size h.tm
  have hun:u<w.heap.size:=h.self.lt
  have g0:=hBn.cell 0
  have g1:=hBn.cell 1
  have g2:=hBn.cell 2
  have g3:=hBn.cell 3
  have ln:=hBn.lt
  have H2:=Lib.hid ((h.below M hb1).below M (Below.alloc (Below.refl _ _) (Nat.le_refl _) (.cells #[.slice none 0 0, .slice none 0 0] 300)))
  have HB2:=Lib.hid hb2
  have HBn:=Lib.hid hBn
  have HBp:=Lib.hid hBp
  have HM:=Lib.hid M
  have HNS:=Lib.hid abK
  have HNB:=Lib.hid hnb
  have HID:=Lib.hid hid
  have HO:=Lib.hid ho
  have H3:=Lib.hid h3
  clear h hb1 hb2 hBn hBp abK hnb hid ho h3 q1 q2 q3 M
  by_cases h0:n.ents.length+n.kids.length=0
  ·have hde:decide (n.ents.length+n.kids.length=0)=true:=decide_eq_true h0
   rw[hde]at hEM
   have hoo:o=(.ok ([], []),Tp.dK σ id):=by rw[HO.out];unfold Tp.aC;rw[if_pos h0]
   have HOO:=Lib.hid hoo
   have HDR:=Lib.hid (fun σ W (hT:TM r σ W)=>HM.out.drop id hT HID.out)
   clear hde hoo h0
   go_enter Tryz.func204,Tryz.ntmps204
   go_wp2_with fail
   refine(hEM.out _ HB2.out).mono ?_
   rintro e w1 ⟨rfl,hb3⟩
   have h3:=H2.out.below HM.out hb3
   have c0:w1.cell? ⟨u,0,none⟩=some (.pointer (some ⟨t,0,none⟩)):=h3.self.cell 0
   have lu:=h3.self.lt
   have HF:=Lib.hid ((Fr.of_below HB2.out).trans (.of_below hb3):Fr S w w1)
   have HBp:=Lib.hid (HBp.out.below hb3 HBp.out.lt)
   have H3':=Lib.hid h3
   clear h3 hb3 g0 g1 g2 g3 ln
   go_wp2_with fail
   refine(HDR.out _ _ H3'.out.tm).mono ?_
   rintro e w2 ⟨rfl,ht2,hf2⟩
   have h4:=H3'.out.step HM.out ht2 hf2
   have hBp:=hf2.blk HBp.out (HM.out.far (by omega))
   have d0:=hBp.cell 0
   have d1:=hBp.cell 1
   have f0:=hBp.frozen 0
   have f1:=hBp.frozen 1
   have lp:=hBp.lt
   have H4:=Lib.hid h4
   have HF2:=Lib.hid (HF.out.trans hf2)
   have HBP:=Lib.hid hBp
   clear h4 ht2 hf2 hBp
   go_wp2
   try simp only[Exit.inBlock,Exit.then]
   refine bodyPost_ret (aO dM rfl rfl (HBP.out.gJ _ _) rfl) rfl ?_
   exact jo HM.out HF2.out (by rw[HOO.out];exact H4.out) HBP.out (by omega) hsz (by omega) (Fr.gJ _ _) (Cj _ _) (.inl ⟨by rw[HOO.out],rfl,Tp.PB.nil _⟩)
  ·have hde:decide (n.ents.length+n.kids.length=0)=false:=decide_eq_false h0
   rw[hde]at hEM
   have hrt:Nd.right n=true:=Tp.Kr h0 (by rw[<-HO.out];exact H3.out)
   have HSP:=Lib.hid (fun W hbW=>SH _ n hrt W (HNS.out W hbW) HNB.out)
   have HSZ:=Lib.hid (fun W hbW=>x9 _ n W (HNS.out W hbW) HNB.out)
   have HRT:=Lib.hid hrt
   have HN0:=Lib.hid h0
   clear hde hrt h0
   go_enter Tryz.func204,Tryz.ntmps204
   go_wp2_with fail
   refine(hEM.out _ HB2.out).mono ?_
   rintro e w1 ⟨rfl,hb3⟩
   have adY:Below w.heap.size w w1:=HB2.out.trans (hb3.mono HB2.out.size)
   have hBn:=HBn.out.below hb3 HBn.out.lt
   have g0:=hBn.cell 0
   have g1:=hBn.cell 1
   have g2:=hBn.cell 2
   have g3:=hBn.cell 3
   have ln:=hBn.lt
   have HB3:=Lib.hid adY
   have Ob:=Lib.hid hBn
   have Em:=Lib.hid (HBp.out.below hb3 HBp.out.lt)
   have H3':=Lib.hid (H2.out.below HM.out hb3)
   clear hb3 adY hBn
   go_wp2_with fail
   refine(HSP.out _ HB3.out).mono ?_
   rintro e w2 ⟨va,vb,key,a,b,rfl,na,nb,hb4,hsp⟩
   have adZ:Below w.heap.size w w2:=HB3.out.trans (hb4.mono HB3.out.size)
   have hBn:=Ob.out.below hb4 Ob.out.lt
   have g0:=hBn.cell 0
   have g1:=hBn.cell 1
   have g2:=hBn.cell 2
   have g3:=hBn.cell 3
   have ln:=hBn.lt
   obtain⟨A1,k1,A2,k2,A3,k3,rfl,ra⟩:=na
   obtain⟨B1,j1,B2,j2,B3,j3,rfl,rb⟩:=nb
   have HB4:=Lib.hid adZ
   have ad1:=Lib.hid hBn
   have wY:=Lib.hid (Em.out.below hb4 Em.out.lt)
   have H4:=Lib.hid (H3'.out.below HM.out hb4)
   have HRA:=Lib.hid ra
   have HRB:=Lib.hid rb
   have ad2:=Lib.hid hsp
   clear hb4 adZ hBn ra rb hsp
   unfold aP
   have hx1:=(Below.refl w2.heap.size w2).alloc (Nat.le_refl _) (.cells #[.bool a.leaf, .slice A1 a.ents.length k1, .slice A2 a.kids.length k2, .slice A3 a.keys.length k3] 146)
   have hx2:=hx1.alloc hx1.size (.cells #[.bool b.leaf, .slice B1 b.ents.length j1, .slice B2 b.kids.length j2, .slice B3 b.keys.length j3] 146)
   have hBa:=(Blk.new w2 146 #[.bool a.leaf, .slice A1 a.ents.length k1, .slice A2 a.kids.length k2, .slice A3 a.keys.length k3]).alloc (.cells #[.bool b.leaf, .slice B1 b.ents.length j1, .slice B2 b.kids.length j2, .slice B3 b.keys.length j3] 146)
   have hBb:=Blk.new (w2.alloc (.cells #[.bool a.leaf, .slice A1 a.ents.length k1, .slice A2 a.kids.length k2, .slice A3 a.keys.length k3] 146)) 146 #[.bool b.leaf, .slice B1 b.ents.length j1, .slice B2 b.kids.length j2, .slice B3 b.keys.length j3]
   simp only[World.size_alloc]at hBb
   have hz2:((w2.alloc (.cells #[.bool a.leaf, .slice A1 a.ents.length k1, .slice A2 a.kids.length k2, .slice A3 a.keys.length k3] 146)).alloc (.cells #[.bool b.leaf, .slice B1 b.ents.length j1, .slice B2 b.kids.length j2, .slice B3 b.keys.length j3] 146)).heap.size=w2.heap.size+2:=by simp
   have HX2:=Lib.hid hx2
   have HBa:=Lib.hid hBa
   have HBb:=Lib.hid hBb
   have ahH:w.heap.size+2<=w2.heap.size:=by have:=wY.out.lt;omega
   clear hx1 hx2 hBa hBb
   go_wp2_with fail
   generalize (w2.alloc (.cells #[.bool a.leaf, .slice A1 a.ents.length k1, .slice A2 a.kids.length k2, .slice A3 a.keys.length k3] 146)).alloc (.cells #[.bool b.leaf, .slice B1 b.ents.length j1, .slice B2 b.kids.length j2, .slice B3 b.keys.length j3] 146)=w2' at*
   refine(HSZ.out _ (HB4.out.trans (HX2.out.mono HB4.out.size))).mono ?_
   rintro e w3 ⟨rfl,hb5⟩
   have hz3:=hb5.size
   have h24:Below w2.heap.size w2 w3:=HX2.out.trans (hb5.mono (by omega))
   have HB5:=Lib.hid (HB4.out.trans (h24.mono HB4.out.size))
   have Eo:=Lib.hid (ad1.out.below h24 ad1.out.lt)
   have Oc:=Lib.hid (wY.out.below h24 wY.out.lt)
   have WU:=Lib.hid (HBa.out.below hb5 HBa.out.lt)
   have agd:=Lib.hid (HBb.out.below hb5 HBb.out.lt)
   have H5:=Lib.hid (H4.out.below HM.out h24)
   have HNA:=Lib.hid (NF.below (lo:=w1.heap.size) (v:= .agg #[.bool a.leaf, .slice A1 a.ents.length k1, .slice A2 a.kids.length k2, .slice A3 a.keys.length k3]) ⟨A1,k1,A2,k2,A3,k3,rfl,HRA.out⟩ h24)
   have agf:=Lib.hid (NF.below (lo:=w1.heap.size) (v:= .agg #[.bool b.leaf, .slice B1 b.ents.length j1, .slice B2 b.kids.length j2, .slice B3 b.keys.length j3]) ⟨B1,j1,B2,j2,B3,j3,rfl,HRB.out⟩ h24)
   have ahI:w.heap.size<=w1.heap.size:=HB3.out.size
   clear hb5 h24 hz2
   by_cases hcut:∃q,Tp.cut n=some q
   ·obtain⟨q,hq⟩:=hcut
    have hq2:=Tp.Kq hq
    have hqe:q=(a,key,b):=by
     rcases ad2.out with h | ⟨h,_⟩
     ·rw[hq2.2]at h;injection h
     ·rw[hq2.2]at h;cases h
    subst hqe
    obtain⟨pc1,pc2,pc3,pc4,pc5,_⟩:=Tp.rG hq2.2
    obtain⟨nba,nbb⟩:=Kt hq2.2 HNB.out
    obtain⟨hkne,hkn2,ahJ⟩:=Tp.abJ pc4
    have ahq:240<(Nd.size n:Int):=by omega
    obtain⟨oa,hoa⟩:∃x,x=Tp.aC room f σ id a:=⟨_,rfl⟩
    have hoo:o=Tp.Ic room f b key oa:=by rw[HO.out,hoa];exact Tp.Oa HN0.out hq
    have abL:oa.1≠ .error 3:=fun hc=>H3.out (by rw[hoo,Tp.Ce hc])
    have HIA:=IH.out σ id HID.out (.agg #[.bool a.leaf, .slice A1 a.ents.length k1, .slice A2 a.kids.length k2, .slice A3 a.keys.length k3]) a nba (by rw[<-hoa];exact abL) w3 HNA.out.ns H5.out
    rw[<-hoa]at HIA
    have agh:=Lib.hid HIA
    have HOO:=Lib.hid hoo
    have HOA:=Lib.hid hoa
    have HPC:=Lib.hid (And.intro pc1 (And.intro pc2 (And.intro pc3 pc5)))
    have agi:=Lib.hid nbb
    have ahK:=Lib.hid abL
    have e0:=WU.out.cell 0
    have e1:=WU.out.cell 1
    have e2:=WU.out.cell 2
    have e3:=WU.out.cell 3
    have la:=WU.out.lt
    generalize Nd.size n=szn at*
    clear hq hq2 pc1 pc2 pc3 pc4 pc5 nba nbb hoo hoa abL HIA
    go_wp2_with fail
    refine Calls.mono agh.out ?_
    rintro e w4 ⟨v,p,x,rfl,⟨Ap,cp,Aq,cq,rfl,rp1,rp2⟩,hres,hon,hfr⟩
    have hzf:=hfr.size
    have HF4:=Lib.hid ((Fr.of_below HB5.out).trans hfr:Fr S w w4)
    have Ep:=Lib.hid (hfr.blk Oc.out (HM.out.far (by omega)))
    have agj:=Lib.hid (hfr.blk agd.out (HM.out.far (by omega)))
    have agk:=Lib.hid (NF.fr agf.out hfr (fun k hk=>by have:=HM.out.low k hk;omega))
    have H6:=Lib.hid hon
    have HP6:=Lib.hid (show PF w3.heap.size w4 (qI Ap p.1.length cp Aq p.2.length cq) p from⟨Ap,cp,Aq,cq,rfl,rp1,rp2⟩)
    have HPL:=Lib.hid (And.intro (fun g hg=>(World.ownsRow.lt rp1 g hg).2) (fun g hg=>(World.ownsRow.lt rp2 g hg).2))
    clear hfr hon rp1 rp2
    rcases hres with⟨hok,rfl,hpb⟩ | ⟨herr,rfl⟩
    ·have hoo:o=Tp.yw p key (Tp.aC room f oa.2 0 b):=by rw[HOO.out,Tp.S9 hok]
     obtain⟨ob,hob⟩:∃x,x=Tp.aC room f oa.2 0 b:=⟨_,rfl⟩
     have ad3:ob.1≠ .error 3:=fun hc=>H3.out (by rw[hoo, <-hob,Tp.Cb hc])
     rw[<-hob]at hoo
     have aaF:0<p.1.length:=Tp.vI f σ id a p HPC.out.2.1 (by rw[<-HOA.out];exact hok)
     have HIB:=Lib.hid (fun W (hns:NS W (.agg #[.bool b.leaf, .slice B1 b.ents.length j1, .slice B2 b.kids.length j2, .slice B3 b.keys.length j3]) b) hon=>IH.out oa.2 0 (by unfold fJ;omega) (.agg #[.bool b.leaf, .slice B1 b.ents.length j1, .slice B2 b.kids.length j2, .slice B3 b.keys.length j3]) b agi.out (by rw[<-hob];exact ad3) W hns hon)
     rw[<-hob]at HIB
     have hy1:=(Below.refl w4.heap.size w4).alloc (Nat.le_refl _) (.cells #[.slice Ap p.1.length cp, .slice Aq p.2.length cq] 300)
     have hBq:=Blk.new w4 300 #[.slice Ap p.1.length cp, .slice Aq p.2.length cq]
     have H7:=Lib.hid (H6.out.below HM.out hy1)
     have HF7:=Lib.hid (HF4.out.trans (.of_below hy1):Fr S w _)
     have Zo:=Lib.hid (Ep.out.alloc (.cells #[.slice Ap p.1.length cp, .slice Aq p.2.length cq] 300))
     have Tc:=agj.out.alloc (.cells #[.slice Ap p.1.length cp, .slice Aq p.2.length cq] 300)
     have agl:=Lib.hid (NF.below agk.out hy1)
     have HP7:=Lib.hid (PF.below HP6.out hy1)
     have HBq:=Lib.hid hBq
     have d0:=Tc.cell 0
     have d1:=Tc.cell 1
     have d2:=Tc.cell 2
     have d3:=Tc.cell 3
     have lb:=Tc.lt
     have HOO:=Lib.hid hoo
     have HOB:=Lib.hid hob
     have HPB:=Lib.hid hpb
     have HPP:=Lib.hid aaF
     unfold qI
     clear e0 e1 e2 e3 hok hpb hoo hob ad3 aaF hy1 hBq Tc
     go_wp2_with fail
     refine Calls.mono (HIB.out _ agl.out.ns H7.out) ?_
     rintro e w5 ⟨v,q,x,rfl,⟨Bp,dp,Bq,dq,rfl,rq1,rq2⟩,hres,hon,hfr⟩
     have agm:=hfr.size
     simp only[World.size_alloc]at agm
     have HF8:=Lib.hid (HF7.out.trans hfr)
     have Ig:=Lib.hid (hfr.blk Zo.out (HM.out.far (by omega)))
     have agn:=Lib.hid (hfr.blk HBq.out (HM.out.far (by omega)))
     have HP8:=Lib.hid (PF.fr HP7.out hfr (fun k hk=>by have:=HM.out.low k hk;omega))
     have H8:=Lib.hid hon
     have HQ8:=Lib.hid (show PF (w4.heap.size+1) w5 (qI Bp q.1.length dp Bq q.2.length dq) q from⟨Bp,dp,Bq,dq,rfl,LO.lower rq1 (by simp),LO.lower rq2 (by simp)⟩)
     clear hfr hon rq1 rq2
     rcases hres with⟨hok,rfl,hqb⟩ | ⟨herr,rfl⟩
     ·have hend:o=(.ok (p.1++q.1,p.2++ [key]++q.2),ob.2):=by rw[HOO.out,Tp.SY hok]
      have aZ:=Lib.hid hend
      have aaG:0<q.1.length:=Tp.vI f oa.2 0 b q HPC.out.2.2.1 (by rw[<-HOB.out];exact hok)
      have agp:=Lib.hid (show Tp.PB (p.1++q.1,p.2++ [key]++q.2) (Tp.cnt n)from by rw[<-HPC.out.1];exact Tp.PB.join HPB.out hqb key HPC.out.2.2.2 HPP.out aaG)
      have hz1:=(Below.refl w5.heap.size w5).alloc (Nat.le_refl _) (.cells #[.slice Bp q.1.length dp, .slice Bq q.2.length dq] 300)
      have HF9:=Lib.hid (HF8.out.trans (.of_below hz1):Fr S w _)
      have H9:=Lib.hid (H8.out.below HM.out hz1)
      have Tf:=Lib.hid (Ig.out.alloc (.cells #[.slice Bp q.1.length dp, .slice Bq q.2.length dq] 300))
      have Oe:=agn.out.alloc (.cells #[.slice Bp q.1.length dp, .slice Bq q.2.length dq] 300)
      have Ih:=Blk.new w5 300 #[.slice Bp q.1.length dp, .slice Bq q.2.length dq]
      have hP9:=PF.below HP8.out hz1
      have hQ9:=PF.below HQ8.out hz1
      have agq:(w5.alloc (.cells #[.slice Bp q.1.length dp, .slice Bq q.2.length dq] 300)).heap.size=w5.heap.size+1:=by simp
      have bl1:=HPB.out.len
      have bl2:=hqb.len
      have bl3:=HPB.out.keys
      have bl4:=hqb.keys
      have bl5:=HPC.out.1
      have bl6:Tp.cnt n<=200000:=by have:=HNB.out.e;have:=HNB.out.i;unfold Tp.cnt;omega
      have bp2:p.2.length<=200000:=by omega
      have bq2:q.2.length<=200000:=by omega
      have bp1:p.1.length<=200000:=by omega
      have bq1:q.1.length<=200000:=by omega
      obtain⟨_,_,_,_,ep,pi,pk⟩:=hP9
      unfold qI at ep
      simp only[Value.agg.injEq,Array.mk.injEq,List.cons.injEq,Value.slice.injEq,and_true,true_and]at ep
      obtain⟨⟨rfl,rfl⟩,rfl,rfl⟩:=ep
      obtain⟨_,_,_,_,eq,qi,qk⟩:=hQ9
      unfold qI at eq
      simp only[Value.agg.injEq,Array.mk.injEq,List.cons.injEq,Value.slice.injEq,and_true,true_and]at eq
      obtain⟨⟨rfl,rfl⟩,rfl,rfl⟩:=eq
      generalize hw9:(w5.alloc (.cells #[.slice Bp q.1.length dp, .slice Bq q.2.length dq] 300))=w9 at*
      have c0:=Oe.cell 0
      have c1:=Oe.cell 1
      have c2:=Ih.cell 0
      have c3:=Ih.cell 1
      have l1:=Oe.lt
      have l2:=Ih.lt
      have aaH:w9.drew.ownsRow w3.heap.size 9 1 (.slice Aq p.2.length cq) p.2.length (keyE.cells p.2):=pk.raw rfl rfl
      have hK:∀v' w',w'.ownsRow w3.heap.size 9 1 v' (p.2.length+1) (keyE.cells p.2++ [.string key])->w9.drew.grownBy w' (Value.slice Aq p.2.length cq).ownBlock->w'.cell? ⟨w5.heap.size,1,none⟩=some (.slice Bq q.2.length dq)/\w5.heap.size<w'.heap.size/\w3.heap.size<=w'.heap.size/\Reads w' w'.heap.size 1 Bq q.2.length (keyE.cells q.2):=fun v' w' h1 h2=>by
       have h3:w9.grownBy w' (Value.slice Aq p.2.length cq).ownBlock:=⟨h2.os,h2.tape,h2.output,h2.size,h2.block⟩
       have hB:=Ih.grown h3 (fun e=>aB pk Ih (by decide) e.symm)
       have hqk:LO keyE 9 w' (w4.heap.size+1) (.slice Bq q.2.length dq) q.2:=LO.held qk (fun g hg=>h3.block g (World.ownsRow.lt qk g hg).2 (fun e=>by
        have a1:=(World.ownsRow.lt qk g hg).1
        have a2:=HPL.out.2 g e.symm
        omega))
       have hsz:=h3.size
       exact⟨hB.cell 1,hB.lt,by omega,hqk.ls⟩
      have HK:=Lib.hid hK
      have agr:w3.heap.size<=w9.drew.heap.size:=by show w3.heap.size<=w9.heap.size;omega
      obtain⟨ik,hik⟩:=Jy
      have HEK:=Lib.hid hik
      clear hik
      have hZ:∀v' w10 v2 w11,w10.ownsRow w3.heap.size 9 1 v' (p.2.length+1) (keyE.cells p.2++ [.string key])->w9.drew.grownBy w10 (Value.slice Aq p.2.length cq).ownBlock->w11.ownsRow w3.heap.size 9 1 v2 (p.2.length+1+q.2.length) (keyE.cells p.2++ [.string key]++keyE.cells q.2)->w10.grownBy w11 v'.ownBlock->Hid (On S B t u TM root er r ob.2 w11/\Fr S w w11/\Blk w11 (w.heap.size+1) 300 #[.slice none 0 0, .slice none 0 0]/\LO keyE 9 w11 w3.heap.size v2 (p.2++ [key]++q.2)/\LO aV 3 w11 w3.heap.size (.slice Ap p.1.length cp) p.1/\LO aV 3 w11 (w4.heap.size+1) (.slice Bp q.1.length dp) q.1)/\w11.cell? ⟨w4.heap.size,0,none⟩=some (.slice Ap p.1.length cp)/\w11.cell? ⟨w5.heap.size,0,none⟩=some (.slice Bp q.1.length dp)/\w4.heap.size<w11.heap.size/\w5.heap.size<w11.heap.size/\w3.heap.size<=w11.heap.size:=fun v' w10 v2 w11 h1 h2 h3 h4=>by
       have h2':w9.grownBy w10 (Value.slice Aq p.2.length cq).ownBlock:=⟨h2.os,h2.tape,h2.output,h2.size,h2.block⟩
       have ags:=H9.out.row HM.out pk (by omega) (by decide) (by decide) (by decide) (by decide) (by decide) h2'
       have Zp:=ags.row HM.out h1 (by omega) (by decide) (by decide) (by decide) (by decide) (by decide) h4
       have ad4:=Oe.grown h2' (fun e=>aB pk Oe (by decide) e.symm)
       have ad5:=ad4.grown h4 (fun e=>aB h1 ad4 (by decide) e.symm)
       have ad6:=Ih.grown h2' (fun e=>aB pk Ih (by decide) e.symm)
       have ad7:=ad6.grown h4 (fun e=>aB h1 ad6 (by decide) e.symm)
       have ad8:=Tf.out.grown h2' (fun e=>aB pk Tf.out (by decide) e.symm)
       have WV:=ad8.grown h4 (fun e=>aB h1 ad8 (by decide) e.symm)
       have Ku:=LO.WT (LO.WT pi pk (by decide) h2') h1 (by decide) h4
       have Zq:=LO.WT (LO.WT qi pk (by decide) h2') h1 (by decide) h4
       have Zr:LO keyE 9 w11 w3.heap.size v2 (p.2++ [key]++q.2):=LO.WS rfl (by simp[List.length_append];omega) (by rw[keyE.dS,keyE.dS];rfl) h3
       have zS:Fr S w w11:=Fr.old (S':=fun k=>S k\/w.heap.size<=k) (((HF9.out.more fun _=> .inl).trans ((Fr.bW h2').more fun k hk=> .inr (by have:=(World.ownsRow.lt pk k hk).1;omega))).trans ((Fr.bW h4).more fun k hk=> .inr (by have:=(World.ownsRow.lt h1 k hk).1;omega))) (fun k hk=>hk)
       have z1:=h2'.size
       have z2:=h4.size
       exact⟨Lib.hid ⟨Zp,zS,WV,Zr,Ku,Zq⟩,ad5.cell 0,ad7.cell 0,ad5.lt,ad7.lt,by omega⟩
      have HZ:=Lib.hid hZ
      clear hZ
      have HPI:=Lib.hid pi
      have HPK:=Lib.hid pk
      have HQI:=Lib.hid qi
      have HQK:=Lib.hid qk
      have ahL:=Lib.hid Oe
      have ahM:=Lib.hid Ih
      unfold qI
      clear agq hend aaG hok hqb hz1 Oe Ih pi pk qi qk hK bl1 bl2 bl3 bl4 bl5 bl6 d0 d1 d2 d3
      go_wp2_with fail
      go_region_law (first | (refine QI rfl (.tmp 61) (.tmp 63) 107 rfl Jy Tryz.underlying107 rfl (by decide) rfl aaH rfl (by simp<;>omega) rfl (by simp[Value.oneCell']) (by unfold maxLen;omega) (by omega) agr ?_;intro v' w10 hown' hgrow hbel;obtain⟨n1,n2,n3,n4⟩:=HK.out v' w10 hown' hgrow;obtain⟨A10,c10,rfl⟩:=gZ hown') | (refine zK _ rfl (.tmp 64) (.tmp 66) 107 rfl w3.heap.size 9 _ _ 1 16 Tryz.underlying107 HEK.out.1 HEK.out.2.1 HEK.out.2.2.1 HEK.out.2.2.2 rfl (by decide) _ _ _ rfl hown' _ _ _ _ _ rfl n4 (keyE.jv _) (by unfold maxLen;omega) (by omega) n3 ?_;intro v2 w11 hown2 hgrow2 agt;obtain⟨HON,s1,s2,s3,s4,s5⟩:=HZ.out _ _ v2 w11 hown' hgrow hown2 hgrow2;obtain⟨A11,c11,rfl⟩:=gZ hown2))
      all_goals
       obtain⟨Zp,zS,WV,Zr,Ku,Zq⟩:=HON.out
       have hri:w11.ownsRow w3.heap.size 3 1 (.slice Ap p.1.length cp) p.1.length (aV.cells p.1):=Ku.raw rfl rfl
       have hqr:=Zq.ls
       have hT:∀v3 w12,w12.ownsRow w3.heap.size 3 1 v3 (p.1.length+q.1.length) (aV.cells p.1++aV.cells q.1)->w11.grownBy w12 (Value.slice Ap p.1.length cp).ownBlock->Hid (On S B t u TM root er r ob.2 w12/\Fr S w w12/\Blk w12 (w.heap.size+1) 300 #[.slice none 0 0, .slice none 0 0]/\LO keyE 9 w12 w3.heap.size (.slice A11 (p.2.length+1+q.2.length) c11) (p.2++ [key]++q.2)/\LO aV 3 w12 w3.heap.size v3 (p.1++q.1))/\w12.cell? ⟨w.heap.size+1,0,none⟩=some (.slice none 0 0)/\w12.cell? ⟨w.heap.size+1,1,none⟩=some (.slice none 0 0)/\w12.frozen? ⟨w.heap.size+1,0,none⟩=false/\w12.frozen? ⟨w.heap.size+1,1,none⟩=false/\w.heap.size+1<w12.heap.size:=fun v3 w12 h1 h2=>by
        have Ti:=WV.grown h2 (fun e=>aB Ku WV (by decide) e.symm)
        exact⟨Lib.hid ⟨Zp.row HM.out Ku (by omega) (by decide) (by decide) (by decide) (by decide) (by decide) h2,Fr.old (S':=fun k=>S k\/w.heap.size<=k) ((zS.more fun _=> .inl).trans ((Fr.bW h2).more fun k hk=> .inr (by have:=(World.ownsRow.lt Ku k hk).1;omega))) (fun k hk=>hk),Ti,LO.WT Zr Ku (by decide) h2,LO.WS rfl (by simp) (by rw[aV.dS]) h1⟩,Ti.cell 0,Ti.cell 1,Ti.frozen 0,Ti.frozen 1,Ti.lt⟩
       have HT:=Lib.hid hT
       clear Zp zS WV Zr Ku Zq hT hown2 hgrow2 agt hown' hgrow hbel n1 n2 n3 n4 aaH
       go_wp2_with (at_builtin;refine gQ rfl (.tmp 69) (.tmp 71) 49 rfl wL Tryz.underlying49 rfl (by decide) rfl hri rfl hqr (aV.jv _) (by unfold maxLen;omega) (by omega) s5 ?_;intro v3 w12 hown3 hgrow3 ahr;obtain⟨HE,y1,y2,y3,y4,y5⟩:=HT.out v3 w12 hown3 hgrow3;obtain⟨A12,c12,rfl⟩:=gZ hown3)
       try simp only[Exit.inBlock,Exit.then]
       refine bodyPost_ret (aO dM rfl rfl (HE.out.2.2.1.gJ _ _) rfl) rfl ?_
       exact jo (p:=(p.1++q.1,p.2++ [key]++q.2)) HM.out HE.out.2.1 (by rw[aZ.out];exact HE.out.1) HE.out.2.2.1 (by omega) hsz (by omega) (Fr.gJ _ _) (uz (LO.lower (LO.frB HE.out.2.2.2.2 (Fr.gJ _ _) (fun g hg e=>aB HE.out.2.2.2.2 HE.out.2.2.1 (by decide) (e ▸ hg))) (by omega)) (LO.lower (LO.frB HE.out.2.2.2.1 (Fr.gJ _ _) (fun g hg e=>aB HE.out.2.2.2.1 HE.out.2.2.1 (by decide) (e ▸ hg))) (by omega))) (.inl ⟨by rw[aZ.out],rfl,agp.out⟩)
     ·unfold qI
      have d0:=Ig.out.cell 0
      have d1:=Ig.out.cell 1
      have f0:=Ig.out.frozen 0
      have f1:=Ig.out.frozen 1
      have lp:=Ig.out.lt
      have hend:o=(.error 2,ob.2):=by rw[HOO.out,Tp.Cb herr]
      have aZ:=Lib.hid hend
      clear herr hend
      go_wp2
      try simp only[Exit.inBlock,Exit.then]
      refine bodyPost_ret (aO dM rfl rfl ((Ig.out.gJ _ _).alloc _) rfl) rfl ?_
      exact jo HM.out HF8.out (by rw[aZ.out];exact H8.out) Ig.out (by omega) hsz (by omega) ((Fr.gJ _ _).trans (.of_below ((Below.refl _ _).alloc (Nat.le_refl _) _))) (Cj _ _) (.inr ⟨by rw[aZ.out],rfl⟩)
    ·unfold qI
     have d0:=Ep.out.cell 0
     have d1:=Ep.out.cell 1
     have f0:=Ep.out.frozen 0
     have f1:=Ep.out.frozen 1
     have lp:=Ep.out.lt
     have hend:o=(.error 2,oa.2):=by rw[HOO.out,Tp.Ce herr]
     have aZ:=Lib.hid hend
     clear herr hend e0 e1 e2 e3
     go_wp2
     try simp only[Exit.inBlock,Exit.then]
     refine bodyPost_ret (aO dM rfl rfl ((Ep.out.gJ _ _).alloc _) rfl) rfl ?_
     exact jo HM.out HF4.out (by rw[aZ.out];exact H6.out) Ep.out (by omega) hsz (by omega) ((Fr.gJ _ _).trans (.of_below ((Below.refl _ _).alloc (Nat.le_refl _) _))) (Cj _ _) (.inr ⟨by rw[aZ.out],rfl⟩)
   ·have hcn:Tp.cut n=none:=by
     cases hc:Tp.cut n with
     |none=>rfl
     |some q=>exact absurd ⟨q,hc⟩ hcut
    have hoo:o=Tp.Ie (Tp.dY room σ id n):=by rw[HO.out];exact Tp.wX HN0.out hcn
    have hfit:Nd.fits n=true:=by
     cases hf:Nd.fits n with
     |true=>rfl
     |false=>
      refine absurd ?_ H3.out
      rw[hoo]
      unfold Tp.dY
      rw[if_pos hf]
      rfl
    have hcond:¬240<Nd.size n\/key=⟨#[]⟩:=by
     rcases ad2.out with h | ⟨_,h,_⟩
     ·exact .inl fun h24=>hcut ⟨(a,key,b),by unfold Tp.cut;rw[if_pos h24,h]⟩
     ·exact .inr h
    have hcnt:1<=Tp.cnt n:=by have:=HN0.out;unfold Tp.cnt;omega
    have HSV:=Lib.hid (J9 HM.out u root er r σ id HID.out (.agg #[.bool n.leaf, .slice Ae n.ents.length ce, .slice Ai n.kids.length ci, .slice Ay n.keys.length cy]) n hfit w3 (HNS.out _ HB5.out) H5.out)
    obtain⟨os,hos⟩:∃x,x=Tp.dY room σ id n:=⟨_,rfl⟩
    rw[<-hos]at HSV hoo
    have HOO:=Lib.hid hoo
    have abM:=Lib.hid hcnt
    have e0:=Eo.out.cell 0
    have e1:=Eo.out.cell 1
    have e2:=Eo.out.cell 2
    have e3:=Eo.out.cell 3
    have la:=Eo.out.lt
    clear hcut hcn hoo hfit hcnt hos
    rcases hcond with hlt | hke
    ·have hle:¬240<(Nd.size n:Int):=by omega
     generalize Nd.size n=szn at*
     clear hlt
     go_wp2_with fail
     refine Calls.mono HSV.out ?_
     rintro e w4 ⟨pg,x,rfl,hres,hon,hfr⟩
     have HF4:=Lib.hid ((Fr.of_below HB5.out).trans hfr:Fr S w w4)
     have hBp:=hfr.blk Oc.out (HM.out.far (by omega))
     have d0:=hBp.cell 0
     have d1:=hBp.cell 1
     have f0:=hBp.frozen 0
     have f1:=hBp.frozen 1
     have lp:=hBp.lt
     have HBP:=Lib.hid hBp
     have HON:=Lib.hid hon
     have wZ:=Lib.hid hres
     have hzf:=hfr.size
     clear hfr hon hBp hres
     go_wp2
     try simp only[Exit.inBlock,Exit.then]
     refine bodyPost_ret (aO dM rfl rfl ((HBP.out.gJ _ _).alloc _) rfl) rfl ?_
     rcases wZ.out with⟨hok,rfl,_⟩ | ⟨herr,rfl⟩
     ·exact jo (p:=([pg], [])) HM.out HF4.out (by rw[HOO.out,Tp.l7 hok];exact HON.out) HBP.out (by omega) hsz (by omega) ((Fr.gJ _ _).trans (.of_below ((Below.refl _ _).alloc (Nat.le_refl _) _))) (uz (LO.one rfl rfl (jY (by simp)) (by omega)) (LO.nil_ _ _)) (.inl ⟨by rw[HOO.out,Tp.l7 hok],rfl,Tp.PB.one _ abM.out⟩)
     ·exact jo (p:=([pg], [])) HM.out HF4.out (by rw[HOO.out,Tp.jX herr];exact HON.out) HBP.out (by omega) hsz (by omega) ((Fr.gJ _ _).trans (.of_below ((Below.refl _ _).alloc (Nat.le_refl _) _))) (uz (LO.one rfl rfl (jY (by simp)) (by omega)) (LO.nil_ _ _)) (.inr ⟨by rw[HOO.out,Tp.jX herr],rfl⟩)
    ·subst hke
     by_cases hlt:240<Nd.size n
     ·have hgt:240<(Nd.size n:Int):=by omega
      generalize Nd.size n=szn at*
      clear hlt
      go_wp2_with fail
      refine Calls.mono HSV.out ?_
      rintro e w4 ⟨pg,x,rfl,hres,hon,hfr⟩
      have HF4:=Lib.hid ((Fr.of_below HB5.out).trans hfr:Fr S w w4)
      have hBp:=hfr.blk Oc.out (HM.out.far (by omega))
      have d0:=hBp.cell 0
      have d1:=hBp.cell 1
      have f0:=hBp.frozen 0
      have f1:=hBp.frozen 1
      have lp:=hBp.lt
      have HBP:=Lib.hid hBp
      have HON:=Lib.hid hon
      have wZ:=Lib.hid hres
      have hzf:=hfr.size
      clear hfr hon hBp hres
      go_wp2
      try simp only[Exit.inBlock,Exit.then]
      refine bodyPost_ret (aO dM rfl rfl ((HBP.out.gJ _ _).alloc _) rfl) rfl ?_
      rcases wZ.out with⟨hok,rfl,_⟩ | ⟨herr,rfl⟩
      ·exact jo (p:=([pg], [])) HM.out HF4.out (by rw[HOO.out,Tp.l7 hok];exact HON.out) HBP.out (by omega) hsz (by omega) ((Fr.gJ _ _).trans (.of_below ((Below.refl _ _).alloc (Nat.le_refl _) _))) (uz (LO.one rfl rfl (jY (by simp)) (by omega)) (LO.nil_ _ _)) (.inl ⟨by rw[HOO.out,Tp.l7 hok],rfl,Tp.PB.one _ abM.out⟩)
      ·exact jo (p:=([pg], [])) HM.out HF4.out (by rw[HOO.out,Tp.jX herr];exact HON.out) HBP.out (by omega) hsz (by omega) ((Fr.gJ _ _).trans (.of_below ((Below.refl _ _).alloc (Nat.le_refl _) _))) (uz (LO.one rfl rfl (jY (by simp)) (by omega)) (LO.nil_ _ _)) (.inr ⟨by rw[HOO.out,Tp.jX herr],rfl⟩)
     ·have hle:¬240<(Nd.size n:Int):=by omega
      generalize Nd.size n=szn at*
      clear hlt
      go_wp2_with fail
      refine Calls.mono HSV.out ?_
      rintro e w4 ⟨pg,x,rfl,hres,hon,hfr⟩
      have HF4:=Lib.hid ((Fr.of_below HB5.out).trans hfr:Fr S w w4)
      have hBp:=hfr.blk Oc.out (HM.out.far (by omega))
      have d0:=hBp.cell 0
      have d1:=hBp.cell 1
      have f0:=hBp.frozen 0
      have f1:=hBp.frozen 1
      have lp:=hBp.lt
      have HBP:=Lib.hid hBp
      have HON:=Lib.hid hon
      have wZ:=Lib.hid hres
      have hzf:=hfr.size
      clear hfr hon hBp hres
      go_wp2
      try simp only[Exit.inBlock,Exit.then]
      refine bodyPost_ret (aO dM rfl rfl ((HBP.out.gJ _ _).alloc _) rfl) rfl ?_
      rcases wZ.out with⟨hok,rfl,_⟩ | ⟨herr,rfl⟩
      ·exact jo (p:=([pg], [])) HM.out HF4.out (by rw[HOO.out,Tp.l7 hok];exact HON.out) HBP.out (by omega) hsz (by omega) ((Fr.gJ _ _).trans (.of_below ((Below.refl _ _).alloc (Nat.le_refl _) _))) (uz (LO.one rfl rfl (jY (by simp)) (by omega)) (LO.nil_ _ _)) (.inl ⟨by rw[HOO.out,Tp.l7 hok],rfl,Tp.PB.one _ abM.out⟩)
      ·exact jo (p:=([pg], [])) HM.out HF4.out (by rw[HOO.out,Tp.jX herr];exact HON.out) HBP.out (by omega) hsz (by omega) ((Fr.gJ _ _).trans (.of_below ((Below.refl _ _).alloc (Nat.le_refl _) _))) (uz (LO.one rfl rfl (jY (by simp)) (by omega)) (LO.nil_ _ _)) (.inr ⟨by rw[HOO.out,Tp.jX herr],rfl⟩)
end
end Go.Proofs.YteppebbmnojapaaGreatDoor
