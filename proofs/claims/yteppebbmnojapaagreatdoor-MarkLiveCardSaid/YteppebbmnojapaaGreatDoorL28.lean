/- Part of this proof. -/
import Derived.Test.YteppebbmnojapaaGreatDoorL26
import Derived.Test.YteppebbmnojapaaGreatDoorL27
set_option maxRecDepth 100000
set_option maxHeartbeats 8000000
namespace Go.Proofs.YteppebbmnojapaaGreatDoor
open Go.RowKit Go.Shelf
theorem WZ:∀args w,(callFunc 306 args).run Tryz.prog w= .ok (.enter 306 args) w:=fun args w=>by kernel_rfl
theorem W9:∀args w,(callFunc 267 args).run Tryz.prog w= .ok (.enter 267 args) w:=fun args w=>by kernel_rfl
theorem Xa:∀args w,(callFunc 264 args).run Tryz.prog w= .ok (.enter 264 args) w:=fun args w=>by kernel_rfl
theorem LS.int'{w:World}{B b off:Nat}{l:List Int}(h:LS aV w B (some ⟨b,off,none⟩) l){k:Nat}(hk:k<l.length):w.cell? ⟨b,off+k,none⟩=some (.int .i64 l[k]):=by
 obtain⟨b',o',e,_,g⟩:=h.int hk
 injection e with e;injection e with e1 e2;subst e1 e2;exact g
theorem LS.key'{w:World}{B b off:Nat}{l:List ByteArray}(h:LS keyE w B (some ⟨b,off,none⟩) l){k:Nat}(hk:k<l.length):w.cell? ⟨b,off+k,none⟩=some (.string l[k]):=by
 obtain⟨b',o',e,_,g⟩:=h.key hk
 injection e with e;injection e with e1 e2;subst e1 e2;exact g
theorem Fr.nS{w:World}{g:Nat}(a' b' c' d':Value):Fr (fun k=>k=g) w ((((w.setCell ⟨g,0,none⟩ a').setCell ⟨g,1,none⟩ b').setCell ⟨g,2,none⟩ c').setCell ⟨g,3,none⟩ d'):=Fr.kS (S:=fun k=>k=g) rfl _ _ _ _
theorem NF.frP{lo g:Nat}{w w':World}{v:Value}{n:Nd.Node}{cs:Array Value}{ty:TypeId}(h:NF lo w v n)(hB:Blk w g ty cs)(hf:Fr (fun k=>k=g) w w')(h1:101≠ty:=by decide)(h2:3≠ty:=by decide)(h3:9≠ty:=by decide):NF lo w' v n:=by
 obtain⟨Ae,ce,Ai,ci,Ay,cy,e,q1,q2,q3⟩:=h
 exact⟨Ae,ce,Ai,ci,Ay,cy,e,LO.frB q1 hf (fun g' hg e=>aB q1 hB h1 (e ▸ hg)),LO.frB q2 hf (fun g' hg e=>aB q2 hB h2 (e ▸ hg)),LO.frB q3 hf (fun g' hg e=>aB q3 hB h3 (e ▸ hg))⟩
theorem Oh(va vb:Value)(a b:Nd.Node)(key:ByteArray)(hl:a.leaf≠b.leaf)(w:World)(ha:NS w va a)(hb:NS w vb b)(hba:NB a):
  Calls Tryz.prog 306 #[va, .string key,vb] w fun e w'=>∃v',e= .returned v'/\NF w.heap.size w' v' a/\Below w.heap.size w w':=by
 obtain⟨Aea,cea,Aia,cia,Aya,cya,rfl,ha1,ha2,ha3⟩:=ha
 obtain⟨Aeb,ceb,Aib,cib,Ayb,cyb,rfl,hb1,hb2,hb3⟩:=hb
 have HC:=Lib.hid (fun W (hbW:Below w.heap.size w W)=>BP (.agg #[.bool a.leaf, .slice Aea a.ents.length cea, .slice Aia a.kids.length cia, .slice Aya a.keys.length cya]) a W ⟨Aea,cea,Aia,cia,Aya,cya,rfl,ha1.up hbW,ha2.up hbW,ha3.up hbW⟩ hba)
 unfold aP
 have hBa:=((Blk.new w 146 #[.bool a.leaf, .slice Aea a.ents.length cea, .slice Aia a.kids.length cia, .slice Aya a.keys.length cya]).alloc (.cells #[.bool b.leaf, .slice Aeb b.ents.length ceb, .slice Aib b.kids.length cib, .slice Ayb b.keys.length cyb] 146)).alloc (.cells #[.bool false, .slice none 0 0, .slice none 0 0, .slice none 0 0] 146)
 have hBb:=(Blk.new (w.alloc (.cells #[.bool a.leaf, .slice Aea a.ents.length cea, .slice Aia a.kids.length cia, .slice Aya a.keys.length cya] 146)) 146 #[.bool b.leaf, .slice Aeb b.ents.length ceb, .slice Aib b.kids.length cib, .slice Ayb b.keys.length cyb]).alloc (.cells #[.bool false, .slice none 0 0, .slice none 0 0, .slice none 0 0] 146)
 have hBr:=Blk.new ((w.alloc (.cells #[.bool a.leaf, .slice Aea a.ents.length cea, .slice Aia a.kids.length cia, .slice Aya a.keys.length cya] 146)).alloc (.cells #[.bool b.leaf, .slice Aeb b.ents.length ceb, .slice Aib b.kids.length cib, .slice Ayb b.keys.length cyb] 146)) 146 #[.bool false, .slice none 0 0, .slice none 0 0, .slice none 0 0]
 have hx1:=(Below.refl w.heap.size w).alloc (Nat.le_refl _) (.cells #[.bool a.leaf, .slice Aea a.ents.length cea, .slice Aia a.kids.length cia, .slice Aya a.keys.length cya] 146)
 have hx2:=hx1.alloc hx1.size (.cells #[.bool b.leaf, .slice Aeb b.ents.length ceb, .slice Aib b.kids.length cib, .slice Ayb b.keys.length cyb] 146)
 have hb0:=hx2.alloc hx2.size (.cells #[.bool false, .slice none 0 0, .slice none 0 0, .slice none 0 0] 146)
 simp only[World.size_alloc]at hBb hBr
 have hz:(((w.alloc (.cells #[.bool a.leaf, .slice Aea a.ents.length cea, .slice Aia a.kids.length cia, .slice Aya a.keys.length cya] 146)).alloc (.cells #[.bool b.leaf, .slice Aeb b.ents.length ceb, .slice Aib b.kids.length cib, .slice Ayb b.keys.length cyb] 146)).alloc (.cells #[.bool false, .slice none 0 0, .slice none 0 0, .slice none 0 0] 146)).heap.size=w.heap.size+3:=by simp
 obtain⟨ND,hND⟩:∃x:Nd.Node,x=a:=⟨_,rfl⟩
 have HND:=Lib.hid hND
 have hq:∀lo W v,NF lo W v a->NF lo W v ND:=fun lo W v h=>by rw[hND];exact h
 have HQ:=Lib.hid hq
 have hgoal:(fun e w'=>∃v',e=Ending.returned v'/\NF w.heap.size w' v' a/\Below w.heap.size w w')=(fun e w'=>∃v',e=Ending.returned v'/\NF w.heap.size w' v' ND/\Below w.heap.size w w'):=by rw[hND]
 rw[hgoal]
 have h4:(a.leaf=true/\b.leaf=false)\/(a.leaf=false/\b.leaf=true):=by
  cases h1:a.leaf<;>cases h2:b.leaf<;>simp_all
 have HB0:=Lib.hid hb0
 have HBr:=Lib.hid hBr
 have a0:=hBa.cell 0
 have a1:=hBa.cell 1
 have a2:=hBa.cell 2
 have a3:=hBa.cell 3
 have la:=hBa.lt
 have c0:=hBb.cell 0
 have lb:=hBb.lt
 clear hba hl hx1 hx2 hb0 hBa hBb hBr hND hq hgoal
 rcases h4 with⟨h4,h5⟩ | ⟨h4,h5⟩
 all_goals
  rw[h4]at HC HB0 HBr a0 a1 a2 a3 la c0 lb hz ⊢
  rw[h5]at HB0 HBr a0 a1 a2 a3 la c0 lb hz ⊢
  clear h4 h5
  go_enter Tryz.func306,Tryz.ntmps306
  go_wp2_with fail
  refine(HC.out _ HB0.out).mono ?_
  rintro e w1 ⟨v',rfl,hnf,hb1⟩
  have mW:=HB0.out.trans (hb1.mono HB0.out.size)
  have hz1:=hb1.size
  have hBr:=HBr.out.below hb1 HBr.out.lt
  obtain⟨A1,k1,A2,k2,A3,k3,rfl,r⟩:=hnf
  have d0:=hBr.cell 0
  have d1:=hBr.cell 1
  have d2:=hBr.cell 2
  have d3:=hBr.cell 3
  have f0:=hBr.frozen 0
  have f1:=hBr.frozen 1
  have f2:=hBr.frozen 2
  have f3:=hBr.frozen 3
  have lr:=hBr.lt
  have H2:=Lib.hid hBr
  have HR:=Lib.hid (NF.lower (lo':=w.heap.size) (v:=aP a.leaf A1 a.ents.length k1 A2 a.kids.length k2 A3 a.keys.length k3) ⟨A1,k1,A2,k2,A3,k3,rfl,r⟩ (by omega))
  unfold aP
  clear hb1 hBr r a0 a1 a2 a3 c0 la lb
  go_wp2
  try simp only[Exit.inBlock,Exit.then]
  refine bodyPost_ret (mY aN rfl rfl (H2.out.kS _ _ _ _) rfl) rfl ?_
  exact⟨_,rfl,HQ.out _ _ _ (NF.frP HR.out H2.out (Fr.nS _ _ _ _)),mW.trans ((Fr.nS _ _ _ _).low (by omega) (fun k hk=>by omega))⟩
theorem Xb(va vb:Value)(a b:Nd.Node)(key:ByteArray)(w:World)(ha:NS w va a)(hb:NS w vb b)(hba:NB a)(hbb:NB b):
  Calls Tryz.prog 306 #[va, .string key,vb] w fun e w'=>∃v',e= .returned v'/\NF w.heap.size w' v' (Nd.join a key b)/\Below w.heap.size w w':=by
 by_cases hl:a.leaf=b.leaf
 case neg=>
  have e0:Nd.join a key b=a:=by unfold Nd.join;rw[if_pos (by simpa using hl)]
  rw[e0]
  exact Oh va vb a b key hl w ha hb hba
 cases h:a.leaf with
 |true=>
  have e0:Nd.join a key b=⟨true,a.ents++b.ents,a.kids++b.kids,a.keys++b.keys⟩:=by
   unfold Nd.join;rw[<-hl,h];rfl
  rw[e0]
  exact Sr va vb a b key h (hl ▸ h) w ha hb hba hbb
 |false=>
  have e0:Nd.join a key b=⟨false,a.ents++b.ents,a.kids++b.kids,a.keys++ [key]++b.keys⟩:=by
   unfold Nd.join;rw[<-hl,h];rfl
  rw[e0]
  exact NR va vb a b key h (hl ▸ h) w ha hb hba hbb
theorem Tn{room:Int}{σ:Tp.Pst}{n a b:Nd.Node}{j:Nat}{k:ByteArray}(hk:n.keys.getD j ⟨#[]⟩=k)(hln:(a.leaf != b.leaf)=false)(hfit:Nd.fits (Nd.join a k b)=true):Tp.zq room σ n j a b=Tp.kU n j (Tp.dY room σ (n.kids.getD j 0) (Nd.join a k b)):=by
 unfold Tp.zq
 rw[hk,if_neg]
 rintro(h | h)
 ·rw[hln]at h;cases h
 ·rw[hfit]at h;cases h
theorem Zx{a b:Nd.Node}{k:ByteArray}(ha:Nd.fits a=true)(hb:Nd.fits b=true)(hk:k.size<=16):NB (Nd.join a k b):=by
 have sm:∀ {n:Nd.Node},Nd.fits n=true->n.ents.length<=300/\n.kids.length<=300/\n.keys.length<=300/\Nd.aK n.ents<=300/\Nd.aF n.keys<=300:=by
  intro n h
  obtain⟨hr,hs⟩:=Tp.bf.1 h
  obtain⟨leaf,ents,kids,keys⟩:=n
  cases leaf with
  |true=>
   obtain⟨h1,rfl,rfl⟩:=Nd.eP.1 hr
   have hs:Nd.aK ents<=240:=hs
   have:=Nd.iM ents
   refine⟨by show ents.length<=_;omega,Nat.zero_le _,Nat.zero_le _,by show Nd.aK ents<=_;omega,by show Nd.aF []<=_;simp[Nd.aF]⟩
  |false=>
   obtain⟨rfl,h2,_,_⟩:=Nd.aY.1 hr
   have hs:4+Nd.aF keys<=240:=hs
   have:=Nd.sQ keys
   exact⟨Nat.zero_le _,by show kids.length<=_;omega,by show keys.length<=_;omega,by show Nd.aK []<=_;simp[Nd.aK],by show Nd.aF keys<=_;omega⟩
 obtain⟨a1,a2,a3,a4,a5⟩:=sm ha
 obtain⟨b1,b2,b3,b4,b5⟩:=sm hb
 unfold Nd.join
 split
 ·exact⟨by omega,by omega,by omega,by omega,by omega⟩
 ·split
  ·exact⟨by simp only[List.length_append];omega,by simp only[List.length_append];omega,by simp only[List.length_append];omega,by simp only[Nd.jF];omega,by simp only[Nd.bK];omega⟩
  ·have e:Nd.aF [k]=5+k.size:=by rw[Nd.gu];unfold Nd.ksz;simp[Nd.aF]
   exact⟨by simp only[List.length_append];omega,by simp only[List.length_append];omega,by simp only[List.length_append,List.length_cons,List.length_nil];omega,by simp only[Nd.jF];omega,by simp only[Nd.bK,e];omega⟩
section
variable {S:Nat->Prop}{B t:Nat}{room:Int}{disk:Tp.aA}{TM:Nat->Tp.Pst->World->Prop}
def P5(S:Nat->Prop)(B t u:Nat)(TM:Nat->Tp.Pst->World->Prop)(root er:Int)(r lo:Nat)(o:Except Int Nd.Node × Tp.Pst)(w:World)(e:Ending)(w':World):Prop:=
 ∃v n',∃x:Int,e= .returned (.tuple #[v, .int .i64 x])/\NF lo w' v n'/\((o.1= .ok n'/\x=0)\/(o.1= .error 2/\x=2))/\On S B t u TM root er r o.2 w'/\Fr S w w'
theorem rH(M:fU S B t room disk TM){u r lo:Nat}{root er x:Int}{o:Except Int Nd.Node × Tp.Pst}{n':Nd.Node}{w w4 wf:World}{g:Nat}{cs:Array Value}{v:Value}(hF:Fr S w w4)(hon:On S B t u TM root er r o.2 w4)(hB:Blk w4 g 146 cs)(hg:w.heap.size<=g)(hsz:B<=w.heap.size)(hgu:g≠u)(hfr:Fr (fun k=>k=g) w4 wf)(hp:NF lo wf v n')(hr:(o.1= .ok n'/\x=0)\/(o.1= .error 2/\x=2)):P5 S B t u TM root er r lo o w (.returned (.tuple #[v, .int .i64 x])) wf:=
 ⟨v,n',x,rfl,hp,hr,hon.own M hfr hB (by omega) hgu (by decide) (by decide) (by decide) (by decide),Fr.old (S':=fun k=>S k\/k=g) ((hF.more fun _=> .inl).trans (hfr.more fun _=> .inr)) (fun k hk=>hk.imp_right fun e=>by omega)⟩
theorem NF.kid{lo:Nat}{w:World}{Ae Ai Ay:Option Addr}{ce ci cy:Nat}{n:Nd.Node}(h:NF lo w (aP n.leaf Ae n.ents.length ce Ai n.kids.length ci Ay n.keys.length cy) n):LS aV w w.heap.size Ai n.kids/\LS keyE w w.heap.size Ay n.keys:=by
 obtain⟨_,_,_,_,_,_,e,h1,h2,h3⟩:=h
 unfold aP at e
 simp only[Value.agg.injEq,Array.mk.injEq,List.cons.injEq,Value.slice.injEq,and_true,true_and]at e
 obtain⟨⟨rfl,rfl⟩,⟨rfl,rfl⟩,rfl,rfl⟩:=e
 exact⟨h2.ls,h3.ls⟩
theorem Xc(M:fU S B t room disk TM)(u:Nat)(root er:Int)(r lo:Nat)(σ:Tp.Pst)(v:Value)(n:Nd.Node)(i d:Nat)(hlf:n.leaf=false)(hnk:n.keys.length+1=n.kids.length)(Tq:∀k∈n.keys,k.size<=16)(hi:i<n.kids.length)(h1k:1<n.kids.length)(hnb:NB n)
  (h3:(Tp.iE room disk σ n i d).1≠ .error 3) (w:World) (hns:NF lo w v n) (hlo:B<=lo) (hlo2:lo<=w.heap.size) (h:On S B t u TM root er (r+6) σ w):
  Calls Tryz.prog 269 #[.pointer (some ⟨u,0,none⟩),v, .int .i64 (i:Nat), .int .i64 (d:Nat)] w (P5 S B t u TM root er r lo (Tp.iE room disk σ n i d) w):=by
 obtain⟨o,ho⟩:∃o,o=Tp.iE room disk σ n i d:=⟨_,rfl⟩
 rw[<-ho]at h3 ⊢
 have hd:d<24:=by
  by_cases hd:24<=d
  ·rw[ho]at h3;unfold Tp.iE at h3;rw[if_pos hd]at h3;exact absurd rfl h3
  ·omega
 have hge:∀j (hj:j<n.kids.length),n.kids.getD j 0=n.kids[j]:=fun j hj=>by simp[List.getD,hj]
 obtain⟨kid,Ij⟩:∃kid,σ.view disk n.kids[i]=some kid:=by
  cases hk:σ.view disk n.kids[i]with
  |some kid=>exact⟨kid,rfl⟩
  |none=>
   rw[ho]at h3;unfold Tp.iE at h3
   rw[if_neg (by omega),hge i hi,hk]at h3
   exact absurd rfl h3
 obtain⟨Ae,ce,Ai,ci,Ay,cy,rfl,q1,q2,q3⟩:=hns
 obtain⟨bi,oi,rfl,hbi,gi⟩:=q2.ls.int hi
 obtain⟨by_,oy,rfl,hby, -⟩:=q3.ls.key (show 0<n.keys.length by omega)
 have hns:NF lo w (aP n.leaf Ae n.ents.length ce (some ⟨bi,oi,none⟩) n.kids.length ci (some ⟨by_,oy,none⟩) n.keys.length cy) n:=⟨Ae,ce,_,ci,_,cy,rfl,q1,q2,q3⟩
 have hb1:=(Below.refl w.heap.size w).alloc (Nat.le_refl _) (.cells #[.bool n.leaf, .slice Ae n.ents.length ce, .slice (some ⟨bi,oi,none⟩) n.kids.length ci, .slice (some ⟨by_,oy,none⟩) n.keys.length cy] 146)
 have hb2:=hb1.alloc hb1.size (.cells #[.bool false, .slice none 0 0, .slice none 0 0, .slice none 0 0] 146)
 have hBn:=(Blk.new w 146 #[.bool n.leaf, .slice Ae n.ents.length ce, .slice (some ⟨bi,oi,none⟩) n.kids.length ci, .slice (some ⟨by_,oy,none⟩) n.keys.length cy]).alloc (.cells #[.bool false, .slice none 0 0, .slice none 0 0, .slice none 0 0] 146)
 have hBr:=Blk.new (w.alloc (.cells #[.bool n.leaf, .slice Ae n.ents.length ce, .slice (some ⟨bi,oi,none⟩) n.kids.length ci, .slice (some ⟨by_,oy,none⟩) n.keys.length cy] 146)) 146 #[.bool false, .slice none 0 0, .slice none 0 0, .slice none 0 0]
 simp only[World.size_alloc]at hBr
 have hsz:=M.size h.tm
 have hun:u<w.heap.size:=h.self.lt
 have hH2:=(h.below M hb1).below M (Below.alloc (Below.refl _ _) (Nat.le_refl _) (.cells #[.bool false, .slice none 0 0, .slice none 0 0, .slice none 0 0] 146))
 have hN2:=NF.below hns hb2
 unfold aP
 have hw2:∃w2,w2=(w.alloc (.cells #[.bool n.leaf, .slice Ae n.ents.length ce, .slice (some ⟨bi,oi,none⟩) n.kids.length ci, .slice (some ⟨by_,oy,none⟩) n.keys.length cy] 146)).alloc (.cells #[.bool false, .slice none 0 0, .slice none 0 0, .slice none 0 0] 146):=⟨_,rfl⟩
 have hzz:((w.alloc (.cells #[.bool n.leaf, .slice Ae n.ents.length ce, .slice (some ⟨bi,oi,none⟩) n.kids.length ci, .slice (some ⟨by_,oy,none⟩) n.keys.length cy] 146)).alloc (.cells #[.bool false, .slice none 0 0, .slice none 0 0, .slice none 0 0] 146)).heap.size=w.heap.size+2:=by simp
 have HL:=Lib.hid (fun(id:Int) (n:Nd.Node) (r:Nat) (hv:σ.view disk id=some n) W hW=>pq M u root er r σ id d n hv hd W hW)
 have hkl:n.kids.length<=100000:=hnb.i
 have g2:=hBn.cell 2
 have ln:=hBn.lt
 have gk:((w.alloc (.cells #[.bool n.leaf, .slice Ae n.ents.length ce, .slice (some ⟨bi,oi,none⟩) n.kids.length ci, .slice (some ⟨by_,oy,none⟩) n.keys.length cy] 146)).alloc (.cells #[.bool false, .slice none 0 0, .slice none 0 0, .slice none 0 0] 146)).cell? ⟨bi,oi+i,none⟩=some (.int .i64 n.kids[i]):=(hb2.cell (p:=⟨bi,oi+i,none⟩) hbi).trans gi
 have HM:=Lib.hid M
 have Ik:=Lib.hid Ij
 have HON:=Lib.hid hH2
 have HNF:=Lib.hid hN2
 have HBn:=Lib.hid hBn
 have HBr:=Lib.hid hBr
 have HB2:=Lib.hid hb2
 have HO:=Lib.hid ho
 have H3:=Lib.hid h3
 have HNB:=Lib.hid hnb
 have HGE:=Lib.hid hge
 have HLF:=Lib.hid hlf
 have HNK:=Lib.hid hnk
 have agu:=Lib.hid Tq
 have hidx:(i:Int)<n.kids.length:=by omega
 clear h hb1 hb2 hBn hBr hH2 hN2 hns q1 q2 q3 M ho h3 hge Ij hlf hnb hw2 gi hnk Tq
 go_enter Tryz.func269,Tryz.ntmps269
 go_wp2_with fail
 generalize (w.alloc (.cells #[.bool n.leaf, .slice Ae n.ents.length ce, .slice (some ⟨bi,oi,none⟩) n.kids.length ci, .slice (some ⟨by_,oy,none⟩) n.keys.length cy] 146)).alloc (.cells #[.bool false, .slice none 0 0, .slice none 0 0, .slice none 0 0] 146)=w2 at*
 refine Calls.mono (HL.out _ kid (r+4) Ik.out _ HON.out) ?_
 rintro e w3 ⟨vk,rfl,agv,yx,hf3⟩
 have hz3:=hf3.size
 obtain⟨K1,k1,K2,k2,K3,k3,rfl,rk⟩:=agv
 have hfk:=(HM.out.ht HON.out.tm Ik.out).1
 have hbk:=(Below.refl w3.heap.size w3).alloc (Nat.le_refl _) (.cells #[.bool kid.leaf, .slice K1 kid.ents.length k1, .slice K2 kid.kids.length k2, .slice K3 kid.keys.length k3] 146)
 have HKN:=Lib.hid (NF.below (lo:=w2.heap.size) (v:= .agg #[.bool kid.leaf, .slice K1 kid.ents.length k1, .slice K2 kid.kids.length k2, .slice K3 kid.keys.length k3]) ⟨K1,k1,K2,k2,K3,k3,rfl,rk⟩ hbk)
 have HSZ:=Lib.hid (x9 _ kid _ HKN.out.ns (iT hfk))
 have hN3:=NF.below (NF.fr HNF.out hf3 (fun k hk=>by have:=HM.out.low k hk;omega)) hbk
 have HN3:=Lib.hid hN3
 have HF3:=Lib.hid (((Fr.of_below HB2.out).trans hf3).trans (.of_below hbk):Fr S w _)
 have CB:=Lib.hid (yx.below HM.out hbk)
 have Ob:=Lib.hid ((hf3.blk HBn.out (HM.out.far (by omega))).alloc (.cells #[.bool kid.leaf, .slice K1 kid.ents.length k1, .slice K2 kid.kids.length k2, .slice K3 kid.keys.length k3] 146))
 have ad9:=Lib.hid ((hf3.blk HBr.out (HM.out.far (by omega))).alloc (.cells #[.bool kid.leaf, .slice K1 kid.ents.length k1, .slice K2 kid.kids.length k2, .slice K3 kid.keys.length k3] 146))
 have hza:(w3.alloc (.cells #[.bool kid.leaf, .slice K1 kid.ents.length k1, .slice K2 kid.kids.length k2, .slice K3 kid.keys.length k3] 146)).heap.size=w3.heap.size+1:=by simp
 unfold aP
 clear hfk hbk rk yx hf3 hN3 g2 gk ln
 go_wp2_with fail
 generalize (w3.alloc (.cells #[.bool kid.leaf, .slice K1 kid.ents.length k1, .slice K2 kid.kids.length k2, .slice K3 kid.keys.length k3] 146))=w4 at*
 refine HSZ.out.mono ?_
 rintro e w5 ⟨rfl,hb5⟩
 have hz5:=hb5.size
 have hN5:=NF.below HN3.out hb5
 have hL5:=hN5.kid
 have HN5:=Lib.hid hN5
 have HF5:=Lib.hid (HF3.out.trans (.of_below hb5))
 have vK:=Lib.hid (CB.out.below HM.out hb5)
 have rJ:=Ob.out.below hb5 Ob.out.lt
 have zT:=ad9.out.below hb5 ad9.out.lt
 have Eo:=Lib.hid rJ
 have Zy:=Lib.hid zT
 have g0:=rJ.cell 0
 have g1:=rJ.cell 1
 have g2:=rJ.cell 2
 have g3:=rJ.cell 3
 have ln:=rJ.lt
 by_cases h80:80<=Nd.size kid
 ·have hoo:o=(.ok n,σ):=by rw[HO.out];unfold Tp.iE;rw[if_neg (by omega),HGE.out i hi,Ik.out];simp only;rw[if_pos h80]
  have HOO:=Lib.hid hoo
  have agw:80<=(Nd.size kid:Int):=by omega
  have d0:=zT.cell 0
  have d1:=zT.cell 1
  have d2:=zT.cell 2
  have d3:=zT.cell 3
  have f0:=zT.frozen 0
  have f1:=zT.frozen 1
  have f2:=zT.frozen 2
  have f3:=zT.frozen 3
  have lr:=zT.lt
  generalize Nd.size kid=sz at*
  clear h80 hoo hb5 hN5 rJ zT hL5
  go_wp2
  try simp only[Exit.inBlock,Exit.then]
  refine bodyPost_ret (aO aN rfl rfl (Zy.out.kS _ _ _ _) rfl) rfl ?_
  exact rH HM.out HF5.out (by rw[HOO.out];exact vK.out.less HM.out (by omega)) Zy.out (by omega) (by omega) (by omega) (Fr.nS _ _ _ _) (NF.frP HN5.out Zy.out (Fr.nS _ _ _ _)) (.inl ⟨by rw[HOO.out],rfl⟩)
 ·have agw:¬80<=(Nd.size kid:Int):=by omega
  obtain⟨a,b,hva,hvb,hoo⟩:=Tp.Kw (room:=room) (disk:=disk) (σ:=σ) (n:=n) (i:=i) (d:=d) (by omega) (by rw[HGE.out i hi];exact Ik.out) h80 (by rw[<-HO.out];exact H3.out)
  rw[<-HO.out]at hoo
  obtain⟨hj1,hj2⟩:=Tp.WW (n:=n) hi h1k
  obtain⟨j,hj⟩:∃j,j=Tp.sib n i:=⟨_,rfl⟩
  rw[<-hj]at hva hvb hoo hj1 hj2
  clear hj
  have hjk:j<n.keys.length:=by have:=HNK.out;omega
  have hj0:j<n.kids.length:=by omega
  rw[HGE.out j hj0]at hva
  rw[HGE.out (j+1) hj1]at hvb
  have gj:=hL5.1.int' hj0
  have gj1:=hL5.1.int' hj1
  have bij:=hL5.1.2 (by omega)
  have ahN:bi<w5.heap.size:=by obtain⟨ad,e,h,_⟩:=bij;injection e with e;subst e;exact h
  have ahO:by_<w5.heap.size:=by
   obtain⟨ad,e,h,_⟩:=hL5.2.2 (by omega);injection e with e;subst e;exact h
  have ahP:(j:Int)<n.kids.length:=by omega
  have ahs:(j:Int)+1<n.kids.length:=by omega
  have ahQ:(j:Int)<n.keys.length:=by omega
  have hzw:w.heap.size<=w5.heap.size:=by omega
  have HVA:=Lib.hid hva
  have HVB:=Lib.hid hvb
  have HOO:=Lib.hid hoo
  have HJK:=Lib.hid hjk
  have HJ1:=Lib.hid hj1
  generalize Nd.size kid=sz at*
  clear h80 bij hva hvb hoo hjk hb5 hN5 rJ zT hL5
  rcases hj2 with⟨hs,hs2⟩ | ⟨hs,hs2⟩
  case' inl=>
   have gq:((i:Int)==(n.kids.length:Int)-1)=true:=by rw[beq_iff_eq];omega
   have gi2:(i:Int)-1=((j:Nat):Int):=by omega
   clear hs hs2
   go_wp2_with fail
  case' inr=>
   have gq:((i:Int)==(n.kids.length:Int)-1)=false:=by rw[beq_eq_false_iff_ne];omega
   subst hs2
   clear hs
   go_wp2_with fail
  all_goals
   refine Calls.mono (HL.out _ a (r+2) HVA.out _ vK.out) ?_
   rintro e w6 ⟨va,rfl,na,on6,f6⟩
   obtain⟨A1,a1,A2,a2,A3,a3,rfl,ra⟩:=na
   have hz6:=f6.size
   have hba:=(Below.refl w6.heap.size w6).alloc (Nat.le_refl _) (.cells #[.bool a.leaf, .slice A1 a.ents.length a1, .slice A2 a.kids.length a2, .slice A3 a.keys.length a3] 146)
   have HA7:=Lib.hid (NF.below (lo:=w5.heap.size) (v:= .agg #[.bool a.leaf, .slice A1 a.ents.length a1, .slice A2 a.kids.length a2, .slice A3 a.keys.length a3]) ⟨A1,a1,A2,a2,A3,a3,rfl,ra⟩ hba)
   have hN7:=NF.below (NF.fr HN5.out f6 (fun k hk=>by have:=HM.out.low k hk;omega)) hba
   have hL7:=hN7.kid
   have gj1:=hL7.1.int' HJ1.out
   have HN7:=Lib.hid hN7
   have Tt:=Lib.hid (on6.below HM.out hba)
   have HF7:=Lib.hid ((HF5.out.trans f6).trans (.of_below hba))
   have Oi:=(f6.blk Eo.out (HM.out.far (by omega))).alloc (.cells #[.bool a.leaf, .slice A1 a.ents.length a1, .slice A2 a.kids.length a2, .slice A3 a.keys.length a3] 146)
   have agx:=Lib.hid ((f6.blk Zy.out (HM.out.far (by omega))).alloc (.cells #[.bool a.leaf, .slice A1 a.ents.length a1, .slice A2 a.kids.length a2, .slice A3 a.keys.length a3] 146))
   have agy:=Lib.hid (Blk.new w6 146 #[.bool a.leaf, .slice A1 a.ents.length a1, .slice A2 a.kids.length a2, .slice A3 a.keys.length a3])
   have hz7:(w6.alloc (.cells #[.bool a.leaf, .slice A1 a.ents.length a1, .slice A2 a.kids.length a2, .slice A3 a.keys.length a3] 146)).heap.size=w6.heap.size+1:=by simp
   unfold aP
   have g2:=Oi.cell 2
   have ln:=Oi.lt
   have abO:=Lib.hid Oi
   clear on6 f6 hba hN7 hL7 Oi ra g0 g1 g3 gj
   go_wp2_with fail
   refine Calls.mono (HL.out _ b r HVB.out _ Tt.out) ?_
   rintro e w8 ⟨vb,rfl,nb,on8,f8⟩
   obtain⟨B1,b1,B2,b2,B3,b3,rfl,rb⟩:=nb
   have hz8:=f8.size
   have hbb:=(Below.refl w8.heap.size w8).alloc (Nat.le_refl _) (.cells #[.bool b.leaf, .slice B1 b.ents.length b1, .slice B2 b.kids.length b2, .slice B3 b.keys.length b3] 146)
   have hz9:(w8.alloc (.cells #[.bool b.leaf, .slice B1 b.ents.length b1, .slice B2 b.kids.length b2, .slice B3 b.keys.length b3] 146)).heap.size=w8.heap.size+1:=by simp
   have HB9:=Lib.hid (NF.below (lo:=w6.heap.size) (v:= .agg #[.bool b.leaf, .slice B1 b.ents.length b1, .slice B2 b.kids.length b2, .slice B3 b.keys.length b3]) ⟨B1,b1,B2,b2,B3,b3,rfl,LO.lower rb.1 (by omega),LO.lower rb.2.1 (by omega),LO.lower rb.2.2 (by omega)⟩ hbb)
   have HA9:=Lib.hid (NF.below (NF.fr HA7.out f8 (fun k hk=>by have:=HM.out.low k hk;omega)) hbb)
   have hN9:=NF.below (NF.fr HN7.out f8 (fun k hk=>by have:=HM.out.low k hk;omega)) hbb
   have hL9:=hN9.kid
   have gky:=hL9.2.key' HJK.out
   have HN9:=Lib.hid hN9
   have Zz:=Lib.hid (on8.below HM.out hbb)
   have HF9:=Lib.hid ((HF7.out.trans f8).trans (.of_below hbb))
   have Oj:=(f8.blk abO.out (HM.out.far (by omega))).alloc (.cells #[.bool b.leaf, .slice B1 b.ents.length b1, .slice B2 b.kids.length b2, .slice B3 b.keys.length b3] 146)
   have agz:=Lib.hid ((f8.blk agx.out (HM.out.far (by omega))).alloc (.cells #[.bool b.leaf, .slice B1 b.ents.length b1, .slice B2 b.kids.length b2, .slice B3 b.keys.length b3] 146))
   have Ol:=(f8.blk agy.out (HM.out.far (by omega))).alloc (.cells #[.bool b.leaf, .slice B1 b.ents.length b1, .slice B2 b.kids.length b2, .slice B3 b.keys.length b3] 146)
   have Om:=Blk.new w8 146 #[.bool b.leaf, .slice B1 b.ents.length b1, .slice B2 b.kids.length b2, .slice B3 b.keys.length b3]
   have hfa:=(HM.out.ht vK.out.tm HVA.out).1
   have hfb:=(HM.out.ht Tt.out.tm HVB.out).1
   unfold aP
   generalize hw9:(w8.alloc (.cells #[.bool b.leaf, .slice B1 b.ents.length b1, .slice B2 b.kids.length b2, .slice B3 b.keys.length b3] 146))=w9 at*
   have g0:=Oj.cell 0
   have g1:=Oj.cell 1
   have g2:=Oj.cell 2
   have g3:=Oj.cell 3
   have ln:=Oj.lt
   have p0:=Ol.cell 0
   have p1:=Ol.cell 1
   have p2:=Ol.cell 2
   have p3:=Ol.cell 3
   have la:=Ol.lt
   have q0:=Om.cell 0
   have q1:=Om.cell 1
   have q2:=Om.cell 2
   have q3:=Om.cell 3
   have lb:=Om.lt
   have lby:by_<w9.heap.size:=by omega
   have hkg:n.keys.getD j ⟨#[]⟩=n.keys[j]'HJK.out:=by have:=HJK.out;simp[List.getD,this]
   have Tq:=agu.out _ (List.getElem_mem HJK.out)
   obtain⟨ky,hky⟩:∃k,k=n.keys[j]'HJK.out:=⟨_,rfl⟩
   rw[<-hky]at gky hkg Tq
   have ZA:=Lib.hid Tq
   have HKG:=Lib.hid hkg
   have aea:=Lib.hid Oj
   have aeb:=Lib.hid Ol
   have aec:=Lib.hid Om
   have HFA:=Lib.hid hfa
   have HFB:=Lib.hid hfb
   have HJN:=Lib.hid (fun W (hW:Below w9.heap.size w9 W)=>Xb (.agg #[.bool a.leaf, .slice A1 a.ents.length a1, .slice A2 a.kids.length a2, .slice A3 a.keys.length a3]) (.agg #[.bool b.leaf, .slice B1 b.ents.length b1, .slice B2 b.kids.length b2, .slice B3 b.keys.length b3]) a b ky W (NF.below HA9.out hW).ns (NF.below HB9.out hW).ns (iT HFA.out) (iT HFB.out))
   clear on8 f8 hbb hN9 hL9 Oj Ol Om rb hfa hfb hkg hky Tq
   go_wp2_with fail
   try simp only[hw9]
   clear hw9
   refine mX (base:=w9.heap.size) 9 (fun u=>⟨#[_,_,_,_,_,_,_,_,_,_,_,_,_,_,u 8,_,_,_,_,_,_,_,_,_,_,_,_,_,_,_,_,_,_,_,_,_,_,_,_,_,_,_,_,_,_,_,_,_,_,_,_,_,_,_,_,_,_,_,_,_,_,_,_,_,_,_,_,_,_,_,_,_,_,_,_,u 0,u 1,u 2,u 3,u 4,u 5,u 6,u 7,_,_,_,_,_,_,_,_,_,_,_,_,_,_,_,_,_,_,_,_,_,_,_,_,_,_,_,_,_,_,_,_,_,_,_,_,_,_,_,_,_,_,_,_],_⟩)
    [Is.eq _ (.agg #[.bool a.leaf, .slice A1 a.ents.length a1, .slice A2 a.kids.length a2, .slice A3 a.keys.length a3]),Is.eq _ (.pointer (some ⟨w.heap.size,3,none⟩)),Is.eq _ (.slice (some ⟨by_,oy,none⟩) n.keys.length cy),Is.eq _ (.int .i64 (j:Nat)),Is.eq _ (.pointer (some ⟨by_,oy+j,none⟩)),Is.eq _ (.string ky),Is.eq _ (.agg #[.bool b.leaf, .slice B1 b.ents.length b1, .slice B2 b.kids.length b2, .slice B3 b.keys.length b3]),Is.node2 _ w9.heap.size (Nat.le_refl _) (Nd.join a ky b),Is.box _]
    (by kernel_rfl) rfl (by kernel_rfl) (by kernel_rfl) (by kernel_rfl) [] rfl (Nat.le_refl _) (by simp) (by simp) ⟨fun _=>undef,rfl⟩ ?_ ?_
   ·intro i o hi9 ho uv W hf hold aj
    have hfb:Below w9.heap.size w9 W:=hf.low (Nat.le_refl _) (fun k a=>by simp at a)
    have hAW:=aeb.out.below hfb la
    have hBW:=aec.out.below hfb lb
    have hNW:=aea.out.below hfb ln
    have cW:=hNW.cell 3
    match i,ho with
    |0,ho=>obtain rfl:=Option.some.inj ho;exact Does.val (pz aN rfl rfl hAW rfl) ⟨rfl,rfl,Fr.refl _⟩
    |1,ho=>obtain rfl:=Option.some.inj ho;exact Does.val (fP rfl rfl) ⟨rfl,rfl,Fr.refl _⟩
    |2,ho=>obtain rfl:=Option.some.inj ho;exact Does.val (bU rfl (aj 1 rfl) cW) ⟨rfl,rfl,Fr.refl _⟩
    |3,ho=>obtain rfl:=Option.some.inj ho;exact Does.val (dL rfl rfl) ⟨rfl,rfl,Fr.refl _⟩
    |4,ho=>obtain rfl:=Option.some.inj ho;exact Does.val (BN rfl (aj 2 rfl) (aj 3 rfl) HJK.out) ⟨rfl,rfl,Fr.refl _⟩
    |5,ho=>obtain rfl:=Option.some.inj ho;exact Does.val (BM rfl (aj 4 rfl) ((hfb.cell (p:=⟨by_,oy+j,none⟩) lby).trans gky)) ⟨rfl,rfl,Fr.refl _⟩
    |6,ho=>obtain rfl:=Option.some.inj ho;exact Does.val (pz aN rfl rfl hBW rfl) ⟨rfl,rfl,Fr.refl _⟩
    |7,ho=>
     obtain rfl:=Option.some.inj ho
     refine Does.call (Ky WZ rfl (aj 0 rfl) (aj 5 rfl) (aj 6 rfl)) (Calls.mono (HJN.out W hfb) ?_)
     rintro e w' ⟨vj,rfl,nj,bj⟩
     exact⟨vj,rfl,rfl,nj.lower hfb.size, .of_below bj⟩
    |8,ho=>obtain rfl:=Option.some.inj ho;exact Does.val (Og rfl) ⟨rfl,⟨W.heap.size,hfb.size,rfl,Blk.new _ _ _⟩, .of_below ((Below.refl _ _).alloc (Nat.le_refl _) _)⟩
    |n+9,ho=>omega
   intro o ho uv W hf hall
   obtain rfl:=Option.some.inj ho
   have hfb:Below w9.heap.size w9 W:=hf.low (Nat.le_refl _) (fun k a=>by simp at a)
   obtain⟨g14,ahR,e8,JY⟩:=hall 8 (by decide)
   obtain⟨J1,j1,J2,j2,J3,j3,e7,rj⟩:=hall 7 (by decide)
   refine fF rfl e8 e7 ⟨_,_,_,_,_,_,_,_,_,_,rfl⟩ JY rfl fun w11 Oo zS=> ?_
   have ahS:=zS.size
   have aed:=hfb.size
   have ahT:=Oo.lt
   have aee:=Lib.hid (NF.frP (v:=aP (Nd.join a ky b).leaf J1 (Nd.join a ky b).ents.length j1 J2 (Nd.join a ky b).kids.length j2 J3 (Nd.join a ky b).keys.length j3) ⟨J1,j1,J2,j2,J3,j3,rfl,rj⟩ JY zS)
   have hfw:∀ (k:Nat) (ty:TypeId) (cs:Array Value),Blk w9 k ty cs->Blk w11 k ty cs:=fun k ty cs h=>zS.blk (h.below hfb h.lt) (fun e=>by have:=h.lt;omega)
   have CG:=hfw _ _ _ aea.out
   have Xd:=hfw _ _ _ aeb.out
   have Xe:=hfw _ _ _ aec.out
   have nT:=Lib.hid (hfw _ _ _ agz.out)
   have Xf:=Lib.hid ((Zz.out.below HM.out hfb).own HM.out zS JY (by omega) (by omega) (by decide) (by decide) (by decide) (by decide))
   have abP:=Lib.hid (Fr.old (S':=fun k=>S k\/k=g14) ((HF9.out.trans (.of_below hfb)).more (fun _=> .inl) |>.trans (zS.more fun _=> .inr)) (fun k hk=>hk.imp_right fun e=>by omega))
   have abQ:=NF.frP (NF.below HN9.out hfb) JY zS
   have abR:=abQ.kid
   have gj:=abR.1.int' hj0
   have gj1:=abR.1.int' HJ1.out
   have abS:=Lib.hid abQ
   simp only[e8]
   clear hall e7 e8 rj hfb zS hfw abQ abR JY p0 p1 p2 p3 q0 q1 q2 q3 g0 g1 g2 g3 hf aed
   have g0:=CG.cell 0
   have g1:=CG.cell 1
   have g2:=CG.cell 2
   have g3:=CG.cell 3
   have ln:=CG.lt
   have p0:=Xd.cell 0
   have la:=Xd.lt
   have q0:=Xe.cell 0
   have lb:=Xe.lt
   have s0:=Oo.cell 0
   have s1:=Oo.cell 1
   have s2:=Oo.cell 2
   have s3:=Oo.cell 3
   have d0:=nT.out.cell 0
   have d1:=nT.out.cell 1
   have d2:=nT.out.cell 2
   have d3:=nT.out.cell 3
   have f0:=nT.out.frozen 0
   have f1:=nT.out.frozen 1
   have f2:=nT.out.frozen 2
   have f3:=nT.out.frozen 3
   have lr:=nT.out.lt
   have aaI:=Lib.hid CG
   have aef:=Lib.hid Oo
   clear CG Xd Xe Oo
   by_cases hl:a.leaf=b.leaf
   case' neg=>
    have hln:(a.leaf != b.leaf)=true:=by simpa using hl
    have hend:o=(.ok n,σ):=by rw[HOO.out];unfold Tp.zq;rw[if_pos (.inl hln)]
    have aZ:=Lib.hid hend
    have h4:(a.leaf=true/\b.leaf=false)\/(a.leaf=false/\b.leaf=true):=by
     cases h1:a.leaf<;>cases h2:b.leaf<;>simp_all
    clear hl hend hln
    rcases h4 with⟨h4,h5⟩ | ⟨h4,h5⟩
    all_goals
     rw[h4]at p0
     rw[h5]at q0
     clear h4 h5
     go_wp2
     try simp only[Exit.inBlock,Exit.then]
     refine bodyPost_ret (aO aN rfl rfl (nT.out.kS _ _ _ _) rfl) rfl ?_
     exact rH HM.out abP.out (by rw[aZ.out];exact Xf.out) nT.out (by omega) (by omega) (by omega) (Fr.nS _ _ _ _) (NF.frP abS.out nT.out (Fr.nS _ _ _ _)) (.inl ⟨by rw[aZ.out],rfl⟩)
   have hln:(a.leaf != b.leaf)=false:=by simpa using hl
   rw[hl]at p0
   have HLN:=Lib.hid hln
   have hnj:=Zx HFA.out HFB.out ZA.out
   have HFI:=Lib.hid (oU _ (Nd.join a ky b) w11 aee.out.ns hnj)
   unfold aP at HFI
   cases hfit:Nd.fits (Nd.join a ky b)with
   |false=>
    rw[hfit]at HFI
    have hend:o=(.ok n,σ):=by rw[HOO.out];unfold Tp.zq;rw[if_pos (.inr (by rw[HKG.out];exact hfit))]
    have aZ:=Lib.hid hend
    clear hl hend hnj hfit hln
    go_wp2_with fail
    refine HFI.out.mono ?_
    rintro e w12 ⟨rfl,lU⟩
    have Tv:=lU.size
    have Xg:=Lib.hid (Xf.out.below HM.out lU)
    have abT:=Lib.hid (abP.out.trans (.of_below lU))
    have abU:=Lib.hid (NF.below abS.out lU)
    have nU:=nT.out.below lU lr
    have rM:=aaI.out.below lU ln
    have g0:=rM.cell 0
    have g1:=rM.cell 1
    have g2:=rM.cell 2
    have g3:=rM.cell 3
    have ln:=rM.lt
    have d0:=nU.cell 0
    have d1:=nU.cell 1
    have d2:=nU.cell 2
    have d3:=nU.cell 3
    have f0:=nU.frozen 0
    have f1:=nU.frozen 1
    have f2:=nU.frozen 2
    have f3:=nU.frozen 3
    have lr:=nU.lt
    have Kz:=Lib.hid nU
    clear lU nU rM
    go_wp2
    try simp only[Exit.inBlock,Exit.then]
    refine bodyPost_ret (aO aN rfl rfl (Kz.out.kS _ _ _ _) rfl) rfl ?_
    exact rH HM.out abT.out (by rw[aZ.out];exact Xg.out) Kz.out (by omega) (by omega) (by omega) (Fr.nS _ _ _ _) (NF.frP abU.out Kz.out (Fr.nS _ _ _ _)) (.inl ⟨by rw[aZ.out],rfl⟩)
   |true=>
    rw[hfit]at HFI
    have hend:o=Tp.kU n j (Tp.dY room σ (n.kids[j]'hj0) (Nd.join a ky b)):=by rw[HOO.out,Tn HKG.out hln hfit,HGE.out j hj0]
    have aZ:=Lib.hid hend
    have jP:=Lib.hid hfit
    clear hl hend hnj hfit hln
    go_wp2_with fail
    refine HFI.out.mono ?_
    rintro e w12 ⟨rfl,lU⟩
    have Tv:=lU.size
    have Xg:=Lib.hid (Xf.out.below HM.out lU)
    have abT:=Lib.hid (abP.out.trans (.of_below lU))
    have abV:=NF.below abS.out lU
    have aeg:=abV.kid
    have gj:=aeg.1.int' hj0
    have abU:=Lib.hid abV
    have agA:=Lib.hid (NF.below aee.out lU)
    have nU:=nT.out.below lU lr
    have rM:=aaI.out.below lU ln
    have aeh:=Lib.hid (aef.out.below lU aef.out.lt)
    have g2:=rM.cell 2
    have ln:=rM.lt
    have Kz:=Lib.hid nU
    have aei:=Lib.hid rM
    have lbi:bi<w12.heap.size:=by omega
    have lby:by_<w12.heap.size:=by omega
    clear lU nU rM abV aeg g0 g1 g3 d0 d1 d2 d3 f0 f1 f2 f3 s0 s1 s2 s3 lr lb la p0 q0
    go_wp2_with fail
    obtain⟨os,hos⟩:∃x,x=Tp.dY room σ (n.kids[j]'hj0) (Nd.join a ky b):=⟨_,rfl⟩
    have aaJ:=(HM.out.ht vK.out.tm HVA.out).2
    have HSV:=J9 HM.out u root er r σ (n.kids[j]'hj0) aaJ (.agg #[.bool (Nd.join a ky b).leaf, .slice J1 (Nd.join a ky b).ents.length j1, .slice J2 (Nd.join a ky b).kids.length j2, .slice J3 (Nd.join a ky b).keys.length j3]) (Nd.join a ky b) jP.out w12.drew (NF.below agA.out ((Below.refl _ _).drew)).ns (Xg.out.below HM.out ((Below.refl _ _).drew))
    rw[<-hos]at HSV
    have aaK:=Lib.hid (show o=Tp.kU n j os from by rw[aZ.out,hos])
    have HSV:=Lib.hid HSV
    clear hos aaJ
    refine uD 7 (fun u=>⟨#[_,_,_,_,_,_,_,_,_,_,_,u 12,_,_,_,u 11,_,_,_,_,_,_,_,_,_,_,_,_,_,_,_,_,_,_,_,_,_,_,_,_,_,_,_,_,_,_,_,_,_,_,_,_,_,_,_,_,_,_,_,_,_,_,_,_,_,_,_,_,_,_,_,_,_,_,_,_,_,_,_,_,_,_,_,_,_,_,_,_,_,_,_,_,_,_,u 8,u 0,u 1,u 2,u 3,u 4,u 5,u 6,u 7,u 9,u 10,_,_,_,_,_,_,_,_,_,_,_,_,_,_,_,_,_,_,_,_,_,_],_⟩)
     (fun v i=> [Value.pointer (some ⟨u,0,none⟩), .pointer (some ⟨w.heap.size,2,none⟩), .slice (some ⟨bi,oi,none⟩) n.kids.length ci, .int .i64 (j:Nat), .pointer (some ⟨bi,oi+j,none⟩), .int .i64 (n.kids[j]'hj0), .agg #[.bool (Nd.join a ky b).leaf, .slice J1 (Nd.join a ky b).ents.length j1, .slice J2 (Nd.join a ky b).kids.length j2, .slice J3 (Nd.join a ky b).keys.length j3],v,v,PZ v 0,PZ v 1,PZ v 0,PZ v 1].getD i undef)
     (fun v W=>PY S B t u TM root er r os w12.drew (.returned v) W)
     (by kernel_rfl) (by decide) (by kernel_rfl) (by kernel_rfl) (by kernel_rfl) (by kernel_rfl) (fun v v' i hi=>by
      match i,hi with
      |0,_=>rfl
      |1,_=>rfl
      |2,_=>rfl
      |3,_=>rfl
      |4,_=>rfl
      |5,_=>rfl
      |6,_=>rfl
      |n+7,h=>omega) (fun _=>rfl) ⟨fun i=>if i=12 then .int .i64 0 else undef,rfl⟩ ?_ ?_ ?_
    ·intro i o hi7 ho uu v W hpre hpost aj
     match i,ho with
     |0,ho=>
      obtain rfl:=Option.some.inj ho
      exact⟨.inl (dL rfl rfl),rfl⟩
     |1,ho=>
      obtain rfl:=Option.some.inj ho
      exact⟨.inl (fB rfl rfl),rfl⟩
     |2,ho=>
      obtain rfl:=Option.some.inj ho
      obtain rfl:=hpre (by decide)
      exact⟨.inl (bI rfl (aj 1 rfl) g2),rfl⟩
     |3,ho=>
      obtain rfl:=Option.some.inj ho
      exact⟨.inl (dL rfl rfl),rfl⟩
     |4,ho=>
      obtain rfl:=Option.some.inj ho
      exact⟨.inl (vJ rfl (aj 2 rfl) (aj 3 rfl) hj0),rfl⟩
     |5,ho=>
      obtain rfl:=Option.some.inj ho
      obtain rfl:=hpre (by decide)
      exact⟨.inl (Cm rfl (aj 4 rfl) gj),rfl⟩
     |6,ho=>
      obtain rfl:=Option.some.inj ho
      obtain rfl:=hpre (by decide)
      exact⟨.inl (pz aN rfl rfl aeh.out rfl),rfl⟩
     |7,ho=>exact absurd rfl hi7
     |8,ho=>
      obtain rfl:=Option.some.inj ho
      exact⟨.inl (dL rfl (aj 7 rfl)),rfl⟩
     |9,ho=>
      obtain rfl:=Option.some.inj ho
      obtain⟨p,x,e, -⟩:=hpost (by decide)
      injection e with e
      subst e
      exact⟨.inl (Zt rfl (aj 8 rfl)),rfl⟩
     |10,ho=>
      obtain rfl:=Option.some.inj ho
      obtain⟨p,x,e, -⟩:=hpost (by decide)
      injection e with e
      subst e
      exact⟨.inl (Zu rfl (aj 8 rfl)),rfl⟩
     |11,ho=>
      obtain rfl:=Option.some.inj ho
      exact⟨.inl (JG rfl (aj 9 rfl)),rfl⟩
     |12,ho=>
      obtain rfl:=Option.some.inj ho
      exact⟨.inl (JG rfl (aj 10 rfl)),rfl⟩
     |n+13,ho=>exact absurd ho (by simp)
    ·intro o ho uu v aj
     obtain rfl:=Option.some.inj ho
     refine⟨_,_,Ky W9 rfl (aj 0 (by decide)) (aj 5 (by decide)) (aj 6 (by decide)),Calls.mono HSV.out ?_⟩
     rintro e w' h
     obtain⟨p,x,rfl,h⟩:=h
     exact⟨_,rfl,⟨p,x,rfl,h⟩,rfl⟩
    ·intro uu v W hR hall
     obtain⟨pg,x,e,hres,hon,hfr⟩:=hR
     injection e with e
     subst e
     have e11:=hall 11 (by decide)
     have e12:=hall 12 (by decide)
     have abW:uu 11= .int .i64 pg:=e11
     have abX:uu 12= .int .i64 x:=e12
     simp only[abW,abX]
     have abY:=(abT.out.trans (.of_below ((Below.refl w12.heap.size w12).drew))).trans hfr
     have ahU:w12.heap.size<=W.heap.size:=hfr.size
     have aej:=Lib.hid abY
     have Xh:=Lib.hid hon
     have hfr2:Fr S w12 W:=⟨hfr.os,hfr.tape,hfr.output,hfr.size,hfr.block⟩
     have ZB:=NF.fr abU.out hfr2 (fun k hk=>by have:=HM.out.low k hk;omega)
     have aek:=Lib.hid ZB
     have abZ:=ZB.kid
     have gj1:=abZ.1.int' HJ1.out
     have zu:=hfr2.blk aei.out (HM.out.far (by omega))
     have qF:=hfr2.blk Kz.out (HM.out.far (by omega))
     have P6:=hon.self
     have g0:=zu.cell 0
     have g1:=zu.cell 1
     have g2:=zu.cell 2
     have g3:=zu.cell 3
     have ln:=zu.lt
     have d0:=qF.cell 0
     have d1:=qF.cell 1
     have d2:=qF.cell 2
     have d3:=qF.cell 3
     have f0:=qF.frozen 0
     have f1:=qF.frozen 1
     have f2:=qF.frozen 2
     have f3:=qF.frozen 3
     have lr:=qF.lt
     have tc0:=P6.cell 0
     have agB:=P6.lt
     have ael:=Lib.hid zu
     have P7:=Lib.hid qF
     rcases hres with⟨hok,rfl,ahV⟩ | ⟨herr,rfl⟩
     case' inr=>
      have hend:o=(.error 2,os.2):=by rw[aaK.out,Tp.Ii herr]
      have HE:=Lib.hid hend
      clear hend herr hall e11 e12 abW abX abY hfr hfr2 hon ZB abZ zu qF P6 gj
      go_wp2
      try simp only[Exit.inBlock,Exit.then]
      refine bodyPost_ret (aO aN rfl rfl (P7.out.kS _ _ _ _) rfl) rfl ?_
      exact rH HM.out aej.out (by rw[HE.out];exact Xh.out) P7.out (by omega) (by omega) (by omega) (Fr.nS _ _ _ _) (NF.frP aek.out P7.out (Fr.nS _ _ _ _)) (.inr ⟨by rw[HE.out],rfl⟩)
     have hend:o=(.ok (Nd.swap n j (j+2) [pg] []),Tp.dK os.2 (n.kids[j+1]'HJ1.out)):=by rw[aaK.out,Tp.Kv hok,HGE.out (j+1) HJ1.out]
     have HE:=Lib.hid hend
     clear hend hok hall e11 e12 abW abX abY hfr hfr2 hon ZB abZ zu qF P6 gj
     go_wp2_with fail
     have aem:=(HM.out.ht Tt.out.tm HVB.out).2
     have hadd:IntKind.i64.wrap ((j:Int)+1)=(((j+1:Nat)):Int):=by rw[show((j+1:Nat):Int)=(j:Int)+1 by omega];exact IntWalk.i64_in _ (by omega)
     have HDR:=Lib.hid (fun W' (hW:TM r os.2 W')=>HM.out.drop (n.kids[j+1]'HJ1.out) hW aem)
     refine uD 10 (fun uu=>⟨#[_,_,_,_,_,_,_,_,_,_,_,_,_,_,_,_,_,_,_,_,_,_,_,_,_,_,_,_,_,_,_,_,_,_,_,_,_,_,_,_,_,_,_,_,_,_,_,_,_,_,_,_,_,_,_,_,_,_,_,_,_,_,_,_,_,_,_,_,_,_,_,_,_,_,_,_,_,_,_,_,_,_,_,_,_,_,_,_,_,_,_,_,_,_,_,_,_,_,_,_,_,_,_,_,_,_,_,_,_,uu 0,uu 1,uu 2,uu 3,uu 4,uu 5,uu 6,uu 7,uu 8,uu 9,uu 10,_,_,_,_,_,_,_],_⟩)
      (fun v i=> [Value.pointer (some ⟨u,0,none⟩), .pointer (some ⟨u,0,none⟩), .pointer (some ⟨u,0,none⟩), .pointer (some ⟨t,0,none⟩), .pointer (some ⟨w.heap.size,2,none⟩), .slice (some ⟨bi,oi,none⟩) n.kids.length ci, .int .i64 (j:Nat), .int .i64 ((j+1:Nat):Int), .pointer (some ⟨bi,oi+(j+1),none⟩), .int .i64 (n.kids[j+1]'HJ1.out),v].getD i undef)
      (fun v W'=>v= .tuple #[]/\TM r (Tp.dK os.2 (n.kids[j+1]'HJ1.out)) W'/\Fr S W.drew W')
      (by kernel_rfl) (by decide) (by kernel_rfl) (by kernel_rfl) (by kernel_rfl) (by kernel_rfl) (fun v v' i hi=>by
       match i,hi with
       |0,_=>rfl
       |1,_=>rfl
       |2,_=>rfl
       |3,_=>rfl
       |4,_=>rfl
       |5,_=>rfl
       |6,_=>rfl
       |7,_=>rfl
       |8,_=>rfl
       |9,_=>rfl
       |n+10,h=>omega) (fun _=>rfl) ⟨fun _=>undef,rfl⟩ ?_ ?_ ?_
     ·intro i o hi7 ho uu v W' hpre hpost aj
      match i,ho with
      |0,ho=>
       obtain rfl:=Option.some.inj ho
       exact⟨.inl (dL rfl rfl),rfl⟩
      |1,ho=>
       obtain rfl:=Option.some.inj ho
       exact⟨.inl (Zv rfl (aj 0 rfl)),rfl⟩
      |2,ho=>
       obtain rfl:=Option.some.inj ho
       exact⟨.inl (Zw rfl (aj 1 rfl)),rfl⟩
      |3,ho=>
       obtain rfl:=Option.some.inj ho
       obtain rfl:=hpre (by decide)
       exact⟨.inl (WY rfl (aj 2 rfl) tc0),rfl⟩
      |4,ho=>
       obtain rfl:=Option.some.inj ho
       exact⟨.inl (fB rfl rfl),rfl⟩
      |5,ho=>
       obtain rfl:=Option.some.inj ho
       obtain rfl:=hpre (by decide)
       exact⟨.inl (bI rfl (aj 4 rfl) g2),rfl⟩
      |6,ho=>
       obtain rfl:=Option.some.inj ho
       exact⟨.inl (dL rfl rfl),rfl⟩
      |7,ho=>
       obtain rfl:=Option.some.inj ho
       exact⟨.inl (by
        show _=Result.ok (Next.value (.int .i64 ((j+1:Nat):Int))) _
        rw[<-hadd]
        exact abN (i:=(j:Int)) (j:=1) rfl (aj 6 rfl) rfl),rfl⟩
      |8,ho=>
       obtain rfl:=Option.some.inj ho
       exact⟨.inl (vJ rfl (aj 5 rfl) (aj 7 rfl) HJ1.out),rfl⟩
      |9,ho=>
       obtain rfl:=Option.some.inj ho
       obtain rfl:=hpre (by decide)
       exact⟨.inl (Cm rfl (aj 8 rfl) gj1),rfl⟩
      |10,ho=>exact absurd rfl hi7
      |n+11,ho=>exact absurd ho (by simp)
     ·intro o ho uu v aj
      obtain rfl:=Option.some.inj ho
      refine⟨_,_,wW Xa rfl (aj 3 (by decide)) (aj 9 (by decide)),Calls.mono (HDR.out W.drew (Xh.out.below HM.out ((Below.refl _ _).drew)).tm) ?_⟩
      rintro e w' ⟨rfl,h1,h2⟩
      exact⟨_,rfl,⟨rfl,h1,h2⟩,rfl⟩
     ·intro uu v W14 hR hall
      obtain⟨rfl,aen,rO⟩:=hR
      have zx:=(Xh.out.below HM.out ((Below.refl _ _).drew)).step HM.out aen rO
      have FN:Fr S W W14:=⟨rO.os,rO.tape,rO.output,rO.size,rO.block⟩
      have aeo:=FN.size
      have aep:=NF.fr aek.out FN (fun k hk=>by have:=HM.out.low k hk;omega)
      have CJ:=FN.blk ael.out (HM.out.far (by omega))
      have aaL:=FN.blk P7.out (HM.out.far (by omega))
      have KA:=Lib.hid zx
      have Xi:=Lib.hid (aej.out.trans FN)
      have agC:=Lib.hid aep
      have aht:=Lib.hid CJ
      have aer:=Lib.hid aaL
      have g0:=CJ.cell 0
      have g1:=CJ.cell 1
      have g2:=CJ.cell 2
      have g3:=CJ.cell 3
      have ln:=CJ.lt
      clear hall aen rO FN zx aep CJ aaL hadd aem gj1 tc0 agB d0 d1 d2 d3 f0 f1 f2 f3 lr
      have hy1:=(Below.refl W14.heap.size W14).alloc (Nat.le_refl _) (.cells #[.int .i64 pg] 3)
      have hone:LO aV 3 (W14.alloc (.cells #[.int .i64 pg] 3)) W14.heap.size (.slice (some ⟨W14.heap.size,0,none⟩) 1 1) [pg]:=LO.one rfl rfl (Blk.new _ _ _) (Nat.le_refl _)
      have hswap:=swap_any (aP n.leaf Ae n.ents.length ce (some ⟨bi,oi,none⟩) n.kids.length ci (some ⟨by_,oy,none⟩) n.keys.length cy) n (some ⟨W14.heap.size,0,none⟩) none 1 0 j (j+2) [pg] [] HLF.out (by omega) (by have:=HJ1.out;omega) HNK.out rfl _ (NF.below agC.out hy1).ns HNB.out (LO.sv (c:=1) (n:=1) hone) ⟨LS.nil_,by simp,fun _=>rfl⟩ (by simp)
      rw[show(((j+2:Nat)):Int)=(j:Int)+2 by omega]at hswap
      have HSW:=Lib.hid hswap
      have aes:=Lib.hid (KA.out.below HM.out hy1)
      have agD:=Lib.hid (Xi.out.trans (.of_below hy1))
      have aaM:=Lib.hid (aer.out.alloc (.cells #[.int .i64 pg] 3))
      unfold aP at HSW
      clear hy1 hone hswap
      go_wp2_with fail
      refine HSW.out.mono ?_
      rintro e w16 ⟨vs,rfl,hns,hb16⟩
      have agE:=hb16.size
      simp only[World.size_alloc]at agE
      obtain⟨T1,t1,T2,t2,T3,t3,rfl,rt⟩:=hns
      have HNS:=Lib.hid (NF.lower (lo':=lo) (v:=aP (Nd.swap n j (j+2) [pg] []).leaf T1 (Nd.swap n j (j+2) [pg] []).ents.length t1 T2 (Nd.swap n j (j+2) [pg] []).kids.length t2 T3 (Nd.swap n j (j+2) [pg] []).keys.length t3) ⟨T1,t1,T2,t2,T3,t3,rfl,rt⟩ (by simp;omega))
      have aeu:=Lib.hid (aes.out.below HM.out hb16)
      have agF:=Lib.hid (agD.out.trans (.of_below hb16))
      have rP:=aaM.out.below hb16 aaM.out.lt
      have d0:=rP.cell 0
      have d1:=rP.cell 1
      have d2:=rP.cell 2
      have d3:=rP.cell 3
      have f0:=rP.frozen 0
      have f1:=rP.frozen 1
      have f2:=rP.frozen 2
      have f3:=rP.frozen 3
      have lr:=rP.lt
      have Xj:=Lib.hid rP
      unfold aP
      generalize Nd.swap n j (j+2) [pg] []=ns at*
      clear hb16 rP rt g0 g1 g2 g3
      go_wp2
      try simp only[Exit.inBlock,Exit.then]
      refine bodyPost_ret (aO aN rfl rfl (Xj.out.kS _ _ _ _) rfl) rfl ?_
      exact rH HM.out agF.out (by rw[HE.out];exact aeu.out) Xj.out (by omega) (by omega) (by omega) (Fr.nS _ _ _ _) (NF.frP HNS.out Xj.out (Fr.nS _ _ _ _)) (.inl ⟨by rw[HE.out],rfl⟩)
end
end Go.Proofs.YteppebbmnojapaaGreatDoor
