/- Part of this proof. -/
import Derived.Test.YtjoiajmbfbjnnaaGreatDoorV24
import Derived.Test.YtjoiajmbfbjnnaaGreatDoorV25
set_option maxRecDepth 100000
set_option maxHeartbeats 8000000
namespace Go.Proofs.YtjoiajmbfbjnnaaGreatDoor
open Go.RowKit Go.Shelf
theorem ent_join:∀args w,(callFunc 247 args).run Tryz.prog w= .ok (.enter 247 args) w:=fun args w=>by kernel_rfl
theorem ent_save:∀args w,(callFunc 209 args).run Tryz.prog w= .ok (.enter 209 args) w:=fun args w=>by kernel_rfl
theorem ent_drop:∀args w,(callFunc 207 args).run Tryz.prog w= .ok (.enter 207 args) w:=fun args w=>by kernel_rfl
theorem LS.int'{w:World}{B b off:Nat}{l:List Int}(h:LS intE w B (some ⟨b,off,none⟩) l){k:Nat}(hk:k<l.length):w.cell? ⟨b,off+k,none⟩=some (.int .i64 l[k]):=by
 obtain⟨b',o',e,_,g⟩:=h.int hk
 injection e with e;injection e with e1 e2;subst e1 e2;exact g
theorem LS.key'{w:World}{B b off:Nat}{l:List ByteArray}(h:LS keyE w B (some ⟨b,off,none⟩) l){k:Nat}(hk:k<l.length):w.cell? ⟨b,off+k,none⟩=some (.string l[k]):=by
 obtain⟨b',o',e,_,g⟩:=h.key hk
 injection e with e;injection e with e1 e2;subst e1 e2;exact g
theorem Fr.put4e{w:World}{g:Nat}(a' b' c' d':Value):Fr (fun k=>k=g) w ((((w.setCell ⟨g,0,none⟩ a').setCell ⟨g,1,none⟩ b').setCell ⟨g,2,none⟩ c').setCell ⟨g,3,none⟩ d'):=Fr.put4 (S:=fun k=>k=g) rfl _ _ _ _
theorem NF.frP{lo g:Nat}{w w':World}{v:Value}{n:Nd.Node}{cs:Array Value}{ty:TypeId}(h:NF lo w v n)(hB:Blk w g ty cs)(hf:Fr (fun k=>k=g) w w')(h1:34≠ty:=by decide)(h2:3≠ty:=by decide)(h3:9≠ty:=by decide):NF lo w' v n:=by
 obtain⟨Ae,ce,Ai,ci,Ay,cy,e,q1,q2,q3⟩:=h
 exact⟨Ae,ce,Ai,ci,Ay,cy,e,LO.frB q1 hf (fun g' hg e=>own_blk_ne q1 hB h1 (e ▸ hg)),LO.frB q2 hf (fun g' hg e=>own_blk_ne q2 hB h2 (e ▸ hg)),LO.frB q3 hf (fun g' hg e=>own_blk_ne q3 hB h3 (e ▸ hg))⟩
theorem join_mixed(va vb:Value)(a b:Nd.Node)(key:ByteArray)(hl:a.leaf≠b.leaf)(w:World)(ha:NS w va a)(hb:NS w vb b)(hba:NB a):
  Calls Tryz.prog 247 #[va, .string key,vb] w fun e w'=>∃v',e= .returned v'/\NF w.heap.size w' v' a/\Below w.heap.size w w':=by
 obtain⟨Aea,cea,Aia,cia,Aya,cya,rfl,ha1,ha2,ha3⟩:=ha
 obtain⟨Aeb,ceb,Aib,cib,Ayb,cyb,rfl,hb1,hb2,hb3⟩:=hb
 have HC:=Lib.hid (fun W (hbW:Below w.heap.size w W)=>copied_any (.agg #[.bool a.leaf, .slice Aea a.ents.length cea, .slice Aia a.kids.length cia, .slice Aya a.keys.length cya]) a W ⟨Aea,cea,Aia,cia,Aya,cya,rfl,ha1.up hbW,ha2.up hbW,ha3.up hbW⟩ hba)
 unfold nodeV
 have hBa:=((Blk.new w 32 #[.bool a.leaf, .slice Aea a.ents.length cea, .slice Aia a.kids.length cia, .slice Aya a.keys.length cya]).alloc (.cells #[.bool b.leaf, .slice Aeb b.ents.length ceb, .slice Aib b.kids.length cib, .slice Ayb b.keys.length cyb] 32)).alloc (.cells #[.bool false, .slice none 0 0, .slice none 0 0, .slice none 0 0] 32)
 have hBb:=(Blk.new (w.alloc (.cells #[.bool a.leaf, .slice Aea a.ents.length cea, .slice Aia a.kids.length cia, .slice Aya a.keys.length cya] 32)) 32 #[.bool b.leaf, .slice Aeb b.ents.length ceb, .slice Aib b.kids.length cib, .slice Ayb b.keys.length cyb]).alloc (.cells #[.bool false, .slice none 0 0, .slice none 0 0, .slice none 0 0] 32)
 have hBr:=Blk.new ((w.alloc (.cells #[.bool a.leaf, .slice Aea a.ents.length cea, .slice Aia a.kids.length cia, .slice Aya a.keys.length cya] 32)).alloc (.cells #[.bool b.leaf, .slice Aeb b.ents.length ceb, .slice Aib b.kids.length cib, .slice Ayb b.keys.length cyb] 32)) 32 #[.bool false, .slice none 0 0, .slice none 0 0, .slice none 0 0]
 have hx1:=(Below.refl w.heap.size w).alloc (Nat.le_refl _) (.cells #[.bool a.leaf, .slice Aea a.ents.length cea, .slice Aia a.kids.length cia, .slice Aya a.keys.length cya] 32)
 have hx2:=hx1.alloc hx1.size (.cells #[.bool b.leaf, .slice Aeb b.ents.length ceb, .slice Aib b.kids.length cib, .slice Ayb b.keys.length cyb] 32)
 have hb0:=hx2.alloc hx2.size (.cells #[.bool false, .slice none 0 0, .slice none 0 0, .slice none 0 0] 32)
 simp only[World.size_alloc]at hBb hBr
 have hz:(((w.alloc (.cells #[.bool a.leaf, .slice Aea a.ents.length cea, .slice Aia a.kids.length cia, .slice Aya a.keys.length cya] 32)).alloc (.cells #[.bool b.leaf, .slice Aeb b.ents.length ceb, .slice Aib b.kids.length cib, .slice Ayb b.keys.length cyb] 32)).alloc (.cells #[.bool false, .slice none 0 0, .slice none 0 0, .slice none 0 0] 32)).heap.size=w.heap.size+3:=by simp
 obtain⟨ND,hND⟩:∃x:Nd.Node,x=a:=⟨_,rfl⟩
 have HND:=Lib.hid hND
 have hq:∀lo W v,NF lo W v a->NF lo W v ND:=fun lo W v h=>by rw[hND];exact h
 have HQ:=Lib.hid hq
 have hgoal:(fun e w'=>∃v',e=Ending.returned v'/\NF w.heap.size w' v' a/\Below w.heap.size w w')=(fun e w'=>∃v',e=Ending.returned v'/\NF w.heap.size w' v' ND/\Below w.heap.size w w'):=by rw[hND]
 rw[hgoal]
 have h4:(a.leaf=true/\b.leaf=false)\/(a.leaf=false/\b.leaf=true):=by
  cases h1:a.leaf<;>cases h2:b.leaf<;>simp_all
 have HB0:=Lib.hid hb0
 have HBr:=Lib.hid hBr
 have a0:=hBa.cell 0
 have a1:=hBa.cell 1
 have a2:=hBa.cell 2
 have a3:=hBa.cell 3
 have la:=hBa.lt
 have c0:=hBb.cell 0
 have lb:=hBb.lt
 clear hba hl hx1 hx2 hb0 hBa hBb hBr hND hq hgoal
 rcases h4 with⟨h4,h5⟩ | ⟨h4,h5⟩
 all_goals
  rw[h4]at HC HB0 HBr a0 a1 a2 a3 la c0 lb hz ⊢
  rw[h5]at HB0 HBr a0 a1 a2 a3 la c0 lb hz ⊢
  clear h4 h5
  go_enter Tryz.func247,Tryz.ntmps247
  go_wp2_with fail
  refine(HC.out _ HB0.out).mono ?_
  rintro e w1 ⟨v',rfl,hnf,hb1⟩
  have hb01:=HB0.out.trans (hb1.mono HB0.out.size)
  have hz1:=hb1.size
  have hBr:=HBr.out.below hb1 HBr.out.lt
  obtain⟨A1,k1,A2,k2,A3,k3,rfl,r⟩:=hnf
  have d0:=hBr.cell 0
  have d1:=hBr.cell 1
  have d2:=hBr.cell 2
  have d3:=hBr.cell 3
  have f0:=hBr.frozen 0
  have f1:=hBr.frozen 1
  have f2:=hBr.frozen 2
  have f3:=hBr.frozen 3
  have lr:=hBr.lt
  have H2:=Lib.hid hBr
  have HR:=Lib.hid (NF.lower (lo':=w.heap.size) (v:=nodeV a.leaf A1 a.ents.length k1 A2 a.kids.length k2 A3 a.keys.length k3) ⟨A1,k1,A2,k2,A3,k3,rfl,r⟩ (by omega))
  unfold nodeV
  clear hb1 hBr r a0 a1 a2 a3 c0 la lb
  go_wp2
  try simp only[Exit.inBlock,Exit.then]
  refine bodyPost_ret (res_cell node_struct rfl rfl (H2.out.put4 _ _ _ _) rfl) rfl ?_
  exact⟨_,rfl,HQ.out _ _ _ (NF.frP HR.out H2.out (Fr.put4e _ _ _ _)),hb01.trans ((Fr.put4e _ _ _ _).low (by omega) (fun k hk=>by omega))⟩
theorem join_any(va vb:Value)(a b:Nd.Node)(key:ByteArray)(w:World)(ha:NS w va a)(hb:NS w vb b)(hba:NB a)(hbb:NB b):
  Calls Tryz.prog 247 #[va, .string key,vb] w fun e w'=>∃v',e= .returned v'/\NF w.heap.size w' v' (Nd.join a key b)/\Below w.heap.size w w':=by
 by_cases hl:a.leaf=b.leaf
 case neg=>
  have e0:Nd.join a key b=a:=by unfold Nd.join;rw[if_pos (by simpa using hl)]
  rw[e0]
  exact join_mixed va vb a b key hl w ha hb hba
 cases h:a.leaf with
 |true=>
  have e0:Nd.join a key b=⟨true,a.ents++b.ents,a.kids++b.kids,a.keys++b.keys⟩:=by
   unfold Nd.join;rw[<-hl,h];rfl
  rw[e0]
  exact join_leaf va vb a b key h (hl ▸ h) w ha hb hba hbb
 |false=>
  have e0:Nd.join a key b=⟨false,a.ents++b.ents,a.kids++b.kids,a.keys++ [key]++b.keys⟩:=by
   unfold Nd.join;rw[<-hl,h];rfl
  rw[e0]
  exact join_inner va vb a b key h (hl ▸ h) w ha hb hba hbb
theorem fillJ_yes{room:Int}{σ:Tp.Pst}{n a b:Nd.Node}{j:Nat}{k:ByteArray}(hk:n.keys.getD j ⟨#[]⟩=k)(hln:(a.leaf != b.leaf)=false)(hfit:Nd.fits (Nd.join a k b)=true):Tp.fillJ room σ n j a b=Tp.fillSave n j (Tp.pSave room σ (n.kids.getD j 0) (Nd.join a k b)):=by
 unfold Tp.fillJ
 rw[hk,if_neg]
 rintro(h | h)
 ·rw[hln]at h;cases h
 ·rw[hfit]at h;cases h
theorem nb_join{a b:Nd.Node}{k:ByteArray}(ha:Nd.fits a=true)(hb:Nd.fits b=true)(hk:k.size<=16):NB (Nd.join a k b):=by
 have sm:∀ {n:Nd.Node},Nd.fits n=true->n.ents.length<=300/\n.kids.length<=300/\n.keys.length<=300/\Nd.esize n.ents<=300/\Nd.ksize n.keys<=300:=by
  intro n h
  obtain⟨hr,hs⟩:=Tp.fits_iff.1 h
  obtain⟨leaf,ents,kids,keys⟩:=n
  cases leaf with
  |true=>
   obtain⟨h1,rfl,rfl⟩:=Nd.right_leaf.1 hr
   have hs:Nd.esize ents<=240:=hs
   have:=Nd.esize_len ents
   refine⟨by show ents.length<=_;omega,Nat.zero_le _,Nat.zero_le _,by show Nd.esize ents<=_;omega,by show Nd.ksize []<=_;simp[Nd.ksize]⟩
  |false=>
   obtain⟨rfl,h2,_,_⟩:=Nd.right_inner.1 hr
   have hs:4+Nd.ksize keys<=240:=hs
   have:=Nd.ksize_len keys
   exact⟨Nat.zero_le _,by show kids.length<=_;omega,by show keys.length<=_;omega,by show Nd.esize []<=_;simp[Nd.esize],by show Nd.ksize keys<=_;omega⟩
 obtain⟨a1,a2,a3,a4,a5⟩:=sm ha
 obtain⟨b1,b2,b3,b4,b5⟩:=sm hb
 unfold Nd.join
 split
 ·exact⟨by omega,by omega,by omega,by omega,by omega⟩
 ·split
  ·exact⟨by simp only[List.length_append];omega,by simp only[List.length_append];omega,by simp only[List.length_append];omega,by simp only[Nd.esize_append];omega,by simp only[Nd.ksize_append];omega⟩
  ·have e:Nd.ksize [k]=5+k.size:=by rw[Nd.ksize_cons];unfold Nd.ksz;simp[Nd.ksize]
   exact⟨by simp only[List.length_append];omega,by simp only[List.length_append];omega,by simp only[List.length_append,List.length_cons,List.length_nil];omega,by simp only[Nd.esize_append];omega,by simp only[Nd.ksize_append,e];omega⟩
section
variable {S:Nat->Prop}{B t:Nat}{room:Int}{disk:Tp.Disk}{TM:Nat->Tp.Pst->World->Prop}
def FillEnd(S:Nat->Prop)(B t u:Nat)(TM:Nat->Tp.Pst->World->Prop)(root er:Int)(r lo:Nat)(o:Except Int Nd.Node × Tp.Pst)(w:World)(e:Ending)(w':World):Prop:=
 ∃v n',∃x:Int,e= .returned (.tuple #[v, .int .i64 x])/\NF lo w' v n'/\((o.1= .ok n'/\x=0)\/(o.1= .error 2/\x=2))/\On S B t u TM root er r o.2 w'/\Fr S w w'
theorem fill_end(M:Mach S B t room disk TM){u r lo:Nat}{root er x:Int}{o:Except Int Nd.Node × Tp.Pst}{n':Nd.Node}{w w4 wf:World}{g:Nat}{cs:Array Value}{v:Value}(hF:Fr S w w4)(hon:On S B t u TM root er r o.2 w4)(hB:Blk w4 g 32 cs)(hg:w.heap.size<=g)(hsz:B<=w.heap.size)(hgu:g≠u)(hfr:Fr (fun k=>k=g) w4 wf)(hp:NF lo wf v n')(hr:(o.1= .ok n'/\x=0)\/(o.1= .error 2/\x=2)):FillEnd S B t u TM root er r lo o w (.returned (.tuple #[v, .int .i64 x])) wf:=
 ⟨v,n',x,rfl,hp,hr,hon.own M hfr hB (by omega) hgu (by decide) (by decide) (by decide) (by decide),Fr.old (S':=fun k=>S k\/k=g) ((hF.more fun _=> .inl).trans (hfr.more fun _=> .inr)) (fun k hk=>hk.imp_right fun e=>by omega)⟩
theorem NF.kid{lo:Nat}{w:World}{Ae Ai Ay:Option Addr}{ce ci cy:Nat}{n:Nd.Node}(h:NF lo w (nodeV n.leaf Ae n.ents.length ce Ai n.kids.length ci Ay n.keys.length cy) n):LS intE w w.heap.size Ai n.kids/\LS keyE w w.heap.size Ay n.keys:=by
 obtain⟨_,_,_,_,_,_,e,h1,h2,h3⟩:=h
 unfold nodeV at e
 simp only[Value.agg.injEq,Array.mk.injEq,List.cons.injEq,Value.slice.injEq,and_true,true_and]at e
 obtain⟨⟨rfl,rfl⟩,⟨rfl,rfl⟩,rfl,rfl⟩:=e
 exact⟨h2.ls,h3.ls⟩
theorem fill_any(M:Mach S B t room disk TM)(u:Nat)(root er:Int)(r lo:Nat)(σ:Tp.Pst)(v:Value)(n:Nd.Node)(i d:Nat)(hlf:n.leaf=false)(hnk:n.keys.length+1=n.kids.length)(hk16:∀k∈n.keys,k.size<=16)(hi:i<n.kids.length)(h1k:1<n.kids.length)(hnb:NB n)
  (h3:(Tp.pFill room disk σ n i d).1≠ .error 3) (w:World) (hns:NF lo w v n) (hlo:B<=lo) (hlo2:lo<=w.heap.size) (h:On S B t u TM root er (r+6) σ w):
  Calls Tryz.prog 211 #[.pointer (some ⟨u,0,none⟩),v, .int .i64 (i:Nat), .int .i64 (d:Nat)] w (FillEnd S B t u TM root er r lo (Tp.pFill room disk σ n i d) w):=by
 obtain⟨o,ho⟩:∃o,o=Tp.pFill room disk σ n i d:=⟨_,rfl⟩
 rw[<-ho]at h3 ⊢
 have hd:d<24:=by
  by_cases hd:24<=d
  ·rw[ho]at h3;unfold Tp.pFill at h3;rw[if_pos hd]at h3;exact absurd rfl h3
  ·omega
 have hge:∀j (hj:j<n.kids.length),n.kids.getD j 0=n.kids[j]:=fun j hj=>by simp[List.getD,hj]
 obtain⟨kid,hkid⟩:∃kid,σ.view disk n.kids[i]=some kid:=by
  cases hk:σ.view disk n.kids[i]with
  |some kid=>exact⟨kid,rfl⟩
  |none=>
   rw[ho]at h3;unfold Tp.pFill at h3
   rw[if_neg (by omega),hge i hi,hk]at h3
   exact absurd rfl h3
 obtain⟨Ae,ce,Ai,ci,Ay,cy,rfl,q1,q2,q3⟩:=hns
 obtain⟨bi,oi,rfl,hbi,gi⟩:=q2.ls.int hi
 obtain⟨by_,oy,rfl,hby, -⟩:=q3.ls.key (show 0<n.keys.length by omega)
 have hns:NF lo w (nodeV n.leaf Ae n.ents.length ce (some ⟨bi,oi,none⟩) n.kids.length ci (some ⟨by_,oy,none⟩) n.keys.length cy) n:=⟨Ae,ce,_,ci,_,cy,rfl,q1,q2,q3⟩
 have hb1:=(Below.refl w.heap.size w).alloc (Nat.le_refl _) (.cells #[.bool n.leaf, .slice Ae n.ents.length ce, .slice (some ⟨bi,oi,none⟩) n.kids.length ci, .slice (some ⟨by_,oy,none⟩) n.keys.length cy] 32)
 have hb2:=hb1.alloc hb1.size (.cells #[.bool false, .slice none 0 0, .slice none 0 0, .slice none 0 0] 32)
 have hBn:=(Blk.new w 32 #[.bool n.leaf, .slice Ae n.ents.length ce, .slice (some ⟨bi,oi,none⟩) n.kids.length ci, .slice (some ⟨by_,oy,none⟩) n.keys.length cy]).alloc (.cells #[.bool false, .slice none 0 0, .slice none 0 0, .slice none 0 0] 32)
 have hBr:=Blk.new (w.alloc (.cells #[.bool n.leaf, .slice Ae n.ents.length ce, .slice (some ⟨bi,oi,none⟩) n.kids.length ci, .slice (some ⟨by_,oy,none⟩) n.keys.length cy] 32)) 32 #[.bool false, .slice none 0 0, .slice none 0 0, .slice none 0 0]
 simp only[World.size_alloc]at hBr
 have hsz:=M.size h.tm
 have hun:u<w.heap.size:=h.self.lt
 have hH2:=(h.below M hb1).below M (Below.alloc (Below.refl _ _) (Nat.le_refl _) (.cells #[.bool false, .slice none 0 0, .slice none 0 0, .slice none 0 0] 32))
 have hN2:=NF.below hns hb2
 unfold nodeV
 have hw2:∃w2,w2=(w.alloc (.cells #[.bool n.leaf, .slice Ae n.ents.length ce, .slice (some ⟨bi,oi,none⟩) n.kids.length ci, .slice (some ⟨by_,oy,none⟩) n.keys.length cy] 32)).alloc (.cells #[.bool false, .slice none 0 0, .slice none 0 0, .slice none 0 0] 32):=⟨_,rfl⟩
 have hzz:((w.alloc (.cells #[.bool n.leaf, .slice Ae n.ents.length ce, .slice (some ⟨bi,oi,none⟩) n.kids.length ci, .slice (some ⟨by_,oy,none⟩) n.keys.length cy] 32)).alloc (.cells #[.bool false, .slice none 0 0, .slice none 0 0, .slice none 0 0] 32)).heap.size=w.heap.size+2:=by simp
 have HL:=Lib.hid (fun(id:Int) (n:Nd.Node) (r:Nat) (hv:σ.view disk id=some n) W hW=>load_any M u root er r σ id d n hv hd W hW)
 have hkl:n.kids.length<=100000:=hnb.i
 have g2:=hBn.cell 2
 have ln:=hBn.lt
 have gk:((w.alloc (.cells #[.bool n.leaf, .slice Ae n.ents.length ce, .slice (some ⟨bi,oi,none⟩) n.kids.length ci, .slice (some ⟨by_,oy,none⟩) n.keys.length cy] 32)).alloc (.cells #[.bool false, .slice none 0 0, .slice none 0 0, .slice none 0 0] 32)).cell? ⟨bi,oi+i,none⟩=some (.int .i64 n.kids[i]):=(hb2.cell (p:=⟨bi,oi+i,none⟩) hbi).trans gi
 have HM:=Lib.hid M
 have HKID:=Lib.hid hkid
 have HON:=Lib.hid hH2
 have HNF:=Lib.hid hN2
 have HBn:=Lib.hid hBn
 have HBr:=Lib.hid hBr
 have HB2:=Lib.hid hb2
 have HO:=Lib.hid ho
 have H3:=Lib.hid h3
 have HNB:=Lib.hid hnb
 have HGE:=Lib.hid hge
 have HLF:=Lib.hid hlf
 have HNK:=Lib.hid hnk
 have HN16:=Lib.hid hk16
 have hidx:(i:Int)<n.kids.length:=by omega
 clear h hb1 hb2 hBn hBr hH2 hN2 hns q1 q2 q3 M ho h3 hge hkid hlf hnb hw2 gi hnk hk16
 go_enter Tryz.func211,Tryz.ntmps211
 go_wp2_with fail
 generalize (w.alloc (.cells #[.bool n.leaf, .slice Ae n.ents.length ce, .slice (some ⟨bi,oi,none⟩) n.kids.length ci, .slice (some ⟨by_,oy,none⟩) n.keys.length cy] 32)).alloc (.cells #[.bool false, .slice none 0 0, .slice none 0 0, .slice none 0 0] 32)=w2 at*
 refine Calls.mono (HL.out _ kid (r+4) HKID.out _ HON.out) ?_
 rintro e w3 ⟨vk,rfl,hnk3,hon3,hf3⟩
 have hz3:=hf3.size
 obtain⟨K1,k1,K2,k2,K3,k3,rfl,rk⟩:=hnk3
 have hfk:=(HM.out.ht HON.out.tm HKID.out).1
 have hbk:=(Below.refl w3.heap.size w3).alloc (Nat.le_refl _) (.cells #[.bool kid.leaf, .slice K1 kid.ents.length k1, .slice K2 kid.kids.length k2, .slice K3 kid.keys.length k3] 32)
 have HKN:=Lib.hid (NF.below (lo:=w2.heap.size) (v:= .agg #[.bool kid.leaf, .slice K1 kid.ents.length k1, .slice K2 kid.kids.length k2, .slice K3 kid.keys.length k3]) ⟨K1,k1,K2,k2,K3,k3,rfl,rk⟩ hbk)
 have HSZ:=Lib.hid (nsize_any _ kid _ HKN.out.ns (fits_nb hfk))
 have hN3:=NF.below (NF.fr HNF.out hf3 (fun k hk=>by have:=HM.out.low k hk;omega)) hbk
 have HN3:=Lib.hid hN3
 have HF3:=Lib.hid (((Fr.of_below HB2.out).trans hf3).trans (.of_below hbk):Fr S w _)
 have HON3:=Lib.hid (hon3.below HM.out hbk)
 have HBn3:=Lib.hid ((hf3.blk HBn.out (HM.out.far (by omega))).alloc (.cells #[.bool kid.leaf, .slice K1 kid.ents.length k1, .slice K2 kid.kids.length k2, .slice K3 kid.keys.length k3] 32))
 have HBr3:=Lib.hid ((hf3.blk HBr.out (HM.out.far (by omega))).alloc (.cells #[.bool kid.leaf, .slice K1 kid.ents.length k1, .slice K2 kid.kids.length k2, .slice K3 kid.keys.length k3] 32))
 have hza:(w3.alloc (.cells #[.bool kid.leaf, .slice K1 kid.ents.length k1, .slice K2 kid.kids.length k2, .slice K3 kid.keys.length k3] 32)).heap.size=w3.heap.size+1:=by simp
 unfold nodeV
 clear hfk hbk rk hon3 hf3 hN3 g2 gk ln
 go_wp2_with fail
 generalize (w3.alloc (.cells #[.bool kid.leaf, .slice K1 kid.ents.length k1, .slice K2 kid.kids.length k2, .slice K3 kid.keys.length k3] 32))=w4 at*
 refine HSZ.out.mono ?_
 rintro e w5 ⟨rfl,hb5⟩
 have hz5:=hb5.size
 have hN5:=NF.below HN3.out hb5
 have hL5:=hN5.kid
 have HN5:=Lib.hid hN5
 have HF5:=Lib.hid (HF3.out.trans (.of_below hb5))
 have HON5:=Lib.hid (HON3.out.below HM.out hb5)
 have hBn5:=HBn3.out.below hb5 HBn3.out.lt
 have hBr5:=HBr3.out.below hb5 HBr3.out.lt
 have HBn5:=Lib.hid hBn5
 have HBr5:=Lib.hid hBr5
 have g0:=hBn5.cell 0
 have g1:=hBn5.cell 1
 have g2:=hBn5.cell 2
 have g3:=hBn5.cell 3
 have ln:=hBn5.lt
 by_cases h80:80<=Nd.size kid
 ·have hoo:o=(.ok n,σ):=by rw[HO.out];unfold Tp.pFill;rw[if_neg (by omega),HGE.out i hi,HKID.out];simp only;rw[if_pos h80]
  have HOO:=Lib.hid hoo
  have h80i:80<=(Nd.size kid:Int):=by omega
  have d0:=hBr5.cell 0
  have d1:=hBr5.cell 1
  have d2:=hBr5.cell 2
  have d3:=hBr5.cell 3
  have f0:=hBr5.frozen 0
  have f1:=hBr5.frozen 1
  have f2:=hBr5.frozen 2
  have f3:=hBr5.frozen 3
  have lr:=hBr5.lt
  generalize Nd.size kid=sz at*
  clear h80 hoo hb5 hN5 hBn5 hBr5 hL5
  go_wp2
  try simp only[Exit.inBlock,Exit.then]
  refine bodyPost_ret (res_cell_tmp node_struct rfl rfl (HBr5.out.put4 _ _ _ _) rfl) rfl ?_
  exact fill_end HM.out HF5.out (by rw[HOO.out];exact HON5.out.less HM.out (by omega)) HBr5.out (by omega) (by omega) (by omega) (Fr.put4e _ _ _ _) (NF.frP HN5.out HBr5.out (Fr.put4e _ _ _ _)) (.inl ⟨by rw[HOO.out],rfl⟩)
 ·have h80i:¬80<=(Nd.size kid:Int):=by omega
  obtain⟨a,b,hva,hvb,hoo⟩:=Tp.pFill_ab (room:=room) (disk:=disk) (σ:=σ) (n:=n) (i:=i) (d:=d) (by omega) (by rw[HGE.out i hi];exact HKID.out) h80 (by rw[<-HO.out];exact H3.out)
  rw[<-HO.out]at hoo
  obtain⟨hj1,hj2⟩:=Tp.sib_in (n:=n) hi h1k
  obtain⟨j,hj⟩:∃j,j=Tp.sib n i:=⟨_,rfl⟩
  rw[<-hj]at hva hvb hoo hj1 hj2
  clear hj
  have hjk:j<n.keys.length:=by have:=HNK.out;omega
  have hj0:j<n.kids.length:=by omega
  rw[HGE.out j hj0]at hva
  rw[HGE.out (j+1) hj1]at hvb
  have gj:=hL5.1.int' hj0
  have gj1:=hL5.1.int' hj1
  have bij:=hL5.1.2 (by omega)
  have hbi5:bi<w5.heap.size:=by obtain⟨ad,e,h,_⟩:=bij;injection e with e;subst e;exact h
  have hby5:by_<w5.heap.size:=by
   obtain⟨ad,e,h,_⟩:=hL5.2.2 (by omega);injection e with e;subst e;exact h
  have hidj:(j:Int)<n.kids.length:=by omega
  have hidj1:(j:Int)+1<n.kids.length:=by omega
  have hidk:(j:Int)<n.keys.length:=by omega
  have hzw:w.heap.size<=w5.heap.size:=by omega
  have HVA:=Lib.hid hva
  have HVB:=Lib.hid hvb
  have HOO:=Lib.hid hoo
  have HJK:=Lib.hid hjk
  have HJ1:=Lib.hid hj1
  generalize Nd.size kid=sz at*
  clear h80 bij hva hvb hoo hjk hb5 hN5 hBn5 hBr5 hL5
  rcases hj2 with⟨hs,hs2⟩ | ⟨hs,hs2⟩
  case' inl=>
   have gq:((i:Int)==(n.kids.length:Int)-1)=true:=by rw[beq_iff_eq];omega
   have gi2:(i:Int)-1=((j:Nat):Int):=by omega
   clear hs hs2
   go_wp2_with fail
  case' inr=>
   have gq:((i:Int)==(n.kids.length:Int)-1)=false:=by rw[beq_eq_false_iff_ne];omega
   subst hs2
   clear hs
   go_wp2_with fail
  all_goals
   refine Calls.mono (HL.out _ a (r+2) HVA.out _ HON5.out) ?_
   rintro e w6 ⟨va,rfl,na,on6,f6⟩
   obtain⟨A1,a1,A2,a2,A3,a3,rfl,ra⟩:=na
   have hz6:=f6.size
   have hba:=(Below.refl w6.heap.size w6).alloc (Nat.le_refl _) (.cells #[.bool a.leaf, .slice A1 a.ents.length a1, .slice A2 a.kids.length a2, .slice A3 a.keys.length a3] 32)
   have HA7:=Lib.hid (NF.below (lo:=w5.heap.size) (v:= .agg #[.bool a.leaf, .slice A1 a.ents.length a1, .slice A2 a.kids.length a2, .slice A3 a.keys.length a3]) ⟨A1,a1,A2,a2,A3,a3,rfl,ra⟩ hba)
   have hN7:=NF.below (NF.fr HN5.out f6 (fun k hk=>by have:=HM.out.low k hk;omega)) hba
   have hL7:=hN7.kid
   have gj1:=hL7.1.int' HJ1.out
   have HN7:=Lib.hid hN7
   have HON7:=Lib.hid (on6.below HM.out hba)
   have HF7:=Lib.hid ((HF5.out.trans f6).trans (.of_below hba))
   have hBn7:=(f6.blk HBn5.out (HM.out.far (by omega))).alloc (.cells #[.bool a.leaf, .slice A1 a.ents.length a1, .slice A2 a.kids.length a2, .slice A3 a.keys.length a3] 32)
   have HBr7:=Lib.hid ((f6.blk HBr5.out (HM.out.far (by omega))).alloc (.cells #[.bool a.leaf, .slice A1 a.ents.length a1, .slice A2 a.kids.length a2, .slice A3 a.keys.length a3] 32))
   have HBa7:=Lib.hid (Blk.new w6 32 #[.bool a.leaf, .slice A1 a.ents.length a1, .slice A2 a.kids.length a2, .slice A3 a.keys.length a3])
   have hz7:(w6.alloc (.cells #[.bool a.leaf, .slice A1 a.ents.length a1, .slice A2 a.kids.length a2, .slice A3 a.keys.length a3] 32)).heap.size=w6.heap.size+1:=by simp
   unfold nodeV
   have g2:=hBn7.cell 2
   have ln:=hBn7.lt
   have HBn7:=Lib.hid hBn7
   clear on6 f6 hba hN7 hL7 hBn7 ra g0 g1 g3 gj
   go_wp2_with fail
   refine Calls.mono (HL.out _ b r HVB.out _ HON7.out) ?_
   rintro e w8 ⟨vb,rfl,nb,on8,f8⟩
   obtain⟨B1,b1,B2,b2,B3,b3,rfl,rb⟩:=nb
   have hz8:=f8.size
   have hbb:=(Below.refl w8.heap.size w8).alloc (Nat.le_refl _) (.cells #[.bool b.leaf, .slice B1 b.ents.length b1, .slice B2 b.kids.length b2, .slice B3 b.keys.length b3] 32)
   have hz9:(w8.alloc (.cells #[.bool b.leaf, .slice B1 b.ents.length b1, .slice B2 b.kids.length b2, .slice B3 b.keys.length b3] 32)).heap.size=w8.heap.size+1:=by simp
   have HB9:=Lib.hid (NF.below (lo:=w6.heap.size) (v:= .agg #[.bool b.leaf, .slice B1 b.ents.length b1, .slice B2 b.kids.length b2, .slice B3 b.keys.length b3]) ⟨B1,b1,B2,b2,B3,b3,rfl,LO.lower rb.1 (by omega),LO.lower rb.2.1 (by omega),LO.lower rb.2.2 (by omega)⟩ hbb)
   have HA9:=Lib.hid (NF.below (NF.fr HA7.out f8 (fun k hk=>by have:=HM.out.low k hk;omega)) hbb)
   have hN9:=NF.below (NF.fr HN7.out f8 (fun k hk=>by have:=HM.out.low k hk;omega)) hbb
   have hL9:=hN9.kid
   have gky:=hL9.2.key' HJK.out
   have HN9:=Lib.hid hN9
   have HON9:=Lib.hid (on8.below HM.out hbb)
   have HF9:=Lib.hid ((HF7.out.trans f8).trans (.of_below hbb))
   have hBn9:=(f8.blk HBn7.out (HM.out.far (by omega))).alloc (.cells #[.bool b.leaf, .slice B1 b.ents.length b1, .slice B2 b.kids.length b2, .slice B3 b.keys.length b3] 32)
   have HBr9:=Lib.hid ((f8.blk HBr7.out (HM.out.far (by omega))).alloc (.cells #[.bool b.leaf, .slice B1 b.ents.length b1, .slice B2 b.kids.length b2, .slice B3 b.keys.length b3] 32))
   have hBa9:=(f8.blk HBa7.out (HM.out.far (by omega))).alloc (.cells #[.bool b.leaf, .slice B1 b.ents.length b1, .slice B2 b.kids.length b2, .slice B3 b.keys.length b3] 32)
   have hBb9:=Blk.new w8 32 #[.bool b.leaf, .slice B1 b.ents.length b1, .slice B2 b.kids.length b2, .slice B3 b.keys.length b3]
   have hfa:=(HM.out.ht HON5.out.tm HVA.out).1
   have hfb:=(HM.out.ht HON7.out.tm HVB.out).1
   unfold nodeV
   generalize hw9:(w8.alloc (.cells #[.bool b.leaf, .slice B1 b.ents.length b1, .slice B2 b.kids.length b2, .slice B3 b.keys.length b3] 32))=w9 at*
   have g0:=hBn9.cell 0
   have g1:=hBn9.cell 1
   have g2:=hBn9.cell 2
   have g3:=hBn9.cell 3
   have ln:=hBn9.lt
   have p0:=hBa9.cell 0
   have p1:=hBa9.cell 1
   have p2:=hBa9.cell 2
   have p3:=hBa9.cell 3
   have la:=hBa9.lt
   have q0:=hBb9.cell 0
   have q1:=hBb9.cell 1
   have q2:=hBb9.cell 2
   have q3:=hBb9.cell 3
   have lb:=hBb9.lt
   have lby:by_<w9.heap.size:=by omega
   have hkg:n.keys.getD j ⟨#[]⟩=n.keys[j]'HJK.out:=by have:=HJK.out;simp[List.getD,this]
   have hk16:=HN16.out _ (List.getElem_mem HJK.out)
   obtain⟨ky,hky⟩:∃k,k=n.keys[j]'HJK.out:=⟨_,rfl⟩
   rw[<-hky]at gky hkg hk16
   have HK16:=Lib.hid hk16
   have HKG:=Lib.hid hkg
   have HBn9:=Lib.hid hBn9
   have HBa9:=Lib.hid hBa9
   have HBb9:=Lib.hid hBb9
   have HFA:=Lib.hid hfa
   have HFB:=Lib.hid hfb
   have HJN:=Lib.hid (fun W (hW:Below w9.heap.size w9 W)=>join_any (.agg #[.bool a.leaf, .slice A1 a.ents.length a1, .slice A2 a.kids.length a2, .slice A3 a.keys.length a3]) (.agg #[.bool b.leaf, .slice B1 b.ents.length b1, .slice B2 b.kids.length b2, .slice B3 b.keys.length b3]) a b ky W (NF.below HA9.out hW).ns (NF.below HB9.out hW).ns (fits_nb HFA.out) (fits_nb HFB.out))
   clear on8 f8 hbb hN9 hL9 hBn9 hBa9 hBb9 rb hfa hfb hkg hky hk16
   go_wp2_with fail
   try simp only[hw9]
   clear hw9
   refine wp_region_last (base:=w9.heap.size) 9 (fun u=>⟨#[_,_,_,_,_,_,_,_,_,_,_,_,_,_,u 8,_,_,_,_,_,_,_,_,_,_,_,_,_,_,_,_,_,_,_,_,_,_,_,_,_,_,_,_,_,_,_,_,_,_,_,_,_,_,_,_,_,_,_,_,_,_,_,_,_,_,_,_,_,_,_,_,_,_,_,_,u 0,u 1,u 2,u 3,u 4,u 5,u 6,u 7,_,_,_,_,_,_,_,_,_,_,_,_,_,_,_,_,_,_,_,_,_,_,_,_,_,_,_,_,_,_,_,_,_,_,_,_,_,_,_,_,_,_,_,_],_⟩)
    [Is.eq _ (.agg #[.bool a.leaf, .slice A1 a.ents.length a1, .slice A2 a.kids.length a2, .slice A3 a.keys.length a3]),Is.eq _ (.pointer (some ⟨w.heap.size,3,none⟩)),Is.eq _ (.slice (some ⟨by_,oy,none⟩) n.keys.length cy),Is.eq _ (.int .i64 (j:Nat)),Is.eq _ (.pointer (some ⟨by_,oy+j,none⟩)),Is.eq _ (.string ky),Is.eq _ (.agg #[.bool b.leaf, .slice B1 b.ents.length b1, .slice B2 b.kids.length b2, .slice B3 b.keys.length b3]),Is.node2 _ w9.heap.size (Nat.le_refl _) (Nd.join a ky b),Is.box _]
    (by kernel_rfl) rfl (by kernel_rfl) (by kernel_rfl) (by kernel_rfl) [] rfl (Nat.le_refl _) (by simp) (by simp) ⟨fun _=>undef,rfl⟩ ?_ ?_
   ·intro i o hi9 ho uv W hf hold hdep
    have hfb:Below w9.heap.size w9 W:=hf.low (Nat.le_refl _) (fun k a=>by simp at a)
    have hAW:=HBa9.out.below hfb la
    have hBW:=HBb9.out.below hfb lb
    have hNW:=HBn9.out.below hfb ln
    have cW:=hNW.cell 3
    match i,ho with
    |0,ho=>obtain rfl:=Option.some.inj ho;exact Does.val (op_ld_row node_struct rfl rfl hAW rfl) ⟨rfl,rfl,Fr.refl _⟩
    |1,ho=>obtain rfl:=Option.some.inj ho;exact Does.val (op_fan3 rfl rfl) ⟨rfl,rfl,Fr.refl _⟩
    |2,ho=>obtain rfl:=Option.some.inj ho;exact Does.val (op_ld_keys rfl (hdep 1 rfl) cW) ⟨rfl,rfl,Fr.refl _⟩
    |3,ho=>obtain rfl:=Option.some.inj ho;exact Does.val (op_mv rfl rfl) ⟨rfl,rfl,Fr.refl _⟩
    |4,ho=>obtain rfl:=Option.some.inj ho;exact Does.val (op_ia_keys rfl (hdep 2 rfl) (hdep 3 rfl) HJK.out) ⟨rfl,rfl,Fr.refl _⟩
    |5,ho=>obtain rfl:=Option.some.inj ho;exact Does.val (op_ldstr rfl (hdep 4 rfl) ((hfb.cell (p:=⟨by_,oy+j,none⟩) lby).trans gky)) ⟨rfl,rfl,Fr.refl _⟩
    |6,ho=>obtain rfl:=Option.some.inj ho;exact Does.val (op_ld_row node_struct rfl rfl hBW rfl) ⟨rfl,rfl,Fr.refl _⟩
    |7,ho=>
     obtain rfl:=Option.some.inj ho
     refine Does.call (op_call3 ent_join rfl (hdep 0 rfl) (hdep 5 rfl) (hdep 6 rfl)) (Calls.mono (HJN.out W hfb) ?_)
     rintro e w' ⟨vj,rfl,nj,bj⟩
     exact⟨vj,rfl,rfl,nj.lower hfb.size, .of_below bj⟩
    |8,ho=>obtain rfl:=Option.some.inj ho;exact Does.val (op_al_node rfl) ⟨rfl,⟨W.heap.size,hfb.size,rfl,Blk.new _ _ _⟩, .of_below ((Below.refl _ _).alloc (Nat.le_refl _) _)⟩
    |n+9,ho=>omega
   intro o ho uv W hf hall
   obtain rfl:=Option.some.inj ho
   have hfb:Below w9.heap.size w9 W:=hf.low (Nat.le_refl _) (fun k a=>by simp at a)
   obtain⟨g14,hg14,e8,hB14⟩:=hall 8 (by decide)
   obtain⟨J1,j1,J2,j2,J3,j3,e7,rj⟩:=hall 7 (by decide)
   refine does_store rfl e8 e7 ⟨_,_,_,_,_,_,_,_,_,_,rfl⟩ hB14 rfl fun w11 hB11 hf11=> ?_
   have hz11:=hf11.size
   have hz11':=hfb.size
   have hl11:=hB11.lt
   have HJ11:=Lib.hid (NF.frP (v:=nodeV (Nd.join a ky b).leaf J1 (Nd.join a ky b).ents.length j1 J2 (Nd.join a ky b).kids.length j2 J3 (Nd.join a ky b).keys.length j3) ⟨J1,j1,J2,j2,J3,j3,rfl,rj⟩ hB14 hf11)
   have hfw:∀ (k:Nat) (ty:TypeId) (cs:Array Value),Blk w9 k ty cs->Blk w11 k ty cs:=fun k ty cs h=>hf11.blk (h.below hfb h.lt) (fun e=>by have:=h.lt;omega)
   have hBn11:=hfw _ _ _ HBn9.out
   have hBa11:=hfw _ _ _ HBa9.out
   have hBb11:=hfw _ _ _ HBb9.out
   have HBr11:=Lib.hid (hfw _ _ _ HBr9.out)
   have HON11:=Lib.hid ((HON9.out.below HM.out hfb).own HM.out hf11 hB14 (by omega) (by omega) (by decide) (by decide) (by decide) (by decide))
   have HF11:=Lib.hid (Fr.old (S':=fun k=>S k\/k=g14) ((HF9.out.trans (.of_below hfb)).more (fun _=> .inl) |>.trans (hf11.more fun _=> .inr)) (fun k hk=>hk.imp_right fun e=>by omega))
   have hN11:=NF.frP (NF.below HN9.out hfb) hB14 hf11
   have hL11:=hN11.kid
   have gj:=hL11.1.int' hj0
   have gj1:=hL11.1.int' HJ1.out
   have HN11:=Lib.hid hN11
   simp only[e8]
   clear hall e7 e8 rj hfb hf11 hfw hN11 hL11 hB14 p0 p1 p2 p3 q0 q1 q2 q3 g0 g1 g2 g3 hf hz11'
   have g0:=hBn11.cell 0
   have g1:=hBn11.cell 1
   have g2:=hBn11.cell 2
   have g3:=hBn11.cell 3
   have ln:=hBn11.lt
   have p0:=hBa11.cell 0
   have la:=hBa11.lt
   have q0:=hBb11.cell 0
   have lb:=hBb11.lt
   have s0:=hB11.cell 0
   have s1:=hB11.cell 1
   have s2:=hB11.cell 2
   have s3:=hB11.cell 3
   have d0:=HBr11.out.cell 0
   have d1:=HBr11.out.cell 1
   have d2:=HBr11.out.cell 2
   have d3:=HBr11.out.cell 3
   have f0:=HBr11.out.frozen 0
   have f1:=HBr11.out.frozen 1
   have f2:=HBr11.out.frozen 2
   have f3:=HBr11.out.frozen 3
   have lr:=HBr11.out.lt
   have HBn11:=Lib.hid hBn11
   have HB11:=Lib.hid hB11
   clear hBn11 hBa11 hBb11 hB11
   by_cases hl:a.leaf=b.leaf
   case' neg=>
    have hln:(a.leaf != b.leaf)=true:=by simpa using hl
    have hend:o=(.ok n,σ):=by rw[HOO.out];unfold Tp.fillJ;rw[if_pos (.inl hln)]
    have HEND:=Lib.hid hend
    have h4:(a.leaf=true/\b.leaf=false)\/(a.leaf=false/\b.leaf=true):=by
     cases h1:a.leaf<;>cases h2:b.leaf<;>simp_all
    clear hl hend hln
    rcases h4 with⟨h4,h5⟩ | ⟨h4,h5⟩
    all_goals
     rw[h4]at p0
     rw[h5]at q0
     clear h4 h5
     go_wp2
     try simp only[Exit.inBlock,Exit.then]
     refine bodyPost_ret (res_cell_tmp node_struct rfl rfl (HBr11.out.put4 _ _ _ _) rfl) rfl ?_
     exact fill_end HM.out HF11.out (by rw[HEND.out];exact HON11.out) HBr11.out (by omega) (by omega) (by omega) (Fr.put4e _ _ _ _) (NF.frP HN11.out HBr11.out (Fr.put4e _ _ _ _)) (.inl ⟨by rw[HEND.out],rfl⟩)
   have hln:(a.leaf != b.leaf)=false:=by simpa using hl
   rw[hl]at p0
   have HLN:=Lib.hid hln
   have hnj:=nb_join HFA.out HFB.out HK16.out
   have HFI:=Lib.hid (nfits_any _ (Nd.join a ky b) w11 HJ11.out.ns hnj)
   unfold nodeV at HFI
   cases hfit:Nd.fits (Nd.join a ky b)with
   |false=>
    rw[hfit]at HFI
    have hend:o=(.ok n,σ):=by rw[HOO.out];unfold Tp.fillJ;rw[if_pos (.inr (by rw[HKG.out];exact hfit))]
    have HEND:=Lib.hid hend
    clear hl hend hnj hfit hln
    go_wp2_with fail
    refine HFI.out.mono ?_
    rintro e w12 ⟨rfl,hb12⟩
    have hz12:=hb12.size
    have HON12:=Lib.hid (HON11.out.below HM.out hb12)
    have HF12:=Lib.hid (HF11.out.trans (.of_below hb12))
    have HN12:=Lib.hid (NF.below HN11.out hb12)
    have hBr12:=HBr11.out.below hb12 lr
    have hBn12:=HBn11.out.below hb12 ln
    have g0:=hBn12.cell 0
    have g1:=hBn12.cell 1
    have g2:=hBn12.cell 2
    have g3:=hBn12.cell 3
    have ln:=hBn12.lt
    have d0:=hBr12.cell 0
    have d1:=hBr12.cell 1
    have d2:=hBr12.cell 2
    have d3:=hBr12.cell 3
    have f0:=hBr12.frozen 0
    have f1:=hBr12.frozen 1
    have f2:=hBr12.frozen 2
    have f3:=hBr12.frozen 3
    have lr:=hBr12.lt
    have HBr12:=Lib.hid hBr12
    clear hb12 hBr12 hBn12
    go_wp2
    try simp only[Exit.inBlock,Exit.then]
    refine bodyPost_ret (res_cell_tmp node_struct rfl rfl (HBr12.out.put4 _ _ _ _) rfl) rfl ?_
    exact fill_end HM.out HF12.out (by rw[HEND.out];exact HON12.out) HBr12.out (by omega) (by omega) (by omega) (Fr.put4e _ _ _ _) (NF.frP HN12.out HBr12.out (Fr.put4e _ _ _ _)) (.inl ⟨by rw[HEND.out],rfl⟩)
   |true=>
    rw[hfit]at HFI
    have hend:o=Tp.fillSave n j (Tp.pSave room σ (n.kids[j]'hj0) (Nd.join a ky b)):=by rw[HOO.out,fillJ_yes HKG.out hln hfit,HGE.out j hj0]
    have HEND:=Lib.hid hend
    have HFIT:=Lib.hid hfit
    clear hl hend hnj hfit hln
    go_wp2_with fail
    refine HFI.out.mono ?_
    rintro e w12 ⟨rfl,hb12⟩
    have hz12:=hb12.size
    have HON12:=Lib.hid (HON11.out.below HM.out hb12)
    have HF12:=Lib.hid (HF11.out.trans (.of_below hb12))
    have hN12:=NF.below HN11.out hb12
    have hL12:=hN12.kid
    have gj:=hL12.1.int' hj0
    have HN12:=Lib.hid hN12
    have HJ12:=Lib.hid (NF.below HJ11.out hb12)
    have hBr12:=HBr11.out.below hb12 lr
    have hBn12:=HBn11.out.below hb12 ln
    have HBj12:=Lib.hid (HB11.out.below hb12 HB11.out.lt)
    have g2:=hBn12.cell 2
    have ln:=hBn12.lt
    have HBr12:=Lib.hid hBr12
    have HBn12:=Lib.hid hBn12
    have lbi:bi<w12.heap.size:=by omega
    have lby:by_<w12.heap.size:=by omega
    clear hb12 hBr12 hBn12 hN12 hL12 g0 g1 g3 d0 d1 d2 d3 f0 f1 f2 f3 s0 s1 s2 s3 lr lb la p0 q0
    go_wp2_with fail
    obtain⟨os,hos⟩:∃x,x=Tp.pSave room σ (n.kids[j]'hj0) (Nd.join a ky b):=⟨_,rfl⟩
    have hidk2:=(HM.out.ht HON5.out.tm HVA.out).2
    have HSV:=save_any HM.out u root er r σ (n.kids[j]'hj0) hidk2 (.agg #[.bool (Nd.join a ky b).leaf, .slice J1 (Nd.join a ky b).ents.length j1, .slice J2 (Nd.join a ky b).kids.length j2, .slice J3 (Nd.join a ky b).keys.length j3]) (Nd.join a ky b) HFIT.out w12.drew (NF.below HJ12.out ((Below.refl _ _).drew)).ns (HON12.out.below HM.out ((Below.refl _ _).drew))
    rw[<-hos]at HSV
    have HEND2:=Lib.hid (show o=Tp.fillSave n j os from by rw[HEND.out,hos])
    have HSV:=Lib.hid HSV
    clear hos hidk2
    refine wp_region_one 7 (fun u=>⟨#[_,_,_,_,_,_,_,_,_,_,_,u 12,_,_,_,u 11,_,_,_,_,_,_,_,_,_,_,_,_,_,_,_,_,_,_,_,_,_,_,_,_,_,_,_,_,_,_,_,_,_,_,_,_,_,_,_,_,_,_,_,_,_,_,_,_,_,_,_,_,_,_,_,_,_,_,_,_,_,_,_,_,_,_,_,_,_,_,_,_,_,_,_,_,_,_,u 8,u 0,u 1,u 2,u 3,u 4,u 5,u 6,u 7,u 9,u 10,_,_,_,_,_,_,_,_,_,_,_,_,_,_,_,_,_,_,_,_,_,_],_⟩)
     (fun v i=> [Value.pointer (some ⟨u,0,none⟩), .pointer (some ⟨w.heap.size,2,none⟩), .slice (some ⟨bi,oi,none⟩) n.kids.length ci, .int .i64 (j:Nat), .pointer (some ⟨bi,oi+j,none⟩), .int .i64 (n.kids[j]'hj0), .agg #[.bool (Nd.join a ky b).leaf, .slice J1 (Nd.join a ky b).ents.length j1, .slice J2 (Nd.join a ky b).kids.length j2, .slice J3 (Nd.join a ky b).keys.length j3],v,v,tupAt v 0,tupAt v 1,tupAt v 0,tupAt v 1].getD i undef)
     (fun v W=>SaveEnd S B t u TM root er r os w12.drew (.returned v) W)
     (by kernel_rfl) (by decide) (by kernel_rfl) (by kernel_rfl) (by kernel_rfl) (by kernel_rfl) (fun v v' i hi=>by
      match i,hi with
      |0,_=>rfl
      |1,_=>rfl
      |2,_=>rfl
      |3,_=>rfl
      |4,_=>rfl
      |5,_=>rfl
      |6,_=>rfl
      |n+7,h=>omega) (fun _=>rfl) ⟨fun i=>if i=12 then .int .i64 0 else undef,rfl⟩ ?_ ?_ ?_
    ·intro i o hi7 ho uu v W hpre hpost hdep
     match i,ho with
     |0,ho=>
      obtain rfl:=Option.some.inj ho
      exact⟨.inl (op_mv rfl rfl),rfl⟩
     |1,ho=>
      obtain rfl:=Option.some.inj ho
      exact⟨.inl (op_fan2 rfl rfl),rfl⟩
     |2,ho=>
      obtain rfl:=Option.some.inj ho
      obtain rfl:=hpre (by decide)
      exact⟨.inl (op_ld_ints rfl (hdep 1 rfl) g2),rfl⟩
     |3,ho=>
      obtain rfl:=Option.some.inj ho
      exact⟨.inl (op_mv rfl rfl),rfl⟩
     |4,ho=>
      obtain rfl:=Option.some.inj ho
      exact⟨.inl (op_ia_ints rfl (hdep 2 rfl) (hdep 3 rfl) hj0),rfl⟩
     |5,ho=>
      obtain rfl:=Option.some.inj ho
      obtain rfl:=hpre (by decide)
      exact⟨.inl (op_ldint rfl (hdep 4 rfl) gj),rfl⟩
     |6,ho=>
      obtain rfl:=Option.some.inj ho
      obtain rfl:=hpre (by decide)
      exact⟨.inl (op_ld_row node_struct rfl rfl HBj12.out rfl),rfl⟩
     |7,ho=>exact absurd rfl hi7
     |8,ho=>
      obtain rfl:=Option.some.inj ho
      exact⟨.inl (op_mv rfl (hdep 7 rfl)),rfl⟩
     |9,ho=>
      obtain rfl:=Option.some.inj ho
      obtain⟨p,x,e, -⟩:=hpost (by decide)
      injection e with e
      subst e
      exact⟨.inl (op_ext0 rfl (hdep 8 rfl)),rfl⟩
     |10,ho=>
      obtain rfl:=Option.some.inj ho
      obtain⟨p,x,e, -⟩:=hpost (by decide)
      injection e with e
      subst e
      exact⟨.inl (op_ext1 rfl (hdep 8 rfl)),rfl⟩
     |11,ho=>
      obtain rfl:=Option.some.inj ho
      exact⟨.inl (op_as rfl (hdep 9 rfl)),rfl⟩
     |12,ho=>
      obtain rfl:=Option.some.inj ho
      exact⟨.inl (op_as rfl (hdep 10 rfl)),rfl⟩
     |n+13,ho=>exact absurd ho (by simp)
    ·intro o ho uu v hdep
     obtain rfl:=Option.some.inj ho
     refine⟨_,_,op_call3 ent_save rfl (hdep 0 (by decide)) (hdep 5 (by decide)) (hdep 6 (by decide)),Calls.mono HSV.out ?_⟩
     rintro e w' h
     obtain⟨p,x,rfl,h⟩:=h
     exact⟨_,rfl,⟨p,x,rfl,h⟩,rfl⟩
    ·intro uu v W hR hall
     obtain⟨pg,x,e,hres,hon,hfr⟩:=hR
     injection e with e
     subst e
     have e11:=hall 11 (by decide)
     have e12:=hall 12 (by decide)
     have e11':uu 11= .int .i64 pg:=e11
     have e12':uu 12= .int .i64 x:=e12
     simp only[e11',e12']
     have hF13:=(HF12.out.trans (.of_below ((Below.refl w12.heap.size w12).drew))).trans hfr
     have hz13:w12.heap.size<=W.heap.size:=hfr.size
     have HF13:=Lib.hid hF13
     have HON13:=Lib.hid hon
     have hfr2:Fr S w12 W:=⟨hfr.os,hfr.tape,hfr.output,hfr.size,hfr.block⟩
     have hN13:=NF.fr HN12.out hfr2 (fun k hk=>by have:=HM.out.low k hk;omega)
     have HN13:=Lib.hid hN13
     have hL13:=hN13.kid
     have gj1:=hL13.1.int' HJ1.out
     have hBn13:=hfr2.blk HBn12.out (HM.out.far (by omega))
     have hBr13:=hfr2.blk HBr12.out (HM.out.far (by omega))
     have hBt13:=hon.self
     have g0:=hBn13.cell 0
     have g1:=hBn13.cell 1
     have g2:=hBn13.cell 2
     have g3:=hBn13.cell 3
     have ln:=hBn13.lt
     have d0:=hBr13.cell 0
     have d1:=hBr13.cell 1
     have d2:=hBr13.cell 2
     have d3:=hBr13.cell 3
     have f0:=hBr13.frozen 0
     have f1:=hBr13.frozen 1
     have f2:=hBr13.frozen 2
     have f3:=hBr13.frozen 3
     have lr:=hBr13.lt
     have tc0:=hBt13.cell 0
     have lt13:=hBt13.lt
     have HBn13:=Lib.hid hBn13
     have HBr13:=Lib.hid hBr13
     rcases hres with⟨hok,rfl,hidp⟩ | ⟨herr,rfl⟩
     case' inr=>
      have hend:o=(.error 2,os.2):=by rw[HEND2.out,Tp.fillSave_err herr]
      have HE:=Lib.hid hend
      clear hend herr hall e11 e12 e11' e12' hF13 hfr hfr2 hon hN13 hL13 hBn13 hBr13 hBt13 gj
      go_wp2
      try simp only[Exit.inBlock,Exit.then]
      refine bodyPost_ret (res_cell_tmp node_struct rfl rfl (HBr13.out.put4 _ _ _ _) rfl) rfl ?_
      exact fill_end HM.out HF13.out (by rw[HE.out];exact HON13.out) HBr13.out (by omega) (by omega) (by omega) (Fr.put4e _ _ _ _) (NF.frP HN13.out HBr13.out (Fr.put4e _ _ _ _)) (.inr ⟨by rw[HE.out],rfl⟩)
     have hend:o=(.ok (Nd.swap n j (j+2) [pg] []),Tp.pDrop os.2 (n.kids[j+1]'HJ1.out)):=by rw[HEND2.out,Tp.fillSave_ok hok,HGE.out (j+1) HJ1.out]
     have HE:=Lib.hid hend
     clear hend hok hall e11 e12 e11' e12' hF13 hfr hfr2 hon hN13 hL13 hBn13 hBr13 hBt13 gj
     go_wp2_with fail
     have hidd:=(HM.out.ht HON7.out.tm HVB.out).2
     have hadd:IntKind.i64.wrap ((j:Int)+1)=(((j+1:Nat)):Int):=by rw[show((j+1:Nat):Int)=(j:Int)+1 by omega];exact IntWalk.i64_in _ (by omega)
     have HDR:=Lib.hid (fun W' (hW:TM r os.2 W')=>HM.out.drop (n.kids[j+1]'HJ1.out) hW hidd)
     refine wp_region_one 10 (fun uu=>⟨#[_,_,_,_,_,_,_,_,_,_,_,_,_,_,_,_,_,_,_,_,_,_,_,_,_,_,_,_,_,_,_,_,_,_,_,_,_,_,_,_,_,_,_,_,_,_,_,_,_,_,_,_,_,_,_,_,_,_,_,_,_,_,_,_,_,_,_,_,_,_,_,_,_,_,_,_,_,_,_,_,_,_,_,_,_,_,_,_,_,_,_,_,_,_,_,_,_,_,_,_,_,_,_,_,_,_,_,_,_,uu 0,uu 1,uu 2,uu 3,uu 4,uu 5,uu 6,uu 7,uu 8,uu 9,uu 10,_,_,_,_,_,_,_],_⟩)
      (fun v i=> [Value.pointer (some ⟨u,0,none⟩), .pointer (some ⟨u,0,none⟩), .pointer (some ⟨u,0,none⟩), .pointer (some ⟨t,0,none⟩), .pointer (some ⟨w.heap.size,2,none⟩), .slice (some ⟨bi,oi,none⟩) n.kids.length ci, .int .i64 (j:Nat), .int .i64 ((j+1:Nat):Int), .pointer (some ⟨bi,oi+(j+1),none⟩), .int .i64 (n.kids[j+1]'HJ1.out),v].getD i undef)
      (fun v W'=>v= .tuple #[]/\TM r (Tp.pDrop os.2 (n.kids[j+1]'HJ1.out)) W'/\Fr S W.drew W')
      (by kernel_rfl) (by decide) (by kernel_rfl) (by kernel_rfl) (by kernel_rfl) (by kernel_rfl) (fun v v' i hi=>by
       match i,hi with
       |0,_=>rfl
       |1,_=>rfl
       |2,_=>rfl
       |3,_=>rfl
       |4,_=>rfl
       |5,_=>rfl
       |6,_=>rfl
       |7,_=>rfl
       |8,_=>rfl
       |9,_=>rfl
       |n+10,h=>omega) (fun _=>rfl) ⟨fun _=>undef,rfl⟩ ?_ ?_ ?_
     ·intro i o hi7 ho uu v W' hpre hpost hdep
      match i,ho with
      |0,ho=>
       obtain rfl:=Option.some.inj ho
       exact⟨.inl (op_mv rfl rfl),rfl⟩
      |1,ho=>
       obtain rfl:=Option.some.inj ho
       exact⟨.inl (op_nilc rfl (hdep 0 rfl)),rfl⟩
      |2,ho=>
       obtain rfl:=Option.some.inj ho
       exact⟨.inl (op_fat0 rfl (hdep 1 rfl)),rfl⟩
      |3,ho=>
       obtain rfl:=Option.some.inj ho
       obtain rfl:=hpre (by decide)
       exact⟨.inl (op_ldtxn rfl (hdep 2 rfl) tc0),rfl⟩
      |4,ho=>
       obtain rfl:=Option.some.inj ho
       exact⟨.inl (op_fan2 rfl rfl),rfl⟩
      |5,ho=>
       obtain rfl:=Option.some.inj ho
       obtain rfl:=hpre (by decide)
       exact⟨.inl (op_ld_ints rfl (hdep 4 rfl) g2),rfl⟩
      |6,ho=>
       obtain rfl:=Option.some.inj ho
       exact⟨.inl (op_mv rfl rfl),rfl⟩
      |7,ho=>
       obtain rfl:=Option.some.inj ho
       exact⟨.inl (by
        show _=Result.ok (Next.value (.int .i64 ((j+1:Nat):Int))) _
        rw[<-hadd]
        exact op_add (i:=(j:Int)) (j:=1) rfl (hdep 6 rfl) rfl),rfl⟩
      |8,ho=>
       obtain rfl:=Option.some.inj ho
       exact⟨.inl (op_ia_ints rfl (hdep 5 rfl) (hdep 7 rfl) HJ1.out),rfl⟩
      |9,ho=>
       obtain rfl:=Option.some.inj ho
       obtain rfl:=hpre (by decide)
       exact⟨.inl (op_ldint rfl (hdep 8 rfl) gj1),rfl⟩
      |10,ho=>exact absurd rfl hi7
      |n+11,ho=>exact absurd ho (by simp)
     ·intro o ho uu v hdep
      obtain rfl:=Option.some.inj ho
      refine⟨_,_,op_call2 ent_drop rfl (hdep 3 (by decide)) (hdep 9 (by decide)),Calls.mono (HDR.out W.drew (HON13.out.below HM.out ((Below.refl _ _).drew)).tm) ?_⟩
      rintro e w' ⟨rfl,h1,h2⟩
      exact⟨_,rfl,⟨rfl,h1,h2⟩,rfl⟩
     ·intro uu v W14 hR hall
      obtain⟨rfl,ht14,hf14⟩:=hR
      have hon14:=(HON13.out.below HM.out ((Below.refl _ _).drew)).step HM.out ht14 hf14
      have hf14':Fr S W W14:=⟨hf14.os,hf14.tape,hf14.output,hf14.size,hf14.block⟩
      have hz14:=hf14'.size
      have hN14:=NF.fr HN13.out hf14' (fun k hk=>by have:=HM.out.low k hk;omega)
      have hBn14:=hf14'.blk HBn13.out (HM.out.far (by omega))
      have hBr14:=hf14'.blk HBr13.out (HM.out.far (by omega))
      have HON14:=Lib.hid hon14
      have HF14:=Lib.hid (HF13.out.trans hf14')
      have HN14:=Lib.hid hN14
      have HBn14:=Lib.hid hBn14
      have HBr14:=Lib.hid hBr14
      have g0:=hBn14.cell 0
      have g1:=hBn14.cell 1
      have g2:=hBn14.cell 2
      have g3:=hBn14.cell 3
      have ln:=hBn14.lt
      clear hall ht14 hf14 hf14' hon14 hN14 hBn14 hBr14 hadd hidd gj1 tc0 lt13 d0 d1 d2 d3 f0 f1 f2 f3 lr
      have hy1:=(Below.refl W14.heap.size W14).alloc (Nat.le_refl _) (.cells #[.int .i64 pg] 3)
      have hone:LO intE 3 (W14.alloc (.cells #[.int .i64 pg] 3)) W14.heap.size (.slice (some ⟨W14.heap.size,0,none⟩) 1 1) [pg]:=LO.one rfl rfl (Blk.new _ _ _) (Nat.le_refl _)
      have hswap:=swap_any (nodeV n.leaf Ae n.ents.length ce (some ⟨bi,oi,none⟩) n.kids.length ci (some ⟨by_,oy,none⟩) n.keys.length cy) n (some ⟨W14.heap.size,0,none⟩) none 1 0 j (j+2) [pg] [] HLF.out (by omega) (by have:=HJ1.out;omega) HNK.out rfl _ (NF.below HN14.out hy1).ns HNB.out (LO.sv (c:=1) (n:=1) hone) ⟨LS.nil_,by simp,fun _=>rfl⟩ (by simp)
      rw[show(((j+2:Nat)):Int)=(j:Int)+2 by omega]at hswap
      have HSW:=Lib.hid hswap
      have HON15:=Lib.hid (HON14.out.below HM.out hy1)
      have HF15:=Lib.hid (HF14.out.trans (.of_below hy1))
      have HBr15:=Lib.hid (HBr14.out.alloc (.cells #[.int .i64 pg] 3))
      unfold nodeV at HSW
      clear hy1 hone hswap
      go_wp2_with fail
      refine HSW.out.mono ?_
      rintro e w16 ⟨vs,rfl,hns,hb16⟩
      have hz16:=hb16.size
      simp only[World.size_alloc]at hz16
      obtain⟨T1,t1,T2,t2,T3,t3,rfl,rt⟩:=hns
      have HNS:=Lib.hid (NF.lower (lo':=lo) (v:=nodeV (Nd.swap n j (j+2) [pg] []).leaf T1 (Nd.swap n j (j+2) [pg] []).ents.length t1 T2 (Nd.swap n j (j+2) [pg] []).kids.length t2 T3 (Nd.swap n j (j+2) [pg] []).keys.length t3) ⟨T1,t1,T2,t2,T3,t3,rfl,rt⟩ (by simp;omega))
      have HON16:=Lib.hid (HON15.out.below HM.out hb16)
      have HF16:=Lib.hid (HF15.out.trans (.of_below hb16))
      have hBr16:=HBr15.out.below hb16 HBr15.out.lt
      have d0:=hBr16.cell 0
      have d1:=hBr16.cell 1
      have d2:=hBr16.cell 2
      have d3:=hBr16.cell 3
      have f0:=hBr16.frozen 0
      have f1:=hBr16.frozen 1
      have f2:=hBr16.frozen 2
      have f3:=hBr16.frozen 3
      have lr:=hBr16.lt
      have HBr16:=Lib.hid hBr16
      unfold nodeV
      generalize Nd.swap n j (j+2) [pg] []=ns at*
      clear hb16 hBr16 rt g0 g1 g2 g3
      go_wp2
      try simp only[Exit.inBlock,Exit.then]
      refine bodyPost_ret (res_cell_tmp node_struct rfl rfl (HBr16.out.put4 _ _ _ _) rfl) rfl ?_
      exact fill_end HM.out HF16.out (by rw[HE.out];exact HON16.out) HBr16.out (by omega) (by omega) (by omega) (Fr.put4e _ _ _ _) (NF.frP HNS.out HBr16.out (Fr.put4e _ _ _ _)) (.inl ⟨by rw[HE.out],rfl⟩)
end
end Go.Proofs.YtjoiajmbfbjnnaaGreatDoor
