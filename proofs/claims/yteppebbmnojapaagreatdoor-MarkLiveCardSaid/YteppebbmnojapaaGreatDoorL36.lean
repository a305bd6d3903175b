/- Part of this proof. -/
import Derived.Test.YteppebbmnojapaaGreatDoorL35
set_option maxRecDepth 100000
set_option maxHeartbeats 8000000
namespace Go.Proofs.YteppebbmnojapaaGreatDoor
open Go.RowKit Go.Shelf
structure Xy(S:Nat->Prop)(B t u:Nat)(TM:Nat->Tp.Pst->World->Prop)(root:Int)(yf:FuncId)(caps:Array Value){Q:Type}(y:Q->Ent->Q × Bool)(P:Nat->Q->(Nat->Prop)->World->Prop):Prop where
 keep:∀ {m q Y w w'},P m q Y w->Fr S w w'->P m q Y w'
 less:∀ {m m' q Y w},P m' q Y w->m<=m'->P m q Y w
 lt:∀ {m q Y w k},P m q Y w->Y k->k<w.heap.size
 call:∀w (x:Ent) m q Y r σ,P (m+1) q Y w->On S B t u TM root 0 r σ w->Calls Tryz.prog yf (#[.agg #[.string x.1, .string x.2]]++caps) w fun e w'=>e= .returned (.bool (y q x).2)/\On S B t u TM root 0 r σ w'/\Fr Y w w'/\∃Y',P m (y q x).1 Y' w'/\∀k,Y' k->Y k\/w.heap.size<=k
 enters:∀ (args:Array Value) (w:World),(callFunc yf args).run Tryz.prog w= .ok (.enter yf args) w
theorem Xz{Q:Type}{y:Q->Ent->Q × Bool}{l:List Ent}{j:Nat}(hj:j<l.length)(q:Q):Tp.eH y q (l.drop j)=if(y q l[j]).2 then Tp.eH y (y q l[j]).1 (l.drop (j+1))else((y q l[j]).1,false):=by
 rw[List.drop_eq_getElem_cons hj,Tp.eH]
section
variable {S:Nat->Prop}{B t:Nat}{room:Int}{disk:Tp.aA}{TM:Nat->Tp.Pst->World->Prop}
theorem ZR(M:fU S B t room disk TM)(u:Nat)(root:Int){yf:FuncId}{caps:Array Value}{Q:Type}{y:Q->Ent->Q × Bool}{P:Nat->Q->(Nat->Prop)->World->Prop}(V:Xy S B t u TM root yf caps y P){ge:Nat}(hge:B<=ge):
  aaR S B t u TM root 190 #[.pointer (some ⟨ge,0,none⟩)] (Tp.eH y) (fun m q Y w=>P m q Y w/\Blk w ge 206 #[.func (.func yf) #[] caps]/\¬Y ge) where
 keep:=fun h hf=>⟨V.keep h.1 hf,hf.blk h.2.1 (M.far hge),h.2.2⟩
 less:=fun h hm=>⟨V.less h.1 hm,h.2⟩
 lt:=fun h a=>V.lt h.1 a
 enters:=fun args w=>by kernel_rfl
 call:=fun w A c l n m q Y r σ hP hon hls hAY hn hl=>by
  subst hn
  have HM:=Lib.hid M
  have HV:=Lib.hid V
  have HLS:=Lib.hid hls
  have HAY:=Lib.hid hAY
  have HP:=Lib.hid hP
  have HON:=Lib.hid hon
  have hgl:=hP.2.1.lt
  clear hP hon hls hAY M V
  show Calls Tryz.prog 190 #[.slice A l.length c, .pointer (some ⟨ge,0,none⟩)] w _
  go_enter Tryz.func190,Tryz.ntmps190
  go_wp2
  go_loopg [8] l.length (fun g s8 wr=>∃ (j:Nat) (qj:Q) (Yj:Nat->Prop),s8= .int .i64 (j:Nat)/\j<=l.length/\l.length-j<=g/\Hid (Tp.eH y qj (l.drop j)=Tp.eH y q l)/\Hid (P (m+(l.length-j)) qj Yj wr/\Blk wr ge 206 #[.func (.func yf) #[] caps]/\¬Yj ge)/\Hid (∀k,Yj k->Y k\/w.heap.size<=k)/\Hid (On S B t u TM root 0 r σ wr)/\Hid (Fr Y w wr)/\Hid (∀b off,A=some ⟨b,off,none⟩->b<w.heap.size->wr.heap[b]? =w.heap[b]?))
  case atStart=>exact⟨0,q,Y,rfl,Nat.zero_le _,by omega,Lib.hid rfl,Lib.hid HP.out,Lib.hid (fun k a=> .inl a),HON,Lib.hid (Fr.refl _),Lib.hid (fun _ _ _ _=>rfl)⟩
  case round=>
   obtain⟨j,qj,Yj,rfl,hjL,hjg,HGJ,HPJ,HYJ,Xw,HFJ,HBJ⟩:=hrel
   have hwz:=HFJ.out.size
   by_cases hj:j<l.length
   ·obtain⟨bb,oo,rfl,hbb,k1,k2⟩:=HLS.out.ent hj
    have hcell:∀o,wr.cell? ⟨bb,o,none⟩=w.cell? ⟨bb,o,none⟩:=fun o=>by
     unfold World.cell?
     rw[HBJ.out bb oo rfl hbb]
    rw[<-hcell]at k1 k2
    have hbl:bb<wr.heap.size:=by omega
    have hst:=HGJ.out
    rw[Xz hj]at hst
    have hbx:=(Below.refl wr.heap.size wr).alloc (Nat.le_refl _) (.cells #[.string l[j].1, .string l[j].2] 101)
    have hP5:=HV.out.less (m:=m+(l.length-(j+1))+1) (HV.out.keep HPJ.out.1 (Fr.of_below hbx)) (by omega)
    have hB5:=HPJ.out.2.1.below hbx HPJ.out.2.1.lt
    have uy:=Lib.hid (HV.out.call _ l[j] (m+(l.length-(j+1))) qj Yj r σ hP5 (Xw.out.below HM.out hbx))
    have gfn:=hB5.cell 0
    have ah3:=hB5.lt
    have HBX:=Lib.hid hbx
    have HB5:=Lib.hid hB5
    have hwj:IntKind.i64.wrap ((j:Int)+1)=(j:Int)+1:=IntWalk.i64_in _ (by omega)
    have acs:(j:Int)<l.length:=by omega
    have HST:=Lib.hid hst
    clear hst hP5 hB5 hbx hcell
    generalize l[j]=x at*
    go_wp2_with fail
    rw[HV.out.enters,Oper.upon_enter]
    refine Calls.mono uy.out ?_
    rintro e w4 ⟨rfl,ou,hf4,Y4,hP4,hY4⟩
    have hF4:Fr Y w w4:=(HFJ.out.trans (.of_below HBX.out)).go hf4 HYJ.out
    have hz5:=HBX.out.size
    have Xx:∀k,Y4 k->Y k\/w.heap.size<=k:=fun k a=>by
     rcases hY4 k a with a | a
     ·exact HYJ.out k a
     ·exact .inr (by omega)
    have hge4:¬Y4 ge:=fun a=>by
     rcases hY4 ge a with a | a
     ·exact HPJ.out.2.2 a
     ·have:=HPJ.out.2.1.lt;omega
    have HP4:=Lib.hid (show P (m+(l.length-(j+1))) (y qj x).1 Y4 w4/\Blk w4 ge 206 #[.func (.func yf) #[] caps]/\¬Y4 ge from⟨hP4,hf4.blk HB5.out HPJ.out.2.2,hge4⟩)
    have HY4:=Lib.hid Xx
    have vN:=Lib.hid ou
    have HF4:=Lib.hid hF4
    have HB4:=Lib.hid (show ∀b off,(some ⟨bb,oo,none⟩:Option Addr)=some ⟨b,off,none⟩->b<w.heap.size->w4.heap[b]? =w.heap[b]? from fun b off e hb=>by
     have hny:¬Y b:=HAY.out ⟨b,off,none⟩ e
     exact hF4.block b hb hny)
    clear ou hf4 hP4 hY4 hF4 Xx hge4
    obtain⟨qb,hqb⟩:∃z,z=y qj x:=⟨_,rfl⟩
    rw[<-hqb]at HST HP4 ⊢
    clear hqb
    obtain⟨q1,b1⟩:=qb
    simp only at HST HP4 ⊢
    cases b1 with
    |true=>
     have agZ:=Lib.hid (show Tp.eH y q1 (l.drop (j+1))=Tp.eH y q l by have:=HST.out;simpa using this)
     clear HST
     go_wp2
     go_roundg (l.length-(j+1))
     case measure=>omega
     case rel=>exact⟨j+1,q1,Y4,by go_num,by omega,Nat.le_refl _,agZ,HP4,HY4,vN,HF4,HB4⟩
    |false=>
     have HE:=Lib.hid (show Tp.eH y q l=(q1,false)by have:=HST.out;simpa using this.symm)
     clear HST
     have aZ:=Lib.hid (show On S B t u TM root 0 r σ w4/\Fr Y w w4/\∃Y',(P m q1 Y' w4/\Blk w4 ge 206 #[.func (.func yf) #[] caps]/\¬Y' ge)/\∀k,Y' k->Y k\/w.heap.size<=k from⟨vN.out,HF4.out,Y4,⟨HV.out.less HP4.out.1 (Nat.le_add_right _ _),HP4.out.2⟩,HY4.out⟩)
     go_wp2
     go_ret
     rw[HE.out]
     exact⟨rfl,aZ.out⟩
   ·have acs:¬ (j:Int)<l.length:=by omega
    obtain rfl:j=l.length:=by omega
    have hend:=HGJ.out
    rw[List.drop_eq_nil_of_le (Nat.le_refl _),Tp.eH]at hend
    have HE:=Lib.hid hend
    have aZ:=Lib.hid (show On S B t u TM root 0 r σ wr/\Fr Y w wr/\∃Y',(P m qj Y' wr/\Blk wr ge 206 #[.func (.func yf) #[] caps]/\¬Y' ge)/\∀k,Y' k->Y k\/w.heap.size<=k from⟨Xw.out,HFJ.out,Yj,⟨HV.out.less HPJ.out.1 (Nat.le_add_right _ _),HPJ.out.2⟩,HYJ.out⟩)
    clear hend
    go_wp2
    go_ret
    rw[<-HE.out]
    exact⟨rfl,aZ.out⟩
def XA(S:Nat->Prop)(B t u:Nat)(TM:Nat->Tp.Pst->World->Prop)(root:Int)(r:Nat)(σ:Tp.Pst){Q:Type}(P:Nat->Q->(Nat->Prop)->World->Prop)(m:Nat)(q:Q)(Y:Nat->Prop)(w:World)(e:Ending)(w':World):Prop:=
 e= .returned (.int .i64 0)/\On S B t u TM root 0 r σ w'/\Fr (fun k=>S k\/Y k) w w'/\∃Y',P m q Y' w'/\∀k,Y' k->Y k\/w.heap.size<=k
theorem XB(M:fU S B t room disk TM)(u:Nat)(root:Int){yf:FuncId}{caps:Array Value}{Q:Type}{y:Q->Ent->Q × Bool}{P:Nat->Q->(Nat->Prop)->World->Prop}(V:Xy S B t u TM root yf caps y P)(frm:ByteArray)(σ:Tp.Pst)(m:Nat)(q q':Q)(b:Bool)(Y:Nat->Prop)(r:Nat)(w:World)(h0:root=0->q'=q)(h1:root≠0->Tp.jI disk σ frm (Tp.eH y) 24 root q=(q', .ok b))(hP:P (m+Tp.cost Tp.en disk σ 24 root) q Y w)(h:On S B t u TM root 0 (r+Tp.cost Tp.rd disk σ 24 root) σ w):
  Calls Tryz.prog 119 #[.pointer (some ⟨u,0,none⟩), .string frm, .func (.func yf) #[] caps] w (XA S B t u TM root r σ P m q' Y w):=by
 have hsz:=M.size h.tm
 have hb1:=(Below.refl w.heap.size w).alloc (Nat.le_refl _) (.cells #[.func (.func yf) #[] caps] 206)
 have hon:=h.below M hb1
 have t1:(w.alloc (.cells #[.func (.func yf) #[] caps] 206)).cell? ⟨u,1,none⟩=some (.int .i64 root):=hon.self.cell 1
 have t2:(w.alloc (.cells #[.func (.func yf) #[] caps] 206)).cell? ⟨u,2,none⟩=some (.int .i64 0):=hon.self.cell 2
 have lt2:=hon.self.lt
 have hun:u<w.heap.size:=h.self.lt
 have hP1:=V.keep hP (Fr.of_below hb1)
 have hBg:=Blk.new w 206 #[.func (.func yf) #[] caps]
 by_cases hr:root=0
 ·have hq:=h0 hr
  subst hr hq
  have aZ:=Lib.hid (show XA S B t u TM 0 r σ P m q' Y w (.returned (.int .i64 0)) (w.alloc (.cells #[.func (.func yf) #[] caps] 206))from⟨rfl,hon.less M (by omega), .of_below hb1,Y,V.less hP1 (by omega),fun k a=> .inl a⟩)
  clear hP1 hon hb1 h hP M V h1 h0 hBg
  go_enter Tryz.func119,Tryz.ntmps119
  go_wp2
  go_ret
  exact aZ.out
 ·have hv:=h1 hr
  have hny:¬Y w.heap.size:=fun a=>by have:=V.lt hP a;omega
  have uy:=Lib.hid (visit_any M u root (ZR M u root V (show B<=w.heap.size from hsz)) frm σ 24 0 root m q q' b Y r _ (by omega) hv ⟨hP1,hBg,hny⟩ hon)
  have hrn:(root==0)=false:=by simpa using hr
  have HF:=Lib.hid hb1
  clear hP1 hon hb1 h hP M V h1 h0 hBg hv hny
  go_enter Tryz.func119,Tryz.ntmps119
  go_wp2_with fail
  refine Calls.mono uy.out ?_
  rintro e w2 ⟨rfl,dV,hf2,Y2,⟨hP2,hB2,hn2⟩,hY2⟩
  have aZ:=Lib.hid (show XA S B t u TM root r σ P m q' Y w (.returned (.int .i64 0)) w2 from⟨rfl,dV,(Fr.of_below HF.out).trans hf2,Y2,hP2,fun k a=>(hY2 k a).imp_right (fun c=>Nat.le_trans HF.out.size c)⟩)
  clear dV hf2 hP2 hB2 hn2 hY2
  go_wp2
  go_ret
  exact aZ.out
end
def rU(hi_:ByteArray)(acc:List Ent)(x:Ent):List Ent × Bool:=if hi_.toList= []\/En.lt x.1 hi_=true then(acc++ [x],true)else(acc,false)
def Qe(gto gl:Nat)(hi_:ByteArray)(m:Nat)(acc:List Ent)(Y:Nat->Prop)(w:World):Prop:=
 acc.length+m<=1000000/\Blk w gto 9 #[.string hi_]/\∃A c,Blk w gl 22 #[.slice A acc.length c]/\LO bD 101 w (gl+1) (.slice A acc.length c) acc/\Y=fun k=>k=gl\/(Value.slice A acc.length c).ownBlock=some k
section
variable {S:Nat->Prop}{B t:Nat}{room:Int}{disk:Tp.aA}{TM:Nat->Tp.Pst->World->Prop}
theorem ZT(M:fU S B t room disk TM)(u:Nat)(root:Int)(hi_:ByteArray){gto gl:Nat}(hto:B<=gto)(hne:gto<gl)(hul:u<gto):
  Xy S B t u TM root 120 #[.pointer (some ⟨gto,0,none⟩), .pointer (some ⟨gl,0,none⟩)] (rU hi_) (Qe gto gl hi_) where
 keep:=fun⟨h0,h1,A,c,h2,h3,h4⟩ hf=>⟨h0,hf.blk h1 (M.far hto),A,c,hf.blk h2 (M.far (by omega)),h3.fr hf (fun k a=>by have:=M.low k a;omega),h4⟩
 less:=fun⟨h0,h1⟩ hm=>⟨by omega,h1⟩
 lt:=fun⟨h0,h1,A,c,h2,h3,h4⟩ hy=>by
  subst h4
  rcases hy with rfl | hy
  ·exact h2.lt
  ·obtain⟨cs,hcs⟩:=fG h3 hy
   exact(Array.getElem?_eq_some_iff.1 hcs).1
 enters:=fun args w=>by kernel_rfl
 call:=fun w x m acc Y r σ hP hon=>by
  obtain⟨h0,h1,A,c,h2,h3,rfl⟩:=hP
  have HM:=Lib.hid M
  have hbx:=(Below.refl w.heap.size w).alloc (Nat.le_refl _) (.cells #[.string x.1, .string x.2] 101)
  have b1:=h1.below hbx h1.lt
  have b2:=h2.below hbx h2.lt
  have k1:(w.alloc (.cells #[.string x.1, .string x.2] 101)).cell? ⟨gto,0,none⟩=some (.string hi_):=b1.cell 0
  have k2:(w.alloc (.cells #[.string x.1, .string x.2] 101)).cell? ⟨gl,0,none⟩=some (.slice A acc.length c):=b2.cell 0
  have l1:=b1.lt
  have l2:=b2.lt
  have l1w:=h1.lt
  have l2w:=h2.lt
  have HB1:=Lib.hid b1
  have HB2:=Lib.hid b2
  have HR:=Lib.hid (h3.below hbx)
  have HON:=Lib.hid (hon.below M hbx)
  have HBX:=Lib.hid hbx
  have H1:=Lib.hid h1
  have H2:=Lib.hid h2
  have H3:=Lib.hid h3
  have ah4:=Lib.hid hon
  clear h1 h2 h3 b1 b2 hbx hon M
  unfold rU
  show Calls Tryz.prog 120 #[.agg #[.string x.1, .string x.2], .pointer (some ⟨gto,0,none⟩), .pointer (some ⟨gl,0,none⟩)] w _
  by_cases hin:hi_.toList= []\/En.lt x.1 hi_=true
  ·rw[if_pos hin]
   have oh:Hid (∀A' c' w3,w3.ownsRow (gl+1) 101 2 (.slice A' (acc.length+1) c') (acc.length+1) (bD.cells acc++ [.string x.1, .string x.2])->(w.alloc (.cells #[.string x.1, .string x.2] 101)).grownBy w3 (Value.slice A acc.length c).ownBlock->((Value.slice A' (acc.length+1) c').ownBlock=(Value.slice A acc.length c).ownBlock\/∃g,(Value.slice A' (acc.length+1) c').ownBlock=some g/\(w.alloc (.cells #[.string x.1, .string x.2] 101)).heap.size<=g)->Below (gl+1) (w.alloc (.cells #[.string x.1, .string x.2] 101)) w3->On S B t u TM root 0 r σ (w3.setCell ⟨gl,0,none⟩ (.slice A' (acc.length+1) c'))/\Fr (fun k=>k=gl\/(Value.slice A acc.length c).ownBlock=some k) w (w3.setCell ⟨gl,0,none⟩ (.slice A' (acc.length+1) c'))/\∃Y',Qe gto gl hi_ m (acc++ [x]) Y' (w3.setCell ⟨gl,0,none⟩ (.slice A' (acc.length+1) c'))/\∀k,Y' k->(k=gl\/(Value.slice A acc.length c).ownBlock=some k)\/w.heap.size<=k):=by
    refine Lib.hid fun A' c' w3 hown hg hob hbel=> ?_
    have yx:=HON.out.row HM.out HR.out (show B<=gl+1 by omega) (by decide) (by decide) (by decide) (by decide) (by decide) hg
    have hB3:=HB2.out.below hbel (Nat.lt_succ_self _)
    have hT3:=HB1.out.below hbel (by omega)
    have hfs:Fr (fun k=>k=gl) w3 (w3.setCell ⟨gl,0,none⟩ (.slice A' (acc.length+1) c')):=Fr.aW (S:=fun k=>k=gl) rfl _
    have hB4:Blk (w3.setCell ⟨gl,0,none⟩ (.slice A' (acc.length+1) c')) gl 22 #[.slice A' (acc.length+1) c']:=hB3.aW 0 _
    have hL3:LO bD 101 w3 (gl+1) (.slice A' (acc.length+1) c') (acc++ [x]):=LO.snoc rfl rfl rfl hown
    have hL4:=hL3.fr hfs (fun k a=>by omega)
    have hlen:(acc++ [x]).length=acc.length+1:=by simp
    refine⟨yx.own HM.out hfs hB3 (by omega) (by omega) (by decide) (by decide) (by decide) (by decide),((Fr.of_below HBX.out).trans ((Fr.bW hg).more fun k a=> .inr a)).trans (hfs.more fun k a=> .inl a),_,⟨by omega,hfs.blk hT3 (by omega),A',c',by rw[hlen];exact hB4,by rw[hlen];exact hL4,rfl⟩, ?_⟩
    intro k hk
    rw[hlen]at hk
    rcases hk with hk | hk
    ·exact .inl (.inl hk)
    ·rcases hob with hob | ⟨g,hob,hge⟩
     ·exact .inl (.inr (by rw[<-hob];exact hk))
     ·rw[hob]at hk;injection hk with hk;subst hk;exact .inr (Nat.le_trans HBX.out.size hge)
   have hrow:(w.alloc (.cells #[.string x.1, .string x.2] 101)).ownsRow (gl+1) 101 2 (.slice A acc.length c) acc.length (bD.cells acc):=HR.out
   have hbase:gl+1<=(w.alloc (.cells #[.string x.1, .string x.2] 101)).heap.size:=l2
   by_cases he:hi_.toList= []
   ·have he2:hi_.toList.isEmpty=true:=by simpa using he
    clear hin
    go_enter Tryz.func120,Tryz.ntmps120
    go_wp2_with (at_builtin;refine aU rfl _ _ 22 rfl EU Tryz.underlying22 rfl (by decide) rfl hrow rfl (by simp) rfl (by simp[Value.oneCell']) (by unfold maxLen;omega) (by omega) hbase ?_;intro v' w3 hown' hgrow hbel hob _;obtain⟨A',c',rfl⟩:=gZ hown';have hB3:=HB2.out.below hbel (Nat.lt_succ_self _);have k3:w3.cell? ⟨gl,0,none⟩=some (.slice A acc.length c):=hB3.cell 0;have f3:=hB3.frozen 0;have l3:=hB3.lt;have aZ:=Lib.hid (oh.out A' c' w3 hown' hgrow hob hbel);clear hB3 hown' hgrow hob hbel)
    go_ret
    exact⟨rfl,aZ.out⟩
   ·have he2:hi_.toList.isEmpty=false:=by simpa using he
    have hlt:Go.Op.bytesLess x.1.toList hi_.toList=true:=by
     rcases hin with a | a
     ·exact absurd a he
     ·exact a
    clear hin
    go_enter Tryz.func120,Tryz.ntmps120
    go_wp2_with (at_builtin;refine aU rfl _ _ 22 rfl EU Tryz.underlying22 rfl (by decide) rfl hrow rfl (by simp) rfl (by simp[Value.oneCell']) (by unfold maxLen;omega) (by omega) hbase ?_;intro v' w3 hown' hgrow hbel hob _;obtain⟨A',c',rfl⟩:=gZ hown';have hB3:=HB2.out.below hbel (Nat.lt_succ_self _);have k3:w3.cell? ⟨gl,0,none⟩=some (.slice A acc.length c):=hB3.cell 0;have f3:=hB3.frozen 0;have l3:=hB3.lt;have aZ:=Lib.hid (oh.out A' c' w3 hown' hgrow hob hbel);clear hB3 hown' hgrow hob hbel)
    go_ret
    exact⟨rfl,aZ.out⟩
  ·rw[if_neg hin]
   have he:¬hi_.toList= []:=fun a=>hin (.inl a)
   have he2:hi_.toList.isEmpty=false:=by simpa using he
   have hlt:Go.Op.bytesLess x.1.toList hi_.toList=false:=by
    have:¬En.lt x.1 hi_=true:=fun a=>hin (.inr a)
    simpa[En.lt]using this
   go_enter Tryz.func120,Tryz.ntmps120
   have aZ:=Lib.hid (show On S B t u TM root 0 r σ (w.alloc (.cells #[.string x.1, .string x.2] 101))/\Fr (fun k=>k=gl\/(Value.slice A acc.length c).ownBlock=some k) w (w.alloc (.cells #[.string x.1, .string x.2] 101))/\∃Y',Qe gto gl hi_ m acc Y' (w.alloc (.cells #[.string x.1, .string x.2] 101))/\∀k,Y' k->(k=gl\/(Value.slice A acc.length c).ownBlock=some k)\/w.heap.size<=k from⟨HON.out, .of_below HBX.out,_,⟨by omega,HB1.out,A,c,HB2.out,HR.out,rfl⟩,fun k a=> .inl a⟩)
   clear hin
   go_wp2
   go_ret
   exact⟨rfl,aZ.out⟩
def FX(S:Nat->Prop)(B t u:Nat)(TM:Nat->Tp.Pst->World->Prop)(root:Int)(r:Nat)(σ:Tp.Pst)(l:List Ent)(w:World)(e:Ending)(w':World):Prop:=
 ∃A c,e= .returned (.tuple #[.slice A l.length c, .int .i64 0])/\LO bD 101 w' w.heap.size (.slice A l.length c) l/\On S B t u TM root 0 r σ w'/\Fr S w w'
theorem KW(M:fU S B t room disk TM)(u:Nat)(root:Int)(frm hi_:ByteArray)(σ:Tp.Pst)(l:List Ent)(b:Bool)(r:Nat)(w:World)(hN:Tp.cost Tp.en disk σ 24 root<=1000000)(h0:root=0->l= [])(h1:root≠0->Tp.jI disk σ frm (Tp.eH (rU hi_)) 24 root []=(l, .ok b))(h:On S B t u TM root 0 (r+Tp.cost Tp.rd disk σ 24 root) σ w):
  Calls Tryz.prog 54 #[.pointer (some ⟨u,0,none⟩), .string frm, .string hi_] w (FX S B t u TM root r σ l w):=by
 have hsz:=M.size h.tm
 have hun:u<w.heap.size:=h.self.lt
 have hb1:=(Below.refl w.heap.size w).alloc (Nat.le_refl _) (.cells #[.string hi_] 9)
 have hb2:=hb1.alloc hb1.size (.cells #[.slice none 0 0] 22)
 have hon:=(h.below M hb1).below M (Below.alloc (Below.refl _ _) (Nat.le_refl _) (.cells #[.slice none 0 0] 22))
 have hBk:=(Blk.new w 9 #[.string hi_]).alloc (.cells #[.slice none 0 0] 22)
 have hBv:=Blk.new (w.alloc (.cells #[.string hi_] 9)) 22 #[.slice none 0 0]
 simp only[World.size_alloc]at hBv
 have hP:Qe w.heap.size (w.heap.size+1) hi_ (0+Tp.cost Tp.en disk σ 24 root) [] (fun k=>k=w.heap.size+1\/(Value.slice none 0 0).ownBlock=some k) ((w.alloc (.cells #[.string hi_] 9)).alloc (.cells #[.slice none 0 0] 22)):=⟨by simpa using hN,hBk,none,0,hBv,LO.nil_ _ _,rfl⟩
 have uy:=Lib.hid (XB M u root (ZT M u root hi_ (show B<=w.heap.size from hsz) (Nat.lt_succ_self _) hun) frm σ 0 [] l b _ r _ h0 h1 hP hon)
 have k0:((w.alloc (.cells #[.string hi_] 9)).alloc (.cells #[.slice none 0 0] 22)).cell? ⟨w.heap.size,0,none⟩=some (.string hi_):=hBk.cell 0
 have kl:=hBk.lt
 have v0:((w.alloc (.cells #[.string hi_] 9)).alloc (.cells #[.slice none 0 0] 22)).cell? ⟨w.heap.size+1,0,none⟩=some (.slice none 0 0):=hBv.cell 0
 have vl:=hBv.lt
 have HB:=Lib.hid hb2
 have HY:Hid (∀k,(k=w.heap.size+1\/(Value.slice none 0 0).ownBlock=some k)->w.heap.size<=k):=Lib.hid (fun k a=>by
  rcases a with a | a
  ·omega
  ·simp[Value.ownBlock]at a)
 have HM:=Lib.hid M
 clear hb1 hb2 hon hBk hBv hP h M h0 h1 hN
 go_enter Tryz.func54,Tryz.ntmps54
 go_wp2_with fail
 refine Calls.mono uy.out ?_
 rintro e w2 ⟨rfl,dV,hf2,Y2,⟨_,hT2,A,c,hL2,hR2,_⟩,_⟩
 have hF:Fr S w w2:=(Fr.of_below (S:=S) HB.out).go hf2 (fun k a=>a.imp id (HY.out k))
 have g0:w2.cell? ⟨w.heap.size+1,0,none⟩=some (.slice A l.length c):=hL2.cell 0
 have gl:=hL2.lt
 have aZ:=Lib.hid (show FX S B t u TM root r σ l w (.returned (.tuple #[.slice A l.length c, .int .i64 0])) w2 from⟨A,c,rfl,hR2.lower (by omega),dV,hF⟩)
 clear dV hf2 hT2 hL2 hR2 hF
 go_wp2
 go_ret2
 exact aZ.out
end
section
variable {S:Nat->Prop}{B t:Nat}{room:Int}{disk:Tp.aA}{TM:Nat->Tp.Pst->World->Prop}
theorem pK(u:Nat)(root e0:Int)(w:World)(h:Blk w u 134 (zo t root e0)):
  Calls Tryz.prog 29 #[.pointer (some ⟨u,0,none⟩)] w fun e w'=>e= .returned (.int .i64 root)/\w'=w:=by
 have k:w.cell? ⟨u,1,none⟩=some (.int .i64 root):=h.cell 1
 have l:=h.lt
 clear h
 go_enter Tryz.func29,Tryz.ntmps29
 go_wp2
 go_ret
 exact⟨rfl,rfl⟩
theorem FY(M:fU S B t room disk TM)(root:Int)(r:Nat)(σ:Tp.Pst)(w:World)(h:TM r σ w):
  Calls Tryz.prog 18 #[.pointer (some ⟨t,0,none⟩), .int .i64 root] w fun e w'=>∃u,e= .returned (.pointer (some ⟨u,0,none⟩))/\On S B t u TM root 0 r σ w'/\w.heap.size<=u/\Below w.heap.size w w':=by
 have oh:Hid (∀u w',Below w.heap.size w w'->Blk w' u 134 (zo t root 0)->w.heap.size<=u->On S B t u TM root 0 r σ w'):=Lib.hid fun u w' hb hB hu=>⟨M.below h hb,hB,Nat.le_trans (M.size h) hu⟩
 have hbA:=Lib.hid ((Below.refl w.heap.size w).alloc (Nat.le_refl _) (.cells #[.pointer (some ⟨t,0,none⟩), .int .i64 root, .int .i64 0] 134))
 clear M h
 go_enter Tryz.func18,Tryz.ntmps18
 go_wp2
 go_ret
 exact⟨_,rfl,oh.out _ _ hbA.out (Blk.new w _ _) (Nat.le_refl _),Nat.le_refl _,hbA.out⟩
end
end Go.Proofs.YteppebbmnojapaaGreatDoor
namespace Tp
open Nd En
section
variable {disk:aA}{σ:Pst}{v:Int->Option Node}
theorem kG{β:Type}{f:Sub->List β}{g:Sub->Nat} :∀ (l:List Sub),(∀t∈l,(f t).length<=g t)->(l.flatMap f).length<=(l.map g).sum
 | [],_=>Nat.le_refl _
 |t::l,h=>by
  rw[List.flatMap_cons,List.length_append,List.map_cons,List.sum_cons]
  have h1:=h t List.mem_cons_self
  have h2:=kG l fun u hu=>h u (List.mem_cons_of_mem _ hu)
  omega
theorem es_len(l:List Sub):(es_ l).length=(l.map fun t=>t.es.length).sum:=by
 unfold es_;rw[List.length_flatMap]
theorem ZU(l:List Sub)(k:Nat):(l.map fun t=>k*t.es.length).sum=k*(es_ l).length:=by
 rw[es_len]
 induction l with
 |nil=>rfl
 |cons t l ih=>rw[List.map_cons,List.sum_cons,ih,List.map_cons,List.sum_cons,Nat.mul_add]
theorem OC{h:Nat}(ih:∀lo hi s,Tr v h lo hi s->s.ids.length<=(h+1)*s.es.length){lo hi:Option Str}{subs:List Sub}{keys:List Str}(hch:Chain (Tr v h) lo hi subs keys):(aI subs).length<=(h+1)*(es_ subs).length:=by
 rw[<-ZU]
 unfold aI
 exact kG subs fun t ht=>by
  obtain⟨l',h',hp⟩:=fD hch t ht
  exact ih l' h' t hp
theorem TW:∀ (h:Nat) (lo hi:Option Str) (s:Sub),Tr v h lo hi s->s.ids.length<=(h+1)*s.es.length
 |0,lo,hi,s,hs=>by
  have:=List.length_pos_iff.2 hs.2.2.2.1
  rw[hs.2.1,List.length_singleton];omega
 |h+1,lo,hi,s,hs=>by
  have hne:=List.length_pos_iff.2 ((iF v (h+1)).ne hs)
  obtain⟨subs,keys,a1,a2,a3,a4,a5,a6,a7⟩:=hs
  have:=OC (TW h) a7
  rw[a3,List.length_cons,Nat.succ_mul,a4]
  rw[a4]at hne
  omega
theorem FZ:∀ (h:Nat) (lo hi:Option Str) (s:Sub),Tr v h lo hi s->s.es.length<=s.tok
 |0,lo,hi,s,hs=>hs.2.2.2.2.2
 |h+1,lo,hi,s,hs=>by
  obtain⟨subs,keys,a1,a2,a3,a4,a5,a6,a7⟩:=hs
  rw[a4,es_len]
  refine Nat.le_trans ?_ a5
  unfold toks
  have key:∀l:List Sub,(∀t∈l,t.es.length<=t.tok)->(l.map fun t=>t.es.length).sum<=(l.map (·.tok)).sum:=fun l=>by
   induction l with
   |nil=>intro _;exact Nat.le_refl _
   |cons t l ih=>
    intro hl
    rw[List.map_cons,List.sum_cons,List.map_cons,List.sum_cons]
    have h1:=hl t List.mem_cons_self
    have h2:=ih fun u hu=>hl u (List.mem_cons_of_mem _ hu)
    omega
  exact key subs fun t ht=>by
   obtain⟨l',h',hp⟩:=fD a7 t ht
   exact FZ h l' h' t hp
def lev:Nat->Nat->Nat
 |0,t=>t
 |h+1,t=>t / 6 ^ (h+1)+lev h t
theorem OD(a b m:Nat):a / m+b / m<=(a+b) / m:=by
 rcases Nat.eq_zero_or_pos m with rfl | hm
 ·simp
 ·rw[Nat.le_div_iff_mul_le hm,Nat.add_mul]
  have h1:=Nat.div_mul_le_self a m
  have h2:=Nat.div_mul_le_self b m
  omega
theorem Qg:∀ (h a b:Nat),lev h a+lev h b<=lev h (a+b)
 |0,a,b=>Nat.le_refl _
 |h+1,a,b=>by
  have h1:=Qg h a b
  have h2:=OD a b (6 ^ (h+1))
  simp only[lev]
  omega
theorem KX:∀ (h:Nat) {a b:Nat},a<=b->lev h a<=lev h b
 |0,_,_,hab=>hab
 |h+1,a,b,hab=>by
  have h1:=KX h hab
  have h2:=Nat.div_le_div_right (c:=6 ^ (h+1)) hab
  simp only[lev]
  omega
theorem Qh(h:Nat):∀l:List Sub,(l.map fun t=>lev h t.tok).sum<=lev h (toks l)
 | []=>Nat.zero_le _
 |t::l=>by
  rw[List.map_cons,List.sum_cons,lY]
  have h1:=Qh h l
  have h2:=Qg h t.tok (toks l)
  omega
theorem XC:∀ (h t:Nat),5*lev h t+t / 6 ^ h<=6*t
 |0,t=>by simp[lev];omega
 |h+1,t=>by
  have h1:=XC h t
  have h2:t / 6 ^ (h+1)=t / 6 ^ h / 6:=by rw[Nat.pow_succ,Nat.div_div_eq_div_mul]
  simp only[lev]
  omega
theorem KY{h:Nat}(ih:∀lo hi s,6 ^ h<=s.tok->Tr v h lo hi s->s.ids.length<=lev h s.tok){lo hi:Option Str}{subs:List Sub}{keys:List Str}(h6:∀t∈subs,6 ^ h<=t.tok)(hch:Chain (Tr v h) lo hi subs keys):(aI subs).length<=lev h (toks subs):=by
 refine Nat.le_trans ?_ (Qh h subs)
 unfold aI
 exact kG subs fun t ht=>by
  obtain⟨l',h',hp⟩:=fD hch t ht
  exact ih l' h' t (h6 t ht) hp
theorem Qi:∀ (h:Nat) (lo hi:Option Str) (s:Sub),6 ^ h<=s.tok->Tr v h lo hi s->s.ids.length<=lev h s.tok
 |0,lo,hi,s,h6,hs=>by rw[hs.2.1];exact h6
 |h+1,lo,hi,s,h6,hs=>by
  obtain⟨subs,keys,a1,a2,a3,a4,a5,a6,a7⟩:=hs
  have h1:=KY (Qi h) a6 a7
  have h2:=KX h a5
  have h3:0<s.tok / 6 ^ (h+1):=Nat.div_pos h6 (Nat.pow_pos (by decide))
  rw[a3,List.length_cons]
  simp only[lev]
  omega
theorem KZ{h:Nat}{lo hi:Option Str}{s:Sub}(hs:Tr v h lo hi s):5*s.ids.length<=6*s.tok+5:=by
 cases h with
 |zero=>rw[hs.2.1];simp
 |succ h=>
  obtain⟨subs,keys,a1,a2,a3,a4,a5,a6,a7⟩:=hs
  have h1:=KY (Qi h) a6 a7
  have h2:=Nat.le_trans (Nat.le_add_right _ _) (XC h (toks subs))
  rw[a3,List.length_cons]
  omega
end
section
variable {room:Int}{disk:aA}{used:List Run}{σ:Pst}{root:Int}{es:List En.Ent}{tok:Nat}{ids:List Int}
theorem gX.few(h:gX disk used σ root es tok ids):5*ids.length<=6*tok+5:=by
 rcases h with⟨rfl,rfl,rfl⟩ | ⟨h,s,rfl,rfl,rfl,q4,q5,q6,q7,q8⟩
 ·simp
 ·have:=KZ q5;omega
theorem gX.right(h:gX disk used σ root es tok ids):En.right es=true:=by
 rcases h with⟨rfl,rfl,rfl⟩ | ⟨h,s,rfl,rfl,rfl,q4,q5,q6,q7,q8⟩
 ·rfl
 ·exact(iF _ _).srt q5
end
end Tp
namespace Go.Proofs.YteppebbmnojapaaGreatDoor
open Go.RowKit Go.Shelf
structure TAd where
 B:Nat
 t:Nat
 m:Nat
 f:Nat
 u:Nat
abbrev Di:Tp.aA:=fun _=>none
section
variable {n:Nat}{a:TAd}{root:Int}{σ:Tp.Pst}{ids:List Int}{es:List Ent}{tok:Nat}{w w':World}
theorem ZV{k v:ByteArray}(hr:En.right es=true)(hm:En.may k v=true):Tp.xk k v es=En.put es k v:=by unfold Tp.xk;rw[hr,hm];rfl
theorem ZW{k:ByteArray}(hr:En.right es=true):Tp.xq k es=En.del es k:=by unfold Tp.xq;rw[hr];rfl
theorem Ag(x:Ent):∀l:List Ent,(En.ins x l).length=l.length+1
 | []=>rfl
 |y::l=>by
  unfold En.ins
  split
  ·rfl
  ·rw[List.length_cons,Ag x l];rfl
theorem G8(l:List Ent)(k:ByteArray):(En.del l k).length<=l.length:=by unfold En.del;exact List.length_filter_le _ _
theorem get_none{l:List Ent}{k:ByteArray}(h:En.get l k=none):∀x∈l,x.1≠k:=fun x hx e=>by
 unfold En.get at h
 rw[Option.map_eq_none_iff,List.find?_eq_none]at h
 have:=h x hx
 rw[e,En.wF]at this
 simp at this
theorem get_some{l:List Ent}{k v:ByteArray}(h:En.get l k=some v):(k,v)∈l:=by
 unfold En.get at h
 rw[Option.map_eq_some_iff]at h
 obtain⟨x,hx,rfl⟩:=h
 have h1:=List.mem_of_find?_eq_some hx
 have h2:=List.find?_some hx
 rw[En.wE]at h2
 rw[<-h2];exact h1
theorem Iu{l:List Ent}{k v:ByteArray}(h:En.get l k=some v):(En.del l k).length+1<=l.length:=by
 have hm:=get_some h
 unfold En.del
 have:(l.filter fun x=> !En.eqs x.1 k).length<l.length:=by
  refine Nat.lt_of_le_of_ne (List.length_filter_le _ _) fun e=> ?_
  have:=List.length_filter_eq_length_iff.1 e _ hm
  simp[En.wF]at this
 exact this
def TY(es:List Ent)(k:ByteArray):Nat:=if(En.get es k).isSome then 0 else 1
theorem Qj(es:List Ent)(k:ByteArray):TY es k<=1:=by unfold TY;split<;>omega
theorem XD{k v:ByteArray}(es:List Ent):(En.put es k v).length<=es.length+TY es k:=by
 unfold En.put TY
 rw[Ag]
 cases h:En.get es k with
 |none=>have:=G8 es k;simp;omega
 |some v=>have:=Iu h;simp;omega
theorem Ua{k:ByteArray}(h:En.get es k=none):En.del es k=es:=Tp.rQ (get_none h)
end
end Go.Proofs.YteppebbmnojapaaGreatDoor
namespace Tp
open En
def inB(hi:Str)(x:Ent):Bool:=hi.toList.isEmpty||lt x.1 hi
def ge_(frm:Str)(x:Ent):Bool:= !lt x.1 frm
def Qk(es:List Ent)(frm hi:Str):List Ent:=es.filter fun x=>inB hi x&&ge_ frm x
theorem zA{frm:Str} :∀ {es:List Ent},Srt es->from_ es frm=es.filter (ge_ frm)
 | [],_=>rfl
 |x::l,h=>by
  obtain⟨h1,h2⟩:=mO.1 h
  rw[pJ]
  cases hx:lt x.1 frm with
  |true=>
   rw[if_pos rfl,zA h2,List.filter_cons_of_neg (by simp[ge_,hx])]
  |false=>
   rw[if_neg (by simp),List.filter_cons_of_pos (by simp[ge_,hx])]
   congr 1
   refine(List.filter_eq_self.2 fun y hy=> ?_).symm
   unfold ge_
   cases hy2:lt y.1 frm with
   |false=>rfl
   |true=>rw[lt_trans (h1 y hy) hy2]at hx;cases hx
theorem zB{hi:Str} :∀ {es:List Ent},Srt es->es.takeWhile (inB hi)=es.filter (inB hi)
 | [],_=>rfl
 |x::l,h=>by
  obtain⟨h1,h2⟩:=mO.1 h
  cases hx:inB hi x with
  |true=>rw[List.takeWhile_cons_of_pos hx,List.filter_cons_of_pos hx,zB h2]
  |false=>
   rw[List.takeWhile_cons_of_neg (by rw[hx];simp),List.filter_cons_of_neg (by rw[hx];simp)]
   refine(List.filter_eq_nil_iff.2 fun y hy=> ?_).symm
   unfold inB at hx ⊢
   rw[Bool.or_eq_false_iff]at hx
   rw[hx.1,Bool.false_or]
   intro hy2
   rw[lt_trans (h1 y hy) hy2]at hx
   cases hx.2
theorem OE{es:List Ent}(h:Srt es)(p:Ent->Bool):Srt (es.filter p):=List.Pairwise.sublist List.filter_sublist h
end Tp
namespace Go.Proofs.YteppebbmnojapaaGreatDoor
open Go.RowKit Go.Shelf
theorem Dn(hi:ByteArray):∀ (l acc:List Ent),(Tp.eH (rU hi) acc l).1=acc++l.takeWhile (Tp.inB hi)
 | [],acc=>by simp[Tp.eH]
 |x::l,acc=>by
  have hiff:(hi.toList= []\/En.lt x.1 hi=true) ↔ Tp.inB hi x=true:=by unfold Tp.inB;simp
  rw[Tp.eH]
  by_cases hx:Tp.inB hi x=true
  ·have e:rU hi acc x=(acc++ [x],true):=by unfold rU;rw[if_pos (hiff.2 hx)]
   rw[e,if_pos rfl,Dn hi l,List.takeWhile_cons_of_pos hx,List.append_assoc]
   rfl
  ·have e:rU hi acc x=(acc,false):=by unfold rU;rw[if_neg (fun h=>hx (hiff.1 h))]
   rw[e,if_neg (by simp),List.takeWhile_cons_of_neg hx,List.append_nil]
theorem acu{es:List Ent}(h:En.Srt es)(frm hi:ByteArray):(Tp.eH (rU hi) [] (Tp.from_ es frm)).1=Tp.Qk es frm hi:=by
 rw[Dn,List.nil_append,Tp.zA h,Tp.zB (Tp.OE h _),List.filter_filter]
 rfl
theorem Ql{σ:Tp.Pst}{disk:Tp.aA} :∀ (h f:Nat) (lo hi:Option En.Str) (s:Tp.Sub),Tp.Tr (σ.view disk) h lo hi s->Tp.cost Tp.en disk σ f s.id<=s.es.length
 |_,0,_,_,_,_=>Nat.zero_le _
 |0,f+1,lo,hi,s,hs=>by
  rw[Tp.xu hs.1]
  exact Nat.le_of_eq (by simp[Tp.en,Tp.costs,Nd.aG])
 |h+1,f+1,lo,hi,s,hs=>by
  obtain⟨subs,keys,a1,a2,a3,a4,a5,a6,a7⟩:=hs
  rw[Tp.xu a1,a4,Tp.es_len]
  show 0+Tp.costs Tp.en disk σ f (subs.map (·.id))<=_
  rw[Nat.zero_add]
  unfold Tp.costs
  rw[List.map_map]
  have key:∀l:List Tp.Sub,(∀t∈l,t∈subs)->(l.map (Tp.cost Tp.en disk σ f ∘ (·.id))).sum<=(l.map fun t=>t.es.length).sum:=fun l=>by
   induction l with
   |nil=>intro _;exact Nat.le_refl _
   |cons t l ih=>
    intro hl
    obtain⟨l',h',hp⟩:=Tp.fD a7 t (hl t List.mem_cons_self)
    have h1:=Ql h f l' h' t hp
    have h2:=ih fun u hu=>hl u (List.mem_cons_of_mem _ hu)
    rw[List.map_cons,List.sum_cons,List.map_cons,List.sum_cons]
    show Tp.cost Tp.en disk σ f t.id+_<=_
    omega
  exact key subs fun _ h=>h
theorem Qm{σ:Tp.Pst}{disk:Tp.aA} :∀ (h f:Nat) (lo hi:Option En.Str) (s:Tp.Sub),Tp.Tr (σ.view disk) h lo hi s->Tp.cost Tp.rd disk σ f s.id<=2*s.ids.length
 |_,0,_,_,_,_=>Nat.zero_le _
 |0,f+1,lo,hi,s,hs=>by
  rw[Tp.xu hs.1,hs.2.1]
  exact Nat.le_of_eq (by simp[Tp.rd,Tp.costs,Nd.aG])
 |h+1,f+1,lo,hi,s,hs=>by
  obtain⟨subs,keys,a1,a2,a3,a4,a5,a6,a7⟩:=hs
  rw[Tp.xu a1,a3]
  show 2+Tp.costs Tp.rd disk σ f (subs.map (·.id))<=_
  unfold Tp.costs
  rw[List.map_map]
  have key:∀ (l:List Tp.Sub),(∀t∈l,t∈subs)->(l.map (Tp.cost Tp.rd disk σ f ∘ (·.id))).sum<=2*(Tp.aI l).length:=by
   intro l
   induction l with
   |nil=>intro _;exact Nat.zero_le _
   |cons t l ih=>
    intro hl
    obtain⟨l',h',hp⟩:=Tp.fD a7 t (hl t List.mem_cons_self)
    have h1:=Qm h f l' h' t hp
    have h2:=ih fun u hu=>hl u (List.mem_cons_of_mem _ hu)
    have e:Tp.aI (t::l)=t.ids++Tp.aI l:=by unfold Tp.aI;rw[List.flatMap_cons]
    rw[e,List.length_append,List.map_cons,List.sum_cons]
    show Tp.cost Tp.rd disk σ f t.id+_<=_
    omega
  have:=key subs fun _ h=>h
  rw[List.length_cons]
  omega
theorem Ub{F:aT}{n N:Nat}{disk:Tp.aA}{w:World}{R:Int}(hF:F.At w R)(hR:0<=R)(r:Nat)(hRr:R+(r:Nat)<=900000000000)(ho:FOn F n disk N)(hN:N<1000000)(hT:HT w)(hB0:1<F.B)(hBw:F.B<=w.heap.size)
  (A:Option Addr) (c:Nat) (l:List Run) (pages:Int) (hr:RS w w.heap.size A l) (hl:l.length<=50000) (hfd:∀id x,disk id=some x->id<iD pages n/\¬Rp.Mem l id):
  Calls Tryz.prog 14 #[.pointer (some ⟨F.f,0,none⟩), .slice A l.length c, .int .i64 pages] w fun e w'=>∃t m,e= .returned (.pointer (some ⟨t,0,none⟩))/\TMd F w'.heap.size t m n (Rp.minus [(2,iD pages n-1)] l) disk r ⟨Rp.meet l [(2,iD pages n-1)],iD pages n, [],fun _=>none⟩ w'/\(w.heap.size<=t/\w.heap.size<=m/\F.d<w'.heap.size)/\Below w.heap.size w w':=by
 obtain⟨cc,c1,c2⟩:=ho.c
 have hsz:=c1.ok.size
 have hfo:=hF.fileOf
 rw[hsz]at hfo
 refine(Vj F.f n A c l pages ho.hn w hfo hr hl).mono ?_
 rintro e w' ⟨t,m,rfl,⟨ht,hm⟩,hT',hb⟩
 have hp:2<=iD pages n/\iD pages n<=max (n:Int) 2/\max (n:Int) 2<=100000:=by have:=ho.hn;unfold iD;omega
 have htl:t<w'.heap.size:=by obtain⟨_,⟨v,h2,_⟩,_⟩:=hT';exact h2.lt
 have hml:m<w'.heap.size:=by obtain⟨_,_,es,c,h2,_⟩:=hT';exact(Array.getElem?_eq_some_iff.1 h2).1
 have hlow:=hF.low
 refine⟨t,m,rfl,⟨⟨htl,hml,Nat.le_refl _⟩,fun g hg=> ?_,⟨hB0,by omega,by omega⟩,hT.below hb (by have:=hT.1;omega),⟨Rp.Ap.start l hp,fun id hi=>absurd hi List.not_mem_nil, .map [],hT',gG.nil_,fun id hi=>absurd hi List.not_mem_nil⟩,ho.on hN (fun id x hx=> ?_),R,hR,hRr,hF.fr (S:=fun _=>False) (.of_below hb) (fun _ _ a=>a)⟩,⟨ht,hm, ?_⟩,hb⟩
 ·have:=hlow g hg
  omega
 ·obtain⟨g1,g2⟩:=hfd id x hx
  obtain⟨g3,g4,g5⟩:=c2 id x hx
  have hno:¬id<2/\¬ (n:Int)<=id:=by simpa[aS]using g4
  exact((Rp.iY [(2,iD pages n-1)] l).2 id).2 ⟨by omega,by unfold Rp.Most;omega,Rp.nN.2 ⟨by omega,g1⟩,g2⟩
 ·have:=hlow F.d (.inr (.inl rfl));have:=hb.size;omega
structure FSt(F:aT)(n:Nat)(a:TAd)(used:List Run)(disk:Tp.aA)(root:Int)(σ:Tp.Pst)(ids:List Int)(es:List Ent)(tok r:Nat)(w:World):Prop where
 on:On (SD F a.t a.m) a.B a.t a.u (TMd F a.B a.t a.m n used disk) root 0 r σ w
 hd:F.d<a.B
 rt:Tp.gX disk used σ root es tok ids
 mine:∀x,x∈σ.mine->x∈ids
 tl:tok<=200000
def FU(F:aT)(a:TAd)(k:Nat):Prop:=SD F a.t a.m k\/k=a.u
section
variable {F:aT}{n:Nat}{a:TAd}{used:List Run}{disk:Tp.aA}{root:Int}{σ:Tp.Pst}{ids:List Int}{es:List Ent}{tok r r':Nat}{w w':World}
theorem FSt.Ey(h:FSt F n a used disk root σ ids es tok r w):fU (SD F a.t a.m) a.B a.t (max (n:Int) 2) disk (TMd F a.B a.t a.m n used disk):=tq F h.on.tm.low.1 h.on.tm.low.2.1 h.hd n used disk
theorem FSt.below(h:FSt F n a used disk root σ ids es tok r w)(hb:Below w.heap.size w w'):FSt F n a used disk root σ ids es tok r w':=⟨h.on.below h.Ey hb,h.hd,h.rt,h.mine,h.tl⟩
theorem FSt.less(h:FSt F n a used disk root σ ids es tok r w)(hr:r'<=r):FSt F n a used disk root σ ids es tok r' w:=⟨h.on.less h.Ey hr,h.hd,h.rt,h.mine,h.tl⟩
theorem FSt.with_(h:FSt F n a used disk root σ ids es tok r w)(ho:On (SD F a.t a.m) a.B a.t a.u (TMd F a.B a.t a.m n used disk) root 0 r' σ w'):FSt F n a used disk root σ ids es tok r' w':=⟨ho,h.hd,h.rt,h.mine,h.tl⟩
theorem FSt.low(h:FSt F n a used disk root σ ids es tok r w):∀k,FU F a k->k<w.heap.size:=fun k hk=>by
 have h1:=h.on.tm.low
 rcases hk with hk | rfl
 ·have:=h.Ey.low k hk;omega
 ·exact h.on.self.lt
theorem FSt.Au(h:FSt F n a used disk root σ ids es tok r w):σ.mine.length<=ids.length:=List.Nodup.length_le_of_subset h.on.tm.mem.ap.nd (fun x hx=>h.mine x hx)
theorem FSt.nz(h:FSt F n a used disk root σ ids es tok r w){x:Int}(hx:Tp.Use used σ x):x≠0:=fun e=>by
 have:=Tp.iC (room:=max (n:Int) 2) h.on.tm.mem.ap hx
 omega
theorem FSt.find(h:FSt F n a used disk root σ ids es tok r w)(k:ByteArray):Tp.lN disk σ k 24 root= .ok (En.get es k):=by
 rcases h.rt with⟨rfl,rfl,rfl⟩ | ⟨hh,s,rfl,rfl,rfl,q4,q5,q6,q7,q8⟩
 ·rfl
 ·have hz:s.id≠0:=h.nz (q7 s.id (Tp.o9 q5))
  have h8:=Tp.OA q8 (by have:=h.tl;omega)
  exact Tp.Qc hh 24 none none s (by omega) q5 hz (fun a h=>by cases h) (fun a h=>by cases h)
end
end Go.Proofs.YteppebbmnojapaaGreatDoor
namespace Tp
open Nd En
theorem Iw{v:Int->Option Node} :∀ {h:Nat} {lo hi:Option Str} {s:Sub},Tr v h lo hi s->∀x∈s.ids,∃n,v x=some n
 |0,_,_,s,hs,x,hx=>by
  obtain⟨a,b,_⟩:=hs
  rw[b]at hx
  obtain rfl:x=s.id:=by simpa using hx
  exact⟨_,a⟩
 |h+1,_,_,s,hs,x,hx=>by
  obtain⟨subs,keys,a,b,c,d,e,f,g⟩:=hs
  rw[c]at hx
  rcases List.mem_cons.1 hx with rfl | hx
  ·exact⟨_,a⟩
  ·unfold aI at hx
   obtain⟨t,ht,hx⟩:=List.mem_flatMap.1 hx
   obtain⟨l,h',hp⟩:=fD g t ht
   exact Iw hp x hx
def bH(disk:aA)(root:Int)(es:List En.Ent)(tok:Nat)(ids:List Int):Prop:=
 (root=0/\es= []/\ids= [])\/∃h s,s.id=root/\s.ids=ids/\s.es=es/\s.tok<=tok/\Tr disk h none none s/\ids.Nodup/\(h=0\/2*6 ^ (h-1)<=s.tok)
variable {disk bg:aA}{root:Int}{es:List En.Ent}{tok oz:Nat}{ids:List Int}{used:List Run}{σ:Pst}{room:Int}
theorem bH.none_(disk:aA)(tok:Nat):bH disk 0 [] tok []:= .inl ⟨rfl,rfl,rfl⟩
theorem bH.congr(h:bH disk root es tok ids)(hd:∀x∈ids,bg x=disk x):bH bg root es tok ids:=by
 rcases h with h | ⟨hh,s,a,rfl,c,d,e,f⟩
 ·exact .inl h
 ·exact .inr ⟨hh,s,a,rfl,c,d,kR hd e,f⟩
theorem bH.some_(h:bH disk root es tok ids):∀x∈ids,∃n,disk x=some n:=by
 rcases h with⟨_,_,rfl⟩ | ⟨hh,s,a,rfl,c,d,e,f⟩
 ·exact fun x hx=>absurd hx List.not_mem_nil
 ·exact Iw e
theorem bH.acv(h:bH disk root es tok ids)(hv:∀x∈ids,σ.view disk x=disk x)(hu:∀x∈ids,Use used σ x):gX disk used σ root es tok ids:=by
 rcases h with h | ⟨hh,s,a,rfl,c,d,e,f,g⟩
 ·exact .inl h
 ·exact .inr ⟨hh,s,a,rfl,c,d,kR hv e,f,hu,g⟩
theorem gX.ver(h:gX disk used σ root es tok ids)(hv:∀x∈ids,bg x=σ.view disk x):bH bg root es tok ids:=by
 rcases h with h | ⟨hh,s,a,rfl,c,d,e,f,u,g⟩
 ·exact .inl h
 ·exact .inr ⟨hh,s,a,rfl,c,d,kR hv e,f,g⟩
theorem gX.some_(h:gX disk used σ root es tok ids):∀x∈ids,∃n,σ.view disk x=some n:=by
 rcases h with⟨_,_,rfl⟩ | ⟨hh,s,a,rfl,c,d,e,f⟩
 ·exact fun x hx=>absurd hx List.not_mem_nil
 ·exact Iw e
theorem gX.uses(h:gX disk used σ root es tok ids):∀x∈ids,Use used σ x:=by
 rcases h with⟨_,_,rfl⟩ | ⟨hh,s,a,rfl,c,d,e,f,u,g⟩
 ·exact fun x hx=>absurd hx List.not_mem_nil
 ·exact u
def start(l:List Run)(p:Int):Pst:=⟨Rp.meet l [(2,p-1)],p, [],fun _=>none⟩
theorem Dq{l:List Run}{p x:Int}(h2:2<=x)(hp:x<p)(hl:¬Rp.Mem l x):(start l p).view disk x=disk x:=by
 unfold Pst.view start
 rw[if_neg List.not_mem_nil,if_pos ⟨h2,hp,Rp.qW fun hm=>hl (((Rp.lS l [(2,p-1)]).2 x).1 hm).2.2.1⟩]
theorem Uc{l:List Run}{p x:Int}(h2:2<=x)(hp:x<p)(hm:x<=Rp.Most)(hl:¬Rp.Mem l x):Use (Rp.minus [(2,p-1)] l) (start l p) x:=
 .inr (((Rp.iY [(2,p-1)] l).2 x).2 ⟨by omega,by exact hm,Rp.nN.2 ⟨h2,hp⟩,hl⟩)
end Tp
namespace Go.Proofs.YteppebbmnojapaaGreatDoor
open Go.RowKit Go.Shelf
end Go.Proofs.YteppebbmnojapaaGreatDoor
namespace Go.Proofs.YteppebbmnojapaaGreatDoor
open Go.RowKit Go.Shelf Go.Maps
section
variable {F F':aT}{n N:Nat}{a:TAd}{used:List Run}{disk:Tp.aA}{root root':Int}{σ:Tp.Pst}{ids dQ:List Int}{es es':List Ent}{tok oz r:Nat}{w w':World}
theorem FSt.ap(h:FSt F n a used disk root σ ids es tok r w):Tp.ApS (max (n:Int) 2) used σ:=h.on.tm.mem.ap
theorem Iy(hap:Tp.ApS (max (n:Int) 2) used σ){x:Int}(hu:Tp.Use used σ x):flushed disk σ x=σ.view disk x:=by
 unfold flushed
 by_cases hm:x∈σ.mine
 ·rw[if_pos hm,Tp.jU hm]
 ·rw[if_neg hm]
  rcases hu with hu | hu
  ·exact absurd hu hm
  ·exact(Tp.jV hap hu).symm
theorem FSt.ver(h:FSt F n a used disk root σ ids es tok r w):Tp.bH (flushed disk σ) root es tok ids:=h.rt.ver fun x hx=>Iy h.ap (h.rt.uses x hx)
theorem FSt.old(h:FSt F n a used disk root σ ids es tok r w)(hv:Tp.bH disk root' es' oz dQ):Tp.bH (flushed disk σ) root' es' oz dQ:=hv.congr fun x hx=>by
 obtain⟨y,hy⟩:=hv.some_ x hx
 unfold flushed
 rw[if_neg (h.ap.um x (h.on.tm.on.page x y hy).2.1)]
def vO(disk:Tp.aA)(free:List Run)(p:Int):Prop:=∀id x,disk id=some x->id<p/\¬Rp.Mem free id
theorem FSt.ag0(h:FSt F n a used disk root σ ids es tok r w):vO (flushed disk σ) σ.free σ.pages:=fun id x hx=>by
 unfold flushed at hx
 split at hx
 ·rename_i hm
  exact⟨(h.ap.hm id hm).2,fun hf=>h.ap.fm id hf hm⟩
 ·have hu:=(h.on.tm.on.page id x hx).2.1
  exact⟨(h.ap.hu id hu).2,fun hf=>h.ap.fu id hf hu⟩
theorem vO.XE{free:List Run}{p:Int}(h:vO disk free p):vO disk [] p:=fun id x hx=>⟨(h id x hx).1,fun⟨a,ha,_⟩=>by cases ha⟩
theorem Ud(h:FSt F n a used disk root σ ids es tok r w)(hd:FOn F n disk N)(hN:N+2000<90000)(hk:F.k+1000<maxLen)(hml:σ.mine.length<=1000):
  Calls Tryz.prog 16 #[.pointer (some ⟨a.t,0,none⟩)] w fun e w'=>e= .returned (.int .i64 0)/\∃F',jW F n (flushed disk σ) (N+σ.mine.length) r w F' w':=
 SX h.on.tm hd hN hk (fun id hid=>by
  obtain⟨y,hy⟩:=h.rt.some_ id (h.mine id hid)
  rw[Tp.jU hid]at hy
  exact⟨y,hy⟩) hml
theorem jW.lo{α:Type}{E:Enc α}{ty:TypeId}{base:Nat}{v:Value}{l:List α}(h:jW F n disk N r w F' w')(hl:LO E ty w base v l)(h1:ty≠117)(h2:ty≠230)(h3:∀g,v.ownBlock=some g->g≠F.s):LO E ty w' base v l:=by
 rcases hl with⟨h4,h5 | ⟨g,cap,cur,hv,hb,hh,q⟩⟩
 ·exact⟨h4, .inl h5⟩
 ·exact⟨h4, .inr ⟨g,cap,cur,hv,hb,h.blk g ty _ hh h1 h2 (h3 g (by rw[hv];rfl)),q⟩⟩
theorem aT.At.sty{R:Int}(h:F.At w R){g:Nat}{ty:TypeId}{cs:Array Value}(hB:Blk w g ty cs)(ht:ty≠9):g≠F.s:=hB.ne_ h.disk.sure ht
theorem LO.acw{α:Type}{E:Enc α}{ty:TypeId}{base:Nat}{v:Value}{l:List α}(hl:LO E ty w base v l){g:Nat}(hg:v.ownBlock=some g):∃cs,Blk w g ty cs/\base<=g:=by
 rcases hl with⟨_,⟨h5,_⟩ | ⟨g',cap,cur,hv,hb,hh,_⟩⟩
 ·rw[h5]at hg;cases hg
 ·rw[hv]at hg
  have:g'=g:=by injection hg
  subst this
  exact⟨_,hh,hb⟩
theorem jW.row{α:Type}{E:Enc α}{ty:TypeId}{base:Nat}{v:Value}{l:List α}{R:Int}(h:jW F n disk N r w F' w')(hA:F.At w R)(hl:LO E ty w base v l)(h1:ty≠117)(h2:ty≠230)(h3:ty≠9):LO E ty w' base v l:=
 h.lo hl h1 h2 fun g hg=>by
  obtain⟨cs,hB,_⟩:=hl.acw hg
  exact hA.sty hB h3
theorem jW.own{base:Nat}{v:Value}{l:List Run}{R:Int}(h:jW F n disk N r w F' w')(hA:F.At w R)(hl:Own w base v l):Own w' base v l:=by
 rcases hl with⟨h4,h5 | ⟨g,cap,cur,hv,hb,hh,q⟩⟩
 ·exact⟨h4, .inl h5⟩
 ·exact⟨h4, .inr ⟨g,cap,cur,hv,hb,h.blk g 64 _ hh (by decide) (by decide) (hA.sty hh (by decide)),q⟩⟩
theorem jW.txn{R:Int}{t m k:Nat}{free:List Run}{pages:Int}{D:DataW Value}(h:jW F n disk N r w F' w')(hA:F.At w R)(ht:Txn w t m F.f n free pages k D)(hm:m≠F.m):Txn w' t m F.f n free pages k D:=by
 obtain⟨h1,⟨v,h2,h3⟩,es,c,h4,h5⟩:=ht
 obtain⟨R',r1,r2,r3⟩:=h.file
 have hs:=r3.fileOf
 obtain⟨cc,c1,c2⟩:=h.on.c
 rw[c1.ok.size,h.same.2.1]at hs
 exact⟨hs,⟨v,h.blk t _ _ h2 (by decide) (by decide) (hA.sty h2 (by decide)),h.own hA h3⟩,es,c,h.map m es c hm h4,h5⟩
theorem jW.ht(h:jW F n disk N r w F' w')(hT:HT w)(hB:1<F.B):HT w':=by
 have hb:=h.below.mono (show 1+1<=F.B from hB)
 refine⟨Nat.lt_of_lt_of_le hT.1 hb.size,fun i hi=> ?_⟩
 rw[<-hT.2 i hi]
 exact hb.cell (p:=⟨1,i,none⟩) (Nat.lt_succ_self _)
def TxB(F:aT)(t n:Nat)(free:List Run)(pages:Int)(b:Nat)(w:World):Prop:=
 ∃ (w1:World) (m k:Nat) (D:DataW Value) (cs:Array Value),w1.heap.size<=b/\Txn w1 t m F.f n free pages k D/\Blk w1 F.d 117 cs/\Fr (fun g=>g=F.d\/b<=g) w1 w/\m≠F.m
theorem TxB.of{R:Int}{t m k:Nat}{free:List Run}{pages:Int}{D:DataW Value}(h:Txn w t m F.f n free pages k D)(hA:F.At w R)(hm:m≠F.m):TxB F t n free pages w.heap.size w:=
 ⟨w,m,k,D,_,Nat.le_refl _,h,hA.disk.self,Fr.refl _,hm⟩
theorem TxB.acy{t b:Nat}{free:List Run}{pages:Int}{R:Int}(h:TxB F t n free pages b w)(hA:F.At w R)(hn:F.D.sure.length=n):∃m k D,Txn w t m F.f n free pages k D/\m≠F.m:=by
 obtain⟨w1,m,k,D,cs,h1,⟨_,⟨v,h2,h3⟩,es,c,h4,h5⟩,h6,hf,hmm⟩:=h
 have hb:∀ {g:Nat} {o:Obj},w1.heap[g]? =some o->(∀cs,o≠ .cells cs 117)->w.heap[g]? =some o:=fun {g o} ho hne=>(hf.block g (Array.getElem?_eq_some_iff.1 ho).1 (fun e=>by
  have:=(Array.getElem?_eq_some_iff.1 ho).1
  rcases e with rfl | e
  ·have e2:=ho.symm.trans h6
   injection e2 with e2
   exact hne _ e2
  ·omega)).trans ho
 refine⟨m,k,D,⟨hn ▸ hA.fileOf,⟨v,hb h2 (fun cs e=>by injection e with _ e;cases e), ?_⟩,es,c,hb h4 (fun cs e=>by cases e),h5⟩,hmm⟩
 rcases h3 with⟨e1,e2 | ⟨g,cap,cur,hv,hbb,hh,hr⟩⟩
 ·exact⟨e1, .inl e2⟩
 ·exact⟨e1, .inr ⟨g,cap,cur,hv,hbb,hb hh (fun cs e=>by injection e with _ e;cases e),hr⟩⟩
theorem Qn{B t m r:Nat}{P:Int}{l:List Run}(h:TMd F B t m n (Rp.minus [(2,P-1)] l) disk r (Tp.start l P) w)(hd:F.d<B)(hv:Tp.bH disk root es tok ids)(htl:tok<=200000)(hon:∀x y,disk x=some y->aS n x=false)(hn:n<=16384)(hlow:vO disk l P):
  Calls Tryz.prog 18 #[.pointer (some ⟨t,0,none⟩), .int .i64 root] w fun e w'=>∃a:TAd,e= .returned (.pointer (some ⟨a.u,0,none⟩))/\a.t=t/\a.m=m/\FSt F n a (Rp.minus [(2,P-1)] l) disk root (Tp.start l P) ids es tok r w'/\w.heap.size<=a.u/\Below w.heap.size w w':=by
 have M:=tq F h.low.1 h.low.2.1 hd n (Rp.minus [(2,P-1)] l) disk
 refine(FY M root r (Tp.start l P) w h).mono ?_
 rintro e w' ⟨u,rfl,h1,h2,h3⟩
 have hx:∀x∈ids,(2<=x/\x<P/\x<=Rp.Most)/\¬Rp.Mem l x:=fun x hx=>by
  obtain⟨y,hy⟩:=hv.some_ x hx
  have h4:=hlow x y hy
  have h5:=hon x y hy
  have h6:¬x<2/\¬ (n:Int)<=x:=by simpa[aS]using h5
  exact⟨⟨by omega,h4.1,by unfold Rp.Most;omega⟩,h4.2⟩
 exact⟨⟨B,t,m,F.f,u⟩,rfl,rfl,rfl,⟨h1,hd,hv.acv (fun x hx'=>Tp.Dq (hx x hx').1.1 (hx x hx').1.2.1 (hx x hx').2) (fun x hx'=>Tp.Uc (hx x hx').1.1 (hx x hx').1.2.1 (hx x hx').1.2.2 (hx x hx').2),fun x hx=>absurd hx List.not_mem_nil,htl⟩,h2,h3⟩
end
theorem OG{B0 d n:Nat}{w:World}(hn:n<=16384){f:Nat}(h:FAt w B0 f d 0 (fresh n)):∃F:aT,F.B=B0/\F.f=f/\F.d=d/\F.k=0/\F.At w 0/\FOn F n Di 0:=by
 obtain⟨s,m,pv,Dm,h1⟩:=h.open_
 exact⟨⟨B0,f,d,0,s,m,pv,Dm,fresh n⟩,rfl,rfl,rfl,rfl,h1,hn,⟨fun _=>none,Zk,fun _ _ h=>by cases h⟩,⟨Int.le_refl _,Int.le_refl _⟩,by show([]:List _).length<=0;simp⟩
section
variable {F F':aT}{n:Nat}{a:TAd}{used:List Run}{disk:Tp.aA}{root:Int}{es:List Ent}{tok r r' T:Nat}{w0 w w':World}{z:Int}
structure gY(F:aT)(n:Nat)(disk:Tp.aA)(N r:Nat)(w:World):Prop where
 on:FOn F n disk N
 file:∃R:Int,0<=R/\R+(r:Nat)<=900000000000/\F.At w R
 ht:HT w
 b0:1<F.B
 bw:F.B<=w.heap.size
theorem gY.below{N:Nat}(h:gY F n disk N r w)(hb:Below w.heap.size w w'):gY F n disk N r w':=by
 obtain⟨h1,⟨R,r1,r2,r3⟩,h3,h4,h5⟩:=h
 exact⟨h1,⟨R,r1,r2,r3.fr (S:=fun _=>False) (.of_below hb) (fun _ _ a=>a)⟩,h3.below hb (by have:=h3.1;omega),h4,Nat.le_trans h5 hb.size⟩
theorem Dt{N:Nat}(h:gY F n disk N r w)(hN:N<1000000)(A:Option Addr)(c:Nat)(l:List Run)(p P:Int)(hP:iD p n=P)(hr:RS w w.heap.size A l)(hl:l.length<=50000)(hlow:vO disk l P):
  Calls Tryz.prog 14 #[.pointer (some ⟨F.f,0,none⟩), .slice A l.length c, .int .i64 p] w fun e w'=>∃t m,e= .returned (.pointer (some ⟨t,0,none⟩))/\TMd F w'.heap.size t m n (Rp.minus [(2,P-1)] l) disk r (Tp.start l P) w'/\(w.heap.size<=t/\w.heap.size<=m/\F.d<w'.heap.size)/\Below w.heap.size w w':=by
 obtain⟨h1,⟨R,r1,r2,r3⟩,h3,h4,h5⟩:=h
 subst hP
 exact Ub r3 r1 r r2 h1 hN h3 h4 h5 A c l p hr hl hlow
structure acz(F:aT)(n:Nat)(a:TAd)(disk:Tp.aA)(root:Int)(σ:Tp.Pst)(ids:List Int)(es:List Ent)(tok N r:Nat)(w:World)(F':aT)(bg:Tp.aA)(w':World):Prop where
 same:F'.B=F.B/\F'.f=F.f/\F'.d=F.d/\F'.k=0
 ready:gY F' n bg (N+σ.mine.length) r w'
 ver:Tp.bH bg root es tok ids
 old:∀ (root':Int) (es':List Ent) (oz:Nat) (dQ:List Int),Tp.bH disk root' es' oz dQ->Tp.bH bg root' es' oz dQ
 low:vO bg σ.free σ.pages
 pg:iD σ.pages n=σ.pages
 fl:σ.free.length<=50000
 tx:TxB F' a.t n σ.free σ.pages w'.heap.size w'
 self:Blk w' a.u 134 (zo a.t root 0)
 below:Below F.B w w'
 row:∀ (α:Type) (E:Enc α) (ty:TypeId) (base:Nat) (v:Value) (l:List α),LO E ty w base v l->ty≠117->ty≠230->ty≠9->LO E ty w' base v l
 blk:∀ (g:Nat) (ty:TypeId) (cs:Array Value),Blk w g ty cs->ty≠117->ty≠230->ty≠9->Blk w' g ty cs
theorem XF{room p:Int}{fr used:List Run}{mine:List Int}(h:Rp.Ap room fr used mine p)(hp:room<=16384):fr.length<=50000:=by
 have h0:=h.pg
 have h1:=yh fr 0 p h.cf (fun x hx=>(h.hf x hx).2)
 omega
theorem OH{ids:List Int}{σ:Tp.Pst}{N:Nat}(h:FSt F n a used disk root σ ids es tok r w)(hd:FOn F n disk N)(hN:N+2000<90000)(hk:F.k+1000<maxLen)(hml:σ.mine.length<=1000):
  Calls Tryz.prog 16 #[.pointer (some ⟨a.t,0,none⟩)] w fun e w'=>e= .returned (.int .i64 0)/\∃F' bg,acz F n a disk root σ ids es tok N r w F' bg w':=by
 refine(Ud h hd hN hk hml).mono ?_
 rintro e w' ⟨rfl,F',hf⟩
 obtain⟨R,r1,r2,r3⟩:=h.on.tm.file
 have hmm:a.m≠F.m:=by have:=(h.on.tm.sep F.m (.inr (.inr (.inr (.inl rfl))))).2;omega
 obtain⟨D,t1,t2⟩:=h.on.tm.mem.txn
 have htx:=hf.txn r3 t1 hmm
 obtain⟨R',q1,q2,q3⟩:=hf.file
 obtain⟨e1,e2,e3,e4,e5,e6,e7,e8⟩:=hf.same
 have hp:=h.ap.pg
 have hz:=hf.below.size
 have hFw:F.B<=w.heap.size:=by have:=h.on.tm.base.2.1;have:=h.on.tm.low.1;have:=h.on.tm.low.2.2;omega
 refine⟨rfl,F',flushed disk σ,⟨e1,e2,e3,e6⟩,⟨hf.on,⟨R',q1,q2,q3⟩,hf.ht h.on.tm.ht h.on.tm.base.1,by rw[e1];exact h.on.tm.base.1,by rw[e1];omega⟩,h.ver,fun _ _ _ _ hv=>h.old hv,h.ag0,by unfold iD;omega,XF h.ap (by have:=hd.hn;omega), ?_,hf.blk a.u _ _ h.on.self (by decide) (by decide) (r3.sty h.on.self (by decide)),hf.below,fun α E ty base v l hl h1 h2 h3=>hf.row r3 hl h1 h2 h3,fun g ty cs hB h1 h2 h3=>hf.blk g ty cs hB h1 h2 (r3.sty hB h3)⟩
 exact TxB.of (F:=F') (R:=R') (by rw[e2];exact htx) q3 (by rw[e5];exact hmm)
end
end Go.Proofs.YteppebbmnojapaaGreatDoor
namespace Tp
open Nd En
def zU(σ:Pst)(x:Int):Bool:=match σ.nd x with
 |some n=>n.leaf
 |none=>false
def FL(σ:Pst):Nat:=σ.mine.countP (zU σ)
def Du(b:Bool):Nat:=if b then 1 else 0
theorem Dv:∀ (l:List Int) (p q:Int->Bool) (id:Int),l.Nodup->(∀x,x≠id->p x=q x)->l.countP p<=l.countP q+Du (p id)
 | [],_,_,_,_,_=>by simp
 |y::l,p,q,id,hn,h=>by
  obtain⟨h1,h2⟩:=List.nodup_cons.1 hn
  rw[List.countP_cons,List.countP_cons]
  by_cases e:y=id
  ·subst e
   have:l.countP p=l.countP q:=List.countP_congr fun x hx=>by rw[h x (fun e=>h1 (e ▸ hx))]
   unfold Du
   rw[this]
   split<;>split<;>omega
  ·have:=Dv l p q id h2 h
   rw[h y e]
   omega
section
variable {room room':Int}{disk:aA}{used:List Run}{σ σ1 σ2 σ':Pst}
theorem aeP(hn:σ.mine.Nodup)(id:Int)(n:Node):FL (σ.put id n)<=FL σ+Du n.leaf:=by
 have h:=Dv σ.mine (zU (σ.put id n)) (zU σ) id hn (fun x hx=>by unfold zU Pst.put;simp only[if_neg hx])
 have e:zU (σ.put id n) id=n.leaf:=by unfold zU Pst.put;simp
 rw[e]at h
 exact h
theorem XG(h:ApS room used σ){id pg:Int}{n:Node}(hs:dY room σ id n=(.ok pg,σ1)):ApS room used σ1/\FL σ1<=FL σ+Du n.leaf:=by
 refine⟨(Hr (disk:=fun _=>none) h hs).1.ap, ?_⟩
 unfold dY at hs
 cases hf:fits n with
 |false=>rw[hf]at hs;simp at hs
 |true=>
  rw[hf]at hs
  simp only[Bool.true_eq_false,if_false]at hs
  by_cases hid:id∈σ.mine
  ·rw[if_pos hid]at hs
   simp only[Prod.mk.injEq,Except.ok.injEq]at hs
   obtain⟨rfl,rfl⟩:=hs
   exact aeP h.nd _ _
  ·rw[if_neg hid]at hs
   cases ha:dF room σ with
   |none=>rw[ha]at hs;simp at hs
   |some o=>
    obtain⟨id',σ''⟩:=o
    rw[ha]at hs
    simp only[Prod.mk.injEq,Except.ok.injEq]at hs
    obtain⟨rfl,rfl⟩:=hs
    obtain⟨h1,h2,h3⟩:=BQ (disk:=fun _=>none) h ha
    have hnd:∀x,x≠id'->σ''.nd x=σ.nd x:=fun x hx=>by
     unfold dF at ha
     cases hv:eY σ.free σ.pages room with
     |none=>rw[hv]at ha;cases ha
     |some p=>
      obtain⟨a,b,c⟩:=p
      rw[hv]at ha
      simp only[Option.some.injEq,Prod.mk.injEq]at ha
      obtain⟨rfl,rfl⟩:=ha
      simp only[if_neg hx]
    have hno:id' ∉ σ.mine:=fun hm=>h3 (.inl hm)
    unfold FL
    show(σ''.mine).countP _<=_
    rw[h2,List.countP_append]
    have e1:σ.mine.countP (zU (σ''.put id' n))=σ.mine.countP (zU σ):=List.countP_congr fun x hx=>by
     have hx':x≠id':=fun e=>hno (e ▸ hx)
     unfold zU Pst.put
     simp only[if_neg hx',hnd x hx']
    rw[e1]
    have e2:zU (σ''.put id' n) id'=n.leaf:=by unfold zU Pst.put;simp
    rw[List.countP_singleton,e2]
    unfold Du
    omega
theorem OI(h:ApS room used σ)(id:Int):ApS room used (dK σ id)/\FL (dK σ id)<=FL σ:=
 ⟨(drop_step (disk:=fun _=>none) h id).1.ap,List.Sublist.countP_le (p:=zU σ) List.filter_sublist⟩
theorem XH{n a b:Node}{k:Str}(h:cut n=some (a,k,b)):a.leaf=n.leaf/\b.leaf=n.leaf:=by
 unfold cut at h
 split at h
 ·unfold split at h
  split at h
  ·cases h
  ·split at h
   ·rename_i hl
    split at h
    ·cases h
    ·cases h
     exact⟨hl.symm,hl.symm⟩
   ·rename_i hl
    have hl:n.leaf=false:=by simpa using hl
    split at h
    ·cases h
    ·cases h
     exact⟨hl.symm,hl.symm⟩
 ·cases h
theorem tC:∀ (f:Nat) (σ:Pst) (id:Int) (n:Node) (p:Part) (σ':Pst),ApS room used σ->aC room f σ id n=(.ok p,σ')->ApS room used σ'/\FL σ'<=FL σ+(if n.leaf then p.1.length else 0)
 |0,σ,id,n,p,σ',_,h=>by unfold aC at h;cases h
 |f+1,σ,id,n,p,σ',hap,h=>by
  unfold aC at h
  split at h
  ·simp only[Prod.mk.injEq,Except.ok.injEq]at h
   obtain⟨rfl,rfl⟩:=h
   obtain⟨h1,h2⟩:=OI hap id
   exact⟨h1,Nat.le_trans h2 (Nat.le_add_right _ _)⟩
  ·cases hc:cut n with
   |some o=>
    obtain⟨a,key,b⟩:=o
    rw[hc]at h
    simp only at h
    obtain⟨l1,l2⟩:=XH hc
    cases h1:aC room f σ id a with
    |mk r1 s1=>
     rw[h1]at h
     cases r1 with
     |error e=>simp at h
     |ok one=>
      simp only at h
      cases h2:aC room f s1 0 b with
      |mk r2 s2=>
       rw[h2]at h
       cases r2 with
       |error e=>simp at h
       |ok two=>
        simp only[Prod.mk.injEq,Except.ok.injEq]at h
        obtain⟨rfl,rfl⟩:=h
        obtain⟨g1,g2⟩:=tC f σ id a one s1 hap h1
        obtain⟨g3,g4⟩:=tC f s1 0 b two s2 g1 h2
        rw[l1]at g2
        rw[l2]at g4
        refine⟨g3, ?_⟩
        cases hl:n.leaf with
        |true=>
         rw[hl]at g2 g4
         simp only[if_true,List.length_append]at g2 g4 ⊢
         omega
        |false=>
         rw[hl]at g2 g4
         simp only[Bool.false_eq_true,if_false]at g2 g4 ⊢
         omega
   |none=>
    rw[hc]at h
    simp only at h
    cases h1:dY room σ id n with
    |mk r1 s1=>
     rw[h1]at h
     cases r1 with
     |error e=>simp at h
     |ok pg=>
      simp only[Prod.mk.injEq,Except.ok.injEq]at h
      obtain⟨rfl,rfl⟩:=h
      obtain⟨g1,g2⟩:=XG hap h1
      refine⟨g1, ?_⟩
      unfold Du at g2
      exact g2
theorem F5{n:Node}(h:n.leaf=false)(a b:Nat)(c:List Int)(d:List Str):(swap n a b c d).leaf=false:=by
 unfold swap
 split
 ·exact h
 ·rfl
theorem acA{n n':Node}{i d:Nat}(hap:ApS room used σ)(h:iE room disk σ n i d=(.ok n',σ'))(κ:Bool)(hκ:∀kid,σ.view disk (n.kids.getD i 0)=some kid->kid.leaf=κ)(h2:1<n.kids.length)(hl:n.leaf=false):ApS room used σ'/\FL σ'<=FL σ+Du κ/\n'.leaf=false:=by
 unfold iE at h
 split at h
 ·cases h
 ·cases hk:σ.view disk (n.kids.getD i 0)with
  |none=>rw[hk]at h;cases h
  |some kid=>
   rw[hk]at h
   simp only at h
   split at h
   ·simp only[Prod.mk.injEq,Except.ok.injEq]at h
    obtain⟨rfl,rfl⟩:=h
    exact⟨hap,Nat.le_add_right _ _,hl⟩
   ·cases ha:σ.view disk (n.kids.getD (sib n i) 0)with
    |none=>rw[ha]at h;cases h
    |some a=>
     rw[ha]at h
     simp only at h
     cases hb:σ.view disk (n.kids.getD (sib n i+1) 0)with
     |none=>rw[hb]at h;cases h
     |some b=>
      rw[hb]at h
      simp only at h
      split at h
      ·simp only[Prod.mk.injEq,Except.ok.injEq]at h
       obtain⟨rfl,rfl⟩:=h
       exact⟨hap,Nat.le_add_right _ _,hl⟩
      ·rename_i hno
       have hab:a.leaf=b.leaf:=by
        cases e:(a.leaf != b.leaf)with
        |true=>exact absurd (.inl e) hno
        |false=>simpa using e
       have hκ2:a.leaf=κ:=by
        unfold sib at ha hb
        split at ha
        ·rename_i hs
         rw[if_pos hs]at hb
         have e:i-1+1=i:=by omega
         rw[e]at hb
         rw[hab]
         exact hκ b hb
        ·exact hκ a ha
       have hj:(join a (n.keys.getD (sib n i) ⟨#[]⟩) b).leaf=κ:=by
        unfold join
        rw[hab]
        simp only[bne_self_eq_false,Bool.false_eq_true,if_false]
        cases e:b.leaf with
        |true=>simp only[if_true];rw[<-hκ2,hab,e]
        |false=>simp only[Bool.false_eq_true,if_false];rw[<-hκ2,hab,e]
       cases h1:dY room σ (n.kids.getD (sib n i) 0) (join a (n.keys.getD (sib n i) ⟨#[]⟩) b)with
       |mk r1 s1=>
        rw[h1]at h
        cases r1 with
        |error e=>simp at h
        |ok pg=>
         simp only[Prod.mk.injEq,Except.ok.injEq]at h
         obtain⟨rfl,rfl⟩:=h
         obtain⟨g1,g2⟩:=XG hap h1
         obtain⟨g3,g4⟩:=OI g1 (n.kids.getD (sib n i+1) 0)
         rw[hj]at g2
         exact⟨g3,by omega,F5 hl _ _ _ _⟩
theorem La:∀ (f:Nat) (σ:Pst) (id r:Int) (σ':Pst),ApS room used σ->dG disk f σ id=(.ok r,σ')->ApS room used σ'/\FL σ'<=FL σ
 |0,σ,id,r,σ',_,h=>by unfold dG at h;cases h
 |f+1,σ,id,r,σ',hap,h=>by
  unfold dG at h
  cases hv:σ.view disk id with
  |none=>rw[hv]at h;cases h
  |some n=>
   rw[hv]at h
   simp only at h
   split at h
   ·simp only[Prod.mk.injEq,Except.ok.injEq]at h
    obtain⟨rfl,rfl⟩:=h
    exact⟨hap,Nat.le_refl _⟩
   ·obtain⟨g1,g2⟩:=OI hap id
    obtain⟨g3,g4⟩:=La f _ _ r σ' g1 h
    exact⟨g3,by omega⟩
theorem XI:∀ (f:Nat) (σ:Pst) (p:Part) (r:Int) (σ':Pst),ApS room used σ->fE room disk f σ p=(.ok r,σ')->ApS room used σ'/\FL σ'<=FL σ
 |0,σ,p,r,σ',_,h=>by unfold fE at h;cases h
 |f+1,σ,p,r,σ',hap,h=>by
  unfold fE at h
  split at h
  ·cases h1:aC room (p.1.length+1) σ 0 (ah p.1 p.2)with
   |mk r1 s1=>
    rw[h1]at h
    cases r1 with
    |error e=>simp at h
    |ok q=>
     simp only at h
     obtain⟨g1,g2⟩:=tC _ σ 0 _ q s1 hap h1
     obtain⟨g3,g4⟩:=XI f s1 q r σ' g1 h
     refine⟨g3, ?_⟩
     simp only[ah,Bool.false_eq_true,if_false]at g2
     omega
  ·split at h
   ·simp only[Prod.mk.injEq,Except.ok.injEq]at h
    obtain⟨rfl,rfl⟩:=h
    exact⟨hap,Nat.le_refl _⟩
   ·exact La 24 σ _ r σ' hap h
theorem yC{v:Int->Option Node}{h:Nat}{lo hi:Option Str}{p:Part}{ids:List Int}{es:List En.Ent}{tok:Nat}{big:Prop}(q:PartsAt v h lo hi p ids es tok big):p.1.length<=2/\(p.1.length=1->p.2.length=0/\∃pg n,p.1= [pg]/\v pg=some n/\n.leaf=decide (h=0)):=by
 rcases q with⟨rfl,_,_⟩ | ⟨subs,q1,_,_,_,q5,_,q7,_⟩
 ·exact⟨by simp,fun h=>by simp at h⟩
 ·rw[q1,List.length_map]
  refine⟨q7,fun h1=> ?_⟩
  obtain⟨t,rfl⟩:∃t,subs= [t]:=List.length_eq_one_iff.1 h1
  have hl:=eG q5
  have hk:p.2= []:=List.eq_nil_of_length_eq_zero (by simpa using hl)
  rw[hk]at q5
  obtain⟨n,n1,_,n3⟩:=Ak (SE.1 q5)
  exact⟨by rw[hk];rfl,t.id,n,rfl,n1,n3⟩
theorem Lc{g:List En.Ent->List En.Ent}{key:Str}(GO:GOp g key)(δ:Nat):∀ (h f:Nat) (σ:Pst) (lo hi:Option Str) (s:Sub) (p:Part) (σ':Pst),h<f->f<=24->ApS room used σ->Tr (σ.view disk) h lo hi s->s.ids.Nodup->(∀x∈s.ids,Use used σ x)->qo lo key->oZ hi key->(g s.es).length<=s.es.length+δ->
  bM room disk g key f σ s.id=(.ok p,σ')->ApS room used σ'/\FL σ'<=FL σ+(if h=0 then p.1.length else 2)
 |0,f+1,σ,lo,hi,s,p,σ',_,_,hap,ht,_,_,_,_,_,hc=>by
  unfold bM at hc
  rw[ht.1]at hc
  simp only at hc
  rw[if_pos (show(aG s.es).leaf=true from rfl)]at hc
  have:=tC _ σ s.id _ p σ' hap hc
  exact this
 |h+1,f+1,σ,lo,hi,s,p,σ',hf,agT,hap,ht,hnd,gy,hk1,hk2,hd,hc=>by
  have G:=iF (σ.view disk) h
  have G1:=iF (σ.view disk) (h+1)
  have hrs:=G1.srt ht
  obtain⟨subs,keys,a1,a2,a3,a4,a5,a6,a7⟩:=ht
  have hlen:=eG a7
  have hci:=oN keys key
  obtain⟨i,hi0⟩:∃i,i=child keys key:=⟨_,rfl⟩
  have hi':i<subs.length:=by omega
  unfold bM at hc
  rw[a1]at hc
  simp only at hc
  rw[if_neg (show ¬ (ah (subs.map (·.id)) keys).leaf=true by simp[ah])]at hc
  rw[show(ah (subs.map (·.id)) keys).keys=keys from rfl, <-hi0,show(ah (subs.map (·.id)) keys).kids=subs.map (·.id)from rfl,Dc hi']at hc
  obtain⟨l,hh,ti,c1,c2,hrep,hloc,hcb⟩:=wV G a7 hi'
  obtain⟨kl,kh⟩:=hcb key hi0.symm hk1 hk2
  rw[a3,List.nodup_cons]at hnd
  obtain⟨TN,hnd⟩:=hnd
  have hsp:subs=subs.take i++(subs[i]::subs.drop (i+1)):=by rw[<-List.drop_eq_getElem_cons,List.take_append_drop]
  have KL:aI subs=aI (subs.take i)++((subs[i]).ids++aI (subs.drop (i+1))):=by
   conv=>lhs;rw[hsp]
   rw[dI,wU]
  have C9:es_ subs=es_ (subs.take i)++((subs[i]).es++es_ (subs.drop (i+1))):=by
   conv=>lhs;rw[hsp]
   rw[gI,kE]
  have hi6:=a6 _ (List.getElem_mem hi')
  have yA:=hnd
  rw[KL,List.nodup_append,List.nodup_append]at yA
  obtain⟨nd1,⟨nd2,nd3,nd4⟩,nd5⟩:=yA
  have hmi:∀x∈(subs[i]).ids,x∈aI subs:=fun x hx=>iR (List.getElem_mem hi') hx
  have hui:∀x∈aI subs,Use used σ x:=fun x hx=>gy x (by rw[a3];exact List.mem_cons_of_mem _ hx)
  have hge:g s.es=es_ (subs.take i)++(g (subs[i]).es++es_ (subs.drop (i+1))):=by
   rw[a4,C9]
   refine GO.loc _ _ _ (by rw[<-C9, <-a4];exact hrs) (hloc key kl kh).1 (hloc key kl kh).2
  have hd2:(g (subs[i]).es).length<=(subs[i]).es.length+δ:=by
   have e1:=hd
   rw[hge,a4,C9]at e1
   simp only[List.length_append]at e1
   omega
  have ok:=tu GO δ h f σ l hh subs[i] True (by omega) (by omega) hap ti nd2 (fun x hx=>hui x (hmi x hx)) kl kh (fun _=>hi6) hd2
  have ih:=fun p1 s1=>Lc GO δ h f σ l hh subs[i] p1 s1 (by omega) (by omega) hap ti nd2 (fun x hx=>hui x (hmi x hx)) kl kh hd2
  cases h1:bM room disk g key f σ (subs[i]).id with
  |mk r1 s1=>
   rw[h1]at hc ok
   cases r1 with
   |error e=>simp at hc
   |ok p1=>
    simp only at hc
    obtain⟨g1,g2⟩:=ih p1 s1 h1
    have hq:p1.1.length<=2/\(p1.1.length=1->p1.2.length=0/\∃pg n,p1.1= [pg]/\s1.view disk pg=some n/\n.leaf=decide (h=0)):=by
     rcases ok with⟨p',dQ,e1,_,_,_,q⟩ | ⟨e1,_,_⟩
     ·simp only[Except.ok.injEq]at e1
      subst e1
      exact yC q
     ·simp at e1
    obtain⟨q1,q2⟩:=hq
    have ZM:(ah (subs.map (·.id)) keys).kids.length=subs.length:=List.length_map _
    have hsl:(swap (ah (subs.map (·.id)) keys) i (i+1) p1.1 p1.2).leaf=false:=F5 rfl _ _ _ _
    have Xt:∀n2 s2,dU room disk p1 s1 (swap (ah (subs.map (·.id)) keys) i (i+1) p1.1 p1.2) i (24-f)=(.ok n2,s2)->ApS room used s2/\FL s2<=FL σ+2/\n2.leaf=false:=fun n2 s2 hfi=>by
     unfold dU at hfi
     split at hfi
     ·rename_i hcnd
      obtain⟨z1,pg,kd,z2,z3,z4⟩:=q2 hcnd.1
      have hsw:(swap (ah (subs.map (·.id)) keys) i (i+1) p1.1 p1.2).kids.getD i 0=pg:=by
       unfold swap
       rw[if_neg (by rw[ZM,z1,z2];simp[ah];omega)]
       show((subs.map (·.id)).take i++p1.1++(subs.map (·.id)).drop (i+1)).getD i 0=pg
       rw[z2]
       have hti:((subs.map (·.id)).take i).length=i:=by rw[List.length_take,List.length_map];omega
       rw[List.getD_eq_getElem?_getD,List.append_assoc,List.getElem?_append_right (by omega),hti,Nat.sub_self]
       rfl
      obtain⟨b1,b2,b3⟩:=acA g1 hfi (decide (h=0)) (fun kid hk=>by
       rw[hsw,z3]at hk
       injection hk with hk
       rw[<-hk];exact z4) hcnd.2 hsl
      refine⟨b1, ?_,b3⟩
      by_cases h0:h=0
      ·rw[if_pos h0,hcnd.1]at g2
       have:Du (decide (h=0))<=1:=by unfold Du;split<;>omega
       omega
      ·rw[if_neg h0]at g2
       have:Du (decide (h=0))=0:=by unfold Du;rw[decide_eq_false h0];rfl
       omega
     ·simp only[Prod.mk.injEq,Except.ok.injEq]at hfi
      obtain⟨rfl,rfl⟩:=hfi
      refine⟨g1, ?_,hsl⟩
      by_cases h0:h=0
      ·rw[if_pos h0]at g2;omega
      ·rw[if_neg h0]at g2;omega
    cases h2:dU room disk p1 s1 (swap (ah (subs.map (·.id)) keys) i (i+1) p1.1 p1.2) i (24-f)with
    |mk r2 s2=>
     rw[h2]at hc
     cases r2 with
     |error e=>simp at hc
     |ok n2=>
      simp only at hc
      obtain⟨b1,b2,b3⟩:=Xt n2 s2 h2
      obtain⟨d1,d2⟩:=tC _ s2 s.id n2 p σ' b1 hc
      rw[b3]at d2
      simp only[Bool.false_eq_true,if_false]at d2
      exact⟨d1,by rw[if_neg (by omega)];omega⟩
theorem XJ{g:List En.Ent->List En.Ent}{key:Str}(GO:GOp g key)(hap:ApS room used σ){root r:Int}{es:List En.Ent}{tok:Nat}{ids:List Int}(hr:gX disk used σ root es tok ids)(ht:tok<=1000000)(δ:Nat)(hd:(g es).length<=es.length+δ)(hu:dH room disk g key σ root=(.ok r,σ')):FL σ'<=FL σ+2:=by
 unfold dH at hu
 cases h1:jH room disk g key σ root with
 |mk r1 s1=>
  rw[h1]at hu
  cases r1 with
  |error e=>simp at hu
  |ok p=>
   simp only at hu
   have hs:ApS room used s1/\FL s1<=FL σ+2:=by
    unfold jH at h1
    rcases hr with⟨rfl,rfl,rfl⟩ | ⟨h,s,rfl,rfl,rfl,q4,q5,q6,q7,q8⟩
    ·rw[if_pos rfl]at h1
     obtain⟨g1,g2⟩:=tC _ σ 0 _ p s1 hap h1
     have hst:=vH (disk:=disk) hap 0 (l:=g []) (lo:=none) (hi:=none) (tok:=tok+δ) (big:=False) (GO.right _ rfl) (fun x _=>⟨(fun a h=>by cases h),(fun a h=>by cases h)⟩) (by have:=GO.size [];simp[aK]at this ⊢;omega) (by simp at hd;omega)
     rw[h1]at hst
     have hp:p.1.length<=2:=by
      rcases hst with⟨p',dQ,e1,_,_,_,q⟩ | ⟨e1,_,_⟩
      ·simp only[Except.ok.injEq]at e1
       subst e1
       exact(yC q).1
      ·simp at e1
     rw[if_pos (show(aG (g [])).leaf=true from rfl)]at g2
     exact⟨g1,by omega⟩
    ·have h8:=OA q8 (by omega)
     have hz:s.id≠0:=fun e=>by
      have:=iC hap (q7 s.id (o9 q5))
      omega
     rw[if_neg hz]at h1
     obtain⟨g1,g2⟩:=Lc GO δ h 24 σ none none s p s1 (by omega) (by omega) hap q5 q6 q7 (fun a h=>by cases h) (fun a h=>by cases h) hd h1
     refine⟨g1, ?_⟩
     by_cases h0:h=0
     ·have ok:=tu GO δ h 24 σ none none s False (by omega) (by omega) hap q5 q6 q7 (fun a h=>by cases h) (fun a h=>by cases h) (fun h=>h.elim) hd
      rw[h1]at ok
      have hp:p.1.length<=2:=by
       rcases ok with⟨p',dQ,e1,_,_,_,q⟩ | ⟨e1,_,_⟩
       ·simp only[Except.ok.injEq]at e1
        subst e1
        exact(yC q).1
       ·simp at e1
      rw[if_pos h0]at g2
      omega
     ·rw[if_neg h0]at g2;omega
   obtain⟨g1,g2⟩:=hs
   obtain⟨g3,g4⟩:=XI _ s1 p r σ' g1 hu
   omega
end
section
variable {room room':Int}{disk:aA}{used:List Run}{σ σ1 σ2 σ':Pst}
theorem XK(hr:room'<=room){x:Int × Pst}(h:dF room' σ=some x):dF room σ=some x:=by
 unfold dF eY at h ⊢
 cases hl:Rp.least σ.free with
 |some id=>rw[hl]at h;exact h
 |none=>
  rw[hl]at h
  simp only at h ⊢
  by_cases hp:room'<=σ.pages
  ·rw[if_pos hp]at h;cases h
  ·rw[if_neg hp]at h
   rw[if_neg (by omega)]
   exact h
theorem Qo(hr:room'<=room){id pg:Int}{n:Node}(h:dY room' σ id n=(.ok pg,σ1)):dY room σ id n=(.ok pg,σ1):=by
 unfold dY at h ⊢
 split
 ·rename_i hf
  rw[if_pos hf]at h;simp at h
 ·rename_i hf
  rw[if_neg hf]at h
  split
  ·rename_i hm
   rw[if_pos hm]at h;exact h
  ·rename_i hm
   rw[if_neg hm]at h
   cases ha:dF room' σ with
   |none=>rw[ha]at h;simp at h
   |some x=>rw[ha]at h;rw[XK hr ha];exact h
theorem pO(hr:room'<=room):∀ (f:Nat) (σ:Pst) (id:Int) (n:Node) (p:Part) (σ':Pst),aC room' f σ id n=(.ok p,σ')->aC room f σ id n=(.ok p,σ')
 |0,_,_,_,_,_,h=>by unfold aC at h;cases h
 |f+1,σ,id,n,p,σ',h=>by
  unfold aC at h ⊢
  split
  ·rename_i hn
   rw[if_pos hn]at h;exact h
  ·rename_i hn
   rw[if_neg hn]at h
   cases hc:cut n with
   |some o=>
    obtain⟨a,key,b⟩:=o
    rw[hc]at h
    simp only at h ⊢
    cases h1:aC room' f σ id a with
    |mk r1 s1=>
     rw[h1]at h
     cases r1 with
     |error e=>simp at h
     |ok one=>
      simp only at h
      rw[pO hr f σ id a one s1 h1]
      simp only
      cases h2:aC room' f s1 0 b with
      |mk r2 s2=>
       rw[h2]at h
       cases r2 with
       |error e=>simp at h
       |ok two=>
        rw[pO hr f s1 0 b two s2 h2]
        exact h
   |none=>
    rw[hc]at h
    simp only at h ⊢
    cases h1:dY room' σ id n with
    |mk r1 s1=>
     rw[h1]at h
     cases r1 with
     |error e=>simp at h
     |ok pg=>rw[Qo hr h1];exact h
theorem ZX(hr:room'<=room){n n':Node}{i d:Nat}(h:iE room' disk σ n i d=(.ok n',σ')):iE room disk σ n i d=(.ok n',σ'):=by
 unfold iE at h ⊢
 split
 ·rename_i hd
  rw[if_pos hd]at h;cases h
 ·rename_i hd
  rw[if_neg hd]at h
  cases hk:σ.view disk (n.kids.getD i 0)with
  |none=>rw[hk]at h;cases h
  |some kid=>
   rw[hk]at h
   simp only at h ⊢
   split
   ·rename_i hz
    rw[if_pos hz]at h;exact h
   ·rename_i hz
    rw[if_neg hz]at h
    cases ha:σ.view disk (n.kids.getD (sib n i) 0)with
    |none=>rw[ha]at h;cases h
    |some a=>
     rw[ha]at h
     simp only at h ⊢
     cases hb:σ.view disk (n.kids.getD (sib n i+1) 0)with
     |none=>rw[hb]at h;cases h
     |some b=>
      rw[hb]at h
      simp only at h ⊢
      split
      ·rename_i hq
       rw[if_pos hq]at h;exact h
      ·rename_i hq
       rw[if_neg hq]at h
       cases h1:dY room' σ (n.kids.getD (sib n i) 0) (join a (n.keys.getD (sib n i) ⟨#[]⟩) b)with
       |mk r1 s1=>
        rw[h1]at h
        cases r1 with
        |error e=>simp at h
        |ok pg=>rw[Qo hr h1];exact h
theorem Ue(hr:room'<=room){p:Part}{n n':Node}{i d:Nat}(h:dU room' disk p σ n i d=(.ok n',σ')):dU room disk p σ n i d=(.ok n',σ'):=by
 unfold dU at h ⊢
 split
 ·rename_i hc
  rw[if_pos hc]at h;exact ZX hr h
 ·rename_i hc
  rw[if_neg hc]at h;exact h
theorem F6(hr:room'<=room){g:List En.Ent->List En.Ent}{key:Str} :∀ (f:Nat) (σ:Pst) (id:Int) (p:Part) (σ':Pst),bM room' disk g key f σ id=(.ok p,σ')->bM room disk g key f σ id=(.ok p,σ')
 |0,_,_,_,_,h=>by unfold bM at h;cases h
 |f+1,σ,id,p,σ',h=>by
  unfold bM at h ⊢
  cases hv:σ.view disk id with
  |none=>rw[hv]at h;cases h
  |some n=>
   rw[hv]at h
   simp only at h ⊢
   split
   ·rename_i hl
    rw[if_pos hl]at h;exact pO hr _ _ _ _ _ _ h
   ·rename_i hl
    rw[if_neg hl]at h
    cases h1:bM room' disk g key f σ (n.kids.getD (child n.keys key) 0)with
    |mk r1 s1=>
     rw[h1]at h
     cases r1 with
     |error e=>simp at h
     |ok p1=>
      simp only at h
      rw[F6 hr f σ _ p1 s1 h1]
      simp only
      cases h2:dU room' disk p1 s1 (swap n (child n.keys key) (child n.keys key+1) p1.1 p1.2) (child n.keys key) (24-f)with
      |mk r2 s2=>
       rw[h2]at h
       cases r2 with
       |error e=>simp at h
       |ok n2=>
        simp only at h
        rw[Ue hr h2]
        exact pO hr _ _ _ _ _ _ h
theorem Qp(hr:room'<=room):∀ (f:Nat) (σ:Pst) (p:Part) (r:Int) (σ':Pst),fE room' disk f σ p=(.ok r,σ')->fE room disk f σ p=(.ok r,σ')
 |0,_,_,_,_,h=>by unfold fE at h;cases h
 |f+1,σ,p,r,σ',h=>by
  unfold fE at h ⊢
  split
  ·rename_i hc
   rw[if_pos hc]at h
   cases h1:aC room' (p.1.length+1) σ 0 (ah p.1 p.2)with
   |mk r1 s1=>
    rw[h1]at h
    cases r1 with
    |error e=>simp at h
    |ok q=>
     simp only at h
     rw[pO hr _ _ _ _ _ _ h1]
     exact Qp hr f s1 q r σ' h
  ·rename_i hc
   rw[if_neg hc]at h
   exact h
theorem Uf(hr:room'<=room){g:List En.Ent->List En.Ent}{key:Str}{root r:Int}(h:dH room' disk g key σ root=(.ok r,σ')):dH room disk g key σ root=(.ok r,σ'):=by
 unfold dH at h ⊢
 cases h1:jH room' disk g key σ root with
 |mk r1 s1=>
  rw[h1]at h
  cases r1 with
  |error e=>simp at h
  |ok p=>
   simp only at h
   have h2:jH room disk g key σ root=(.ok p,s1):=by
    unfold jH at h1 ⊢
    split
    ·rename_i hz
     rw[if_pos hz]at h1;exact pO hr _ _ _ _ _ _ h1
    ·rename_i hz
     rw[if_neg hz]at h1;exact F6 hr _ _ _ _ _ h1
   rw[h2]
   exact Qp hr _ _ _ _ _ h
theorem ZY{h t:Nat}(h1:h=0\/2*6 ^ (h-1)<=t)(h2:t<=1000):h<=4:=by
 by_cases hh:h<=4
 ·exact hh
 ·rcases h1 with h1 | h1
  ·omega
  ·have:6 ^ 4<=6 ^ (h-1):=Nat.pow_le_pow_right (by decide) (by omega)
   have e:(6:Nat) ^ 4=1296:=by decide
   omega
theorem zC{g:List En.Ent->List En.Ent}{key:Str}(GO:GOp g key)(hap:ApS room used σ){root:Int}{es:List En.Ent}{tok:Nat}{ids:List Int}(hr:gX disk used σ root es tok ids)(ht:tok<=1000)(δ:Nat)(hd:(g es).length<=es.length+δ):
  Res room disk used σ (fun x=>x∈ids) 16 (dH room disk g key σ root) (fun root' σ' dQ=>gX disk used σ' root' (g es) (tok+δ) dQ):=by
 have hfirst:∃h,h<=20/\Res room disk used σ (fun x=>x∈ids) 15 (jH room disk g key σ root) (fun p σ' ids=>PartsAt (σ'.view disk) h none none p ids (g es) (tok+δ) False):=by
  unfold jH
  rcases hr with⟨rfl,rfl,rfl⟩ | ⟨h,s,rfl,rfl,rfl,q4,q5,q6,q7,q8⟩
  ·refine⟨0,by omega, ?_⟩
   rw[if_pos rfl]
   have hst:=vH (disk:=disk) hap 0 (l:=g []) (lo:=none) (hi:=none) (tok:=tok+δ) (big:=False) (GO.right _ rfl) (fun x _=>⟨(fun a h=>by cases h),(fun a h=>by cases h)⟩) (by have:=GO.size [];simp[aK]at this ⊢;omega) (by simp at hd;omega)
   rcases hst with⟨a,Hy,e1,s1,n1,l1,q⟩ | ⟨e1,s1,l1⟩
   ·exact .inl ⟨a,Hy,e1,s1.shrink (fun x hx _ hu=>Hw hap (by omega) hu) (fun x hx=>by simp at hx),n1,by omega,q⟩
   ·exact .inr ⟨e1,s1,by omega⟩
  ·have h8:=ZY q8 (by omega)
   have hz:s.id≠0:=fun e=>by
    have:=iC hap (q7 s.id (o9 q5))
    omega
   refine⟨h,by omega, ?_⟩
   rw[if_neg hz]
   have hc:=tu GO δ h 24 σ none none s False (by omega) (by omega) hap q5 q6 q7 (fun a h=>by cases h) (fun a h=>by cases h) (fun h=>h.elim) hd
   refine hc.mono (fun _=>Iff.rfl) (by omega) fun p σ' Hy hq=> ?_
   rcases hq with h1 | ⟨subs,w1,w2,w3,w4,w5⟩
   ·exact .inl h1
   ·exact .inr ⟨subs,w1,w2,w3,by omega,w5⟩
 obtain⟨h,hh,hf⟩:=hfirst
 unfold dH
 generalize jH room disk g key σ root=r at*
 obtain⟨r,σ1⟩:=r
 rcases hf with⟨p,Hy,e1,s1,n1,l1,q⟩ | ⟨e1,s1,l1⟩
 ·simp only at e1 s1 l1 q
  subst e1
  simp only
  have hg:=ZN s1.ap q hh n1 (fun x hx=>s1.got hx)
  rcases hg with⟨a,abB,e2,s2,n2,l2,q2⟩ | ⟨e2,s2,l2⟩
  ·exact .inl ⟨a,abB,e2,s1.then_ s2,n2,by omega,q2⟩
  ·exact .inr ⟨e2,s2,by omega⟩
 ·simp only at e1 s1 l1
  subst e1
  exact .inr ⟨rfl,s1,by omega⟩
theorem Z4(h:ApS room used σ)(h1:σ.pages<=room')(h2:room'<=100000):ApS room' used σ:=
 { h with pg:=⟨h.pg.1,h1,h2⟩ }
theorem zD{g:List En.Ent->List En.Ent}{key:Str}(GO:GOp g key)(hap:ApS room used σ){root:Int}{es:List En.Ent}{tok:Nat}{ids:List Int}(hr:gX disk used σ root es tok ids)(ht:tok<=1000)(δ:Nat)(hd:(g es).length<=es.length+δ)(hm:((Rp.nums used).length:Int)+σ.mine.length+19<=room):
  ∃root' σ' dQ,dH room disk g key σ root=(.ok root',σ')/\Step room disk used σ (fun x=>x∈ids) σ' (fun x=>x∈dQ)/\dQ.Nodup/\gX disk used σ' root' (g es) (tok+δ) dQ/\σ'.pages<=max σ.pages (((Rp.nums used).length:Int)+σ.mine.length+19)/\FL σ'<=FL σ+2:=by
 obtain⟨R,hR⟩:∃R:Int,R=max σ.pages (((Rp.nums used).length:Int)+σ.mine.length+19):=⟨_,rfl⟩
 have hpg:=hap.pg
 have hRr:R<=room:=by omega
 have hap':=Z4 (room':=R) hap (by omega) (by omega)
 have h1:=zC GO hap' hr ht δ hd
 have h2:=zC GO hap hr ht δ hd
 rcases h1 with⟨r1,i1,e1,s1,_,_,_⟩ | ⟨_,_,l1⟩
 ·have eq1:dH R disk g key σ root=(.ok r1,(dH R disk g key σ root).2):=by rw[<-e1]
  have eq2:=Uf hRr eq1
  have hFL:=XJ GO hap hr (by omega) δ hd eq2
  rcases h2 with⟨r2,i2,e2,s2,n2,_,q2⟩ | ⟨e2,_,_⟩
  ·rw[eq2]at e2 s2 q2
   simp only[Except.ok.injEq]at e2
   subst e2
   exact⟨r1,_,i2,eq2,s2,n2,q2,by have:=s1.ap.pg.2.1;omega,hFL⟩
  ·rw[eq2]at e2;simp at e2
 ·exfalso
  unfold spare at l1
  omega
end
end Tp
namespace Go.Proofs.YteppebbmnojapaaGreatDoor
open Go.RowKit Go.Shelf Go.Maps
section
variable {F F':aT}{n:Nat}{a:TAd}{used:List Run}{disk:Tp.aA}{root:Int}{σ:Tp.Pst}{ids:List Int}{es:List Ent}{tok r:Nat}{w w':World}
def Ug(used:List Run)(σ:Tp.Pst):Int:=((Rp.nums used).length:Int)+σ.mine.length+19
theorem Uh(h:FSt F n a used disk root σ ids es tok (r+240) w){k v:ByteArray}(hm:En.may k v=true)(ht:tok+1<=1000)(hroom:Ug used σ<=max (n:Int) 2):
  Calls Tryz.prog 65 #[.pointer (some ⟨a.u,0,none⟩), .string k, .string v] w fun e w'=>e= .returned (.int .i64 0)/\(∃root' σ' dQ,FSt F n a used disk root' σ' dQ (En.put es k v) (tok+TY es k) r w'/\σ'.pages<=max σ.pages (Ug used σ)/\Tp.FL σ'<=Tp.FL σ+2)/\Fr (FU F a) w w':=by
 have hg:=ZV h.rt.right hm
 have hd:=Qj es k
 obtain⟨root',σ',dQ,e1,s1,n1,q1,p1,l1⟩:=Tp.zD (room:=max (n:Int) 2) (Tp.Qa hm) h.ap h.rt (by omega) (TY es k) (by rw[hg];exact XD es) hroom
 have h3:(Tp.dH (max (n:Int) 2) disk (Tp.xk k v) k σ root).1≠ .error 3:=by rw[e1];simp
 refine(TS h.Ey a.u root k v hm r σ h3 w h.on).mono ?_
 rintro e w' ⟨hres,hf⟩
 rw[e1]at hres
 rcases hres with⟨p,hp,rfl,ho⟩ | ⟨hp,_⟩
 ·injection hp with hp
  subst hp
  refine⟨rfl,⟨root',σ',dQ,⟨ho,h.hd,by rw[<-hg];exact q1,fun x hx=> ?_,by have:=h.tl;omega⟩,p1,l1⟩,hf⟩
  rcases(s1.mem x).1 hx with⟨a1,a2⟩ | ⟨a1,_⟩
  ·exact absurd (h.mine x a1) a2
  ·exact a1
 ·cases hp
theorem Ui(h:FSt F n a used disk root σ ids es tok (r+288) w)(k:ByteArray)(ht:tok<=1000)(hroom:Ug used σ<=max (n:Int) 2):
  Calls Tryz.prog 62 #[.pointer (some ⟨a.u,0,none⟩), .string k] w fun e w'=>∃b:Bool,e= .returned (.tuple #[.bool b, .int .i64 0])/\(∃root' σ' dQ,FSt F n a used disk root' σ' dQ (En.del es k) tok r w'/\σ'.pages<=max σ.pages (Ug used σ)/\Tp.FL σ'<=Tp.FL σ+2)/\Fr (FU F a) w w':=by
 have hfd:=h.find k
 cases hgk:En.get es k with
 |none=>
  rw[hgk]at hfd
  refine(TT h.Ey a.u root k (r+240) σ hfd w h.on).mono ?_
  rintro e w' ⟨rfl,ho,hf⟩
  refine⟨false,rfl,⟨root,σ,ids, ?_,by omega,by omega⟩,hf.more fun _=> .inl⟩
  rw[Ua hgk]
  exact(h.with_ ho).less (by omega)
 |some v=>
  rw[hgk]at hfd
  have hg:=ZW (k:=k) h.rt.right
  obtain⟨root',σ',dQ,e1,s1,n1,q1,p1,l1⟩:=Tp.zD (room:=max (n:Int) 2) (Tp.Qb k) h.ap h.rt (by omega) 0 (by rw[hg];exact G8 es k) hroom
  have h3:(Tp.dH (max (n:Int) 2) disk (Tp.xq k) k σ root).1≠ .error 3:=by rw[e1];simp
  refine(TU h.Ey a.u root k v r σ hfd h3 w h.on).mono ?_
  rintro e w' ⟨hres,hf⟩
  rw[e1]at hres
  rcases hres with⟨p,hp,rfl,ho⟩ | ⟨hp,_⟩
  ·injection hp with hp
   subst hp
   refine⟨true,rfl,⟨root',σ',dQ,⟨ho,h.hd,by rw[<-hg];exact q1,fun x hx=> ?_,by have:=h.tl;omega⟩,p1,l1⟩,hf⟩
   rcases(s1.mem x).1 hx with⟨a1,a2⟩ | ⟨a1,_⟩
   ·exact absurd (h.mine x a1) a2
   ·exact a1
  ·cases hp
def lQ(w w':World):Prop:=∀ (α:Type) (E:Enc α) (ty:TypeId) (base:Nat) (v:Value) (l:List α),LO E ty w base v l->(ty=101\/ty=3\/ty=22)->LO E ty w' base v l
theorem lQ.trans{w'':World}(h:lQ w w')(h2:lQ w' w''):lQ w w'':=fun α E ty base v l hl ht=>h2 α E ty base v l (h α E ty base v l hl ht) ht
theorem lQ.of(h:Below w.heap.size w w'):lQ w w':=fun _ _ _ _ _ _ hl _=>hl.below h
theorem FSt.Qq(h:FSt F n a used disk root σ ids es tok r w)(hf:Fr (FU F a) w w'):lQ w w':=fun α E ty base v l hl ht=>WM hl hf fun g hg=>by
 obtain⟨cs,hB,_⟩:=hl.acw hg
 obtain⟨R,_,_,hA⟩:=h.on.tm.file
 obtain⟨D,⟨_,⟨v,hT,_⟩,es',c',hm,_⟩,_⟩:=h.on.tm.mem.txn
 rintro((e | e | e) | e)
 ·exact hB.ne_ hT (by rcases ht with rfl | rfl | rfl<;>decide) e
 ·subst e
  unfold Blk at hB
  rw[hm]at hB;cases hB
 ·exact hB.ne_ hA.disk.self (by rcases ht with rfl | rfl | rfl<;>decide) e
 ·exact hB.ne_ h.on.self (by rcases ht with rfl | rfl | rfl<;>decide) e
theorem acz.Qq{F':aT}{bg:Tp.aA}{N:Nat}(h:acz F n a disk root σ ids es tok N r w F' bg w'):lQ w w':=fun α E ty base v l hl ht=>h.row α E ty base v l hl (by rcases ht with rfl | rfl | rfl<;>decide) (by rcases ht with rfl | rfl | rfl<;>decide) (by rcases ht with rfl | rfl | rfl<;>decide)
theorem gY.ag1{N:Nat}(h:gY F n disk N r w){g:Nat}{ty:TypeId}{cs:Array Value}(hB:Blk w g ty cs)(h1:ty≠119)(h2:ty≠117)(h3:ty≠9)(h4:ty≠230):¬F.J6 g:=fun hg=>by
 obtain⟨R,_,_,hA⟩:=h.file
 rcases hg with e | e | e | e | e
 ·exact hB.ne_ hA.self h1 e
 ·exact hB.ne_ hA.disk.self h2 e
 ·exact hB.ne_ hA.disk.sure h3 e
 ·subst e
  obtain⟨es',c',hm,_⟩:=hA.disk.map
  unfold Blk at hB
  rw[hm]at hB;cases hB
 ·obtain⟨cs',hB',_⟩:=hA.disk.pend.acw e
  exact hB.ne_ hB' h4 rfl
theorem gY.fr{N:Nat}{S:Nat->Prop}(h:gY F n disk N r w)(hf:Fr S w w')(hS:∀g,F.J6 g->¬S g)(h0:¬S 1):gY F n disk N r w':=by
 obtain⟨h1,⟨R,r1,r2,r3⟩,h3,h4,h5⟩:=h
 exact⟨h1,⟨R,r1,r2,r3.fr hf hS⟩,h3.fr hf h0,h4,Nat.le_trans h5 hf.size⟩
theorem qA{P:Int}(hP:2<=P)(l:List Run):((Rp.nums (Rp.minus [(2,P-1)] l)).length:Int)<=P-2:=by
 have h1:=Rp.iY [(2,P-1)] l
 have hnd:=Rp.vC _ _ h1.1
 have hsub:Rp.nums (Rp.minus [(2,P-1)] l) ⊆ (List.range (P-2).toNat).map (fun i:Nat=>(2:Int)+(i:Int)):=fun x hx=>by
  have h2:=((h1.2 x).1 (Rp.oV.1 hx)).2.2.1
  have h3:=Rp.nN.1 h2
  exact List.mem_map.2 ⟨(x-2).toNat,List.mem_range.2 (by omega),by omega⟩
 have:=List.Nodup.length_le_of_subset hnd hsub
 simp at this
 omega
end
section
variable {w0 W W':World}{F:aT}{n:Nat}{a:TAd}{used:List Run}{disk:Tp.aA}{P:Int}{D T K k b0 R0:Nat}{es:List Ent}
structure InG(w0:World)(F:aT)(n:Nat)(a:TAd)(used:List Run)(disk:Tp.aA)(P:Int)(D T K k b0 R0:Nat)(es:List Ent)(W:World):Prop where
 at_:∃root σ ids tok,FSt F n a used disk root σ ids es tok (288*(K-k)+R0) W/\tok<=T+k/\σ.pages<=P+D
 hF:∀x,FU F a x->w0.heap.size<=x
 low:∀x,FU F a x->x<b0
 hb:b0<=W.heap.size
 below:Below w0.heap.size w0 W
theorem InG.up(h:InG w0 F n a used disk P D T K k b0 R0 es W)(hb:Below W.heap.size W W'):InG w0 F n a used disk P D T K k b0 R0 es W':=by
 obtain⟨⟨root,σ,ids,tok,h1,h2⟩,h3,h4,h5,h6⟩:=h
 exact⟨⟨root,σ,ids,tok,h1.below hb,h2⟩,h3,h4,Nat.le_trans h5 hb.size,h6.trans (hb.mono h6.size)⟩
theorem InG.skip(h:InG w0 F n a used disk P D T K k b0 R0 es W):InG w0 F n a used disk P D T K (k+1) b0 R0 es W:=by
 obtain⟨⟨root,σ,ids,tok,h1,h2,h2'⟩,h3,h4,h5,h6⟩:=h
 exact⟨⟨root,σ,ids,tok,h1.less (by omega),by omega,h2'⟩,h3,h4,h5,h6⟩
theorem Ld{root:Int}{σ:Tp.Pst}{ids:List Int}{tok r:Nat}(h1:FSt F n a used disk root σ ids es tok r W)(h2:tok<=T+k)(hk:k<K)(hD:6*(T+K)+90<=5*D)(hu:((Rp.nums used).length:Int)<=P-2):Ug used σ<=P+D:=by
 have m2:=h1.rt.few
 have m3:=h1.Au
 unfold Ug
 omega
def aaS(w0:World)(F:aT)(n:Nat)(a:TAd)(used:List Run)(disk:Tp.aA)(P:Int)(D T K k b0 R0:Nat)(es:List Ent)(W W':World):Prop:=InG w0 F n a used disk P D T K k b0 R0 es W'/\Fr (FU F a) W W'/\lQ W W'
theorem Iz(h:InG w0 F n a used disk P D T K k b0 R0 es W)(hk:k<K)(hT:T+K<=1000)(hD:6*(T+K)+90<=5*D)(hu:((Rp.nums used).length:Int)<=P-2)(hn:P+D<=n){s v:ByteArray}(hm:En.may s v=true):
  Calls Tryz.prog 65 #[.pointer (some ⟨a.u,0,none⟩), .string s, .string v] W fun e W'=>e= .returned (.int .i64 0)/\aaS w0 F n a used disk P D T K (k+1) b0 R0 (En.put es s v) W W':=by
 obtain⟨⟨root,σ,ids,tok,h1,h2,h2'⟩,h3,h4,h5,h6⟩:=h
 have ht:=Ld h1 h2 hk hD hu
 refine(Uh (r:=288*(K-(k+1))+R0) (h1.less (by omega)) hm (by omega) (by omega)).mono ?_
 rintro e W' ⟨rfl,⟨root',σ',dQ,g1,g2,g3⟩,f⟩
 have hd:=Qj es s
 exact⟨rfl,⟨⟨root',σ',dQ,_,g1,by omega,by omega⟩,h3,h4,Nat.le_trans h5 f.size,h6.trans (f.low h6.size h3)⟩,f,h1.Qq f⟩
theorem Z5(h:InG w0 F n a used disk P D T K k b0 R0 es W)(hk:k<K)(hT:T+K<=1000)(hD:6*(T+K)+90<=5*D)(hu:((Rp.nums used).length:Int)<=P-2)(hn:P+D<=n)(s:ByteArray):
  Calls Tryz.prog 62 #[.pointer (some ⟨a.u,0,none⟩), .string s] W fun e W'=>∃b:Bool,e= .returned (.tuple #[.bool b, .int .i64 0])/\aaS w0 F n a used disk P D T K (k+1) b0 R0 (En.del es s) W W':=by
 obtain⟨⟨root,σ,ids,tok,h1,h2,h2'⟩,h3,h4,h5,h6⟩:=h
 have ht:=Ld h1 h2 hk hD hu
 refine(Ui (r:=288*(K-(k+1))+R0) (h1.less (by omega)) s (by omega) (by omega)).mono ?_
 rintro e W' ⟨b,rfl,⟨root',σ',dQ,g1,g2,g3⟩,f⟩
 exact⟨b,rfl,⟨⟨root',σ',dQ,_,g1,by omega,by omega⟩,h3,h4,Nat.le_trans h5 f.size,h6.trans (f.low h6.size h3)⟩,f,h1.Qq f⟩
theorem InG.start{root:Int}{σ:Tp.Pst}{ids:List Int}{tok:Nat}(h:FSt F n a used disk root σ ids es tok (288*(K-0)+R0) W)(ht:tok<=T)(hp:σ.pages<=P)(hF:∀x,FU F a x->w0.heap.size<=x)(hb:Below w0.heap.size w0 W):InG w0 F n a used disk P D T K 0 W.heap.size R0 es W:=
 ⟨⟨root,σ,ids,tok,h,by omega,by omega⟩,hF,h.low,Nat.le_refl _,hb⟩
end
end Go.Proofs.YteppebbmnojapaaGreatDoor
namespace Go.Proofs.YteppebbmnojapaaGreatDoor
open Go.RowKit
end Go.Proofs.YteppebbmnojapaaGreatDoor
namespace Go.Proofs.YteppebbmnojapaaGreatDoor
open Go.RowKit Go.Shelf Go.Maps
end Go.Proofs.YteppebbmnojapaaGreatDoor
namespace Go.Proofs.YteppebbmnojapaaGreatDoor
open Go.RowKit
abbrev Dl:=En.Dl
theorem LO.last{α:Type}{E:Enc α}{ty:TypeId}{w:World}{base:Nat}{v:Value}{l:List α}{x:α}(h:LO E ty w base v (l++ [x])):∃g c,v= .slice (some ⟨g,0,none⟩) (l.length+1) c/\base<=g/\g<w.heap.size/\l.length+1<=c/\(∀j,j<E.size->w.cell? ⟨g,l.length*E.size+j,none⟩=(E.enc x)[j]?)/\LO E ty w base (.slice (some ⟨g,0,none⟩) l.length c) l:=by
 rcases h.2 with⟨rfl,h0⟩ | ⟨g,cap,cur,rfl,hg,hh,hnc,hcm,hcs,htk⟩
 ·simp at h0
 ·have hlen:(l++ [x]).length=l.length+1:=by simp
  rw[hlen]at hnc htk ⊢
  have hlt:g<w.heap.size:=(Array.getElem?_eq_some_iff.1 hh).1
  refine⟨g,cap,rfl,hg,hlt,hnc,fun j hj=> ?_,⟨E.dR l, .inr ⟨g,cap,cur,rfl,hg,hh,by omega,hcm,hcs, ?_⟩⟩⟩
  ·have h1:=E.cells_at (l++ [x]) l.length (by simp) j hj
   rw[List.getElem_append_right (Nat.le_refl _)]at h1
   simp only[Nat.sub_self,List.getElem_cons_zero]at h1
   rw[<-h1, <-htk,List.getElem?_take,if_pos (by rw[Nat.succ_mul];omega),cell_of_row w g _ cur ty (0,0) hh]
   simp
  ·have e2:cur.toList.take (l.length*E.size)=(cur.toList.take ((l.length+1)*E.size)).take (l.length*E.size):=by
    rw[List.take_take,Nat.min_eq_left (Nat.mul_le_mul_right _ (by omega))]
   rw[e2,htk,E.qh,List.take_left]
end Go.Proofs.YteppebbmnojapaaGreatDoor
namespace En
def turn(d:Dl):Dl:=⟨d.key,d.new,d.old,d.is,d.was⟩
end En
namespace Td
open Nd En Tp
structure It where
 pg:Int
 d:Nat
 key:Str
 val:Str
abbrev St:=List It × List It × List Dl
def x2(x:It):Ent:=(x.key,x.val)
def ag2(v:Int->Option Node)(x:It)(l:List Ent)(m:Nat):Prop:=
 (x.pg=0/\l= [x2 x]/\m=1)\/∃h s hi,x.pg=s.id/\0<x.pg/\Tr v h (some x.key) hi s/\(∀i∈s.ids,0<i)/\x.d+h<24/\l=s.es/\m=s.ids.length+s.es.length
def Sd(v:Int->Option Node):List It->List Ent->Nat->Prop
 | [],L,m=>L= []/\m=0
 |x::a,L,m=>∃l L' k m',L=l++L'/\m=k+m'/\ag2 v x l k/\Sd v a L' m'
end Td
namespace Go.Proofs.YteppebbmnojapaaGreatDoor
open Go.RowKit
abbrev It:=Td.It
end Go.Proofs.YteppebbmnojapaaGreatDoor
namespace Td
open Nd En Tp
variable {v v':Int->Option Node}
def Run(v:Int->Option Node)(W:List Dl)(a b:List It)(o:List Dl)(m:Nat):Prop:=∃A B m1 m2,Sd v a A m1/\Sd v b B m2/\Srt A/\Srt B/\o++mergeD A B=W/\m1+m2=m
end Td
namespace Td
open Nd En Tp
end Td
namespace Go.Proofs.YteppebbmnojapaaGreatDoor
open Go.RowKit Go.Shelf
theorem Fr.cell{S:Nat->Prop}{w w':World}(h:Fr S w w'){p:Addr}(hp:p.block<w.heap.size)(hn:¬S p.block):w'.cell? p=w.cell? p:=World.cell?_of_block (h.block _ hp hn)
def OJ(S:Nat->Prop)(t:Nat)(TM:Nat->Tp.Pst->World->Prop)(bad:Int->Prop):Prop:=
 ∀ {r σ w id},TM (r+1) σ w->bad id->∀k:Nat,k=1\/k=2->Calls Tryz.prog 212 #[.pointer (some ⟨t,0,none⟩), .int .i64 id, .int .u8 k] w fun e w'=>e= .returned (.tuple #[.string ⟨#[]⟩, .int .i64 3])/\TM r σ w'/\Fr S w w'
section
variable {S:Nat->Prop}{B t:Nat}{room:Int}{disk:Tp.aA}{TM:Nat->Tp.Pst->World->Prop}{bad:Int->Prop}
def Z7(S:Nat->Prop)(t:Nat)(TM:Nat->Tp.Pst->World->Prop)(r:Nat)(σ:Tp.Pst)(id:Int)(k:Nat)(s:ByteArray)(z:Int):Prop:=
 ∀w,TM (r+1) σ w->Calls Tryz.prog 212 #[.pointer (some ⟨t,0,none⟩), .int .i64 id, .int .u8 k] w fun e w'=>e= .returned (.tuple #[.string s, .int .i64 z])/\TM r σ w'/\Fr S w w'
end
def off(s:Bool):Nat:=if s then 2 else 0
end Go.Proofs.YteppebbmnojapaaGreatDoor
namespace Go.Proofs.YteppebbmnojapaaGreatDoor
open Go.RowKit Go.Shelf Go.Maps
section
variable {w0 W W':World}{f0 d0 n N r t:Nat}{disk:Tp.aA}{P P' root:Int}{es:List Ent}{tok:Nat}{ids:List Int}
structure Stg(w0:World)(f0 d0 n N r:Nat)(disk:Tp.aA)(P:Int)(W:World):Prop where
 ex:∃F:aT,F.f=f0/\F.d=d0/\F.k+1000<maxLen/\gY F n disk N r W/\w0.heap.size<=F.B
 low:vO disk [] P
 p:2<=P/\P<=n
 below:Below w0.heap.size w0 W
structure Beg(w0:World)(f0 d0 n N r t:Nat)(disk:Tp.aA)(P:Int)(W:World):Prop where
 ex:∃ (F:aT) (B m:Nat),F.f=f0/\F.d=d0/\F.k+1000<maxLen/\FOn F n disk N/\TMd F B t m n (Rp.minus [(2,P-1)] []) disk r (Tp.start [] P) W/\F.d<B/\w0.heap.size<=m/\w0.heap.size<=F.B
 tl:w0.heap.size<=t
 low:vO disk [] P
 p:2<=P/\P<=n
 below:Below w0.heap.size w0 W
theorem Qr(h:Stg w0 f0 d0 n N r disk P W)(hN:N<1000000):
  Calls Tryz.prog 14 #[.pointer (some ⟨f0,0,none⟩), .slice none 0 0, .int .i64 P] W fun e w'=>∃t,e= .returned (.pointer (some ⟨t,0,none⟩))/\Beg w0 f0 d0 n N r t disk P w'/\Below W.heap.size W w':=by
 obtain⟨⟨F,rfl,rfl,hk,hr,hB⟩,hl,hp,hb⟩:=h
 refine(Dt hr hN none 0 [] P P (by unfold iD;omega) RS.nil_ (Nat.zero_le _) hl).mono ?_
 rintro e w' ⟨t,m,rfl,hM,⟨q1,q2,q3⟩,b⟩
 exact⟨t,rfl,⟨⟨F,_,m,rfl,rfl,hk,hr.on,hM,q3,Nat.le_trans hb.size q2,hB⟩,Nat.le_trans hb.size q1,hl,hp,hb.trans (b.mono hb.size)⟩,b⟩
theorem FSt.aeQ{F:aT}{a:TAd}{used:List Run}{σ:Tp.Pst}{dQ:List Int}{root':Int}{es':List Ent}{oz:Nat}(h:FSt F n a used disk root σ ids es tok r W)(hv:Tp.bH disk root' es' oz dQ):Tp.bH (σ.view disk) root' es' oz dQ/\∀x∈dQ,0<x:=by
 refine⟨hv.congr fun x hx=> ?_,fun x hx=> ?_⟩<;>obtain⟨y,hy⟩:=hv.some_ x hx
 ·exact Tp.jV h.ap (h.on.tm.on.page x y hy).2.1
 ·have:=h.ap.hu x (h.on.tm.on.page x y hy).2.1
  omega
theorem FSt.Ez{F:aT}{a:TAd}{used:List Run}{σ:Tp.Pst}(h:FSt F n a used disk root σ ids es tok r W):Tp.bH (σ.view disk) root es tok ids/\∀x∈ids,0<x:=
 ⟨h.rt.ver fun _ _=>rfl,fun x hx=>by have:=Tp.iC (room:=max (n:Int) 2) h.ap (h.rt.uses x hx);omega⟩
theorem kF{v:Int->Option Nd.Node}(h:Tp.bH v root es tok ids):5*ids.length<=6*tok+5/\es.length<=tok/\En.Srt es:=by
 rcases h with⟨_,rfl,rfl⟩ | ⟨hh,s,rfl,rfl,rfl,h1,h2,h3,h4⟩
 ·exact⟨by simp,by simp,List.Pairwise.nil⟩
 ·have q1:=Tp.KZ h2
  have q2:=Tp.FZ _ _ _ _ h2
  exact⟨by omega,by omega,((En.bF _).1 ((Tp.iF _ _).srt h2)).2⟩
theorem F7{B0:Nat}(hn:n<=16384)(h2:2<=n)(h:FAt W B0 f0 d0 0 (fresh n))(hT:HT W)(hB0:w0.heap.size<=B0)(h0:1<w0.heap.size)(hBW:B0<=W.heap.size)(hb:Below w0.heap.size w0 W)(hr:r<=900000000000):Stg w0 f0 d0 n 0 r Di 2 W:=by
 obtain⟨F,hFB,rfl,rfl,hFk,hA,hON⟩:=OG hn h
 exact⟨⟨F,rfl,rfl,by rw[hFk];decide,⟨hON,⟨0,Int.le_refl _,by omega,hA⟩,hT,by omega,by rw[hFB];exact hBW⟩,by rw[hFB];exact hB0⟩,fun id x hx=>by(cases hx),⟨Int.le_refl _,by omega⟩,hb⟩
end
end Go.Proofs.YteppebbmnojapaaGreatDoor
