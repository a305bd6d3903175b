/- Part of this proof. -/
import Derived.Test.YtjoiajmbfbjnnaaGreatDoorV33
set_option maxRecDepth 100000
set_option maxHeartbeats 8000000
namespace Go.Proofs.YtjoiajmbfbjnnaaGreatDoor
open Go.RowKit Go.Shelf
structure EntFn(S:Nat->Prop)(B t u:Nat)(TM:Nat->Tp.Pst->World->Prop)(root:Int)(yf:FuncId)(caps:Array Value){Q:Type}(y:Q->Ent->Q × Bool)(P:Nat->Q->(Nat->Prop)->World->Prop):Prop where
 keep:∀ {m q Y w w'},P m q Y w->Fr S w w'->P m q Y w'
 less:∀ {m m' q Y w},P m' q Y w->m<=m'->P m q Y w
 lt:∀ {m q Y w k},P m q Y w->Y k->k<w.heap.size
 call:∀w (x:Ent) m q Y r σ,P (m+1) q Y w->On S B t u TM root 0 r σ w->Calls Tryz.prog yf (#[.agg #[.string x.1, .string x.2]]++caps) w fun e w'=>e= .returned (.bool (y q x).2)/\On S B t u TM root 0 r σ w'/\Fr Y w w'/\∃Y',P m (y q x).1 Y' w'/\∀k,Y' k->Y k\/w.heap.size<=k
 enters:∀ (args:Array Value) (w:World),(callFunc yf args).run Tryz.prog w= .ok (.enter yf args) w
theorem ystep_at{Q:Type}{y:Q->Ent->Q × Bool}{l:List Ent}{j:Nat}(hj:j<l.length)(q:Q):Tp.ystep y q (l.drop j)=if(y q l[j]).2 then Tp.ystep y (y q l[j]).1 (l.drop (j+1))else((y q l[j]).1,false):=by
 rw[List.drop_eq_getElem_cons hj,Tp.ystep]
section
variable {S:Nat->Prop}{B t:Nat}{room:Int}{disk:Tp.Disk}{TM:Nat->Tp.Pst->World->Prop}
theorem each_do(M:Mach S B t room disk TM)(u:Nat)(root:Int){yf:FuncId}{caps:Array Value}{Q:Type}{y:Q->Ent->Q × Bool}{P:Nat->Q->(Nat->Prop)->World->Prop}(V:EntFn S B t u TM root yf caps y P){ge:Nat}(hge:B<=ge):
  VisFn S B t u TM root 152 #[.pointer (some ⟨ge,0,none⟩)] (Tp.ystep y) (fun m q Y w=>P m q Y w/\Blk w ge 150 #[.func (.func yf) #[] caps]/\¬Y ge) where
 keep:=fun h hf=>⟨V.keep h.1 hf,hf.blk h.2.1 (M.far hge),h.2.2⟩
 less:=fun h hm=>⟨V.less h.1 hm,h.2⟩
 lt:=fun h a=>V.lt h.1 a
 enters:=fun args w=>by kernel_rfl
 call:=fun w A c l n m q Y r σ hP hon hls hAY hn hl=>by
  subst hn
  have HM:=Lib.hid M
  have HV:=Lib.hid V
  have HLS:=Lib.hid hls
  have HAY:=Lib.hid hAY
  have HP:=Lib.hid hP
  have HON:=Lib.hid hon
  have hgl:=hP.2.1.lt
  clear hP hon hls hAY M V
  show Calls Tryz.prog 152 #[.slice A l.length c, .pointer (some ⟨ge,0,none⟩)] w _
  go_enter Tryz.func152,Tryz.ntmps152
  go_wp2
  go_loopg [8] l.length (fun g s8 wr=>∃ (j:Nat) (qj:Q) (Yj:Nat->Prop),s8= .int .i64 (j:Nat)/\j<=l.length/\l.length-j<=g/\Hid (Tp.ystep y qj (l.drop j)=Tp.ystep y q l)/\Hid (P (m+(l.length-j)) qj Yj wr/\Blk wr ge 150 #[.func (.func yf) #[] caps]/\¬Yj ge)/\Hid (∀k,Yj k->Y k\/w.heap.size<=k)/\Hid (On S B t u TM root 0 r σ wr)/\Hid (Fr Y w wr)/\Hid (∀b off,A=some ⟨b,off,none⟩->b<w.heap.size->wr.heap[b]? =w.heap[b]?))
  case atStart=>exact⟨0,q,Y,rfl,Nat.zero_le _,by omega,Lib.hid rfl,Lib.hid HP.out,Lib.hid (fun k a=> .inl a),HON,Lib.hid (Fr.refl _),Lib.hid (fun _ _ _ _=>rfl)⟩
  case round=>
   obtain⟨j,qj,Yj,rfl,hjL,hjg,HGJ,HPJ,HYJ,HONJ,HFJ,HBJ⟩:=hrel
   have hwz:=HFJ.out.size
   by_cases hj:j<l.length
   ·obtain⟨bb,oo,rfl,hbb,k1,k2⟩:=HLS.out.ent hj
    have hcell:∀o,wr.cell? ⟨bb,o,none⟩=w.cell? ⟨bb,o,none⟩:=fun o=>by
     unfold World.cell?
     rw[HBJ.out bb oo rfl hbb]
    rw[<-hcell]at k1 k2
    have hbl:bb<wr.heap.size:=by omega
    have hst:=HGJ.out
    rw[ystep_at hj]at hst
    have hbx:=(Below.refl wr.heap.size wr).alloc (Nat.le_refl _) (.cells #[.string l[j].1, .string l[j].2] 34)
    have hP5:=HV.out.less (m:=m+(l.length-(j+1))+1) (HV.out.keep HPJ.out.1 (Fr.of_below hbx)) (by omega)
    have hB5:=HPJ.out.2.1.below hbx HPJ.out.2.1.lt
    have HCALL:=Lib.hid (HV.out.call _ l[j] (m+(l.length-(j+1))) qj Yj r σ hP5 (HONJ.out.below HM.out hbx))
    have gfn:=hB5.cell 0
    have hgl5:=hB5.lt
    have HBX:=Lib.hid hbx
    have HB5:=Lib.hid hB5
    have hwj:IntKind.i64.wrap ((j:Int)+1)=(j:Int)+1:=IntWalk.i64_in _ (by omega)
    have hjLi:(j:Int)<l.length:=by omega
    have HST:=Lib.hid hst
    clear hst hP5 hB5 hbx hcell
    generalize l[j]=x at*
    go_wp2_with fail
    rw[HV.out.enters,Oper.upon_enter]
    refine Calls.mono HCALL.out ?_
    rintro e w4 ⟨rfl,hon4,hf4,Y4,hP4,hY4⟩
    have hF4:Fr Y w w4:=(HFJ.out.trans (.of_below HBX.out)).go hf4 HYJ.out
    have hz5:=HBX.out.size
    have hY4':∀k,Y4 k->Y k\/w.heap.size<=k:=fun k a=>by
     rcases hY4 k a with a | a
     ·exact HYJ.out k a
     ·exact .inr (by omega)
    have hge4:¬Y4 ge:=fun a=>by
     rcases hY4 ge a with a | a
     ·exact HPJ.out.2.2 a
     ·have:=HPJ.out.2.1.lt;omega
    have HP4:=Lib.hid (show P (m+(l.length-(j+1))) (y qj x).1 Y4 w4/\Blk w4 ge 150 #[.func (.func yf) #[] caps]/\¬Y4 ge from⟨hP4,hf4.blk HB5.out HPJ.out.2.2,hge4⟩)
    have HY4:=Lib.hid hY4'
    have HON4:=Lib.hid hon4
    have HF4:=Lib.hid hF4
    have HB4:=Lib.hid (show ∀b off,(some ⟨bb,oo,none⟩:Option Addr)=some ⟨b,off,none⟩->b<w.heap.size->w4.heap[b]? =w.heap[b]? from fun b off e hb=>by
     have hny:¬Y b:=HAY.out ⟨b,off,none⟩ e
     exact hF4.block b hb hny)
    clear hon4 hf4 hP4 hY4 hF4 hY4' hge4
    obtain⟨qb,hqb⟩:∃z,z=y qj x:=⟨_,rfl⟩
    rw[<-hqb]at HST HP4 ⊢
    clear hqb
    obtain⟨q1,b1⟩:=qb
    simp only at HST HP4 ⊢
    cases b1 with
    |true=>
     have HST2:=Lib.hid (show Tp.ystep y q1 (l.drop (j+1))=Tp.ystep y q l by have:=HST.out;simpa using this)
     clear HST
     go_wp2
     go_roundg (l.length-(j+1))
     case measure=>omega
     case rel=>exact⟨j+1,q1,Y4,by go_num,by omega,Nat.le_refl _,HST2,HP4,HY4,HON4,HF4,HB4⟩
    |false=>
     have HE:=Lib.hid (show Tp.ystep y q l=(q1,false)by have:=HST.out;simpa using this.symm)
     clear HST
     have HEND:=Lib.hid (show On S B t u TM root 0 r σ w4/\Fr Y w w4/\∃Y',(P m q1 Y' w4/\Blk w4 ge 150 #[.func (.func yf) #[] caps]/\¬Y' ge)/\∀k,Y' k->Y k\/w.heap.size<=k from⟨HON4.out,HF4.out,Y4,⟨HV.out.less HP4.out.1 (Nat.le_add_right _ _),HP4.out.2⟩,HY4.out⟩)
     go_wp2
     go_ret
     rw[HE.out]
     exact⟨rfl,HEND.out⟩
   ·have hjLi:¬ (j:Int)<l.length:=by omega
    obtain rfl:j=l.length:=by omega
    have hend:=HGJ.out
    rw[List.drop_eq_nil_of_le (Nat.le_refl _),Tp.ystep]at hend
    have HE:=Lib.hid hend
    have HEND:=Lib.hid (show On S B t u TM root 0 r σ wr/\Fr Y w wr/\∃Y',(P m qj Y' wr/\Blk wr ge 150 #[.func (.func yf) #[] caps]/\¬Y' ge)/\∀k,Y' k->Y k\/w.heap.size<=k from⟨HONJ.out,HFJ.out,Yj,⟨HV.out.less HPJ.out.1 (Nat.le_add_right _ _),HPJ.out.2⟩,HYJ.out⟩)
    clear hend
    go_wp2
    go_ret
    rw[<-HE.out]
    exact⟨rfl,HEND.out⟩
def EaEnd(S:Nat->Prop)(B t u:Nat)(TM:Nat->Tp.Pst->World->Prop)(root:Int)(r:Nat)(σ:Tp.Pst){Q:Type}(P:Nat->Q->(Nat->Prop)->World->Prop)(m:Nat)(q:Q)(Y:Nat->Prop)(w:World)(e:Ending)(w':World):Prop:=
 e= .returned (.int .i64 0)/\On S B t u TM root 0 r σ w'/\Fr (fun k=>S k\/Y k) w w'/\∃Y',P m q Y' w'/\∀k,Y' k->Y k\/w.heap.size<=k
theorem each_any(M:Mach S B t room disk TM)(u:Nat)(root:Int){yf:FuncId}{caps:Array Value}{Q:Type}{y:Q->Ent->Q × Bool}{P:Nat->Q->(Nat->Prop)->World->Prop}(V:EntFn S B t u TM root yf caps y P)(frm:ByteArray)(σ:Tp.Pst)(m:Nat)(q q':Q)(b:Bool)(Y:Nat->Prop)(r:Nat)(w:World)(h0:root=0->q'=q)(h1:root≠0->Tp.pVisit disk σ frm (Tp.ystep y) 24 root q=(q', .ok b))(hP:P (m+Tp.cost Tp.en disk σ 24 root) q Y w)(h:On S B t u TM root 0 (r+Tp.cost Tp.rd disk σ 24 root) σ w):
  Calls Tryz.prog 83 #[.pointer (some ⟨u,0,none⟩), .string frm, .func (.func yf) #[] caps] w (EaEnd S B t u TM root r σ P m q' Y w):=by
 have hsz:=M.size h.tm
 have hb1:=(Below.refl w.heap.size w).alloc (Nat.le_refl _) (.cells #[.func (.func yf) #[] caps] 150)
 have hon:=h.below M hb1
 have t1:(w.alloc (.cells #[.func (.func yf) #[] caps] 150)).cell? ⟨u,1,none⟩=some (.int .i64 root):=hon.self.cell 1
 have t2:(w.alloc (.cells #[.func (.func yf) #[] caps] 150)).cell? ⟨u,2,none⟩=some (.int .i64 0):=hon.self.cell 2
 have lt2:=hon.self.lt
 have hun:u<w.heap.size:=h.self.lt
 have hP1:=V.keep hP (Fr.of_below hb1)
 have hBg:=Blk.new w 150 #[.func (.func yf) #[] caps]
 by_cases hr:root=0
 ·have hq:=h0 hr
  subst hr hq
  have HEND:=Lib.hid (show EaEnd S B t u TM 0 r σ P m q' Y w (.returned (.int .i64 0)) (w.alloc (.cells #[.func (.func yf) #[] caps] 150))from⟨rfl,hon.less M (by omega), .of_below hb1,Y,V.less hP1 (by omega),fun k a=> .inl a⟩)
  clear hP1 hon hb1 h hP M V h1 h0 hBg
  go_enter Tryz.func83,Tryz.ntmps83
  go_wp2
  go_ret
  exact HEND.out
 ·have hv:=h1 hr
  have hny:¬Y w.heap.size:=fun a=>by have:=V.lt hP a;omega
  have HCALL:=Lib.hid (visit_any M u root (each_do M u root V (show B<=w.heap.size from hsz)) frm σ 24 0 root m q q' b Y r _ (by omega) hv ⟨hP1,hBg,hny⟩ hon)
  have hrn:(root==0)=false:=by simpa using hr
  have HF:=Lib.hid hb1
  clear hP1 hon hb1 h hP M V h1 h0 hBg hv hny
  go_enter Tryz.func83,Tryz.ntmps83
  go_wp2_with fail
  refine Calls.mono HCALL.out ?_
  rintro e w2 ⟨rfl,hon2,hf2,Y2,⟨hP2,hB2,hn2⟩,hY2⟩
  have HEND:=Lib.hid (show EaEnd S B t u TM root r σ P m q' Y w (.returned (.int .i64 0)) w2 from⟨rfl,hon2,(Fr.of_below HF.out).trans hf2,Y2,hP2,fun k a=>(hY2 k a).imp_right (fun c=>Nat.le_trans HF.out.size c)⟩)
  clear hon2 hf2 hP2 hB2 hn2 hY2
  go_wp2
  go_ret
  exact HEND.out
end
def scanS(hi_:ByteArray)(acc:List Ent)(x:Ent):List Ent × Bool:=if hi_.toList= []\/En.lt x.1 hi_=true then(acc++ [x],true)else(acc,false)
def ScanP(gto gl:Nat)(hi_:ByteArray)(m:Nat)(acc:List Ent)(Y:Nat->Prop)(w:World):Prop:=
 acc.length+m<=1000000/\Blk w gto 9 #[.string hi_]/\∃A c,Blk w gl 28 #[.slice A acc.length c]/\LO entE 34 w (gl+1) (.slice A acc.length c) acc/\Y=fun k=>k=gl\/(Value.slice A acc.length c).ownBlock=some k
section
variable {S:Nat->Prop}{B t:Nat}{room:Int}{disk:Tp.Disk}{TM:Nat->Tp.Pst->World->Prop}
theorem scan_do(M:Mach S B t room disk TM)(u:Nat)(root:Int)(hi_:ByteArray){gto gl:Nat}(hto:B<=gto)(hne:gto<gl)(hul:u<gto):
  EntFn S B t u TM root 130 #[.pointer (some ⟨gto,0,none⟩), .pointer (some ⟨gl,0,none⟩)] (scanS hi_) (ScanP gto gl hi_) where
 keep:=fun⟨h0,h1,A,c,h2,h3,h4⟩ hf=>⟨h0,hf.blk h1 (M.far hto),A,c,hf.blk h2 (M.far (by omega)),h3.fr hf (fun k a=>by have:=M.low k a;omega),h4⟩
 less:=fun⟨h0,h1⟩ hm=>⟨by omega,h1⟩
 lt:=fun⟨h0,h1,A,c,h2,h3,h4⟩ hy=>by
  subst h4
  rcases hy with rfl | hy
  ·exact h2.lt
  ·obtain⟨cs,hcs⟩:=own_obj h3 hy
   exact(Array.getElem?_eq_some_iff.1 hcs).1
 enters:=fun args w=>by kernel_rfl
 call:=fun w x m acc Y r σ hP hon=>by
  obtain⟨h0,h1,A,c,h2,h3,rfl⟩:=hP
  have HM:=Lib.hid M
  have hbx:=(Below.refl w.heap.size w).alloc (Nat.le_refl _) (.cells #[.string x.1, .string x.2] 34)
  have b1:=h1.below hbx h1.lt
  have b2:=h2.below hbx h2.lt
  have k1:(w.alloc (.cells #[.string x.1, .string x.2] 34)).cell? ⟨gto,0,none⟩=some (.string hi_):=b1.cell 0
  have k2:(w.alloc (.cells #[.string x.1, .string x.2] 34)).cell? ⟨gl,0,none⟩=some (.slice A acc.length c):=b2.cell 0
  have l1:=b1.lt
  have l2:=b2.lt
  have l1w:=h1.lt
  have l2w:=h2.lt
  have HB1:=Lib.hid b1
  have HB2:=Lib.hid b2
  have HR:=Lib.hid (h3.below hbx)
  have HON:=Lib.hid (hon.below M hbx)
  have HBX:=Lib.hid hbx
  have H1:=Lib.hid h1
  have H2:=Lib.hid h2
  have H3:=Lib.hid h3
  have HONW:=Lib.hid hon
  clear h1 h2 h3 b1 b2 hbx hon M
  unfold scanS
  show Calls Tryz.prog 130 #[.agg #[.string x.1, .string x.2], .pointer (some ⟨gto,0,none⟩), .pointer (some ⟨gl,0,none⟩)] w _
  by_cases hin:hi_.toList= []\/En.lt x.1 hi_=true
  ·rw[if_pos hin]
   have HFIN:Hid (∀A' c' w3,w3.ownsRow (gl+1) 34 2 (.slice A' (acc.length+1) c') (acc.length+1) (entE.cells acc++ [.string x.1, .string x.2])->(w.alloc (.cells #[.string x.1, .string x.2] 34)).grownBy w3 (Value.slice A acc.length c).ownBlock->((Value.slice A' (acc.length+1) c').ownBlock=(Value.slice A acc.length c).ownBlock\/∃g,(Value.slice A' (acc.length+1) c').ownBlock=some g/\(w.alloc (.cells #[.string x.1, .string x.2] 34)).heap.size<=g)->Below (gl+1) (w.alloc (.cells #[.string x.1, .string x.2] 34)) w3->On S B t u TM root 0 r σ (w3.setCell ⟨gl,0,none⟩ (.slice A' (acc.length+1) c'))/\Fr (fun k=>k=gl\/(Value.slice A acc.length c).ownBlock=some k) w (w3.setCell ⟨gl,0,none⟩ (.slice A' (acc.length+1) c'))/\∃Y',ScanP gto gl hi_ m (acc++ [x]) Y' (w3.setCell ⟨gl,0,none⟩ (.slice A' (acc.length+1) c'))/\∀k,Y' k->(k=gl\/(Value.slice A acc.length c).ownBlock=some k)\/w.heap.size<=k):=by
    refine Lib.hid fun A' c' w3 hown hg hob hbel=> ?_
    have hon3:=HON.out.row HM.out HR.out (show B<=gl+1 by omega) (by decide) (by decide) (by decide) (by decide) (by decide) hg
    have hB3:=HB2.out.below hbel (Nat.lt_succ_self _)
    have hT3:=HB1.out.below hbel (by omega)
    have hfs:Fr (fun k=>k=gl) w3 (w3.setCell ⟨gl,0,none⟩ (.slice A' (acc.length+1) c')):=Fr.set_ (S:=fun k=>k=gl) rfl _
    have hB4:Blk (w3.setCell ⟨gl,0,none⟩ (.slice A' (acc.length+1) c')) gl 28 #[.slice A' (acc.length+1) c']:=hB3.set_ 0 _
    have hL3:LO entE 34 w3 (gl+1) (.slice A' (acc.length+1) c') (acc++ [x]):=LO.snoc rfl rfl rfl hown
    have hL4:=hL3.fr hfs (fun k a=>by omega)
    have hlen:(acc++ [x]).length=acc.length+1:=by simp
    refine⟨hon3.own HM.out hfs hB3 (by omega) (by omega) (by decide) (by decide) (by decide) (by decide),((Fr.of_below HBX.out).trans ((Fr.of_grown hg).more fun k a=> .inr a)).trans (hfs.more fun k a=> .inl a),_,⟨by omega,hfs.blk hT3 (by omega),A',c',by rw[hlen];exact hB4,by rw[hlen];exact hL4,rfl⟩, ?_⟩
    intro k hk
    rw[hlen]at hk
    rcases hk with hk | hk
    ·exact .inl (.inl hk)
    ·rcases hob with hob | ⟨g,hob,hge⟩
     ·exact .inl (.inr (by rw[<-hob];exact hk))
     ·rw[hob]at hk;injection hk with hk;subst hk;exact .inr (Nat.le_trans HBX.out.size hge)
   have hrow:(w.alloc (.cells #[.string x.1, .string x.2] 34)).ownsRow (gl+1) 34 2 (.slice A acc.length c) acc.length (entE.cells acc):=HR.out
   have hbase:gl+1<=(w.alloc (.cells #[.string x.1, .string x.2] 34)).heap.size:=l2
   by_cases he:hi_.toList= []
   ·have he2:hi_.toList.isEmpty=true:=by simpa using he
    clear hin
    go_enter Tryz.func130,Tryz.ntmps130
    go_wp2_with (at_builtin;refine wpList_app1 rfl _ _ 28 rfl eiEnt Tryz.underlying28 rfl (by decide) rfl hrow rfl (by simp) rfl (by simp[Value.oneCell']) (by unfold maxLen;omega) (by omega) hbase ?_;intro v' w3 hown' hgrow hbel hob _;obtain⟨A',c',rfl⟩:=own_form hown';have hB3:=HB2.out.below hbel (Nat.lt_succ_self _);have k3:w3.cell? ⟨gl,0,none⟩=some (.slice A acc.length c):=hB3.cell 0;have f3:=hB3.frozen 0;have l3:=hB3.lt;have HEND:=Lib.hid (HFIN.out A' c' w3 hown' hgrow hob hbel);clear hB3 hown' hgrow hob hbel)
    go_ret
    exact⟨rfl,HEND.out⟩
   ·have he2:hi_.toList.isEmpty=false:=by simpa using he
    have hlt:Go.Op.bytesLess x.1.toList hi_.toList=true:=by
     rcases hin with a | a
     ·exact absurd a he
     ·exact a
    clear hin
    go_enter Tryz.func130,Tryz.ntmps130
    go_wp2_with (at_builtin;refine wpList_app1 rfl _ _ 28 rfl eiEnt Tryz.underlying28 rfl (by decide) rfl hrow rfl (by simp) rfl (by simp[Value.oneCell']) (by unfold maxLen;omega) (by omega) hbase ?_;intro v' w3 hown' hgrow hbel hob _;obtain⟨A',c',rfl⟩:=own_form hown';have hB3:=HB2.out.below hbel (Nat.lt_succ_self _);have k3:w3.cell? ⟨gl,0,none⟩=some (.slice A acc.length c):=hB3.cell 0;have f3:=hB3.frozen 0;have l3:=hB3.lt;have HEND:=Lib.hid (HFIN.out A' c' w3 hown' hgrow hob hbel);clear hB3 hown' hgrow hob hbel)
    go_ret
    exact⟨rfl,HEND.out⟩
  ·rw[if_neg hin]
   have he:¬hi_.toList= []:=fun a=>hin (.inl a)
   have he2:hi_.toList.isEmpty=false:=by simpa using he
   have hlt:Go.Op.bytesLess x.1.toList hi_.toList=false:=by
    have:¬En.lt x.1 hi_=true:=fun a=>hin (.inr a)
    simpa[En.lt]using this
   go_enter Tryz.func130,Tryz.ntmps130
   have HEND:=Lib.hid (show On S B t u TM root 0 r σ (w.alloc (.cells #[.string x.1, .string x.2] 34))/\Fr (fun k=>k=gl\/(Value.slice A acc.length c).ownBlock=some k) w (w.alloc (.cells #[.string x.1, .string x.2] 34))/\∃Y',ScanP gto gl hi_ m acc Y' (w.alloc (.cells #[.string x.1, .string x.2] 34))/\∀k,Y' k->(k=gl\/(Value.slice A acc.length c).ownBlock=some k)\/w.heap.size<=k from⟨HON.out, .of_below HBX.out,_,⟨by omega,HB1.out,A,c,HB2.out,HR.out,rfl⟩,fun k a=> .inl a⟩)
   clear hin
   go_wp2
   go_ret
   exact⟨rfl,HEND.out⟩
def ScEnd(S:Nat->Prop)(B t u:Nat)(TM:Nat->Tp.Pst->World->Prop)(root:Int)(r:Nat)(σ:Tp.Pst)(l:List Ent)(w:World)(e:Ending)(w':World):Prop:=
 ∃A c,e= .returned (.tuple #[.slice A l.length c, .int .i64 0])/\LO entE 34 w' w.heap.size (.slice A l.length c) l/\On S B t u TM root 0 r σ w'/\Fr S w w'
theorem scan_any(M:Mach S B t room disk TM)(u:Nat)(root:Int)(frm hi_:ByteArray)(σ:Tp.Pst)(l:List Ent)(b:Bool)(r:Nat)(w:World)(hN:Tp.cost Tp.en disk σ 24 root<=1000000)(h0:root=0->l= [])(h1:root≠0->Tp.pVisit disk σ frm (Tp.ystep (scanS hi_)) 24 root []=(l, .ok b))(h:On S B t u TM root 0 (r+Tp.cost Tp.rd disk σ 24 root) σ w):
  Calls Tryz.prog 66 #[.pointer (some ⟨u,0,none⟩), .string frm, .string hi_] w (ScEnd S B t u TM root r σ l w):=by
 have hsz:=M.size h.tm
 have hun:u<w.heap.size:=h.self.lt
 have hb1:=(Below.refl w.heap.size w).alloc (Nat.le_refl _) (.cells #[.string hi_] 9)
 have hb2:=hb1.alloc hb1.size (.cells #[.slice none 0 0] 28)
 have hon:=(h.below M hb1).below M (Below.alloc (Below.refl _ _) (Nat.le_refl _) (.cells #[.slice none 0 0] 28))
 have hBk:=(Blk.new w 9 #[.string hi_]).alloc (.cells #[.slice none 0 0] 28)
 have hBv:=Blk.new (w.alloc (.cells #[.string hi_] 9)) 28 #[.slice none 0 0]
 simp only[World.size_alloc]at hBv
 have hP:ScanP w.heap.size (w.heap.size+1) hi_ (0+Tp.cost Tp.en disk σ 24 root) [] (fun k=>k=w.heap.size+1\/(Value.slice none 0 0).ownBlock=some k) ((w.alloc (.cells #[.string hi_] 9)).alloc (.cells #[.slice none 0 0] 28)):=⟨by simpa using hN,hBk,none,0,hBv,LO.nil_ _ _,rfl⟩
 have HCALL:=Lib.hid (each_any M u root (scan_do M u root hi_ (show B<=w.heap.size from hsz) (Nat.lt_succ_self _) hun) frm σ 0 [] l b _ r _ h0 h1 hP hon)
 have k0:((w.alloc (.cells #[.string hi_] 9)).alloc (.cells #[.slice none 0 0] 28)).cell? ⟨w.heap.size,0,none⟩=some (.string hi_):=hBk.cell 0
 have kl:=hBk.lt
 have v0:((w.alloc (.cells #[.string hi_] 9)).alloc (.cells #[.slice none 0 0] 28)).cell? ⟨w.heap.size+1,0,none⟩=some (.slice none 0 0):=hBv.cell 0
 have vl:=hBv.lt
 have HB:=Lib.hid hb2
 have HY:Hid (∀k,(k=w.heap.size+1\/(Value.slice none 0 0).ownBlock=some k)->w.heap.size<=k):=Lib.hid (fun k a=>by
  rcases a with a | a
  ·omega
  ·simp[Value.ownBlock]at a)
 have HM:=Lib.hid M
 clear hb1 hb2 hon hBk hBv hP h M h0 h1 hN
 go_enter Tryz.func66,Tryz.ntmps66
 go_wp2_with fail
 refine Calls.mono HCALL.out ?_
 rintro e w2 ⟨rfl,hon2,hf2,Y2,⟨_,hT2,A,c,hL2,hR2,_⟩,_⟩
 have hF:Fr S w w2:=(Fr.of_below (S:=S) HB.out).go hf2 (fun k a=>a.imp id (HY.out k))
 have g0:w2.cell? ⟨w.heap.size+1,0,none⟩=some (.slice A l.length c):=hL2.cell 0
 have gl:=hL2.lt
 have HEND:=Lib.hid (show ScEnd S B t u TM root r σ l w (.returned (.tuple #[.slice A l.length c, .int .i64 0])) w2 from⟨A,c,rfl,hR2.lower (by omega),hon2,hF⟩)
 clear hon2 hf2 hT2 hL2 hR2 hF
 go_wp2
 go_ret2
 exact HEND.out
end
section
variable {S:Nat->Prop}{B t:Nat}{room:Int}{disk:Tp.Disk}{TM:Nat->Tp.Pst->World->Prop}
theorem troot_any(u:Nat)(root e0:Int)(w:World)(h:Blk w u 140 (TreeV t root e0)):
  Calls Tryz.prog 29 #[.pointer (some ⟨u,0,none⟩)] w fun e w'=>e= .returned (.int .i64 root)/\w'=w:=by
 have k:w.cell? ⟨u,1,none⟩=some (.int .i64 root):=h.cell 1
 have l:=h.lt
 clear h
 go_enter Tryz.func29,Tryz.ntmps29
 go_wp2
 go_ret
 exact⟨rfl,rfl⟩
theorem ctnew_any(M:Mach S B t room disk TM)(root:Int)(r:Nat)(σ:Tp.Pst)(w:World)(h:TM r σ w):
  Calls Tryz.prog 19 #[.pointer (some ⟨t,0,none⟩), .int .i64 root] w fun e w'=>∃u,e= .returned (.pointer (some ⟨u,0,none⟩))/\On S B t u TM root 0 r σ w'/\w.heap.size<=u/\Below w.heap.size w w':=by
 have HFIN:Hid (∀u w',Below w.heap.size w w'->Blk w' u 140 (TreeV t root 0)->w.heap.size<=u->On S B t u TM root 0 r σ w'):=Lib.hid fun u w' hb hB hu=>⟨M.below h hb,hB,Nat.le_trans (M.size h) hu⟩
 have hbA:=Lib.hid ((Below.refl w.heap.size w).alloc (Nat.le_refl _) (.cells #[.pointer (some ⟨t,0,none⟩), .int .i64 root, .int .i64 0] 140))
 clear M h
 go_enter Tryz.func19,Tryz.ntmps19
 go_wp2
 go_ret
 exact⟨_,rfl,HFIN.out _ _ hbA.out (Blk.new w _ _) (Nat.le_refl _),Nat.le_refl _,hbA.out⟩
end
theorem ent_struct:StructT 34 2:=⟨_,Tryz.underlying34,by kernel_rfl⟩
end Go.Proofs.YtjoiajmbfbjnnaaGreatDoor
namespace Tp
open Nd En
section
variable {disk:Disk}{σ:Pst}{v:Int->Option Node}
theorem flat_len{β:Type}{f:Sub->List β}{g:Sub->Nat} :∀ (l:List Sub),(∀t∈l,(f t).length<=g t)->(l.flatMap f).length<=(l.map g).sum
 | [],_=>Nat.le_refl _
 |t::l,h=>by
  rw[List.flatMap_cons,List.length_append,List.map_cons,List.sum_cons]
  have h1:=h t List.mem_cons_self
  have h2:=flat_len l fun u hu=>h u (List.mem_cons_of_mem _ hu)
  omega
theorem es_len(l:List Sub):(es_ l).length=(l.map fun t=>t.es.length).sum:=by
 unfold es_;rw[List.length_flatMap]
theorem sum_mul(l:List Sub)(k:Nat):(l.map fun t=>k*t.es.length).sum=k*(es_ l).length:=by
 rw[es_len]
 induction l with
 |nil=>rfl
 |cons t l ih=>rw[List.map_cons,List.sum_cons,ih,List.map_cons,List.sum_cons,Nat.mul_add]
theorem kids_le_es{h:Nat}(ih:∀lo hi s,Tr v h lo hi s->s.ids.length<=(h+1)*s.es.length){lo hi:Option Str}{subs:List Sub}{keys:List Str}(hch:Chain (Tr v h) lo hi subs keys):(ids_ subs).length<=(h+1)*(es_ subs).length:=by
 rw[<-sum_mul]
 unfold ids_
 exact flat_len subs fun t ht=>by
  obtain⟨l',h',hp⟩:=chain_all hch t ht
  exact ih l' h' t hp
theorem ids_le_es:∀ (h:Nat) (lo hi:Option Str) (s:Sub),Tr v h lo hi s->s.ids.length<=(h+1)*s.es.length
 |0,lo,hi,s,hs=>by
  have:=List.length_pos_iff.2 hs.2.2.2.1
  rw[hs.2.1,List.length_singleton];omega
 |h+1,lo,hi,s,hs=>by
  have hne:=List.length_pos_iff.2 ((tr_good v (h+1)).ne hs)
  obtain⟨subs,keys,a1,a2,a3,a4,a5,a6,a7⟩:=hs
  have:=kids_le_es (ids_le_es h) a7
  rw[a3,List.length_cons,Nat.succ_mul,a4]
  rw[a4]at hne
  omega
theorem es_le_tok:∀ (h:Nat) (lo hi:Option Str) (s:Sub),Tr v h lo hi s->s.es.length<=s.tok
 |0,lo,hi,s,hs=>hs.2.2.2.2.2
 |h+1,lo,hi,s,hs=>by
  obtain⟨subs,keys,a1,a2,a3,a4,a5,a6,a7⟩:=hs
  rw[a4,es_len]
  refine Nat.le_trans ?_ a5
  unfold toks
  have key:∀l:List Sub,(∀t∈l,t.es.length<=t.tok)->(l.map fun t=>t.es.length).sum<=(l.map (·.tok)).sum:=fun l=>by
   induction l with
   |nil=>intro _;exact Nat.le_refl _
   |cons t l ih=>
    intro hl
    rw[List.map_cons,List.sum_cons,List.map_cons,List.sum_cons]
    have h1:=hl t List.mem_cons_self
    have h2:=ih fun u hu=>hl u (List.mem_cons_of_mem _ hu)
    omega
  exact key subs fun t ht=>by
   obtain⟨l',h',hp⟩:=chain_all a7 t ht
   exact es_le_tok h l' h' t hp
def lev:Nat->Nat->Nat
 |0,t=>t
 |h+1,t=>t / 6 ^ (h+1)+lev h t
theorem div_add_le(a b m:Nat):a / m+b / m<=(a+b) / m:=by
 rcases Nat.eq_zero_or_pos m with rfl | hm
 ·simp
 ·rw[Nat.le_div_iff_mul_le hm,Nat.add_mul]
  have h1:=Nat.div_mul_le_self a m
  have h2:=Nat.div_mul_le_self b m
  omega
theorem lev_add:∀ (h a b:Nat),lev h a+lev h b<=lev h (a+b)
 |0,a,b=>Nat.le_refl _
 |h+1,a,b=>by
  have h1:=lev_add h a b
  have h2:=div_add_le a b (6 ^ (h+1))
  simp only[lev]
  omega
theorem lev_mono:∀ (h:Nat) {a b:Nat},a<=b->lev h a<=lev h b
 |0,_,_,hab=>hab
 |h+1,a,b,hab=>by
  have h1:=lev_mono h hab
  have h2:=Nat.div_le_div_right (c:=6 ^ (h+1)) hab
  simp only[lev]
  omega
theorem lev_sum(h:Nat):∀l:List Sub,(l.map fun t=>lev h t.tok).sum<=lev h (toks l)
 | []=>Nat.zero_le _
 |t::l=>by
  rw[List.map_cons,List.sum_cons,toks_cons]
  have h1:=lev_sum h l
  have h2:=lev_add h t.tok (toks l)
  omega
theorem lev_le:∀ (h t:Nat),5*lev h t+t / 6 ^ h<=6*t
 |0,t=>by simp[lev];omega
 |h+1,t=>by
  have h1:=lev_le h t
  have h2:t / 6 ^ (h+1)=t / 6 ^ h / 6:=by rw[Nat.pow_succ,Nat.div_div_eq_div_mul]
  simp only[lev]
  omega
theorem kids_lev{h:Nat}(ih:∀lo hi s,6 ^ h<=s.tok->Tr v h lo hi s->s.ids.length<=lev h s.tok){lo hi:Option Str}{subs:List Sub}{keys:List Str}(h6:∀t∈subs,6 ^ h<=t.tok)(hch:Chain (Tr v h) lo hi subs keys):(ids_ subs).length<=lev h (toks subs):=by
 refine Nat.le_trans ?_ (lev_sum h subs)
 unfold ids_
 exact flat_len subs fun t ht=>by
  obtain⟨l',h',hp⟩:=chain_all hch t ht
  exact ih l' h' t (h6 t ht) hp
theorem ids_lev:∀ (h:Nat) (lo hi:Option Str) (s:Sub),6 ^ h<=s.tok->Tr v h lo hi s->s.ids.length<=lev h s.tok
 |0,lo,hi,s,h6,hs=>by rw[hs.2.1];exact h6
 |h+1,lo,hi,s,h6,hs=>by
  obtain⟨subs,keys,a1,a2,a3,a4,a5,a6,a7⟩:=hs
  have h1:=kids_lev (ids_lev h) a6 a7
  have h2:=lev_mono h a5
  have h3:0<s.tok / 6 ^ (h+1):=Nat.div_pos h6 (Nat.pow_pos (by decide))
  rw[a3,List.length_cons]
  simp only[lev]
  omega
theorem root_lev{h:Nat}{lo hi:Option Str}{s:Sub}(hs:Tr v h lo hi s):5*s.ids.length<=6*s.tok+5:=by
 cases h with
 |zero=>rw[hs.2.1];simp
 |succ h=>
  obtain⟨subs,keys,a1,a2,a3,a4,a5,a6,a7⟩:=hs
  have h1:=kids_lev (ids_lev h) a6 a7
  have h2:=Nat.le_trans (Nat.le_add_right _ _) (lev_le h (toks subs))
  rw[a3,List.length_cons]
  omega
end
section
variable {room:Int}{disk:Disk}{used:List Run}{σ:Pst}{root:Int}{es:List En.Ent}{tok:Nat}{ids:List Int}
theorem RootAt.few(h:RootAt disk used σ root es tok ids):5*ids.length<=6*tok+5:=by
 rcases h with⟨rfl,rfl,rfl⟩ | ⟨h,s,rfl,rfl,rfl,q4,q5,q6,q7,q8⟩
 ·simp
 ·have:=root_lev q5;omega
theorem RootAt.right(h:RootAt disk used σ root es tok ids):En.right es=true:=by
 rcases h with⟨rfl,rfl,rfl⟩ | ⟨h,s,rfl,rfl,rfl,q4,q5,q6,q7,q8⟩
 ·rfl
 ·exact(tr_good _ _).srt q5
end
end Tp
namespace Go.Proofs.YtjoiajmbfbjnnaaGreatDoor
open Go.RowKit Go.Shelf
structure TAd where
 B:Nat
 t:Nat
 m:Nat
 f:Nat
 u:Nat
abbrev noDisk:Tp.Disk:=fun _=>none
section
variable {n:Nat}{a:TAd}{root:Int}{σ:Tp.Pst}{ids:List Int}{es:List Ent}{tok:Nat}{w w':World}
theorem gPut_eq{k v:ByteArray}(hr:En.right es=true)(hm:En.may k v=true):Tp.gPut k v es=En.put es k v:=by unfold Tp.gPut;rw[hr,hm];rfl
theorem gDel_eq{k:ByteArray}(hr:En.right es=true):Tp.gDel k es=En.del es k:=by unfold Tp.gDel;rw[hr];rfl
theorem ins_len(x:Ent):∀l:List Ent,(En.ins x l).length=l.length+1
 | []=>rfl
 |y::l=>by
  unfold En.ins
  split
  ·rfl
  ·rw[List.length_cons,ins_len x l];rfl
theorem del_len(l:List Ent)(k:ByteArray):(En.del l k).length<=l.length:=by unfold En.del;exact List.length_filter_le _ _
theorem get_none{l:List Ent}{k:ByteArray}(h:En.get l k=none):∀x∈l,x.1≠k:=fun x hx e=>by
 unfold En.get at h
 rw[Option.map_eq_none_iff,List.find?_eq_none]at h
 have:=h x hx
 rw[e,En.eqs_self]at this
 simp at this
theorem get_some{l:List Ent}{k v:ByteArray}(h:En.get l k=some v):(k,v)∈l:=by
 unfold En.get at h
 rw[Option.map_eq_some_iff]at h
 obtain⟨x,hx,rfl⟩:=h
 have h1:=List.mem_of_find?_eq_some hx
 have h2:=List.find?_some hx
 rw[En.eqs_iff]at h2
 rw[<-h2];exact h1
theorem del_len_some{l:List Ent}{k v:ByteArray}(h:En.get l k=some v):(En.del l k).length+1<=l.length:=by
 have hm:=get_some h
 unfold En.del
 have:(l.filter fun x=> !En.eqs x.1 k).length<l.length:=by
  refine Nat.lt_of_le_of_ne (List.length_filter_le _ _) fun e=> ?_
  have:=List.length_filter_eq_length_iff.1 e _ hm
  simp[En.eqs_self]at this
 exact this
def dput(es:List Ent)(k:ByteArray):Nat:=if(En.get es k).isSome then 0 else 1
theorem dput_le(es:List Ent)(k:ByteArray):dput es k<=1:=by unfold dput;split<;>omega
theorem eput_len{k v:ByteArray}(es:List Ent):(En.put es k v).length<=es.length+dput es k:=by
 unfold En.put dput
 rw[ins_len]
 cases h:En.get es k with
 |none=>have:=del_len es k;simp;omega
 |some v=>have:=del_len_some h;simp;omega
theorem del_none_{k:ByteArray}(h:En.get es k=none):En.del es k=es:=Tp.del_none (get_none h)
end
end Go.Proofs.YtjoiajmbfbjnnaaGreatDoor
namespace Tp
open En
def inB(hi:Str)(x:Ent):Bool:=hi.toList.isEmpty||lt x.1 hi
def ge_(frm:Str)(x:Ent):Bool:= !lt x.1 frm
def scanF(es:List Ent)(frm hi:Str):List Ent:=es.filter fun x=>inB hi x&&ge_ frm x
theorem from_filter{frm:Str} :∀ {es:List Ent},Srt es->from_ es frm=es.filter (ge_ frm)
 | [],_=>rfl
 |x::l,h=>by
  obtain⟨h1,h2⟩:=srt_cons.1 h
  rw[from_cons]
  cases hx:lt x.1 frm with
  |true=>
   rw[if_pos rfl,from_filter h2,List.filter_cons_of_neg (by simp[ge_,hx])]
  |false=>
   rw[if_neg (by simp),List.filter_cons_of_pos (by simp[ge_,hx])]
   congr 1
   refine(List.filter_eq_self.2 fun y hy=> ?_).symm
   unfold ge_
   cases hy2:lt y.1 frm with
   |false=>rfl
   |true=>rw[lt_trans (h1 y hy) hy2]at hx;cases hx
theorem take_filter{hi:Str} :∀ {es:List Ent},Srt es->es.takeWhile (inB hi)=es.filter (inB hi)
 | [],_=>rfl
 |x::l,h=>by
  obtain⟨h1,h2⟩:=srt_cons.1 h
  cases hx:inB hi x with
  |true=>rw[List.takeWhile_cons_of_pos hx,List.filter_cons_of_pos hx,take_filter h2]
  |false=>
   rw[List.takeWhile_cons_of_neg (by rw[hx];simp),List.filter_cons_of_neg (by rw[hx];simp)]
   refine(List.filter_eq_nil_iff.2 fun y hy=> ?_).symm
   unfold inB at hx ⊢
   rw[Bool.or_eq_false_iff]at hx
   rw[hx.1,Bool.false_or]
   intro hy2
   rw[lt_trans (h1 y hy) hy2]at hx
   cases hx.2
theorem srt_filter{es:List Ent}(h:Srt es)(p:Ent->Bool):Srt (es.filter p):=List.Pairwise.sublist List.filter_sublist h
end Tp
namespace Go.Proofs.YtjoiajmbfbjnnaaGreatDoor
open Go.RowKit Go.Shelf
theorem ystep_scan(hi:ByteArray):∀ (l acc:List Ent),(Tp.ystep (scanS hi) acc l).1=acc++l.takeWhile (Tp.inB hi)
 | [],acc=>by simp[Tp.ystep]
 |x::l,acc=>by
  have hiff:(hi.toList= []\/En.lt x.1 hi=true) ↔ Tp.inB hi x=true:=by unfold Tp.inB;simp
  rw[Tp.ystep]
  by_cases hx:Tp.inB hi x=true
  ·have e:scanS hi acc x=(acc++ [x],true):=by unfold scanS;rw[if_pos (hiff.2 hx)]
   rw[e,if_pos rfl,ystep_scan hi l,List.takeWhile_cons_of_pos hx,List.append_assoc]
   rfl
  ·have e:scanS hi acc x=(acc,false):=by unfold scanS;rw[if_neg (fun h=>hx (hiff.1 h))]
   rw[e,if_neg (by simp),List.takeWhile_cons_of_neg hx,List.append_nil]
theorem scan_y{es:List Ent}(h:En.Srt es)(frm hi:ByteArray):(Tp.ystep (scanS hi) [] (Tp.from_ es frm)).1=Tp.scanF es frm hi:=by
 rw[ystep_scan,List.nil_append,Tp.from_filter h,Tp.take_filter (Tp.srt_filter h _),List.filter_filter]
 rfl
theorem cost_tr{σ:Tp.Pst}{disk:Tp.Disk} :∀ (h f:Nat) (lo hi:Option En.Str) (s:Tp.Sub),Tp.Tr (σ.view disk) h lo hi s->Tp.cost Tp.en disk σ f s.id<=s.es.length
 |_,0,_,_,_,_=>Nat.zero_le _
 |0,f+1,lo,hi,s,hs=>by
  rw[Tp.cost_eq hs.1]
  exact Nat.le_of_eq (by simp[Tp.en,Tp.costs,Nd.mkLeaf])
 |h+1,f+1,lo,hi,s,hs=>by
  obtain⟨subs,keys,a1,a2,a3,a4,a5,a6,a7⟩:=hs
  rw[Tp.cost_eq a1,a4,Tp.es_len]
  show 0+Tp.costs Tp.en disk σ f (subs.map (·.id))<=_
  rw[Nat.zero_add]
  unfold Tp.costs
  rw[List.map_map]
  have key:∀l:List Tp.Sub,(∀t∈l,t∈subs)->(l.map (Tp.cost Tp.en disk σ f ∘ (·.id))).sum<=(l.map fun t=>t.es.length).sum:=fun l=>by
   induction l with
   |nil=>intro _;exact Nat.le_refl _
   |cons t l ih=>
    intro hl
    obtain⟨l',h',hp⟩:=Tp.chain_all a7 t (hl t List.mem_cons_self)
    have h1:=cost_tr h f l' h' t hp
    have h2:=ih fun u hu=>hl u (List.mem_cons_of_mem _ hu)
    rw[List.map_cons,List.sum_cons,List.map_cons,List.sum_cons]
    show Tp.cost Tp.en disk σ f t.id+_<=_
    omega
  exact key subs fun _ h=>h
theorem cost_rd{σ:Tp.Pst}{disk:Tp.Disk} :∀ (h f:Nat) (lo hi:Option En.Str) (s:Tp.Sub),Tp.Tr (σ.view disk) h lo hi s->Tp.cost Tp.rd disk σ f s.id<=2*s.ids.length
 |_,0,_,_,_,_=>Nat.zero_le _
 |0,f+1,lo,hi,s,hs=>by
  rw[Tp.cost_eq hs.1,hs.2.1]
  exact Nat.le_of_eq (by simp[Tp.rd,Tp.costs,Nd.mkLeaf])
 |h+1,f+1,lo,hi,s,hs=>by
  obtain⟨subs,keys,a1,a2,a3,a4,a5,a6,a7⟩:=hs
  rw[Tp.cost_eq a1,a3]
  show 2+Tp.costs Tp.rd disk σ f (subs.map (·.id))<=_
  unfold Tp.costs
  rw[List.map_map]
  have key:∀ (l:List Tp.Sub),(∀t∈l,t∈subs)->(l.map (Tp.cost Tp.rd disk σ f ∘ (·.id))).sum<=2*(Tp.ids_ l).length:=by
   intro l
   induction l with
   |nil=>intro _;exact Nat.zero_le _
   |cons t l ih=>
    intro hl
    obtain⟨l',h',hp⟩:=Tp.chain_all a7 t (hl t List.mem_cons_self)
    have h1:=cost_rd h f l' h' t hp
    have h2:=ih fun u hu=>hl u (List.mem_cons_of_mem _ hu)
    have e:Tp.ids_ (t::l)=t.ids++Tp.ids_ l:=by unfold Tp.ids_;rw[List.flatMap_cons]
    rw[e,List.length_append,List.map_cons,List.sum_cons]
    show Tp.cost Tp.rd disk σ f t.id+_<=_
    omega
  have:=key subs fun _ h=>h
  rw[List.length_cons]
  omega
theorem tmd_start{F:FFile}{n N:Nat}{disk:Tp.Disk}{w:World}{R:Int}(hF:F.At w R)(hR:0<=R)(r:Nat)(hRr:R+(r:Nat)<=900000000000)(ho:FOn F n disk N)(hN:N<1000000)(hT:HT w)(hB0:0<F.B)(hBw:F.B<=w.heap.size)
  (A:Option Addr) (c:Nat) (l:List Run) (pages:Int) (hr:RS w w.heap.size A l) (hl:l.length<=50000) (hfd:∀id x,disk id=some x->id<pagesN pages n/\¬Rp.Mem l id):
  Calls Tryz.prog 20 #[.pointer (some ⟨F.f,0,none⟩), .slice A l.length c, .int .i64 pages] w fun e w'=>∃t m,e= .returned (.pointer (some ⟨t,0,none⟩))/\TMd F w'.heap.size t m n (Rp.minus [(2,pagesN pages n-1)] l) disk r ⟨Rp.meet l [(2,pagesN pages n-1)],pagesN pages n, [],fun _=>none⟩ w'/\(w.heap.size<=t/\w.heap.size<=m/\F.d<w'.heap.size)/\Below w.heap.size w w':=by
 obtain⟨cc,c1,c2⟩:=ho.c
 have hsz:=c1.ok.size
 have hfo:=hF.fileOf
 rw[hsz]at hfo
 refine(tnew_any F.f n A c l pages ho.hn w hfo hr hl).mono ?_
 rintro e w' ⟨t,m,rfl,⟨ht,hm⟩,hT',hb⟩
 have hp:2<=pagesN pages n/\pagesN pages n<=max (n:Int) 2/\max (n:Int) 2<=100000:=by have:=ho.hn;unfold pagesN;omega
 have htl:t<w'.heap.size:=by obtain⟨_,⟨v,h2,_⟩,_⟩:=hT';exact h2.lt
 have hml:m<w'.heap.size:=by obtain⟨_,_,es,c,h2,_⟩:=hT';exact(Array.getElem?_eq_some_iff.1 h2).1
 have hlow:=hF.low
 refine⟨t,m,rfl,⟨⟨htl,hml,Nat.le_refl _⟩,fun g hg=> ?_,⟨hB0,by omega,by omega⟩,hT.below hb (by have:=hT.1;omega),⟨Rp.Ap.start l hp,fun id hi=>absurd hi List.not_mem_nil, .map [],hT',KeysAre.nil_,fun id hi=>absurd hi List.not_mem_nil⟩,ho.on hN (fun id x hx=> ?_),R,hR,hRr,hF.fr (S:=fun _=>False) (.of_below hb) (fun _ _ a=>a)⟩,⟨ht,hm, ?_⟩,hb⟩
 ·have:=hlow g hg
  omega
 ·obtain⟨g1,g2⟩:=hfd id x hx
  obtain⟨g3,g4,g5⟩:=c2 id x hx
  have hno:¬id<2/\¬ (n:Int)<=id:=by simpa[noPage]using g4
  exact((Rp.minus_ok [(2,pagesN pages n-1)] l).2 id).2 ⟨by omega,by unfold Rp.Most;omega,Rp.mem_two.2 ⟨by omega,g1⟩,g2⟩
 ·have:=hlow F.d (.inr (.inl rfl));have:=hb.size;omega
structure FSt(F:FFile)(n:Nat)(a:TAd)(used:List Run)(disk:Tp.Disk)(root:Int)(σ:Tp.Pst)(ids:List Int)(es:List Ent)(tok r:Nat)(w:World):Prop where
 on:On (SD F a.t a.m) a.B a.t a.u (TMd F a.B a.t a.m n used disk) root 0 r σ w
 hd:F.d<a.B
 rt:Tp.RootAt disk used σ root es tok ids
 mine:∀x,x∈σ.mine->x∈ids
 tl:tok<=200000
def FU(F:FFile)(a:TAd)(k:Nat):Prop:=SD F a.t a.m k\/k=a.u
section
variable {F:FFile}{n:Nat}{a:TAd}{used:List Run}{disk:Tp.Disk}{root:Int}{σ:Tp.Pst}{ids:List Int}{es:List Ent}{tok r r':Nat}{w w':World}
theorem FSt.mach(h:FSt F n a used disk root σ ids es tok r w):Mach (SD F a.t a.m) a.B a.t (max (n:Int) 2) disk (TMd F a.B a.t a.m n used disk):=mach_disk F h.on.tm.low.1 h.on.tm.low.2.1 h.hd n used disk
theorem FSt.below(h:FSt F n a used disk root σ ids es tok r w)(hb:Below w.heap.size w w'):FSt F n a used disk root σ ids es tok r w':=⟨h.on.below h.mach hb,h.hd,h.rt,h.mine,h.tl⟩
theorem FSt.less(h:FSt F n a used disk root σ ids es tok r w)(hr:r'<=r):FSt F n a used disk root σ ids es tok r' w:=⟨h.on.less h.mach hr,h.hd,h.rt,h.mine,h.tl⟩
theorem FSt.with_(h:FSt F n a used disk root σ ids es tok r w)(ho:On (SD F a.t a.m) a.B a.t a.u (TMd F a.B a.t a.m n used disk) root 0 r' σ w'):FSt F n a used disk root σ ids es tok r' w':=⟨ho,h.hd,h.rt,h.mine,h.tl⟩
theorem FSt.low(h:FSt F n a used disk root σ ids es tok r w):∀k,FU F a k->k<w.heap.size:=fun k hk=>by
 have h1:=h.on.tm.low
 rcases hk with hk | rfl
 ·have:=h.mach.low k hk;omega
 ·exact h.on.self.lt
theorem FSt.mineLen(h:FSt F n a used disk root σ ids es tok r w):σ.mine.length<=ids.length:=List.Nodup.length_le_of_subset h.on.tm.mem.ap.nd (fun x hx=>h.mine x hx)
theorem FSt.nz(h:FSt F n a used disk root σ ids es tok r w){x:Int}(hx:Tp.Use used σ x):x≠0:=fun e=>by
 have:=Tp.use_range (room:=max (n:Int) 2) h.on.tm.mem.ap hx
 omega
theorem FSt.find(h:FSt F n a used disk root σ ids es tok r w)(k:ByteArray):Tp.pFind disk σ k 24 root= .ok (En.get es k):=by
 rcases h.rt with⟨rfl,rfl,rfl⟩ | ⟨hh,s,rfl,rfl,rfl,q4,q5,q6,q7,q8⟩
 ·rfl
 ·have hz:s.id≠0:=h.nz (q7 s.id (Tp.tr_id q5))
  have h8:=Tp.low_of q8 (by have:=h.tl;omega)
  exact Tp.find_tr hh 24 none none s (by omega) q5 hz (fun a h=>by cases h) (fun a h=>by cases h)
end
end Go.Proofs.YtjoiajmbfbjnnaaGreatDoor
namespace Tp
open Nd En
theorem tr_some{v:Int->Option Node} :∀ {h:Nat} {lo hi:Option Str} {s:Sub},Tr v h lo hi s->∀x∈s.ids,∃n,v x=some n
 |0,_,_,s,hs,x,hx=>by
  obtain⟨a,b,_⟩:=hs
  rw[b]at hx
  obtain rfl:x=s.id:=by simpa using hx
  exact⟨_,a⟩
 |h+1,_,_,s,hs,x,hx=>by
  obtain⟨subs,keys,a,b,c,d,e,f,g⟩:=hs
  rw[c]at hx
  rcases List.mem_cons.1 hx with rfl | hx
  ·exact⟨_,a⟩
  ·unfold ids_ at hx
   obtain⟨t,ht,hx⟩:=List.mem_flatMap.1 hx
   obtain⟨l,h',hp⟩:=chain_all g t ht
   exact tr_some hp x hx
def VerAt(disk:Disk)(root:Int)(es:List En.Ent)(tok:Nat)(ids:List Int):Prop:=
 (root=0/\es= []/\ids= [])\/∃h s,s.id=root/\s.ids=ids/\s.es=es/\s.tok<=tok/\Tr disk h none none s/\ids.Nodup/\(h=0\/2*6 ^ (h-1)<=s.tok)
variable {disk disk':Disk}{root:Int}{es:List En.Ent}{tok tok':Nat}{ids:List Int}{used:List Run}{σ:Pst}{room:Int}
theorem VerAt.none_(disk:Disk)(tok:Nat):VerAt disk 0 [] tok []:= .inl ⟨rfl,rfl,rfl⟩
theorem VerAt.congr(h:VerAt disk root es tok ids)(hd:∀x∈ids,disk' x=disk x):VerAt disk' root es tok ids:=by
 rcases h with h | ⟨hh,s,a,rfl,c,d,e,f⟩
 ·exact .inl h
 ·exact .inr ⟨hh,s,a,rfl,c,d,tr_congr hd e,f⟩
theorem VerAt.some_(h:VerAt disk root es tok ids):∀x∈ids,∃n,disk x=some n:=by
 rcases h with⟨_,_,rfl⟩ | ⟨hh,s,a,rfl,c,d,e,f⟩
 ·exact fun x hx=>absurd hx List.not_mem_nil
 ·exact tr_some e
theorem VerAt.rootAt(h:VerAt disk root es tok ids)(hv:∀x∈ids,σ.view disk x=disk x)(hu:∀x∈ids,Use used σ x):RootAt disk used σ root es tok ids:=by
 rcases h with h | ⟨hh,s,a,rfl,c,d,e,f,g⟩
 ·exact .inl h
 ·exact .inr ⟨hh,s,a,rfl,c,d,tr_congr hv e,f,hu,g⟩
theorem RootAt.ver(h:RootAt disk used σ root es tok ids)(hv:∀x∈ids,disk' x=σ.view disk x):VerAt disk' root es tok ids:=by
 rcases h with h | ⟨hh,s,a,rfl,c,d,e,f,u,g⟩
 ·exact .inl h
 ·exact .inr ⟨hh,s,a,rfl,c,d,tr_congr hv e,f,g⟩
theorem RootAt.some_(h:RootAt disk used σ root es tok ids):∀x∈ids,∃n,σ.view disk x=some n:=by
 rcases h with⟨_,_,rfl⟩ | ⟨hh,s,a,rfl,c,d,e,f⟩
 ·exact fun x hx=>absurd hx List.not_mem_nil
 ·exact tr_some e
theorem RootAt.uses(h:RootAt disk used σ root es tok ids):∀x∈ids,Use used σ x:=by
 rcases h with⟨_,_,rfl⟩ | ⟨hh,s,a,rfl,c,d,e,f,u,g⟩
 ·exact fun x hx=>absurd hx List.not_mem_nil
 ·exact u
def start(l:List Run)(p:Int):Pst:=⟨Rp.meet l [(2,p-1)],p, [],fun _=>none⟩
theorem start_view{l:List Run}{p x:Int}(h2:2<=x)(hp:x<p)(hl:¬Rp.Mem l x):(start l p).view disk x=disk x:=by
 unfold Pst.view start
 rw[if_neg List.not_mem_nil,if_pos ⟨h2,hp,Rp.has_used fun hm=>hl (((Rp.meet_ok l [(2,p-1)]).2 x).1 hm).2.2.1⟩]
theorem start_use{l:List Run}{p x:Int}(h2:2<=x)(hp:x<p)(hm:x<=Rp.Most)(hl:¬Rp.Mem l x):Use (Rp.minus [(2,p-1)] l) (start l p) x:=
 .inr (((Rp.minus_ok [(2,p-1)] l).2 x).2 ⟨by omega,by exact hm,Rp.mem_two.2 ⟨h2,hp⟩,hl⟩)
end Tp
namespace Go.Proofs.YtjoiajmbfbjnnaaGreatDoor
open Go.RowKit Go.Shelf
end Go.Proofs.YtjoiajmbfbjnnaaGreatDoor
namespace Go.Proofs.YtjoiajmbfbjnnaaGreatDoor
open Go.RowKit Go.Shelf Go.Maps
section
variable {F F':FFile}{n N:Nat}{a:TAd}{used:List Run}{disk:Tp.Disk}{root root':Int}{σ:Tp.Pst}{ids ids':List Int}{es es':List Ent}{tok tok' r:Nat}{w w':World}
theorem FSt.ap(h:FSt F n a used disk root σ ids es tok r w):Tp.ApS (max (n:Int) 2) used σ:=h.on.tm.mem.ap
theorem flushed_view(hap:Tp.ApS (max (n:Int) 2) used σ){x:Int}(hu:Tp.Use used σ x):flushed disk σ x=σ.view disk x:=by
 unfold flushed
 by_cases hm:x∈σ.mine
 ·rw[if_pos hm,Tp.view_mine hm]
 ·rw[if_neg hm]
  rcases hu with hu | hu
  ·exact absurd hu hm
  ·exact(Tp.view_used hap hu).symm
theorem FSt.ver(h:FSt F n a used disk root σ ids es tok r w):Tp.VerAt (flushed disk σ) root es tok ids:=h.rt.ver fun x hx=>flushed_view h.ap (h.rt.uses x hx)
theorem FSt.old(h:FSt F n a used disk root σ ids es tok r w)(hv:Tp.VerAt disk root' es' tok' ids'):Tp.VerAt (flushed disk σ) root' es' tok' ids':=hv.congr fun x hx=>by
 obtain⟨y,hy⟩:=hv.some_ x hx
 unfold flushed
 rw[if_neg (h.ap.um x (h.on.tm.on.page x y hy).2.1)]
def LowD(disk:Tp.Disk)(free:List Run)(p:Int):Prop:=∀id x,disk id=some x->id<p/\¬Rp.Mem free id
theorem FSt.lowD(h:FSt F n a used disk root σ ids es tok r w):LowD (flushed disk σ) σ.free σ.pages:=fun id x hx=>by
 unfold flushed at hx
 split at hx
 ·rename_i hm
  exact⟨(h.ap.hm id hm).2,fun hf=>h.ap.fm id hf hm⟩
 ·have hu:=(h.on.tm.on.page id x hx).2.1
  exact⟨(h.ap.hu id hu).2,fun hf=>h.ap.fu id hf hu⟩
theorem fst_flush(h:FSt F n a used disk root σ ids es tok r w)(hd:FOn F n disk N)(hN:N+2000<90000)(hk:F.k+1000<maxLen)(hml:σ.mine.length<=1000):
  Calls Tryz.prog 28 #[.pointer (some ⟨a.t,0,none⟩)] w fun e w'=>e= .returned (.int .i64 0)/\∃F',FlDEnd F n (flushed disk σ) (N+σ.mine.length) r w F' w':=
 tmd_flush h.on.tm hd hN hk (fun id hid=>by
  obtain⟨y,hy⟩:=h.rt.some_ id (h.mine id hid)
  rw[Tp.view_mine hid]at hy
  exact⟨y,hy⟩) hml
theorem FlDEnd.lo{α:Type}{E:Enc α}{ty:TypeId}{base:Nat}{v:Value}{l:List α}(h:FlDEnd F n disk N r w F' w')(hl:LO E ty w base v l)(h1:ty≠132)(h2:ty≠168)(h3:∀g,v.ownBlock=some g->g≠F.s):LO E ty w' base v l:=by
 rcases hl with⟨h4,h5 | ⟨g,cap,cur,hv,hb,hh,q⟩⟩
 ·exact⟨h4, .inl h5⟩
 ·exact⟨h4, .inr ⟨g,cap,cur,hv,hb,h.blk g ty _ hh h1 h2 (h3 g (by rw[hv];rfl)),q⟩⟩
theorem FFile.At.sty{R:Int}(h:F.At w R){g:Nat}{ty:TypeId}{cs:Array Value}(hB:Blk w g ty cs)(ht:ty≠9):g≠F.s:=hB.ne_ h.disk.sure ht
theorem LO.blk_{α:Type}{E:Enc α}{ty:TypeId}{base:Nat}{v:Value}{l:List α}(hl:LO E ty w base v l){g:Nat}(hg:v.ownBlock=some g):∃cs,Blk w g ty cs/\base<=g:=by
 rcases hl with⟨_,⟨h5,_⟩ | ⟨g',cap,cur,hv,hb,hh,_⟩⟩
 ·rw[h5]at hg;cases hg
 ·rw[hv]at hg
  have:g'=g:=by injection hg
  subst this
  exact⟨_,hh,hb⟩
theorem FlDEnd.row{α:Type}{E:Enc α}{ty:TypeId}{base:Nat}{v:Value}{l:List α}{R:Int}(h:FlDEnd F n disk N r w F' w')(hA:F.At w R)(hl:LO E ty w base v l)(h1:ty≠132)(h2:ty≠168)(h3:ty≠9):LO E ty w' base v l:=
 h.lo hl h1 h2 fun g hg=>by
  obtain⟨cs,hB,_⟩:=hl.blk_ hg
  exact hA.sty hB h3
theorem FlDEnd.own{base:Nat}{v:Value}{l:List Run}{R:Int}(h:FlDEnd F n disk N r w F' w')(hA:F.At w R)(hl:Own w base v l):Own w' base v l:=by
 rcases hl with⟨h4,h5 | ⟨g,cap,cur,hv,hb,hh,q⟩⟩
 ·exact⟨h4, .inl h5⟩
 ·exact⟨h4, .inr ⟨g,cap,cur,hv,hb,h.blk g 106 _ hh (by decide) (by decide) (hA.sty hh (by decide)),q⟩⟩
theorem FlDEnd.txn{R:Int}{t m k:Nat}{free:List Run}{pages:Int}{D:DataW Value}(h:FlDEnd F n disk N r w F' w')(hA:F.At w R)(ht:Txn w t m F.f n free pages k D)(hm:m≠F.m):Txn w' t m F.f n free pages k D:=by
 obtain⟨h1,⟨v,h2,h3⟩,es,c,h4,h5⟩:=ht
 obtain⟨R',r1,r2,r3⟩:=h.file
 have hs:=r3.fileOf
 obtain⟨cc,c1,c2⟩:=h.on.c
 rw[c1.ok.size,h.same.2.1]at hs
 exact⟨hs,⟨v,h.blk t _ _ h2 (by decide) (by decide) (hA.sty h2 (by decide)),h.own hA h3⟩,es,c,h.map m es c hm h4,h5⟩
theorem FlDEnd.ht(h:FlDEnd F n disk N r w F' w')(hT:HT w)(hB:0<F.B):HT w':=by
 have hb:=h.below.mono (show 1<=F.B from hB)
 refine⟨Nat.lt_of_lt_of_le hT.1 hb.size,fun i hi=> ?_⟩
 rw[<-hT.2 i hi]
 exact hb.cell (p:=⟨0,i,none⟩) (Nat.zero_lt_one)
def TxB(F:FFile)(t n:Nat)(free:List Run)(pages:Int)(b:Nat)(w:World):Prop:=
 ∃ (w1:World) (m k:Nat) (D:DataW Value) (cs:Array Value),w1.heap.size<=b/\Txn w1 t m F.f n free pages k D/\Blk w1 F.d 132 cs/\Fr (fun g=>g=F.d\/b<=g) w1 w/\m≠F.m
theorem TxB.of{R:Int}{t m k:Nat}{free:List Run}{pages:Int}{D:DataW Value}(h:Txn w t m F.f n free pages k D)(hA:F.At w R)(hm:m≠F.m):TxB F t n free pages w.heap.size w:=
 ⟨w,m,k,D,_,Nat.le_refl _,h,hA.disk.self,Fr.refl _,hm⟩
theorem TxB.txn2{t b:Nat}{free:List Run}{pages:Int}{R:Int}(h:TxB F t n free pages b w)(hA:F.At w R)(hn:F.D.sure.length=n):∃m k D,Txn w t m F.f n free pages k D/\m≠F.m:=by
 obtain⟨w1,m,k,D,cs,h1,⟨_,⟨v,h2,h3⟩,es,c,h4,h5⟩,h6,hf,hmm⟩:=h
 have hb:∀ {g:Nat} {o:Obj},w1.heap[g]? =some o->(∀cs,o≠ .cells cs 132)->w.heap[g]? =some o:=fun {g o} ho hne=>(hf.block g (Array.getElem?_eq_some_iff.1 ho).1 (fun e=>by
  have:=(Array.getElem?_eq_some_iff.1 ho).1
  rcases e with rfl | e
  ·have e2:=ho.symm.trans h6
   injection e2 with e2
   exact hne _ e2
  ·omega)).trans ho
 refine⟨m,k,D,⟨hn ▸ hA.fileOf,⟨v,hb h2 (fun cs e=>by injection e with _ e;cases e), ?_⟩,es,c,hb h4 (fun cs e=>by cases e),h5⟩,hmm⟩
 rcases h3 with⟨e1,e2 | ⟨g,cap,cur,hv,hbb,hh,hr⟩⟩
 ·exact⟨e1, .inl e2⟩
 ·exact⟨e1, .inr ⟨g,cap,cur,hv,hbb,hb hh (fun cs e=>by injection e with _ e;cases e),hr⟩⟩
theorem fst_new{B t m r:Nat}{P:Int}{l:List Run}(h:TMd F B t m n (Rp.minus [(2,P-1)] l) disk r (Tp.start l P) w)(hd:F.d<B)(hv:Tp.VerAt disk root es tok ids)(htl:tok<=200000)(hon:∀x y,disk x=some y->noPage n x=false)(hn:n<=16384)(hlow:LowD disk l P):
  Calls Tryz.prog 19 #[.pointer (some ⟨t,0,none⟩), .int .i64 root] w fun e w'=>∃a:TAd,e= .returned (.pointer (some ⟨a.u,0,none⟩))/\a.t=t/\a.m=m/\FSt F n a (Rp.minus [(2,P-1)] l) disk root (Tp.start l P) ids es tok r w'/\w.heap.size<=a.u/\Below w.heap.size w w':=by
 have M:=mach_disk F h.low.1 h.low.2.1 hd n (Rp.minus [(2,P-1)] l) disk
 refine(ctnew_any M root r (Tp.start l P) w h).mono ?_
 rintro e w' ⟨u,rfl,h1,h2,h3⟩
 have hx:∀x∈ids,(2<=x/\x<P/\x<=Rp.Most)/\¬Rp.Mem l x:=fun x hx=>by
  obtain⟨y,hy⟩:=hv.some_ x hx
  have h4:=hlow x y hy
  have h5:=hon x y hy
  have h6:¬x<2/\¬ (n:Int)<=x:=by simpa[noPage]using h5
  exact⟨⟨by omega,h4.1,by unfold Rp.Most;omega⟩,h4.2⟩
 exact⟨⟨B,t,m,F.f,u⟩,rfl,rfl,rfl,⟨h1,hd,hv.rootAt (fun x hx'=>Tp.start_view (hx x hx').1.1 (hx x hx').1.2.1 (hx x hx').2) (fun x hx'=>Tp.start_use (hx x hx').1.1 (hx x hx').1.2.1 (hx x hx').1.2.2 (hx x hx').2),fun x hx=>absurd hx List.not_mem_nil,htl⟩,h2,h3⟩
end
theorem file_start{B0 d n:Nat}{w:World}(hn:n<=16384){f:Nat}(h:FAt w B0 f d 0 (fresh n)):∃F:FFile,F.B=B0/\F.f=f/\F.d=d/\F.k=0/\F.At w 0/\FOn F n noDisk 0:=by
 obtain⟨s,m,pv,Dm,h1⟩:=h.open_
 exact⟨⟨B0,f,d,0,s,m,pv,Dm,fresh n⟩,rfl,rfl,rfl,rfl,h1,hn,⟨fun _=>none,fresh_c,fun _ _ h=>by cases h⟩,⟨Int.le_refl _,Int.le_refl _⟩,by show([]:List _).length<=0;simp⟩
section
variable {F F':FFile}{n:Nat}{a:TAd}{used:List Run}{disk:Tp.Disk}{root:Int}{es:List Ent}{tok r r' T:Nat}{w0 w w':World}{z:Int}
structure FReady(F:FFile)(n:Nat)(disk:Tp.Disk)(N r:Nat)(w:World):Prop where
 on:FOn F n disk N
 file:∃R:Int,0<=R/\R+(r:Nat)<=900000000000/\F.At w R
 ht:HT w
 b0:0<F.B
 bw:F.B<=w.heap.size
theorem FReady.below{N:Nat}(h:FReady F n disk N r w)(hb:Below w.heap.size w w'):FReady F n disk N r w':=by
 obtain⟨h1,⟨R,r1,r2,r3⟩,h3,h4,h5⟩:=h
 exact⟨h1,⟨R,r1,r2,r3.fr (S:=fun _=>False) (.of_below hb) (fun _ _ a=>a)⟩,h3.below hb (by have:=h3.1;omega),h4,Nat.le_trans h5 hb.size⟩
theorem fr_begin{N:Nat}(h:FReady F n disk N r w)(hN:N<1000000)(A:Option Addr)(c:Nat)(l:List Run)(p P:Int)(hP:pagesN p n=P)(hr:RS w w.heap.size A l)(hl:l.length<=50000)(hlow:LowD disk l P):
  Calls Tryz.prog 20 #[.pointer (some ⟨F.f,0,none⟩), .slice A l.length c, .int .i64 p] w fun e w'=>∃t m,e= .returned (.pointer (some ⟨t,0,none⟩))/\TMd F w'.heap.size t m n (Rp.minus [(2,P-1)] l) disk r (Tp.start l P) w'/\(w.heap.size<=t/\w.heap.size<=m/\F.d<w'.heap.size)/\Below w.heap.size w w':=by
 obtain⟨h1,⟨R,r1,r2,r3⟩,h3,h4,h5⟩:=h
 subst hP
 exact tmd_start r3 r1 r r2 h1 hN h3 h4 h5 A c l p hr hl hlow
structure FlD2(F:FFile)(n:Nat)(a:TAd)(disk:Tp.Disk)(root:Int)(σ:Tp.Pst)(ids:List Int)(es:List Ent)(tok N r:Nat)(w:World)(F':FFile)(disk':Tp.Disk)(w':World):Prop where
 same:F'.B=F.B/\F'.f=F.f/\F'.d=F.d/\F'.k=0
 ready:FReady F' n disk' (N+σ.mine.length) r w'
 ver:Tp.VerAt disk' root es tok ids
 old:∀ (root':Int) (es':List Ent) (tok':Nat) (ids':List Int),Tp.VerAt disk root' es' tok' ids'->Tp.VerAt disk' root' es' tok' ids'
 low:LowD disk' σ.free σ.pages
 pg:pagesN σ.pages n=σ.pages
 fl:σ.free.length<=50000
 tx:TxB F' a.t n σ.free σ.pages w'.heap.size w'
 self:Blk w' a.u 140 (TreeV a.t root 0)
 below:Below F.B w w'
 row:∀ (α:Type) (E:Enc α) (ty:TypeId) (base:Nat) (v:Value) (l:List α),LO E ty w base v l->ty≠132->ty≠168->ty≠9->LO E ty w' base v l
 blk:∀ (g:Nat) (ty:TypeId) (cs:Array Value),Blk w g ty cs->ty≠132->ty≠168->ty≠9->Blk w' g ty cs
theorem free_len{room p:Int}{fr used:List Run}{mine:List Int}(h:Rp.Ap room fr used mine p)(hp:room<=16384):fr.length<=50000:=by
 have h0:=h.pg
 have h1:=canon_len fr 0 p h.cf (fun x hx=>(h.hf x hx).2)
 omega
theorem fst_flush2{ids:List Int}{σ:Tp.Pst}{N:Nat}(h:FSt F n a used disk root σ ids es tok r w)(hd:FOn F n disk N)(hN:N+2000<90000)(hk:F.k+1000<maxLen)(hml:σ.mine.length<=1000):
  Calls Tryz.prog 28 #[.pointer (some ⟨a.t,0,none⟩)] w fun e w'=>e= .returned (.int .i64 0)/\∃F' disk',FlD2 F n a disk root σ ids es tok N r w F' disk' w':=by
 refine(fst_flush h hd hN hk hml).mono ?_
 rintro e w' ⟨rfl,F',hf⟩
 obtain⟨R,r1,r2,r3⟩:=h.on.tm.file
 have hmm:a.m≠F.m:=by have:=(h.on.tm.sep F.m (.inr (.inr (.inr (.inl rfl))))).2;omega
 obtain⟨D,t1,t2⟩:=h.on.tm.mem.txn
 have htx:=hf.txn r3 t1 hmm
 obtain⟨R',q1,q2,q3⟩:=hf.file
 obtain⟨e1,e2,e3,e4,e5,e6,e7,e8⟩:=hf.same
 have hp:=h.ap.pg
 have hz:=hf.below.size
 have hFw:F.B<=w.heap.size:=by have:=h.on.tm.base.2.1;have:=h.on.tm.low.1;have:=h.on.tm.low.2.2;omega
 refine⟨rfl,F',flushed disk σ,⟨e1,e2,e3,e6⟩,⟨hf.on,⟨R',q1,q2,q3⟩,hf.ht h.on.tm.ht h.on.tm.base.1,by rw[e1];exact h.on.tm.base.1,by rw[e1];omega⟩,h.ver,fun _ _ _ _ hv=>h.old hv,h.lowD,by unfold pagesN;omega,free_len h.ap (by have:=hd.hn;omega), ?_,hf.blk a.u _ _ h.on.self (by decide) (by decide) (r3.sty h.on.self (by decide)),hf.below,fun α E ty base v l hl h1 h2 h3=>hf.row r3 hl h1 h2 h3,fun g ty cs hB h1 h2 h3=>hf.blk g ty cs hB h1 h2 (r3.sty hB h3)⟩
 exact TxB.of (F:=F') (R:=R') (by rw[e2];exact htx) q3 (by rw[e5];exact hmm)
end
end Go.Proofs.YtjoiajmbfbjnnaaGreatDoor
namespace Tp
open Nd En
def lfAt(σ:Pst)(x:Int):Bool:=match σ.nd x with
 |some n=>n.leaf
 |none=>false
def FL(σ:Pst):Nat:=σ.mine.countP (lfAt σ)
def oneB(b:Bool):Nat:=if b then 1 else 0
theorem countP_put:∀ (l:List Int) (p q:Int->Bool) (id:Int),l.Nodup->(∀x,x≠id->p x=q x)->l.countP p<=l.countP q+oneB (p id)
 | [],_,_,_,_,_=>by simp
 |y::l,p,q,id,hn,h=>by
  obtain⟨h1,h2⟩:=List.nodup_cons.1 hn
  rw[List.countP_cons,List.countP_cons]
  by_cases e:y=id
  ·subst e
   have:l.countP p=l.countP q:=List.countP_congr fun x hx=>by rw[h x (fun e=>h1 (e ▸ hx))]
   unfold oneB
   rw[this]
   split<;>split<;>omega
  ·have:=countP_put l p q id h2 h
   rw[h y e]
   omega
section
variable {room room':Int}{disk:Disk}{used:List Run}{σ σ1 σ2 σ':Pst}
theorem put_L(hn:σ.mine.Nodup)(id:Int)(n:Node):FL (σ.put id n)<=FL σ+oneB n.leaf:=by
 have h:=countP_put σ.mine (lfAt (σ.put id n)) (lfAt σ) id hn (fun x hx=>by unfold lfAt Pst.put;simp only[if_neg hx])
 have e:lfAt (σ.put id n) id=n.leaf:=by unfold lfAt Pst.put;simp
 rw[e]at h
 exact h
theorem save_L(h:ApS room used σ){id pg:Int}{n:Node}(hs:pSave room σ id n=(.ok pg,σ1)):ApS room used σ1/\FL σ1<=FL σ+oneB n.leaf:=by
 refine⟨(save_ok (disk:=fun _=>none) h hs).1.ap, ?_⟩
 unfold pSave at hs
 cases hf:fits n with
 |false=>rw[hf]at hs;simp at hs
 |true=>
  rw[hf]at hs
  simp only[Bool.true_eq_false,if_false]at hs
  by_cases hid:id∈σ.mine
  ·rw[if_pos hid]at hs
   simp only[Prod.mk.injEq,Except.ok.injEq]at hs
   obtain⟨rfl,rfl⟩:=hs
   exact put_L h.nd _ _
  ·rw[if_neg hid]at hs
   cases ha:pAlloc room σ with
   |none=>rw[ha]at hs;simp at hs
   |some o=>
    obtain⟨id',σ''⟩:=o
    rw[ha]at hs
    simp only[Prod.mk.injEq,Except.ok.injEq]at hs
    obtain⟨rfl,rfl⟩:=hs
    obtain⟨h1,h2,h3⟩:=alloc_some (disk:=fun _=>none) h ha
    have hnd:∀x,x≠id'->σ''.nd x=σ.nd x:=fun x hx=>by
     unfold pAlloc at ha
     cases hv:allocV σ.free σ.pages room with
     |none=>rw[hv]at ha;cases ha
     |some p=>
      obtain⟨a,b,c⟩:=p
      rw[hv]at ha
      simp only[Option.some.injEq,Prod.mk.injEq]at ha
      obtain⟨rfl,rfl⟩:=ha
      simp only[if_neg hx]
    have hno:id' ∉ σ.mine:=fun hm=>h3 (.inl hm)
    unfold FL
    show(σ''.mine).countP _<=_
    rw[h2,List.countP_append]
    have e1:σ.mine.countP (lfAt (σ''.put id' n))=σ.mine.countP (lfAt σ):=List.countP_congr fun x hx=>by
     have hx':x≠id':=fun e=>hno (e ▸ hx)
     unfold lfAt Pst.put
     simp only[if_neg hx',hnd x hx']
    rw[e1]
    have e2:lfAt (σ''.put id' n) id'=n.leaf:=by unfold lfAt Pst.put;simp
    rw[List.countP_singleton,e2]
    unfold oneB
    omega
theorem drop_L(h:ApS room used σ)(id:Int):ApS room used (pDrop σ id)/\FL (pDrop σ id)<=FL σ:=
 ⟨(drop_step (disk:=fun _=>none) h id).1.ap,List.Sublist.countP_le (p:=lfAt σ) List.filter_sublist⟩
theorem cut_leaf{n a b:Node}{k:Str}(h:cut n=some (a,k,b)):a.leaf=n.leaf/\b.leaf=n.leaf:=by
 unfold cut at h
 split at h
 ·unfold split at h
  split at h
  ·cases h
  ·split at h
   ·rename_i hl
    split at h
    ·cases h
    ·cases h
     exact⟨hl.symm,hl.symm⟩
   ·rename_i hl
    have hl:n.leaf=false:=by simpa using hl
    split at h
    ·cases h
    ·cases h
     exact⟨hl.symm,hl.symm⟩
 ·cases h
theorem store_L:∀ (f:Nat) (σ:Pst) (id:Int) (n:Node) (p:Part) (σ':Pst),ApS room used σ->pStore room f σ id n=(.ok p,σ')->ApS room used σ'/\FL σ'<=FL σ+(if n.leaf then p.1.length else 0)
 |0,σ,id,n,p,σ',_,h=>by unfold pStore at h;cases h
 |f+1,σ,id,n,p,σ',hap,h=>by
  unfold pStore at h
  split at h
  ·simp only[Prod.mk.injEq,Except.ok.injEq]at h
   obtain⟨rfl,rfl⟩:=h
   obtain⟨h1,h2⟩:=drop_L hap id
   exact⟨h1,Nat.le_trans h2 (Nat.le_add_right _ _)⟩
  ·cases hc:cut n with
   |some o=>
    obtain⟨a,key,b⟩:=o
    rw[hc]at h
    simp only at h
    obtain⟨l1,l2⟩:=cut_leaf hc
    cases h1:pStore room f σ id a with
    |mk r1 s1=>
     rw[h1]at h
     cases r1 with
     |error e=>simp at h
     |ok one=>
      simp only at h
      cases h2:pStore room f s1 0 b with
      |mk r2 s2=>
       rw[h2]at h
       cases r2 with
       |error e=>simp at h
       |ok two=>
        simp only[Prod.mk.injEq,Except.ok.injEq]at h
        obtain⟨rfl,rfl⟩:=h
        obtain⟨g1,g2⟩:=store_L f σ id a one s1 hap h1
        obtain⟨g3,g4⟩:=store_L f s1 0 b two s2 g1 h2
        rw[l1]at g2
        rw[l2]at g4
        refine⟨g3, ?_⟩
        cases hl:n.leaf with
        |true=>
         rw[hl]at g2 g4
         simp only[if_true,List.length_append]at g2 g4 ⊢
         omega
        |false=>
         rw[hl]at g2 g4
         simp only[Bool.false_eq_true,if_false]at g2 g4 ⊢
         omega
   |none=>
    rw[hc]at h
    simp only at h
    cases h1:pSave room σ id n with
    |mk r1 s1=>
     rw[h1]at h
     cases r1 with
     |error e=>simp at h
     |ok pg=>
      simp only[Prod.mk.injEq,Except.ok.injEq]at h
      obtain⟨rfl,rfl⟩:=h
      obtain⟨g1,g2⟩:=save_L hap h1
      refine⟨g1, ?_⟩
      unfold oneB at g2
      exact g2
theorem swap_leaf{n:Node}(h:n.leaf=false)(a b:Nat)(c:List Int)(d:List Str):(swap n a b c d).leaf=false:=by
 unfold swap
 split
 ·exact h
 ·rfl
theorem fill_L{n n':Node}{i d:Nat}(hap:ApS room used σ)(h:pFill room disk σ n i d=(.ok n',σ'))(κ:Bool)(hκ:∀kid,σ.view disk (n.kids.getD i 0)=some kid->kid.leaf=κ)(h2:1<n.kids.length)(hl:n.leaf=false):ApS room used σ'/\FL σ'<=FL σ+oneB κ/\n'.leaf=false:=by
 unfold pFill at h
 split at h
 ·cases h
 ·cases hk:σ.view disk (n.kids.getD i 0)with
  |none=>rw[hk]at h;cases h
  |some kid=>
   rw[hk]at h
   simp only at h
   split at h
   ·simp only[Prod.mk.injEq,Except.ok.injEq]at h
    obtain⟨rfl,rfl⟩:=h
    exact⟨hap,Nat.le_add_right _ _,hl⟩
   ·cases ha:σ.view disk (n.kids.getD (sib n i) 0)with
    |none=>rw[ha]at h;cases h
    |some a=>
     rw[ha]at h
     simp only at h
     cases hb:σ.view disk (n.kids.getD (sib n i+1) 0)with
     |none=>rw[hb]at h;cases h
     |some b=>
      rw[hb]at h
      simp only at h
      split at h
      ·simp only[Prod.mk.injEq,Except.ok.injEq]at h
       obtain⟨rfl,rfl⟩:=h
       exact⟨hap,Nat.le_add_right _ _,hl⟩
      ·rename_i hno
       have hab:a.leaf=b.leaf:=by
        cases e:(a.leaf != b.leaf)with
        |true=>exact absurd (.inl e) hno
        |false=>simpa using e
       have hκ2:a.leaf=κ:=by
        unfold sib at ha hb
        split at ha
        ·rename_i hs
         rw[if_pos hs]at hb
         have e:i-1+1=i:=by omega
         rw[e]at hb
         rw[hab]
         exact hκ b hb
        ·exact hκ a ha
       have hj:(join a (n.keys.getD (sib n i) ⟨#[]⟩) b).leaf=κ:=by
        unfold join
        rw[hab]
        simp only[bne_self_eq_false,Bool.false_eq_true,if_false]
        cases e:b.leaf with
        |true=>simp only[if_true];rw[<-hκ2,hab,e]
        |false=>simp only[Bool.false_eq_true,if_false];rw[<-hκ2,hab,e]
       cases h1:pSave room σ (n.kids.getD (sib n i) 0) (join a (n.keys.getD (sib n i) ⟨#[]⟩) b)with
       |mk r1 s1=>
        rw[h1]at h
        cases r1 with
        |error e=>simp at h
        |ok pg=>
         simp only[Prod.mk.injEq,Except.ok.injEq]at h
         obtain⟨rfl,rfl⟩:=h
         obtain⟨g1,g2⟩:=save_L hap h1
         obtain⟨g3,g4⟩:=drop_L g1 (n.kids.getD (sib n i+1) 0)
         rw[hj]at g2
         exact⟨g3,by omega,swap_leaf hl _ _ _ _⟩
theorem shrink_L:∀ (f:Nat) (σ:Pst) (id r:Int) (σ':Pst),ApS room used σ->pShrink disk f σ id=(.ok r,σ')->ApS room used σ'/\FL σ'<=FL σ
 |0,σ,id,r,σ',_,h=>by unfold pShrink at h;cases h
 |f+1,σ,id,r,σ',hap,h=>by
  unfold pShrink at h
  cases hv:σ.view disk id with
  |none=>rw[hv]at h;cases h
  |some n=>
   rw[hv]at h
   simp only at h
   split at h
   ·simp only[Prod.mk.injEq,Except.ok.injEq]at h
    obtain⟨rfl,rfl⟩:=h
    exact⟨hap,Nat.le_refl _⟩
   ·obtain⟨g1,g2⟩:=drop_L hap id
    obtain⟨g3,g4⟩:=shrink_L f _ _ r σ' g1 h
    exact⟨g3,by omega⟩
theorem grow_L:∀ (f:Nat) (σ:Pst) (p:Part) (r:Int) (σ':Pst),ApS room used σ->pGrow room disk f σ p=(.ok r,σ')->ApS room used σ'/\FL σ'<=FL σ
 |0,σ,p,r,σ',_,h=>by unfold pGrow at h;cases h
 |f+1,σ,p,r,σ',hap,h=>by
  unfold pGrow at h
  split at h
  ·cases h1:pStore room (p.1.length+1) σ 0 (mkInner p.1 p.2)with
   |mk r1 s1=>
    rw[h1]at h
    cases r1 with
    |error e=>simp at h
    |ok q=>
     simp only at h
     obtain⟨g1,g2⟩:=store_L _ σ 0 _ q s1 hap h1
     obtain⟨g3,g4⟩:=grow_L f s1 q r σ' g1 h
     refine⟨g3, ?_⟩
     simp only[mkInner,Bool.false_eq_true,if_false]at g2
     omega
  ·split at h
   ·simp only[Prod.mk.injEq,Except.ok.injEq]at h
    obtain⟨rfl,rfl⟩:=h
    exact⟨hap,Nat.le_refl _⟩
   ·exact shrink_L 24 σ _ r σ' hap h
theorem parts_two{v:Int->Option Node}{h:Nat}{lo hi:Option Str}{p:Part}{ids:List Int}{es:List En.Ent}{tok:Nat}{big:Prop}(q:PartsAt v h lo hi p ids es tok big):p.1.length<=2/\(p.1.length=1->p.2.length=0/\∃pg n,p.1= [pg]/\v pg=some n/\n.leaf=decide (h=0)):=by
 rcases q with⟨rfl,_,_⟩ | ⟨subs,q1,_,_,_,q5,_,q7,_⟩
 ·exact⟨by simp,fun h=>by simp at h⟩
 ·rw[q1,List.length_map]
  refine⟨q7,fun h1=> ?_⟩
  obtain⟨t,rfl⟩:∃t,subs= [t]:=List.length_eq_one_iff.1 h1
  have hl:=chain_len q5
  have hk:p.2= []:=List.eq_nil_of_length_eq_zero (by simpa using hl)
  rw[hk]at q5
  obtain⟨n,n1,_,n3⟩:=tr_node (chain_one.1 q5)
  exact⟨by rw[hk];rfl,t.id,n,rfl,n1,n3⟩
theorem change_L{g:List En.Ent->List En.Ent}{key:Str}(GO:GOp g key)(δ:Nat):∀ (h f:Nat) (σ:Pst) (lo hi:Option Str) (s:Sub) (p:Part) (σ':Pst),h<f->f<=24->ApS room used σ->Tr (σ.view disk) h lo hi s->s.ids.Nodup->(∀x∈s.ids,Use used σ x)->gtLo lo key->ltHi hi key->(g s.es).length<=s.es.length+δ->
  pChange room disk g key f σ s.id=(.ok p,σ')->ApS room used σ'/\FL σ'<=FL σ+(if h=0 then p.1.length else 2)
 |0,f+1,σ,lo,hi,s,p,σ',_,_,hap,ht,_,_,_,_,_,hc=>by
  unfold pChange at hc
  rw[ht.1]at hc
  simp only at hc
  rw[if_pos (show(mkLeaf s.es).leaf=true from rfl)]at hc
  have:=store_L _ σ s.id _ p σ' hap hc
  exact this
 |h+1,f+1,σ,lo,hi,s,p,σ',hf,hf24,hap,ht,hnd,huse,hk1,hk2,hd,hc=>by
  have G:=tr_good (σ.view disk) h
  have G1:=tr_good (σ.view disk) (h+1)
  have hrs:=G1.srt ht
  obtain⟨subs,keys,a1,a2,a3,a4,a5,a6,a7⟩:=ht
  have hlen:=chain_len a7
  have hci:=child_le keys key
  obtain⟨i,hi0⟩:∃i,i=child keys key:=⟨_,rfl⟩
  have hi':i<subs.length:=by omega
  unfold pChange at hc
  rw[a1]at hc
  simp only at hc
  rw[if_neg (show ¬ (mkInner (subs.map (·.id)) keys).leaf=true by simp[mkInner])]at hc
  rw[show(mkInner (subs.map (·.id)) keys).keys=keys from rfl, <-hi0,show(mkInner (subs.map (·.id)) keys).kids=subs.map (·.id)from rfl,getD_kid hi']at hc
  obtain⟨l,hh,ti,c1,c2,hrep,hloc,hcb⟩:=chain_at G a7 hi'
  obtain⟨kl,kh⟩:=hcb key hi0.symm hk1 hk2
  rw[a3,List.nodup_cons]at hnd
  obtain⟨hidn,hnd⟩:=hnd
  have hsp:subs=subs.take i++(subs[i]::subs.drop (i+1)):=by rw[<-List.drop_eq_getElem_cons,List.take_append_drop]
  have hidl:ids_ subs=ids_ (subs.take i)++((subs[i]).ids++ids_ (subs.drop (i+1))):=by
   conv=>lhs;rw[hsp]
   rw[ids_append,ids_cons]
  have hesl:es_ subs=es_ (subs.take i)++((subs[i]).es++es_ (subs.drop (i+1))):=by
   conv=>lhs;rw[hsp]
   rw[es_append,es_cons]
  have hi6:=a6 _ (List.getElem_mem hi')
  have hnd2:=hnd
  rw[hidl,List.nodup_append,List.nodup_append]at hnd2
  obtain⟨nd1,⟨nd2,nd3,nd4⟩,nd5⟩:=hnd2
  have hmi:∀x∈(subs[i]).ids,x∈ids_ subs:=fun x hx=>mem_ids (List.getElem_mem hi') hx
  have hui:∀x∈ids_ subs,Use used σ x:=fun x hx=>huse x (by rw[a3];exact List.mem_cons_of_mem _ hx)
  have hge:g s.es=es_ (subs.take i)++(g (subs[i]).es++es_ (subs.drop (i+1))):=by
   rw[a4,hesl]
   refine GO.loc _ _ _ (by rw[<-hesl, <-a4];exact hrs) (hloc key kl kh).1 (hloc key kl kh).2
  have hd2:(g (subs[i]).es).length<=(subs[i]).es.length+δ:=by
   have e1:=hd
   rw[hge,a4,hesl]at e1
   simp only[List.length_append]at e1
   omega
  have ok:=change_ok GO δ h f σ l hh subs[i] True (by omega) (by omega) hap ti nd2 (fun x hx=>hui x (hmi x hx)) kl kh (fun _=>hi6) hd2
  have ih:=fun p1 s1=>change_L GO δ h f σ l hh subs[i] p1 s1 (by omega) (by omega) hap ti nd2 (fun x hx=>hui x (hmi x hx)) kl kh hd2
  cases h1:pChange room disk g key f σ (subs[i]).id with
  |mk r1 s1=>
   rw[h1]at hc ok
   cases r1 with
   |error e=>simp at hc
   |ok p1=>
    simp only at hc
    obtain⟨g1,g2⟩:=ih p1 s1 h1
    have hq:p1.1.length<=2/\(p1.1.length=1->p1.2.length=0/\∃pg n,p1.1= [pg]/\s1.view disk pg=some n/\n.leaf=decide (h=0)):=by
     rcases ok with⟨p',ids',e1,_,_,_,q⟩ | ⟨e1,_,_⟩
     ·simp only[Except.ok.injEq]at e1
      subst e1
      exact parts_two q
     ·simp at e1
    obtain⟨q1,q2⟩:=hq
    have hkl1:(mkInner (subs.map (·.id)) keys).kids.length=subs.length:=List.length_map _
    have hsl:(swap (mkInner (subs.map (·.id)) keys) i (i+1) p1.1 p1.2).leaf=false:=swap_leaf rfl _ _ _ _
    have hfill:∀n2 s2,pFillIf room disk p1 s1 (swap (mkInner (subs.map (·.id)) keys) i (i+1) p1.1 p1.2) i (24-f)=(.ok n2,s2)->ApS room used s2/\FL s2<=FL σ+2/\n2.leaf=false:=fun n2 s2 hfi=>by
     unfold pFillIf at hfi
     split at hfi
     ·rename_i hcnd
      obtain⟨z1,pg,kd,z2,z3,z4⟩:=q2 hcnd.1
      have hsw:(swap (mkInner (subs.map (·.id)) keys) i (i+1) p1.1 p1.2).kids.getD i 0=pg:=by
       unfold swap
       rw[if_neg (by rw[hkl1,z1,z2];simp[mkInner];omega)]
       show((subs.map (·.id)).take i++p1.1++(subs.map (·.id)).drop (i+1)).getD i 0=pg
       rw[z2]
       have hti:((subs.map (·.id)).take i).length=i:=by rw[List.length_take,List.length_map];omega
       rw[List.getD_eq_getElem?_getD,List.append_assoc,List.getElem?_append_right (by omega),hti,Nat.sub_self]
       rfl
      obtain⟨b1,b2,b3⟩:=fill_L g1 hfi (decide (h=0)) (fun kid hk=>by
       rw[hsw,z3]at hk
       injection hk with hk
       rw[<-hk];exact z4) hcnd.2 hsl
      refine⟨b1, ?_,b3⟩
      by_cases h0:h=0
      ·rw[if_pos h0,hcnd.1]at g2
       have:oneB (decide (h=0))<=1:=by unfold oneB;split<;>omega
       omega
      ·rw[if_neg h0]at g2
       have:oneB (decide (h=0))=0:=by unfold oneB;rw[decide_eq_false h0];rfl
       omega
     ·simp only[Prod.mk.injEq,Except.ok.injEq]at hfi
      obtain⟨rfl,rfl⟩:=hfi
      refine⟨g1, ?_,hsl⟩
      by_cases h0:h=0
      ·rw[if_pos h0]at g2;omega
      ·rw[if_neg h0]at g2;omega
    cases h2:pFillIf room disk p1 s1 (swap (mkInner (subs.map (·.id)) keys) i (i+1) p1.1 p1.2) i (24-f)with
    |mk r2 s2=>
     rw[h2]at hc
     cases r2 with
     |error e=>simp at hc
     |ok n2=>
      simp only at hc
      obtain⟨b1,b2,b3⟩:=hfill n2 s2 h2
      obtain⟨d1,d2⟩:=store_L _ s2 s.id n2 p σ' b1 hc
      rw[b3]at d2
      simp only[Bool.false_eq_true,if_false]at d2
      exact⟨d1,by rw[if_neg (by omega)];omega⟩
theorem update_L{g:List En.Ent->List En.Ent}{key:Str}(GO:GOp g key)(hap:ApS room used σ){root r:Int}{es:List En.Ent}{tok:Nat}{ids:List Int}(hr:RootAt disk used σ root es tok ids)(ht:tok<=1000000)(δ:Nat)(hd:(g es).length<=es.length+δ)(hu:pUpdate room disk g key σ root=(.ok r,σ')):FL σ'<=FL σ+2:=by
 unfold pUpdate at hu
 cases h1:pFirst room disk g key σ root with
 |mk r1 s1=>
  rw[h1]at hu
  cases r1 with
  |error e=>simp at hu
  |ok p=>
   simp only at hu
   have hs:ApS room used s1/\FL s1<=FL σ+2:=by
    unfold pFirst at h1
    rcases hr with⟨rfl,rfl,rfl⟩ | ⟨h,s,rfl,rfl,rfl,q4,q5,q6,q7,q8⟩
    ·rw[if_pos rfl]at h1
     obtain⟨g1,g2⟩:=store_L _ σ 0 _ p s1 hap h1
     have hst:=store_leaf (disk:=disk) hap 0 (l:=g []) (lo:=none) (hi:=none) (tok:=tok+δ) (big:=False) (GO.right _ rfl) (fun x _=>⟨(fun a h=>by cases h),(fun a h=>by cases h)⟩) (by have:=GO.size [];simp[esize]at this ⊢;omega) (by simp at hd;omega)
     rw[h1]at hst
     have hp:p.1.length<=2:=by
      rcases hst with⟨p',ids',e1,_,_,_,q⟩ | ⟨e1,_,_⟩
      ·simp only[Except.ok.injEq]at e1
       subst e1
       exact(parts_two q).1
      ·simp at e1
     rw[if_pos (show(mkLeaf (g [])).leaf=true from rfl)]at g2
     exact⟨g1,by omega⟩
    ·have h8:=low_of q8 (by omega)
     have hz:s.id≠0:=fun e=>by
      have:=use_range hap (q7 s.id (tr_id q5))
      omega
     rw[if_neg hz]at h1
     obtain⟨g1,g2⟩:=change_L GO δ h 24 σ none none s p s1 (by omega) (by omega) hap q5 q6 q7 (fun a h=>by cases h) (fun a h=>by cases h) hd h1
     refine⟨g1, ?_⟩
     by_cases h0:h=0
     ·have ok:=change_ok GO δ h 24 σ none none s False (by omega) (by omega) hap q5 q6 q7 (fun a h=>by cases h) (fun a h=>by cases h) (fun h=>h.elim) hd
      rw[h1]at ok
      have hp:p.1.length<=2:=by
       rcases ok with⟨p',ids',e1,_,_,_,q⟩ | ⟨e1,_,_⟩
       ·simp only[Except.ok.injEq]at e1
        subst e1
        exact(parts_two q).1
       ·simp at e1
      rw[if_pos h0]at g2
      omega
     ·rw[if_neg h0]at g2;omega
   obtain⟨g1,g2⟩:=hs
   obtain⟨g3,g4⟩:=grow_L _ s1 p r σ' g1 hu
   omega
end
section
variable {room room':Int}{disk:Disk}{used:List Run}{σ σ1 σ2 σ':Pst}
theorem alloc_up(hr:room'<=room){x:Int × Pst}(h:pAlloc room' σ=some x):pAlloc room σ=some x:=by
 unfold pAlloc allocV at h ⊢
 cases hl:Rp.least σ.free with
 |some id=>rw[hl]at h;exact h
 |none=>
  rw[hl]at h
  simp only at h ⊢
  by_cases hp:room'<=σ.pages
  ·rw[if_pos hp]at h;cases h
  ·rw[if_neg hp]at h
   rw[if_neg (by omega)]
   exact h
theorem save_up(hr:room'<=room){id pg:Int}{n:Node}(h:pSave room' σ id n=(.ok pg,σ1)):pSave room σ id n=(.ok pg,σ1):=by
 unfold pSave at h ⊢
 split
 ·rename_i hf
  rw[if_pos hf]at h;simp at h
 ·rename_i hf
  rw[if_neg hf]at h
  split
  ·rename_i hm
   rw[if_pos hm]at h;exact h
  ·rename_i hm
   rw[if_neg hm]at h
   cases ha:pAlloc room' σ with
   |none=>rw[ha]at h;simp at h
   |some x=>rw[ha]at h;rw[alloc_up hr ha];exact h
theorem store_up(hr:room'<=room):∀ (f:Nat) (σ:Pst) (id:Int) (n:Node) (p:Part) (σ':Pst),pStore room' f σ id n=(.ok p,σ')->pStore room f σ id n=(.ok p,σ')
 |0,_,_,_,_,_,h=>by unfold pStore at h;cases h
 |f+1,σ,id,n,p,σ',h=>by
  unfold pStore at h ⊢
  split
  ·rename_i hn
   rw[if_pos hn]at h;exact h
  ·rename_i hn
   rw[if_neg hn]at h
   cases hc:cut n with
   |some o=>
    obtain⟨a,key,b⟩:=o
    rw[hc]at h
    simp only at h ⊢
    cases h1:pStore room' f σ id a with
    |mk r1 s1=>
     rw[h1]at h
     cases r1 with
     |error e=>simp at h
     |ok one=>
      simp only at h
      rw[store_up hr f σ id a one s1 h1]
      simp only
      cases h2:pStore room' f s1 0 b with
      |mk r2 s2=>
       rw[h2]at h
       cases r2 with
       |error e=>simp at h
       |ok two=>
        rw[store_up hr f s1 0 b two s2 h2]
        exact h
   |none=>
    rw[hc]at h
    simp only at h ⊢
    cases h1:pSave room' σ id n with
    |mk r1 s1=>
     rw[h1]at h
     cases r1 with
     |error e=>simp at h
     |ok pg=>rw[save_up hr h1];exact h
theorem fill_up(hr:room'<=room){n n':Node}{i d:Nat}(h:pFill room' disk σ n i d=(.ok n',σ')):pFill room disk σ n i d=(.ok n',σ'):=by
 unfold pFill at h ⊢
 split
 ·rename_i hd
  rw[if_pos hd]at h;cases h
 ·rename_i hd
  rw[if_neg hd]at h
  cases hk:σ.view disk (n.kids.getD i 0)with
  |none=>rw[hk]at h;cases h
  |some kid=>
   rw[hk]at h
   simp only at h ⊢
   split
   ·rename_i hz
    rw[if_pos hz]at h;exact h
   ·rename_i hz
    rw[if_neg hz]at h
    cases ha:σ.view disk (n.kids.getD (sib n i) 0)with
    |none=>rw[ha]at h;cases h
    |some a=>
     rw[ha]at h
     simp only at h ⊢
     cases hb:σ.view disk (n.kids.getD (sib n i+1) 0)with
     |none=>rw[hb]at h;cases h
     |some b=>
      rw[hb]at h
      simp only at h ⊢
      split
      ·rename_i hq
       rw[if_pos hq]at h;exact h
      ·rename_i hq
       rw[if_neg hq]at h
       cases h1:pSave room' σ (n.kids.getD (sib n i) 0) (join a (n.keys.getD (sib n i) ⟨#[]⟩) b)with
       |mk r1 s1=>
        rw[h1]at h
        cases r1 with
        |error e=>simp at h
        |ok pg=>rw[save_up hr h1];exact h
theorem fillIf_up(hr:room'<=room){p:Part}{n n':Node}{i d:Nat}(h:pFillIf room' disk p σ n i d=(.ok n',σ')):pFillIf room disk p σ n i d=(.ok n',σ'):=by
 unfold pFillIf at h ⊢
 split
 ·rename_i hc
  rw[if_pos hc]at h;exact fill_up hr h
 ·rename_i hc
  rw[if_neg hc]at h;exact h
theorem change_up(hr:room'<=room){g:List En.Ent->List En.Ent}{key:Str} :∀ (f:Nat) (σ:Pst) (id:Int) (p:Part) (σ':Pst),pChange room' disk g key f σ id=(.ok p,σ')->pChange room disk g key f σ id=(.ok p,σ')
 |0,_,_,_,_,h=>by unfold pChange at h;cases h
 |f+1,σ,id,p,σ',h=>by
  unfold pChange at h ⊢
  cases hv:σ.view disk id with
  |none=>rw[hv]at h;cases h
  |some n=>
   rw[hv]at h
   simp only at h ⊢
   split
   ·rename_i hl
    rw[if_pos hl]at h;exact store_up hr _ _ _ _ _ _ h
   ·rename_i hl
    rw[if_neg hl]at h
    cases h1:pChange room' disk g key f σ (n.kids.getD (child n.keys key) 0)with
    |mk r1 s1=>
     rw[h1]at h
     cases r1 with
     |error e=>simp at h
     |ok p1=>
      simp only at h
      rw[change_up hr f σ _ p1 s1 h1]
      simp only
      cases h2:pFillIf room' disk p1 s1 (swap n (child n.keys key) (child n.keys key+1) p1.1 p1.2) (child n.keys key) (24-f)with
      |mk r2 s2=>
       rw[h2]at h
       cases r2 with
       |error e=>simp at h
       |ok n2=>
        simp only at h
        rw[fillIf_up hr h2]
        exact store_up hr _ _ _ _ _ _ h
theorem grow_up(hr:room'<=room):∀ (f:Nat) (σ:Pst) (p:Part) (r:Int) (σ':Pst),pGrow room' disk f σ p=(.ok r,σ')->pGrow room disk f σ p=(.ok r,σ')
 |0,_,_,_,_,h=>by unfold pGrow at h;cases h
 |f+1,σ,p,r,σ',h=>by
  unfold pGrow at h ⊢
  split
  ·rename_i hc
   rw[if_pos hc]at h
   cases h1:pStore room' (p.1.length+1) σ 0 (mkInner p.1 p.2)with
   |mk r1 s1=>
    rw[h1]at h
    cases r1 with
    |error e=>simp at h
    |ok q=>
     simp only at h
     rw[store_up hr _ _ _ _ _ _ h1]
     exact grow_up hr f s1 q r σ' h
  ·rename_i hc
   rw[if_neg hc]at h
   exact h
theorem update_up(hr:room'<=room){g:List En.Ent->List En.Ent}{key:Str}{root r:Int}(h:pUpdate room' disk g key σ root=(.ok r,σ')):pUpdate room disk g key σ root=(.ok r,σ'):=by
 unfold pUpdate at h ⊢
 cases h1:pFirst room' disk g key σ root with
 |mk r1 s1=>
  rw[h1]at h
  cases r1 with
  |error e=>simp at h
  |ok p=>
   simp only at h
   have h2:pFirst room disk g key σ root=(.ok p,s1):=by
    unfold pFirst at h1 ⊢
    split
    ·rename_i hz
     rw[if_pos hz]at h1;exact store_up hr _ _ _ _ _ _ h1
    ·rename_i hz
     rw[if_neg hz]at h1;exact change_up hr _ _ _ _ _ h1
   rw[h2]
   exact grow_up hr _ _ _ _ _ h
theorem low_of4{h t:Nat}(h1:h=0\/2*6 ^ (h-1)<=t)(h2:t<=1000):h<=4:=by
 by_cases hh:h<=4
 ·exact hh
 ·rcases h1 with h1 | h1
  ·omega
  ·have:6 ^ 4<=6 ^ (h-1):=Nat.pow_le_pow_right (by decide) (by omega)
   have e:(6:Nat) ^ 4=1296:=by decide
   omega
theorem update_ok16{g:List En.Ent->List En.Ent}{key:Str}(GO:GOp g key)(hap:ApS room used σ){root:Int}{es:List En.Ent}{tok:Nat}{ids:List Int}(hr:RootAt disk used σ root es tok ids)(ht:tok<=1000)(δ:Nat)(hd:(g es).length<=es.length+δ):
  Res room disk used σ (fun x=>x∈ids) 16 (pUpdate room disk g key σ root) (fun root' σ' ids'=>RootAt disk used σ' root' (g es) (tok+δ) ids'):=by
 have hfirst:∃h,h<=20/\Res room disk used σ (fun x=>x∈ids) 15 (pFirst room disk g key σ root) (fun p σ' ids=>PartsAt (σ'.view disk) h none none p ids (g es) (tok+δ) False):=by
  unfold pFirst
  rcases hr with⟨rfl,rfl,rfl⟩ | ⟨h,s,rfl,rfl,rfl,q4,q5,q6,q7,q8⟩
  ·refine⟨0,by omega, ?_⟩
   rw[if_pos rfl]
   have hst:=store_leaf (disk:=disk) hap 0 (l:=g []) (lo:=none) (hi:=none) (tok:=tok+δ) (big:=False) (GO.right _ rfl) (fun x _=>⟨(fun a h=>by cases h),(fun a h=>by cases h)⟩) (by have:=GO.size [];simp[esize]at this ⊢;omega) (by simp at hd;omega)
   rcases hst with⟨a,ids1,e1,s1,n1,l1,q⟩ | ⟨e1,s1,l1⟩
   ·exact .inl ⟨a,ids1,e1,s1.shrink (fun x hx _ hu=>no_zero hap (by omega) hu) (fun x hx=>by simp at hx),n1,by omega,q⟩
   ·exact .inr ⟨e1,s1,by omega⟩
  ·have h8:=low_of4 q8 (by omega)
   have hz:s.id≠0:=fun e=>by
    have:=use_range hap (q7 s.id (tr_id q5))
    omega
   refine⟨h,by omega, ?_⟩
   rw[if_neg hz]
   have hc:=change_ok GO δ h 24 σ none none s False (by omega) (by omega) hap q5 q6 q7 (fun a h=>by cases h) (fun a h=>by cases h) (fun h=>h.elim) hd
   refine hc.mono (fun _=>Iff.rfl) (by omega) fun p σ' ids1 hq=> ?_
   rcases hq with h1 | ⟨subs,w1,w2,w3,w4,w5⟩
   ·exact .inl h1
   ·exact .inr ⟨subs,w1,w2,w3,by omega,w5⟩
 obtain⟨h,hh,hf⟩:=hfirst
 unfold pUpdate
 generalize pFirst room disk g key σ root=r at*
 obtain⟨r,σ1⟩:=r
 rcases hf with⟨p,ids1,e1,s1,n1,l1,q⟩ | ⟨e1,s1,l1⟩
 ·simp only at e1 s1 l1 q
  subst e1
  simp only
  have hg:=grow_ok s1.ap q hh n1 (fun x hx=>s1.got hx)
  rcases hg with⟨a,ids2,e2,s2,n2,l2,q2⟩ | ⟨e2,s2,l2⟩
  ·exact .inl ⟨a,ids2,e2,s1.then_ s2,n2,by omega,q2⟩
  ·exact .inr ⟨e2,s2,by omega⟩
 ·simp only at e1 s1 l1
  subst e1
  exact .inr ⟨rfl,s1,by omega⟩
theorem ap_room(h:ApS room used σ)(h1:σ.pages<=room')(h2:room'<=100000):ApS room' used σ:=
 { h with pg:=⟨h.pg.1,h1,h2⟩ }
theorem update_room{g:List En.Ent->List En.Ent}{key:Str}(GO:GOp g key)(hap:ApS room used σ){root:Int}{es:List En.Ent}{tok:Nat}{ids:List Int}(hr:RootAt disk used σ root es tok ids)(ht:tok<=1000)(δ:Nat)(hd:(g es).length<=es.length+δ)(hm:((Rp.nums used).length:Int)+σ.mine.length+19<=room):
  ∃root' σ' ids',pUpdate room disk g key σ root=(.ok root',σ')/\Step room disk used σ (fun x=>x∈ids) σ' (fun x=>x∈ids')/\ids'.Nodup/\RootAt disk used σ' root' (g es) (tok+δ) ids'/\σ'.pages<=max σ.pages (((Rp.nums used).length:Int)+σ.mine.length+19)/\FL σ'<=FL σ+2:=by
 obtain⟨R,hR⟩:∃R:Int,R=max σ.pages (((Rp.nums used).length:Int)+σ.mine.length+19):=⟨_,rfl⟩
 have hpg:=hap.pg
 have hRr:R<=room:=by omega
 have hap':=ap_room (room':=R) hap (by omega) (by omega)
 have h1:=update_ok16 GO hap' hr ht δ hd
 have h2:=update_ok16 GO hap hr ht δ hd
 rcases h1 with⟨r1,i1,e1,s1,_,_,_⟩ | ⟨_,_,l1⟩
 ·have eq1:pUpdate R disk g key σ root=(.ok r1,(pUpdate R disk g key σ root).2):=by rw[<-e1]
  have eq2:=update_up hRr eq1
  have hFL:=update_L GO hap hr (by omega) δ hd eq2
  rcases h2 with⟨r2,i2,e2,s2,n2,_,q2⟩ | ⟨e2,_,_⟩
  ·rw[eq2]at e2 s2 q2
   simp only[Except.ok.injEq]at e2
   subst e2
   exact⟨r1,_,i2,eq2,s2,n2,q2,by have:=s1.ap.pg.2.1;omega,hFL⟩
  ·rw[eq2]at e2;simp at e2
 ·exfalso
  unfold spare at l1
  omega
end
end Tp
namespace Go.Proofs.YtjoiajmbfbjnnaaGreatDoor
open Go.RowKit Go.Shelf Go.Maps
section
variable {F F':FFile}{n:Nat}{a:TAd}{used:List Run}{disk:Tp.Disk}{root:Int}{σ:Tp.Pst}{ids:List Int}{es:List Ent}{tok r:Nat}{w w':World}
def Topp(used:List Run)(σ:Tp.Pst):Int:=((Rp.nums used).length:Int)+σ.mine.length+19
theorem fst_put_r(h:FSt F n a used disk root σ ids es tok (r+240) w){k v:ByteArray}(hm:En.may k v=true)(ht:tok+1<=1000)(hroom:Topp used σ<=max (n:Int) 2):
  Calls Tryz.prog 27 #[.pointer (some ⟨a.u,0,none⟩), .string k, .string v] w fun e w'=>e= .returned (.int .i64 0)/\(∃root' σ' ids',FSt F n a used disk root' σ' ids' (En.put es k v) (tok+dput es k) r w'/\σ'.pages<=max σ.pages (Topp used σ)/\Tp.FL σ'<=Tp.FL σ+2)/\Fr (FU F a) w w':=by
 have hg:=gPut_eq h.rt.right hm
 have hd:=dput_le es k
 obtain⟨root',σ',ids',e1,s1,n1,q1,p1,l1⟩:=Tp.update_room (room:=max (n:Int) 2) (Tp.gPut_op hm) h.ap h.rt (by omega) (dput es k) (by rw[hg];exact eput_len es) hroom
 have h3:(Tp.pUpdate (max (n:Int) 2) disk (Tp.gPut k v) k σ root).1≠ .error 3:=by rw[e1];simp
 refine(ctput_may h.mach a.u root k v hm r σ h3 w h.on).mono ?_
 rintro e w' ⟨hres,hf⟩
 rw[e1]at hres
 rcases hres with⟨p,hp,rfl,ho⟩ | ⟨hp,_⟩
 ·injection hp with hp
  subst hp
  refine⟨rfl,⟨root',σ',ids',⟨ho,h.hd,by rw[<-hg];exact q1,fun x hx=> ?_,by have:=h.tl;omega⟩,p1,l1⟩,hf⟩
  rcases(s1.mem x).1 hx with⟨a1,a2⟩ | ⟨a1,_⟩
  ·exact absurd (h.mine x a1) a2
  ·exact a1
 ·cases hp
theorem fst_del_r(h:FSt F n a used disk root σ ids es tok (r+288) w)(k:ByteArray)(ht:tok<=1000)(hroom:Topp used σ<=max (n:Int) 2):
  Calls Tryz.prog 67 #[.pointer (some ⟨a.u,0,none⟩), .string k] w fun e w'=>∃b:Bool,e= .returned (.tuple #[.bool b, .int .i64 0])/\(∃root' σ' ids',FSt F n a used disk root' σ' ids' (En.del es k) tok r w'/\σ'.pages<=max σ.pages (Topp used σ)/\Tp.FL σ'<=Tp.FL σ+2)/\Fr (FU F a) w w':=by
 have hfd:=h.find k
 cases hgk:En.get es k with
 |none=>
  rw[hgk]at hfd
  refine(tdel_none h.mach a.u root k (r+240) σ hfd w h.on).mono ?_
  rintro e w' ⟨rfl,ho,hf⟩
  refine⟨false,rfl,⟨root,σ,ids, ?_,by omega,by omega⟩,hf.more fun _=> .inl⟩
  rw[del_none_ hgk]
  exact(h.with_ ho).less (by omega)
 |some v=>
  rw[hgk]at hfd
  have hg:=gDel_eq (k:=k) h.rt.right
  obtain⟨root',σ',ids',e1,s1,n1,q1,p1,l1⟩:=Tp.update_room (room:=max (n:Int) 2) (Tp.gDel_op k) h.ap h.rt (by omega) 0 (by rw[hg];exact del_len es k) hroom
  have h3:(Tp.pUpdate (max (n:Int) 2) disk (Tp.gDel k) k σ root).1≠ .error 3:=by rw[e1];simp
  refine(tdel_some h.mach a.u root k v r σ hfd h3 w h.on).mono ?_
  rintro e w' ⟨hres,hf⟩
  rw[e1]at hres
  rcases hres with⟨p,hp,rfl,ho⟩ | ⟨hp,_⟩
  ·injection hp with hp
   subst hp
   refine⟨true,rfl,⟨root',σ',ids',⟨ho,h.hd,by rw[<-hg];exact q1,fun x hx=> ?_,by have:=h.tl;omega⟩,p1,l1⟩,hf⟩
   rcases(s1.mem x).1 hx with⟨a1,a2⟩ | ⟨a1,_⟩
   ·exact absurd (h.mine x a1) a2
   ·exact a1
  ·cases hp
def KeepL(w w':World):Prop:=∀ (α:Type) (E:Enc α) (ty:TypeId) (base:Nat) (v:Value) (l:List α),LO E ty w base v l->(ty=34\/ty=3\/ty=28)->LO E ty w' base v l
theorem KeepL.trans{w'':World}(h:KeepL w w')(h2:KeepL w' w''):KeepL w w'':=fun α E ty base v l hl ht=>h2 α E ty base v l (h α E ty base v l hl ht) ht
theorem KeepL.of(h:Below w.heap.size w w'):KeepL w w':=fun _ _ _ _ _ _ hl _=>hl.below h
theorem FSt.keepL(h:FSt F n a used disk root σ ids es tok r w)(hf:Fr (FU F a) w w'):KeepL w w':=fun α E ty base v l hl ht=>lo_frb hl hf fun g hg=>by
 obtain⟨cs,hB,_⟩:=hl.blk_ hg
 obtain⟨R,_,_,hA⟩:=h.on.tm.file
 obtain⟨D,⟨_,⟨v,hT,_⟩,es',c',hm,_⟩,_⟩:=h.on.tm.mem.txn
 rintro((e | e | e) | e)
 ·exact hB.ne_ hT (by rcases ht with rfl | rfl | rfl<;>decide) e
 ·subst e
  unfold Blk at hB
  rw[hm]at hB;cases hB
 ·exact hB.ne_ hA.disk.self (by rcases ht with rfl | rfl | rfl<;>decide) e
 ·exact hB.ne_ h.on.self (by rcases ht with rfl | rfl | rfl<;>decide) e
theorem FlD2.keepL{F':FFile}{disk':Tp.Disk}{N:Nat}(h:FlD2 F n a disk root σ ids es tok N r w F' disk' w'):KeepL w w':=fun α E ty base v l hl ht=>h.row α E ty base v l hl (by rcases ht with rfl | rfl | rfl<;>decide) (by rcases ht with rfl | rfl | rfl<;>decide) (by rcases ht with rfl | rfl | rfl<;>decide)
theorem FReady.nblk{N:Nat}(h:FReady F n disk N r w){g:Nat}{ty:TypeId}{cs:Array Value}(hB:Blk w g ty cs)(h1:ty≠121)(h2:ty≠132)(h3:ty≠9)(h4:ty≠168):¬F.Blks g:=fun hg=>by
 obtain⟨R,_,_,hA⟩:=h.file
 rcases hg with e | e | e | e | e
 ·exact hB.ne_ hA.self h1 e
 ·exact hB.ne_ hA.disk.self h2 e
 ·exact hB.ne_ hA.disk.sure h3 e
 ·subst e
  obtain⟨es',c',hm,_⟩:=hA.disk.map
  unfold Blk at hB
  rw[hm]at hB;cases hB
 ·obtain⟨cs',hB',_⟩:=hA.disk.pend.blk_ e
  exact hB.ne_ hB' h4 rfl
theorem FReady.fr{N:Nat}{S:Nat->Prop}(h:FReady F n disk N r w)(hf:Fr S w w')(hS:∀g,F.Blks g->¬S g)(h0:¬S 0):FReady F n disk N r w':=by
 obtain⟨h1,⟨R,r1,r2,r3⟩,h3,h4,h5⟩:=h
 exact⟨h1,⟨R,r1,r2,r3.fr hf hS⟩,h3.fr hf h0,h4,Nat.le_trans h5 hf.size⟩
theorem nums_minus{P:Int}(hP:2<=P)(l:List Run):((Rp.nums (Rp.minus [(2,P-1)] l)).length:Int)<=P-2:=by
 have h1:=Rp.minus_ok [(2,P-1)] l
 have hnd:=Rp.nums_nodup _ _ h1.1
 have hsub:Rp.nums (Rp.minus [(2,P-1)] l) ⊆ (List.range (P-2).toNat).map (fun i:Nat=>(2:Int)+(i:Int)):=fun x hx=>by
  have h2:=((h1.2 x).1 (Rp.mem_nums.1 hx)).2.2.1
  have h3:=Rp.mem_two.1 h2
  exact List.mem_map.2 ⟨(x-2).toNat,List.mem_range.2 (by omega),by omega⟩
 have:=List.Nodup.length_le_of_subset hnd hsub
 simp at this
 omega
end
section
variable {w0 W W':World}{F:FFile}{n:Nat}{a:TAd}{used:List Run}{disk:Tp.Disk}{P:Int}{D T K k b0 R0:Nat}{es:List Ent}
structure InG(w0:World)(F:FFile)(n:Nat)(a:TAd)(used:List Run)(disk:Tp.Disk)(P:Int)(D T K k b0 R0:Nat)(es:List Ent)(W:World):Prop where
 at_:∃root σ ids tok,FSt F n a used disk root σ ids es tok (288*(K-k)+R0) W/\tok<=T+k/\σ.pages<=P+D
 hF:∀x,FU F a x->w0.heap.size<=x
 low:∀x,FU F a x->x<b0
 hb:b0<=W.heap.size
 below:Below w0.heap.size w0 W
theorem InG.up(h:InG w0 F n a used disk P D T K k b0 R0 es W)(hb:Below W.heap.size W W'):InG w0 F n a used disk P D T K k b0 R0 es W':=by
 obtain⟨⟨root,σ,ids,tok,h1,h2⟩,h3,h4,h5,h6⟩:=h
 exact⟨⟨root,σ,ids,tok,h1.below hb,h2⟩,h3,h4,Nat.le_trans h5 hb.size,h6.trans (hb.mono h6.size)⟩
theorem InG.skip(h:InG w0 F n a used disk P D T K k b0 R0 es W):InG w0 F n a used disk P D T K (k+1) b0 R0 es W:=by
 obtain⟨⟨root,σ,ids,tok,h1,h2,h2'⟩,h3,h4,h5,h6⟩:=h
 exact⟨⟨root,σ,ids,tok,h1.less (by omega),by omega,h2'⟩,h3,h4,h5,h6⟩
theorem ing_topp{root:Int}{σ:Tp.Pst}{ids:List Int}{tok r:Nat}(h1:FSt F n a used disk root σ ids es tok r W)(h2:tok<=T+k)(hk:k<K)(hD:6*(T+K)+90<=5*D)(hu:((Rp.nums used).length:Int)<=P-2):Topp used σ<=P+D:=by
 have m2:=h1.rt.few
 have m3:=h1.mineLen
 unfold Topp
 omega
def IgEnd(w0:World)(F:FFile)(n:Nat)(a:TAd)(used:List Run)(disk:Tp.Disk)(P:Int)(D T K k b0 R0:Nat)(es:List Ent)(W W':World):Prop:=InG w0 F n a used disk P D T K k b0 R0 es W'/\Fr (FU F a) W W'/\KeepL W W'
theorem ing_put(h:InG w0 F n a used disk P D T K k b0 R0 es W)(hk:k<K)(hT:T+K<=1000)(hD:6*(T+K)+90<=5*D)(hu:((Rp.nums used).length:Int)<=P-2)(hn:P+D<=n){s v:ByteArray}(hm:En.may s v=true):
  Calls Tryz.prog 27 #[.pointer (some ⟨a.u,0,none⟩), .string s, .string v] W fun e W'=>e= .returned (.int .i64 0)/\IgEnd w0 F n a used disk P D T K (k+1) b0 R0 (En.put es s v) W W':=by
 obtain⟨⟨root,σ,ids,tok,h1,h2,h2'⟩,h3,h4,h5,h6⟩:=h
 have ht:=ing_topp h1 h2 hk hD hu
 refine(fst_put_r (r:=288*(K-(k+1))+R0) (h1.less (by omega)) hm (by omega) (by omega)).mono ?_
 rintro e W' ⟨rfl,⟨root',σ',ids',g1,g2,g3⟩,f⟩
 have hd:=dput_le es s
 exact⟨rfl,⟨⟨root',σ',ids',_,g1,by omega,by omega⟩,h3,h4,Nat.le_trans h5 f.size,h6.trans (f.low h6.size h3)⟩,f,h1.keepL f⟩
theorem ing_del(h:InG w0 F n a used disk P D T K k b0 R0 es W)(hk:k<K)(hT:T+K<=1000)(hD:6*(T+K)+90<=5*D)(hu:((Rp.nums used).length:Int)<=P-2)(hn:P+D<=n)(s:ByteArray):
  Calls Tryz.prog 67 #[.pointer (some ⟨a.u,0,none⟩), .string s] W fun e W'=>∃b:Bool,e= .returned (.tuple #[.bool b, .int .i64 0])/\IgEnd w0 F n a used disk P D T K (k+1) b0 R0 (En.del es s) W W':=by
 obtain⟨⟨root,σ,ids,tok,h1,h2,h2'⟩,h3,h4,h5,h6⟩:=h
 have ht:=ing_topp h1 h2 hk hD hu
 refine(fst_del_r (r:=288*(K-(k+1))+R0) (h1.less (by omega)) s (by omega) (by omega)).mono ?_
 rintro e W' ⟨b,rfl,⟨root',σ',ids',g1,g2,g3⟩,f⟩
 exact⟨b,rfl,⟨⟨root',σ',ids',_,g1,by omega,by omega⟩,h3,h4,Nat.le_trans h5 f.size,h6.trans (f.low h6.size h3)⟩,f,h1.keepL f⟩
theorem InG.start{root:Int}{σ:Tp.Pst}{ids:List Int}{tok:Nat}(h:FSt F n a used disk root σ ids es tok (288*(K-0)+R0) W)(ht:tok<=T)(hp:σ.pages<=P)(hF:∀x,FU F a x->w0.heap.size<=x)(hb:Below w0.heap.size w0 W):InG w0 F n a used disk P D T K 0 W.heap.size R0 es W:=
 ⟨⟨root,σ,ids,tok,h,by omega,by omega⟩,hF,h.low,Nat.le_refl _,hb⟩
end
end Go.Proofs.YtjoiajmbfbjnnaaGreatDoor
namespace Go.Proofs.YtjoiajmbfbjnnaaGreatDoor
open Go.RowKit
end Go.Proofs.YtjoiajmbfbjnnaaGreatDoor
namespace Go.Proofs.YtjoiajmbfbjnnaaGreatDoor
open Go.RowKit Go.Shelf Go.Maps
end Go.Proofs.YtjoiajmbfbjnnaaGreatDoor
namespace Go.Proofs.YtjoiajmbfbjnnaaGreatDoor
open Go.RowKit
abbrev Dl:=En.Dl
theorem LO.last{α:Type}{E:Enc α}{ty:TypeId}{w:World}{base:Nat}{v:Value}{l:List α}{x:α}(h:LO E ty w base v (l++ [x])):∃g c,v= .slice (some ⟨g,0,none⟩) (l.length+1) c/\base<=g/\g<w.heap.size/\l.length+1<=c/\(∀j,j<E.size->w.cell? ⟨g,l.length*E.size+j,none⟩=(E.enc x)[j]?)/\LO E ty w base (.slice (some ⟨g,0,none⟩) l.length c) l:=by
 rcases h.2 with⟨rfl,h0⟩ | ⟨g,cap,cur,rfl,hg,hh,hnc,hcm,hcs,htk⟩
 ·simp at h0
 ·have hlen:(l++ [x]).length=l.length+1:=by simp
  rw[hlen]at hnc htk ⊢
  have hlt:g<w.heap.size:=(Array.getElem?_eq_some_iff.1 hh).1
  refine⟨g,cap,rfl,hg,hlt,hnc,fun j hj=> ?_,⟨E.cells_length l, .inr ⟨g,cap,cur,rfl,hg,hh,by omega,hcm,hcs, ?_⟩⟩⟩
  ·have h1:=E.cells_at (l++ [x]) l.length (by simp) j hj
   rw[List.getElem_append_right (Nat.le_refl _)]at h1
   simp only[Nat.sub_self,List.getElem_cons_zero]at h1
   rw[<-h1, <-htk,List.getElem?_take,if_pos (by rw[Nat.succ_mul];omega),cell_of_row w g _ cur ty (0,0) hh]
   simp
  ·have e2:cur.toList.take (l.length*E.size)=(cur.toList.take ((l.length+1)*E.size)).take (l.length*E.size):=by
    rw[List.take_take,Nat.min_eq_left (Nat.mul_le_mul_right _ (by omega))]
   rw[e2,htk,E.cells_take,List.take_left]
end Go.Proofs.YtjoiajmbfbjnnaaGreatDoor
namespace En
def turn(d:Dl):Dl:=⟨d.key,d.new,d.old,d.is,d.was⟩
end En
namespace Td
open Nd En Tp
structure It where
 pg:Int
 d:Nat
 key:Str
 val:Str
def x2(x:It):Ent:=(x.key,x.val)
def ItAt(v:Int->Option Node)(x:It)(l:List Ent)(m:Nat):Prop:=
 (x.pg=0/\l= [x2 x]/\m=1)\/∃h s hi,x.pg=s.id/\0<x.pg/\Tr v h (some x.key) hi s/\(∀i∈s.ids,0<i)/\x.d+h<24/\l=s.es/\m=s.ids.length+s.es.length
def Sd(v:Int->Option Node):List It->List Ent->Nat->Prop
 | [],L,m=>L= []/\m=0
 |x::a,L,m=>∃l L' k m',L=l++L'/\m=k+m'/\ItAt v x l k/\Sd v a L' m'
end Td
namespace Go.Proofs.YtjoiajmbfbjnnaaGreatDoor
open Go.RowKit
abbrev It:=Td.It
end Go.Proofs.YtjoiajmbfbjnnaaGreatDoor
namespace Td
open Nd En Tp
variable {v v':Int->Option Node}
def Run(v:Int->Option Node)(W:List Dl)(a b:List It)(o:List Dl)(m:Nat):Prop:=∃A B m1 m2,Sd v a A m1/\Sd v b B m2/\Srt A/\Srt B/\o++mergeD A B=W/\m1+m2=m
end Td
namespace Td
open Nd En Tp
end Td
namespace Go.Proofs.YtjoiajmbfbjnnaaGreatDoor
open Go.RowKit Go.Shelf
theorem Fr.cell{S:Nat->Prop}{w w':World}(h:Fr S w w'){p:Addr}(hp:p.block<w.heap.size)(hn:¬S p.block):w'.cell? p=w.cell? p:=World.cell?_of_block (h.block _ hp hn)
def BadGet(S:Nat->Prop)(t:Nat)(TM:Nat->Tp.Pst->World->Prop)(bad:Int->Prop):Prop:=
 ∀ {r σ w id},TM (r+1) σ w->bad id->∀k:Nat,k=1\/k=2->Calls Tryz.prog 146 #[.pointer (some ⟨t,0,none⟩), .int .i64 id, .int .u8 k] w fun e w'=>e= .returned (.tuple #[.string ⟨#[]⟩, .int .i64 3])/\TM r σ w'/\Fr S w w'
section
variable {S:Nat->Prop}{B t:Nat}{room:Int}{disk:Tp.Disk}{TM:Nat->Tp.Pst->World->Prop}{bad:Int->Prop}
def GetS(S:Nat->Prop)(t:Nat)(TM:Nat->Tp.Pst->World->Prop)(r:Nat)(σ:Tp.Pst)(id:Int)(k:Nat)(s:ByteArray)(z:Int):Prop:=
 ∀w,TM (r+1) σ w->Calls Tryz.prog 146 #[.pointer (some ⟨t,0,none⟩), .int .i64 id, .int .u8 k] w fun e w'=>e= .returned (.tuple #[.string s, .int .i64 z])/\TM r σ w'/\Fr S w w'
end
def off(s:Bool):Nat:=if s then 2 else 0
end Go.Proofs.YtjoiajmbfbjnnaaGreatDoor
namespace Go.Proofs.YtjoiajmbfbjnnaaGreatDoor
open Go.RowKit Go.Shelf Go.Maps
section
variable {w0 W W':World}{f0 d0 n N r t:Nat}{disk:Tp.Disk}{P P' root:Int}{es:List Ent}{tok:Nat}{ids:List Int}
structure Stg(w0:World)(f0 d0 n N r:Nat)(disk:Tp.Disk)(P:Int)(W:World):Prop where
 ex:∃F:FFile,F.f=f0/\F.d=d0/\F.k+1000<maxLen/\FReady F n disk N r W/\w0.heap.size<=F.B
 low:LowD disk [] P
 p:2<=P/\P<=n
 below:Below w0.heap.size w0 W
structure Beg(w0:World)(f0 d0 n N r t:Nat)(disk:Tp.Disk)(P:Int)(W:World):Prop where
 ex:∃ (F:FFile) (B m:Nat),F.f=f0/\F.d=d0/\F.k+1000<maxLen/\FOn F n disk N/\TMd F B t m n (Rp.minus [(2,P-1)] []) disk r (Tp.start [] P) W/\F.d<B/\w0.heap.size<=m/\w0.heap.size<=F.B
 tl:w0.heap.size<=t
 low:LowD disk [] P
 p:2<=P/\P<=n
 below:Below w0.heap.size w0 W
theorem stg_new(h:Stg w0 f0 d0 n N r disk P W)(hN:N<1000000):
  Calls Tryz.prog 20 #[.pointer (some ⟨f0,0,none⟩), .slice none 0 0, .int .i64 P] W fun e w'=>∃t,e= .returned (.pointer (some ⟨t,0,none⟩))/\Beg w0 f0 d0 n N r t disk P w'/\Below W.heap.size W w':=by
 obtain⟨⟨F,rfl,rfl,hk,hr,hB⟩,hl,hp,hb⟩:=h
 refine(fr_begin hr hN none 0 [] P P (by unfold pagesN;omega) RS.nil_ (Nat.zero_le _) hl).mono ?_
 rintro e w' ⟨t,m,rfl,hM,⟨q1,q2,q3⟩,b⟩
 exact⟨t,rfl,⟨⟨F,_,m,rfl,rfl,hk,hr.on,hM,q3,Nat.le_trans hb.size q2,hB⟩,Nat.le_trans hb.size q1,hl,hp,hb.trans (b.mono hb.size)⟩,b⟩
theorem FSt.oldv{F:FFile}{a:TAd}{used:List Run}{σ:Tp.Pst}{ids':List Int}{root':Int}{es':List Ent}{tok':Nat}(h:FSt F n a used disk root σ ids es tok r W)(hv:Tp.VerAt disk root' es' tok' ids'):Tp.VerAt (σ.view disk) root' es' tok' ids'/\∀x∈ids',0<x:=by
 refine⟨hv.congr fun x hx=> ?_,fun x hx=> ?_⟩<;>obtain⟨y,hy⟩:=hv.some_ x hx
 ·exact Tp.view_used h.ap (h.on.tm.on.page x y hy).2.1
 ·have:=h.ap.hu x (h.on.tm.on.page x y hy).2.1
  omega
theorem FSt.newv{F:FFile}{a:TAd}{used:List Run}{σ:Tp.Pst}(h:FSt F n a used disk root σ ids es tok r W):Tp.VerAt (σ.view disk) root es tok ids/\∀x∈ids,0<x:=
 ⟨h.rt.ver fun _ _=>rfl,fun x hx=>by have:=Tp.use_range (room:=max (n:Int) 2) h.ap (h.rt.uses x hx);omega⟩
theorem ver_few{v:Int->Option Nd.Node}(h:Tp.VerAt v root es tok ids):5*ids.length<=6*tok+5/\es.length<=tok/\En.Srt es:=by
 rcases h with⟨_,rfl,rfl⟩ | ⟨hh,s,rfl,rfl,rfl,h1,h2,h3,h4⟩
 ·exact⟨by simp,by simp,List.Pairwise.nil⟩
 ·have q1:=Tp.root_lev h2
  have q2:=Tp.es_le_tok _ _ _ _ h2
  exact⟨by omega,by omega,((En.right_iff _).1 ((Tp.tr_good _ _).srt h2)).2⟩
theorem stg_start{B0:Nat}(hn:n<=16384)(h2:2<=n)(h:FAt W B0 f0 d0 0 (fresh n))(hT:HT W)(hB0:w0.heap.size<=B0)(h0:0<w0.heap.size)(hBW:B0<=W.heap.size)(hb:Below w0.heap.size w0 W)(hr:r<=900000000000):Stg w0 f0 d0 n 0 r noDisk 2 W:=by
 obtain⟨F,hFB,rfl,rfl,hFk,hA,hON⟩:=file_start hn h
 exact⟨⟨F,rfl,rfl,by rw[hFk];decide,⟨hON,⟨0,Int.le_refl _,by omega,hA⟩,hT,by omega,by rw[hFB];exact hBW⟩,by rw[hFB];exact hB0⟩,fun id x hx=>by(cases hx),⟨Int.le_refl _,by omega⟩,hb⟩
end
end Go.Proofs.YtjoiajmbfbjnnaaGreatDoor
