/- Part of this proof. -/
import Derived.Test.YtjoiajmbfbjnnaaGreatDoorT33
set_option maxRecDepth 100000
set_option maxHeartbeats 8000000
namespace Go.Proofs.YtjoiajmbfbjnnaaGreatDoor
open Go.RowKit Go.Shelf
structure EntFn(S:Nat->Prop)(B t u:Nat)(TM:Nat->Tp.Pst->World->Prop)(root:Int)(yf:FuncId)(caps:Array Value){Q:Type}(y:Q->Ent->Q × Bool)(P:Nat->Q->(Nat->Prop)->World->Prop):Prop where
 keep:∀ {m q Y w w'},P m q Y w->Fr S w w'->P m q Y w'
 less:∀ {m m' q Y w},P m' q Y w->m<=m'->P m q Y w
 lt:∀ {m q Y w k},P m q Y w->Y k->k<w.heap.size
 call:∀w (x:Ent) m q Y r σ,P (m+1) q Y w->On S B t u TM root 0 r σ w->Calls Tryz.prog yf (#[.agg #[.string x.1, .string x.2]]++caps) w fun e w'=>e= .returned (.bool (y q x).2)/\On S B t u TM root 0 r σ w'/\Fr Y w w'/\∃Y',P m (y q x).1 Y' w'/\∀k,Y' k->Y k\/w.heap.size<=k
 enters:∀ (args:Array Value) (w:World),(callFunc yf args).run Tryz.prog w= .ok (.enter yf args) w
theorem ystep_at{Q:Type}{y:Q->Ent->Q × Bool}{l:List Ent}{j:Nat}(hj:j<l.length)(q:Q):Tp.ystep y q (l.drop j)=if(y q l[j]).2 then Tp.ystep y (y q l[j]).1 (l.drop (j+1))else((y q l[j]).1,false):=by
 rw[List.drop_eq_getElem_cons hj,Tp.ystep]
section
variable {S:Nat->Prop}{B t:Nat}{room:Int}{disk:Tp.Disk}{TM:Nat->Tp.Pst->World->Prop}
theorem each_do(M:Mach S B t room disk TM)(u:Nat)(root:Int){yf:FuncId}{caps:Array Value}{Q:Type}{y:Q->Ent->Q × Bool}{P:Nat->Q->(Nat->Prop)->World->Prop}(V:EntFn S B t u TM root yf caps y P){ge:Nat}(hge:B<=ge):
  VisFn S B t u TM root 152 #[.pointer (some ⟨ge,0,none⟩)] (Tp.ystep y) (fun m q Y w=>P m q Y w/\Blk w ge 150 #[.func (.func yf) #[] caps]/\¬Y ge) where
 keep:=fun h hf=>⟨V.keep h.1 hf,hf.blk h.2.1 (M.far hge),h.2.2⟩
 less:=fun h hm=>⟨V.less h.1 hm,h.2⟩
 lt:=fun h a=>V.lt h.1 a
 enters:=fun args w=>by kernel_rfl
 call:=fun w A c l n m q Y r σ hP hon hls hAY hn hl=>by
  subst hn
  have HM:=Lib.hid M
  have HV:=Lib.hid V
  have HLS:=Lib.hid hls
  have HAY:=Lib.hid hAY
  have HP:=Lib.hid hP
  have HON:=Lib.hid hon
  have hgl:=hP.2.1.lt
  clear hP hon hls hAY M V
  show Calls Tryz.prog 152 #[.slice A l.length c, .pointer (some ⟨ge,0,none⟩)] w _
  go_enter Tryz.func152,Tryz.ntmps152
  go_wp2
  go_loopg [8] l.length (fun g s8 wr=>∃ (j:Nat) (qj:Q) (Yj:Nat->Prop),s8= .int .i64 (j:Nat)/\j<=l.length/\l.length-j<=g/\Hid (Tp.ystep y qj (l.drop j)=Tp.ystep y q l)/\Hid (P (m+(l.length-j)) qj Yj wr/\Blk wr ge 150 #[.func (.func yf) #[] caps]/\¬Yj ge)/\Hid (∀k,Yj k->Y k\/w.heap.size<=k)/\Hid (On S B t u TM root 0 r σ wr)/\Hid (Fr Y w wr)/\Hid (∀b off,A=some ⟨b,off,none⟩->b<w.heap.size->wr.heap[b]? =w.heap[b]?))
  case atStart=>exact⟨0,q,Y,rfl,Nat.zero_le _,by omega,Lib.hid rfl,Lib.hid HP.out,Lib.hid (fun k a=> .inl a),HON,Lib.hid (Fr.refl _),Lib.hid (fun _ _ _ _=>rfl)⟩
  case round=>
   obtain⟨j,qj,Yj,rfl,hjL,hjg,HGJ,HPJ,HYJ,HONJ,HFJ,HBJ⟩:=hrel
   have hwz:=HFJ.out.size
   by_cases hj:j<l.length
   ·obtain⟨bb,oo,rfl,hbb,k1,k2⟩:=HLS.out.ent hj
    have hcell:∀o,wr.cell? ⟨bb,o,none⟩=w.cell? ⟨bb,o,none⟩:=fun o=>by
     unfold World.cell?
     rw[HBJ.out bb oo rfl hbb]
    rw[<-hcell]at k1 k2
    have hbl:bb<wr.heap.size:=by omega
    have hst:=HGJ.out
    rw[ystep_at hj]at hst
    have hbx:=(Below.refl wr.heap.size wr).alloc (Nat.le_refl _) (.cells #[.string l[j].1, .string l[j].2] 34)
    have hP5:=HV.out.less (m:=m+(l.length-(j+1))+1) (HV.out.keep HPJ.out.1 (Fr.of_below hbx)) (by omega)
    have hB5:=HPJ.out.2.1.below hbx HPJ.out.2.1.lt
    have HCALL:=Lib.hid (HV.out.call _ l[j] (m+(l.length-(j+1))) qj Yj r σ hP5 (HONJ.out.below HM.out hbx))
    have gfn:=hB5.cell 0
    have hgl5:=hB5.lt
    have HBX:=Lib.hid hbx
    have HB5:=Lib.hid hB5
    have hwj:IntKind.i64.wrap ((j:Int)+1)=(j:Int)+1:=IntWalk.i64_in _ (by omega)
    have hjLi:(j:Int)<l.length:=by omega
    have HST:=Lib.hid hst
    clear hst hP5 hB5 hbx hcell
    generalize l[j]=x at*
    go_wp2_with fail
    rw[HV.out.enters,Oper.upon_enter]
    refine Calls.mono HCALL.out ?_
    rintro e w4 ⟨rfl,hon4,hf4,Y4,hP4,hY4⟩
    have hF4:Fr Y w w4:=(HFJ.out.trans (.of_below HBX.out)).go hf4 HYJ.out
    have hz5:=HBX.out.size
    have hY4':∀k,Y4 k->Y k\/w.heap.size<=k:=fun k a=>by
     rcases hY4 k a with a | a
     ·exact HYJ.out k a
     ·exact .inr (by omega)
    have hge4:¬Y4 ge:=fun a=>by
     rcases hY4 ge a with a | a
     ·exact HPJ.out.2.2 a
     ·have:=HPJ.out.2.1.lt;omega
    have HP4:=Lib.hid (show P (m+(l.length-(j+1))) (y qj x).1 Y4 w4/\Blk w4 ge 150 #[.func (.func yf) #[] caps]/\¬Y4 ge from⟨hP4,hf4.blk HB5.out HPJ.out.2.2,hge4⟩)
    have HY4:=Lib.hid hY4'
    have HON4:=Lib.hid hon4
    have HF4:=Lib.hid hF4
    have HB4:=Lib.hid (show ∀b off,(some ⟨bb,oo,none⟩:Option Addr)=some ⟨b,off,none⟩->b<w.heap.size->w4.heap[b]? =w.heap[b]? from fun b off e hb=>by
     have hny:¬Y b:=HAY.out ⟨b,off,none⟩ e
     exact hF4.block b hb hny)
    clear hon4 hf4 hP4 hY4 hF4 hY4' hge4
    obtain⟨qb,hqb⟩:∃z,z=y qj x:=⟨_,rfl⟩
    rw[<-hqb]at HST HP4 ⊢
    clear hqb
    obtain⟨q1,b1⟩:=qb
    simp only at HST HP4 ⊢
    cases b1 with
    |true=>
     have HST2:=Lib.hid (show Tp.ystep y q1 (l.drop (j+1))=Tp.ystep y q l by have:=HST.out;simpa using this)
     clear HST
     go_wp2
     go_roundg (l.length-(j+1))
     case measure=>omega
     case rel=>exact⟨j+1,q1,Y4,by go_num,by omega,Nat.le_refl _,HST2,HP4,HY4,HON4,HF4,HB4⟩
    |false=>
     have HE:=Lib.hid (show Tp.ystep y q l=(q1,false)by have:=HST.out;simpa using this.symm)
     clear HST
     have HEND:=Lib.hid (show On S B t u TM root 0 r σ w4/\Fr Y w w4/\∃Y',(P m q1 Y' w4/\Blk w4 ge 150 #[.func (.func yf) #[] caps]/\¬Y' ge)/\∀k,Y' k->Y k\/w.heap.size<=k from⟨HON4.out,HF4.out,Y4,⟨HV.out.less HP4.out.1 (Nat.le_add_right _ _),HP4.out.2⟩,HY4.out⟩)
     go_wp2
     go_ret
     rw[HE.out]
     exact⟨rfl,HEND.out⟩
   ·have hjLi:¬ (j:Int)<l.length:=by omega
    obtain rfl:j=l.length:=by omega
    have hend:=HGJ.out
    rw[List.drop_eq_nil_of_le (Nat.le_refl _),Tp.ystep]at hend
    have HE:=Lib.hid hend
    have HEND:=Lib.hid (show On S B t u TM root 0 r σ wr/\Fr Y w wr/\∃Y',(P m qj Y' wr/\Blk wr ge 150 #[.func (.func yf) #[] caps]/\¬Y' ge)/\∀k,Y' k->Y k\/w.heap.size<=k from⟨HONJ.out,HFJ.out,Yj,⟨HV.out.less HPJ.out.1 (Nat.le_add_right _ _),HPJ.out.2⟩,HYJ.out⟩)
    clear hend
    go_wp2
    go_ret
    rw[<-HE.out]
    exact⟨rfl,HEND.out⟩
def EaEnd(S:Nat->Prop)(B t u:Nat)(TM:Nat->Tp.Pst->World->Prop)(root:Int)(r:Nat)(σ:Tp.Pst){Q:Type}(P:Nat->Q->(Nat->Prop)->World->Prop)(m:Nat)(q:Q)(Y:Nat->Prop)(w:World)(e:Ending)(w':World):Prop:=
 e= .returned (.int .i64 0)/\On S B t u TM root 0 r σ w'/\Fr (fun k=>S k\/Y k) w w'/\∃Y',P m q Y' w'/\∀k,Y' k->Y k\/w.heap.size<=k
theorem each_any(M:Mach S B t room disk TM)(u:Nat)(root:Int){yf:FuncId}{caps:Array Value}{Q:Type}{y:Q->Ent->Q × Bool}{P:Nat->Q->(Nat->Prop)->World->Prop}(V:EntFn S B t u TM root yf caps y P)(frm:ByteArray)(σ:Tp.Pst)(m:Nat)(q q':Q)(b:Bool)(Y:Nat->Prop)(r:Nat)(w:World)(h0:root=0->q'=q)(h1:root≠0->Tp.pVisit disk σ frm (Tp.ystep y) 24 root q=(q', .ok b))(hP:P (m+Tp.cost Tp.en disk σ 24 root) q Y w)(h:On S B t u TM root 0 (r+Tp.cost Tp.rd disk σ 24 root) σ w):
  Calls Tryz.prog 83 #[.pointer (some ⟨u,0,none⟩), .string frm, .func (.func yf) #[] caps] w (EaEnd S B t u TM root r σ P m q' Y w):=by
 have hsz:=M.size h.tm
 have hb1:=(Below.refl w.heap.size w).alloc (Nat.le_refl _) (.cells #[.func (.func yf) #[] caps] 150)
 have hon:=h.below M hb1
 have t1:(w.alloc (.cells #[.func (.func yf) #[] caps] 150)).cell? ⟨u,1,none⟩=some (.int .i64 root):=hon.self.cell 1
 have t2:(w.alloc (.cells #[.func (.func yf) #[] caps] 150)).cell? ⟨u,2,none⟩=some (.int .i64 0):=hon.self.cell 2
 have lt2:=hon.self.lt
 have hun:u<w.heap.size:=h.self.lt
 have hP1:=V.keep hP (Fr.of_below hb1)
 have hBg:=Blk.new w 150 #[.func (.func yf) #[] caps]
 by_cases hr:root=0
 ·have hq:=h0 hr
  subst hr hq
  have HEND:=Lib.hid (show EaEnd S B t u TM 0 r σ P m q' Y w (.returned (.int .i64 0)) (w.alloc (.cells #[.func (.func yf) #[] caps] 150))from⟨rfl,hon.less M (by omega), .of_below hb1,Y,V.less hP1 (by omega),fun k a=> .inl a⟩)
  clear hP1 hon hb1 h hP M V h1 h0 hBg
  go_enter Tryz.func83,Tryz.ntmps83
  go_wp2
  go_ret
  exact HEND.out
 ·have hv:=h1 hr
  have hny:¬Y w.heap.size:=fun a=>by have:=V.lt hP a;omega
  have HCALL:=Lib.hid (visit_any M u root (each_do M u root V (show B<=w.heap.size from hsz)) frm σ 24 0 root m q q' b Y r _ (by omega) hv ⟨hP1,hBg,hny⟩ hon)
  have hrn:(root==0)=false:=by simpa using hr
  have HF:=Lib.hid hb1
  clear hP1 hon hb1 h hP M V h1 h0 hBg hv hny
  go_enter Tryz.func83,Tryz.ntmps83
  go_wp2_with fail
  refine Calls.mono HCALL.out ?_
  rintro e w2 ⟨rfl,hon2,hf2,Y2,⟨hP2,hB2,hn2⟩,hY2⟩
  have HEND:=Lib.hid (show EaEnd S B t u TM root r σ P m q' Y w (.returned (.int .i64 0)) w2 from⟨rfl,hon2,(Fr.of_below HF.out).trans hf2,Y2,hP2,fun k a=>(hY2 k a).imp_right (fun c=>Nat.le_trans HF.out.size c)⟩)
  clear hon2 hf2 hP2 hB2 hn2 hY2
  go_wp2
  go_ret
  exact HEND.out
end
def scanS(hi_:ByteArray)(acc:List Ent)(x:Ent):List Ent × Bool:=if hi_.toList= []\/En.lt x.1 hi_=true then(acc++ [x],true)else(acc,false)
def ScanP(gto gl:Nat)(hi_:ByteArray)(m:Nat)(acc:List Ent)(Y:Nat->Prop)(w:World):Prop:=
 acc.length+m<=1000000/\Blk w gto 9 #[.string hi_]/\∃A c,Blk w gl 28 #[.slice A acc.length c]/\LO entE 34 w (gl+1) (.slice A acc.length c) acc/\Y=fun k=>k=gl\/(Value.slice A acc.length c).ownBlock=some k
section
variable {S:Nat->Prop}{B t:Nat}{room:Int}{disk:Tp.Disk}{TM:Nat->Tp.Pst->World->Prop}
theorem scan_do(M:Mach S B t room disk TM)(u:Nat)(root:Int)(hi_:ByteArray){gto gl:Nat}(hto:B<=gto)(hne:gto<gl)(hul:u<gto):
  EntFn S B t u TM root 130 #[.pointer (some ⟨gto,0,none⟩), .pointer (some ⟨gl,0,none⟩)] (scanS hi_) (ScanP gto gl hi_) where
 keep:=fun⟨h0,h1,A,c,h2,h3,h4⟩ hf=>⟨h0,hf.blk h1 (M.far hto),A,c,hf.blk h2 (M.far (by omega)),h3.fr hf (fun k a=>by have:=M.low k a;omega),h4⟩
 less:=fun⟨h0,h1⟩ hm=>⟨by omega,h1⟩
 lt:=fun⟨h0,h1,A,c,h2,h3,h4⟩ hy=>by
  subst h4
  rcases hy with rfl | hy
  ·exact h2.lt
  ·obtain⟨cs,hcs⟩:=own_obj h3 hy
   exact(Array.getElem?_eq_some_iff.1 hcs).1
 enters:=fun args w=>by kernel_rfl
 call:=fun w x m acc Y r σ hP hon=>by
  obtain⟨h0,h1,A,c,h2,h3,rfl⟩:=hP
  have HM:=Lib.hid M
  have hbx:=(Below.refl w.heap.size w).alloc (Nat.le_refl _) (.cells #[.string x.1, .string x.2] 34)
  have b1:=h1.below hbx h1.lt
  have b2:=h2.below hbx h2.lt
  have k1:(w.alloc (.cells #[.string x.1, .string x.2] 34)).cell? ⟨gto,0,none⟩=some (.string hi_):=b1.cell 0
  have k2:(w.alloc (.cells #[.string x.1, .string x.2] 34)).cell? ⟨gl,0,none⟩=some (.slice A acc.length c):=b2.cell 0
  have l1:=b1.lt
  have l2:=b2.lt
  have l1w:=h1.lt
  have l2w:=h2.lt
  have HB1:=Lib.hid b1
  have HB2:=Lib.hid b2
  have HR:=Lib.hid (h3.below hbx)
  have HON:=Lib.hid (hon.below M hbx)
  have HBX:=Lib.hid hbx
  have H1:=Lib.hid h1
  have H2:=Lib.hid h2
  have H3:=Lib.hid h3
  have HONW:=Lib.hid hon
  clear h1 h2 h3 b1 b2 hbx hon M
  unfold scanS
  show Calls Tryz.prog 130 #[.agg #[.string x.1, .string x.2], .pointer (some ⟨gto,0,none⟩), .pointer (some ⟨gl,0,none⟩)] w _
  by_cases hin:hi_.toList= []\/En.lt x.1 hi_=true
  ·rw[if_pos hin]
   have HFIN:Hid (∀A' c' w3,w3.ownsRow (gl+1) 34 2 (.slice A' (acc.length+1) c') (acc.length+1) (entE.cells acc++ [.string x.1, .string x.2])->(w.alloc (.cells #[.string x.1, .string x.2] 34)).grownBy w3 (Value.slice A acc.length c).ownBlock->((Value.slice A' (acc.length+1) c').ownBlock=(Value.slice A acc.length c).ownBlock\/∃g,(Value.slice A' (acc.length+1) c').ownBlock=some g/\(w.alloc (.cells #[.string x.1, .string x.2] 34)).heap.size<=g)->Below (gl+1) (w.alloc (.cells #[.string x.1, .string x.2] 34)) w3->On S B t u TM root 0 r σ (w3.setCell ⟨gl,0,none⟩ (.slice A' (acc.length+1) c'))/\Fr (fun k=>k=gl\/(Value.slice A acc.length c).ownBlock=some k) w (w3.setCell ⟨gl,0,none⟩ (.slice A' (acc.length+1) c'))/\∃Y',ScanP gto gl hi_ m (acc++ [x]) Y' (w3.setCell ⟨gl,0,none⟩ (.slice A' (acc.length+1) c'))/\∀k,Y' k->(k=gl\/(Value.slice A acc.length c).ownBlock=some k)\/w.heap.size<=k):=by
    refine Lib.hid fun A' c' w3 hown hg hob hbel=> ?_
    have hon3:=HON.out.row HM.out HR.out (show B<=gl+1 by omega) (by decide) (by decide) (by decide) (by decide) (by decide) hg
    have hB3:=HB2.out.below hbel (Nat.lt_succ_self _)
    have hT3:=HB1.out.below hbel (by omega)
    have hfs:Fr (fun k=>k=gl) w3 (w3.setCell ⟨gl,0,none⟩ (.slice A' (acc.length+1) c')):=Fr.set_ (S:=fun k=>k=gl) rfl _
    have hB4:Blk (w3.setCell ⟨gl,0,none⟩ (.slice A' (acc.length+1) c')) gl 28 #[.slice A' (acc.length+1) c']:=hB3.set_ 0 _
    have hL3:LO entE 34 w3 (gl+1) (.slice A' (acc.length+1) c') (acc++ [x]):=LO.snoc rfl rfl rfl hown
    have hL4:=hL3.fr hfs (fun k a=>by omega)
    have hlen:(acc++ [x]).length=acc.length+1:=by simp
    refine⟨hon3.own HM.out hfs hB3 (by omega) (by omega) (by decide) (by decide) (by decide) (by decide),((Fr.of_below HBX.out).trans ((Fr.of_grown hg).more fun k a=> .inr a)).trans (hfs.more fun k a=> .inl a),_,⟨by omega,hfs.blk hT3 (by omega),A',c',by rw[hlen];exact hB4,by rw[hlen];exact hL4,rfl⟩, ?_⟩
    intro k hk
    rw[hlen]at hk
    rcases hk with hk | hk
    ·exact .inl (.inl hk)
    ·rcases hob with hob | ⟨g,hob,hge⟩
     ·exact .inl (.inr (by rw[<-hob];exact hk))
     ·rw[hob]at hk;injection hk with hk;subst hk;exact .inr (Nat.le_trans HBX.out.size hge)
   have hrow:(w.alloc (.cells #[.string x.1, .string x.2] 34)).ownsRow (gl+1) 34 2 (.slice A acc.length c) acc.length (entE.cells acc):=HR.out
   have hbase:gl+1<=(w.alloc (.cells #[.string x.1, .string x.2] 34)).heap.size:=l2
   by_cases he:hi_.toList= []
   ·have he2:hi_.toList.isEmpty=true:=by simpa using he
    clear hin
    go_enter Tryz.func130,Tryz.ntmps130
    go_wp2_with (at_builtin;refine wpList_app1 rfl _ _ 28 rfl eiEnt Tryz.underlying28 rfl (by decide) rfl hrow rfl (by simp) rfl (by simp[Value.oneCell']) (by unfold maxLen;omega) (by omega) hbase ?_;intro v' w3 hown' hgrow hbel hob _;obtain⟨A',c',rfl⟩:=own_form hown';have hB3:=HB2.out.below hbel (Nat.lt_succ_self _);have k3:w3.cell? ⟨gl,0,none⟩=some (.slice A acc.length c):=hB3.cell 0;have f3:=hB3.frozen 0;have l3:=hB3.lt;have HEND:=Lib.hid (HFIN.out A' c' w3 hown' hgrow hob hbel);clear hB3 hown' hgrow hob hbel)
    go_ret
    exact⟨rfl,HEND.out⟩
   ·have he2:hi_.toList.isEmpty=false:=by simpa using he
    have hlt:Go.Op.bytesLess x.1.toList hi_.toList=true:=by
     rcases hin with a | a
     ·exact absurd a he
     ·exact a
    clear hin
    go_enter Tryz.func130,Tryz.ntmps130
    go_wp2_with (at_builtin;refine wpList_app1 rfl _ _ 28 rfl eiEnt Tryz.underlying28 rfl (by decide) rfl hrow rfl (by simp) rfl (by simp[Value.oneCell']) (by unfold maxLen;omega) (by omega) hbase ?_;intro v' w3 hown' hgrow hbel hob _;obtain⟨A',c',rfl⟩:=own_form hown';have hB3:=HB2.out.below hbel (Nat.lt_succ_self _);have k3:w3.cell? ⟨gl,0,none⟩=some (.slice A acc.length c):=hB3.cell 0;have f3:=hB3.frozen 0;have l3:=hB3.lt;have HEND:=Lib.hid (HFIN.out A' c' w3 hown' hgrow hob hbel);clear hB3 hown' hgrow hob hbel)
    go_ret
    exact⟨rfl,HEND.out⟩
  ·rw[if_neg hin]
   have he:¬hi_.toList= []:=fun a=>hin (.inl a)
   have he2:hi_.toList.isEmpty=false:=by simpa using he
   have hlt:Go.Op.bytesLess x.1.toList hi_.toList=false:=by
    have:¬En.lt x.1 hi_=true:=fun a=>hin (.inr a)
    simpa[En.lt]using this
   go_enter Tryz.func130,Tryz.ntmps130
   have HEND:=Lib.hid (show On S B t u TM root 0 r σ (w.alloc (.cells #[.string x.1, .string x.2] 34))/\Fr (fun k=>k=gl\/(Value.slice A acc.length c).ownBlock=some k) w (w.alloc (.cells #[.string x.1, .string x.2] 34))/\∃Y',ScanP gto gl hi_ m acc Y' (w.alloc (.cells #[.string x.1, .string x.2] 34))/\∀k,Y' k->(k=gl\/(Value.slice A acc.length c).ownBlock=some k)\/w.heap.size<=k from⟨HON.out, .of_below HBX.out,_,⟨by omega,HB1.out,A,c,HB2.out,HR.out,rfl⟩,fun k a=> .inl a⟩)
   clear hin
   go_wp2
   go_ret
   exact⟨rfl,HEND.out⟩
def ScEnd(S:Nat->Prop)(B t u:Nat)(TM:Nat->Tp.Pst->World->Prop)(root:Int)(r:Nat)(σ:Tp.Pst)(l:List Ent)(w:World)(e:Ending)(w':World):Prop:=
 ∃A c,e= .returned (.tuple #[.slice A l.length c, .int .i64 0])/\LO entE 34 w' w.heap.size (.slice A l.length c) l/\On S B t u TM root 0 r σ w'/\Fr S w w'
theorem scan_any(M:Mach S B t room disk TM)(u:Nat)(root:Int)(frm hi_:ByteArray)(σ:Tp.Pst)(l:List Ent)(b:Bool)(r:Nat)(w:World)(hN:Tp.cost Tp.en disk σ 24 root<=1000000)(h0:root=0->l= [])(h1:root≠0->Tp.pVisit disk σ frm (Tp.ystep (scanS hi_)) 24 root []=(l, .ok b))(h:On S B t u TM root 0 (r+Tp.cost Tp.rd disk σ 24 root) σ w):
  Calls Tryz.prog 66 #[.pointer (some ⟨u,0,none⟩), .string frm, .string hi_] w (ScEnd S B t u TM root r σ l w):=by
 have hsz:=M.size h.tm
 have hun:u<w.heap.size:=h.self.lt
 have hb1:=(Below.refl w.heap.size w).alloc (Nat.le_refl _) (.cells #[.string hi_] 9)
 have hb2:=hb1.alloc hb1.size (.cells #[.slice none 0 0] 28)
 have hon:=(h.below M hb1).below M (Below.alloc (Below.refl _ _) (Nat.le_refl _) (.cells #[.slice none 0 0] 28))
 have hBk:=(Blk.new w 9 #[.string hi_]).alloc (.cells #[.slice none 0 0] 28)
 have hBv:=Blk.new (w.alloc (.cells #[.string hi_] 9)) 28 #[.slice none 0 0]
 simp only[World.size_alloc]at hBv
 have hP:ScanP w.heap.size (w.heap.size+1) hi_ (0+Tp.cost Tp.en disk σ 24 root) [] (fun k=>k=w.heap.size+1\/(Value.slice none 0 0).ownBlock=some k) ((w.alloc (.cells #[.string hi_] 9)).alloc (.cells #[.slice none 0 0] 28)):=⟨by simpa using hN,hBk,none,0,hBv,LO.nil_ _ _,rfl⟩
 have HCALL:=Lib.hid (each_any M u root (scan_do M u root hi_ (show B<=w.heap.size from hsz) (Nat.lt_succ_self _) hun) frm σ 0 [] l b _ r _ h0 h1 hP hon)
 have k0:((w.alloc (.cells #[.string hi_] 9)).alloc (.cells #[.slice none 0 0] 28)).cell? ⟨w.heap.size,0,none⟩=some (.string hi_):=hBk.cell 0
 have kl:=hBk.lt
 have v0:((w.alloc (.cells #[.string hi_] 9)).alloc (.cells #[.slice none 0 0] 28)).cell? ⟨w.heap.size+1,0,none⟩=some (.slice none 0 0):=hBv.cell 0
 have vl:=hBv.lt
 have HB:=Lib.hid hb2
 have HY:Hid (∀k,(k=w.heap.size+1\/(Value.slice none 0 0).ownBlock=some k)->w.heap.size<=k):=Lib.hid (fun k a=>by
  rcases a with a | a
  ·omega
  ·simp[Value.ownBlock]at a)
 have HM:=Lib.hid M
 clear hb1 hb2 hon hBk hBv hP h M h0 h1 hN
 go_enter Tryz.func66,Tryz.ntmps66
 go_wp2_with fail
 refine Calls.mono HCALL.out ?_
 rintro e w2 ⟨rfl,hon2,hf2,Y2,⟨_,hT2,A,c,hL2,hR2,_⟩,_⟩
 have hF:Fr S w w2:=(Fr.of_below (S:=S) HB.out).go hf2 (fun k a=>a.imp id (HY.out k))
 have g0:w2.cell? ⟨w.heap.size+1,0,none⟩=some (.slice A l.length c):=hL2.cell 0
 have gl:=hL2.lt
 have HEND:=Lib.hid (show ScEnd S B t u TM root r σ l w (.returned (.tuple #[.slice A l.length c, .int .i64 0])) w2 from⟨A,c,rfl,hR2.lower (by omega),hon2,hF⟩)
 clear hon2 hf2 hT2 hL2 hR2 hF
 go_wp2
 go_ret2
 exact HEND.out
end
section
variable {S:Nat->Prop}{B t:Nat}{room:Int}{disk:Tp.Disk}{TM:Nat->Tp.Pst->World->Prop}
theorem terr_any(u:Nat)(root e0:Int)(w:World)(h:Blk w u 140 (TreeV t root e0)):
  Calls Tryz.prog 68 #[.pointer (some ⟨u,0,none⟩)] w fun e w'=>e= .returned (.int .i64 e0)/\w'=w:=by
 have k:w.cell? ⟨u,2,none⟩=some (.int .i64 e0):=h.cell 2
 have l:=h.lt
 clear h
 go_enter Tryz.func68,Tryz.ntmps68
 go_wp2
 go_ret
 exact⟨rfl,rfl⟩
theorem ctnew_any(M:Mach S B t room disk TM)(root:Int)(r:Nat)(σ:Tp.Pst)(w:World)(h:TM r σ w):
  Calls Tryz.prog 19 #[.pointer (some ⟨t,0,none⟩), .int .i64 root] w fun e w'=>∃u,e= .returned (.pointer (some ⟨u,0,none⟩))/\On S B t u TM root 0 r σ w'/\w.heap.size<=u/\Below w.heap.size w w':=by
 have HFIN:Hid (∀u w',Below w.heap.size w w'->Blk w' u 140 (TreeV t root 0)->w.heap.size<=u->On S B t u TM root 0 r σ w'):=Lib.hid fun u w' hb hB hu=>⟨M.below h hb,hB,Nat.le_trans (M.size h) hu⟩
 have hbA:=Lib.hid ((Below.refl w.heap.size w).alloc (Nat.le_refl _) (.cells #[.pointer (some ⟨t,0,none⟩), .int .i64 root, .int .i64 0] 140))
 clear M h
 go_enter Tryz.func19,Tryz.ntmps19
 go_wp2
 go_ret
 exact⟨_,rfl,HFIN.out _ _ hbA.out (Blk.new w _ _) (Nat.le_refl _),Nat.le_refl _,hbA.out⟩
end
def nextS(_:Ent × Bool)(x:Ent):(Ent × Bool) × Bool:=((x,true),false)
def NextP(gf gk:Nat)(_:Nat)(q:Ent × Bool)(Y:Nat->Prop)(w:World):Prop:=
 Blk w gf 34 #[.string q.1.1, .string q.1.2]/\Blk w gk 4 #[.bool q.2]/\Y=fun k=>k=gf\/k=gk
theorem ent_struct:StructT 34 2:=⟨_,Tryz.underlying34,by kernel_rfl⟩
section
variable {a:Act}{o:Oper}{x y:Operand}{w:World}{R:Value->World->Prop}
theorem does_store_ent{g:Nat}{s1 s2:ByteArray}{d0 d1:Value}(ho:o.op= .store 34 x y)(hx:a.eval x= .pointer (some ⟨g,0,none⟩))(hy:a.eval y= .agg #[.string s1, .string s2])(hB:Blk w g 34 #[d0,d1])(hR:∀w',Blk w' g 34 #[.string s1, .string s2]->Fr (fun k=>k=g) w w'->R undef w'):Does o a w R:=by
 have key:∃w',(execOp a.eval o).run Tryz.prog w= .ok .skip w'/\Blk w' g 34 #[.string s1, .string s2]/\Fr (fun k=>k=g) w w':=by
  have k0:=hB.cell 0
  have k1:=hB.cell 1
  have f0:=hB.frozen 0
  have f1:=hB.frozen 1
  refine⟨_, ?_,hB.put2 (.string s1) (.string s2),Fr.put2 _ _⟩
  unfold execOp
  simp only[ho,hx,hy]
  simp[go_sem,k0,k1,f0,f1]
 obtain⟨w',hr,h1,h2⟩:=key
 exact Does.skip hr (hR w' h1 h2)
end
section
variable {fn:Func}{p u v:Tmp}{ty:TypeId}{tmps:Array Value}{w:World}{g n:Nat}{cs:Array Value}
theorem res_cell_tmp_tmp(hT:StructT ty n)(h:fn.results= #[.cell p ty, .tmp u, .tmp v])(hp:tmps.getD p undef= .pointer (some ⟨g,0,none⟩))(hB:Blk w g ty cs)(hn:cs.size=n):(results fn tmps).run Tryz.prog w= .ok (.tuple #[.agg cs,tmps.getD u undef,tmps.getD v undef]) w:=by
 have hp':tmps[p]?.getD undef= .pointer (some ⟨g,0,none⟩):=by simpa using hp
 simp only[results,h]
 simp[hp',asAddr,loadVar_blk hT hB hn]
end
section
variable {S:Nat->Prop}{B t:Nat}{room:Int}{disk:Tp.Disk}{TM:Nat->Tp.Pst->World->Prop}
theorem next_do(M:Mach S B t room disk TM)(u:Nat)(root:Int){gf gk:Nat}(hgf:B<=gf)(hne:gf<gk)(hul:u<gf):
  EntFn S B t u TM root 84 #[.pointer (some ⟨gf,0,none⟩), .pointer (some ⟨gk,0,none⟩)] nextS (NextP gf gk) where
 keep:=fun⟨h1,h2,h3⟩ hf=>⟨hf.blk h1 (M.far hgf),hf.blk h2 (M.far (by omega)),h3⟩
 less:=fun h _=>h
 lt:=fun⟨h1,h2,h3⟩ hy=>by
  subst h3
  rcases hy with rfl | rfl
  ·exact h1.lt
  ·exact h2.lt
 enters:=fun args w=>by kernel_rfl
 call:=fun w x m q Y r σ hP hon=>by
  obtain⟨h1,h2,rfl⟩:=hP
  have k1:w.cell? ⟨gf,0,none⟩=some (.string q.1.1):=h1.cell 0
  have k1':w.cell? ⟨gf,1,none⟩=some (.string q.1.2):=h1.cell 1
  have k2:w.cell? ⟨gk,0,none⟩=some (.bool q.2):=h2.cell 0
  have f1:=h1.frozen 0
  have f1':=h1.frozen 1
  have f2:=h2.frozen 0
  have l1:=h1.lt
  have l2:=h2.lt
  have n1:gf≠gk:=by omega
  have n2:gk≠gf:=by omega
  have HEND:Hid (On S B t u TM root 0 r σ ((((w.setCell ⟨gf,0,none⟩ (.string x.1)).setCell ⟨gf,1,none⟩ (.string x.2)).setCell ⟨gk,0,none⟩ (.bool true)).alloc (.cells #[.string x.1, .string x.2] 34))/\Fr (fun k=>k=gf\/k=gk) w ((((w.setCell ⟨gf,0,none⟩ (.string x.1)).setCell ⟨gf,1,none⟩ (.string x.2)).setCell ⟨gk,0,none⟩ (.bool true)).alloc (.cells #[.string x.1, .string x.2] 34))/\∃Y',NextP gf gk m (x,true) Y' ((((w.setCell ⟨gf,0,none⟩ (.string x.1)).setCell ⟨gf,1,none⟩ (.string x.2)).setCell ⟨gk,0,none⟩ (.bool true)).alloc (.cells #[.string x.1, .string x.2] 34))/\∀k,Y' k->(k=gf\/k=gk)\/w.heap.size<=k):=by
   refine Lib.hid ?_
   have s1:∀ (W:World) (i:Nat) (v:Value),Fr (fun k=>k=gf) W (W.setCell ⟨gf,i,none⟩ v):=fun W i v=>Fr.set_ (S:=fun k=>k=gf) rfl v
   have s2:∀ (W:World) (i:Nat) (v:Value),Fr (fun k=>k=gk) W (W.setCell ⟨gk,i,none⟩ v):=fun W i v=>Fr.set_ (S:=fun k=>k=gk) rfl v
   have o1:=hon.own M (s1 _ 0 (.string x.1)) h1 hgf (by omega) (by decide) (by decide) (by decide) (by decide)
   have c1:=h1.set_ 0 (.string x.1)
   have o2:=o1.own M (s1 _ 1 (.string x.2)) c1 hgf (by omega) (by decide) (by decide) (by decide) (by decide)
   have c2:=c1.set_ 1 (.string x.2)
   have d2:=(s1 _ 1 (.string x.2)).blk ((s1 _ 0 (.string x.1)).blk h2 (by omega)) (by omega)
   have o3:=o2.own M (s2 _ 0 (.bool true)) d2 (by omega) (by omega) (by decide) (by decide) (by decide) (by decide)
   have d3:=d2.set_ 0 (.bool true)
   have c3:=(s2 _ 0 (.bool true)).blk c2 (by omega)
   have hF3:Fr (fun k=>k=gf\/k=gk) w (((w.setCell ⟨gf,0,none⟩ (.string x.1)).setCell ⟨gf,1,none⟩ (.string x.2)).setCell ⟨gk,0,none⟩ (.bool true)):=(((s1 _ _ _).more fun _=> .inl).trans ((s1 _ _ _).more fun _=> .inl)).trans ((s2 _ _ _).more fun _=> .inr)
   generalize ((w.setCell ⟨gf,0,none⟩ (.string x.1)).setCell ⟨gf,1,none⟩ (.string x.2)).setCell ⟨gk,0,none⟩ (.bool true)=W3 at*
   have hbx:=(Below.refl W3.heap.size W3).alloc (Nat.le_refl _) (.cells #[.string x.1, .string x.2] 34)
   exact⟨o3.below M hbx,hF3.trans (.of_below hbx),_,⟨c3.below hbx c3.lt,d3.below hbx d3.lt,rfl⟩,fun k a=> .inl a⟩
  clear h1 h2 hon M
  show Calls Tryz.prog 84 #[.agg #[.string x.1, .string x.2], .pointer (some ⟨gf,0,none⟩), .pointer (some ⟨gk,0,none⟩)] w _
  go_enter Tryz.func84,Tryz.ntmps84
  go_wp2
  go_ret
  exact⟨rfl,HEND.out⟩
def NxEnd(S:Nat->Prop)(B t u:Nat)(TM:Nat->Tp.Pst->World->Prop)(root:Int)(r:Nat)(σ:Tp.Pst)(q:Ent × Bool)(w:World)(e:Ending)(w':World):Prop:=
 e= .returned (.tuple #[.agg #[.string q.1.1, .string q.1.2], .bool q.2, .int .i64 0])/\On S B t u TM root 0 r σ w'/\Fr S w w'
theorem next_any(M:Mach S B t room disk TM)(u:Nat)(root:Int)(frm:ByteArray)(σ:Tp.Pst)(q:Ent × Bool)(b:Bool)(r:Nat)(w:World)(h0:root=0->q=((⟨#[]⟩,⟨#[]⟩),false))(h1:root≠0->Tp.pVisit disk σ frm (Tp.ystep nextS) 24 root ((⟨#[]⟩,⟨#[]⟩),false)=(q, .ok b))(h:On S B t u TM root 0 (r+Tp.cost Tp.rd disk σ 24 root) σ w):
  Calls Tryz.prog 22 #[.pointer (some ⟨u,0,none⟩), .string frm] w (NxEnd S B t u TM root r σ q w):=by
 have hsz:=M.size h.tm
 have hun:u<w.heap.size:=h.self.lt
 have hb1:=(Below.refl w.heap.size w).alloc (Nat.le_refl _) (.cells #[.string ⟨#[]⟩, .string ⟨#[]⟩] 34)
 have hb2:=hb1.alloc hb1.size (.cells #[.string ⟨#[]⟩, .string ⟨#[]⟩] 34)
 have hb3:=hb2.alloc hb2.size (.cells #[.bool false] 4)
 have hon:=h.below M hb3
 have hB0:=((Blk.new w 34 #[.string ⟨#[]⟩, .string ⟨#[]⟩]).alloc (.cells #[.string ⟨#[]⟩, .string ⟨#[]⟩] 34)).alloc (.cells #[.bool false] 4)
 have hB1:=(Blk.new (w.alloc (.cells #[.string ⟨#[]⟩, .string ⟨#[]⟩] 34)) 34 #[.string ⟨#[]⟩, .string ⟨#[]⟩]).alloc (.cells #[.bool false] 4)
 have hB2:=Blk.new ((w.alloc (.cells #[.string ⟨#[]⟩, .string ⟨#[]⟩] 34)).alloc (.cells #[.string ⟨#[]⟩, .string ⟨#[]⟩] 34)) 4 #[.bool false]
 simp only[World.size_alloc]at hB1 hB2
 have hP:NextP (w.heap.size+1) (w.heap.size+1+1) (0+Tp.cost Tp.en disk σ 24 root) ((⟨#[]⟩,⟨#[]⟩),false) (fun k=>k=w.heap.size+1\/k=w.heap.size+1+1) (((w.alloc (.cells #[.string ⟨#[]⟩, .string ⟨#[]⟩] 34)).alloc (.cells #[.string ⟨#[]⟩, .string ⟨#[]⟩] 34)).alloc (.cells #[.bool false] 4)):=⟨hB1,hB2,rfl⟩
 have HCALL:=Lib.hid (each_any M u root (next_do M u root (show B<=w.heap.size+1 by omega) (Nat.lt_succ_self _) (show u<w.heap.size+1 by omega)) frm σ 0 ((⟨#[]⟩,⟨#[]⟩),false) q b _ r _ h0 h1 hP hon)
 have HB0:=Lib.hid hB0
 have HB:=Lib.hid hb3
 have HM:=Lib.hid M
 clear hb1 hb2 hb3 hon hB0 hB1 hB2 hP h M h0 h1
 go_enter Tryz.func22,Tryz.ntmps22
 go_wp2_with fail
 refine Calls.mono HCALL.out ?_
 rintro e w2 ⟨rfl,hon2,hf2,Y2,⟨hF2,hK2,_⟩,_⟩
 have hF:Fr S w w2:=(Fr.of_below (S:=S) HB.out).go hf2 (fun k a=>a.imp id (fun c=>by omega))
 have hR2:=hf2.blk HB0.out (fun a=>by
  rcases a with a | a | a
  ·exact HM.out.far hsz a
  ·omega
  ·omega)
 have HF:=Lib.hid hF
 have HON:=Lib.hid hon2
 have HR2:=Lib.hid hR2
 have HF2:=Lib.hid hF2
 have HK2:=Lib.hid hK2
 clear hon2 hf2 hF hR2 hF2 hK2
 go_wp2_with fail
 have hrl:=HR2.out.lt
 refine wp_region_flow (base:=w2.heap.size) (fun uu=>⟨#[_,_,_,_,_,uu 3,uu 4,_,_,_,_,_,_,_,_,_,_,_,uu 0,uu 1],_⟩)
  [Is.eq _ (.agg #[.string q.1.1, .string q.1.2]),Is.eq _ (.bool q.2),Is.turn _ w.heap.size 34 undef #[.string q.1.1, .string q.1.2],Is.eq _ (.bool q.2),Is.eq _ (.int .i64 0)]
  (by kernel_rfl) (by kernel_rfl) (by kernel_rfl) [w.heap.size] rfl (Nat.le_refl _) (by simpa using hrl) (by simp) ⟨fun k=>if k=3 then .bool false else if k=4 then .int .i64 0 else undef,rfl⟩ ?_ ?_
 ·intro k o ho uu W hf hold hdep
  have hS:∀k,k∈ [w.heap.size]->k=w.heap.size:=fun k hk=>by simpa using hk
  have hBF:=hf.blk HF2.out (fun a=>by have:=hS _ a;omega)
  have hBK:=hf.blk HK2.out (fun a=>by have:=hS _ a;omega)
  match k,ho with
  |0,ho=>obtain rfl:=Option.some.inj ho;exact Does.val (op_ld_row ent_struct rfl rfl hBF rfl) ⟨rfl,rfl,Fr.refl _⟩
  |1,ho=>obtain rfl:=Option.some.inj ho;exact Does.val (op_ldbool rfl rfl (hBK.cell 0)) ⟨rfl,rfl,Fr.refl _⟩
  |2,ho=>
   obtain rfl:=Option.some.inj ho
   refine does_store_ent rfl rfl (hdep 0 rfl) (Eq.trans (hold _ rfl) HR2.out) fun w' hB hfr=> ?_
   exact⟨rfl,⟨rfl,hB⟩,hfr.more (fun k hk=>by rw[hk];rfl)⟩
  |3,ho=>obtain rfl:=Option.some.inj ho;exact Does.val (op_as rfl (hdep 1 rfl)) ⟨rfl,rfl,Fr.refl _⟩
  |4,ho=>obtain rfl:=Option.some.inj ho;exact Does.val (op_as rfl rfl) ⟨rfl,rfl,Fr.refl _⟩
  |n+5,ho=>exact absurd ho (by simp)
 ·intro uu W hf hall
  obtain⟨_,hBW⟩:=hall 2 (by decide)
  have e3:uu 3= .bool q.2:=hall 3 (by decide)
  have e4:uu 4= .int .i64 0:=hall 4 (by decide)
  simp only[e3,e4]
  have hS:∀k,k∈ [w.heap.size]->k=w.heap.size:=fun k hk=>by simpa using hk
  have hf':Fr (fun k=>k=w.heap.size) w2 W:=hf.more hS
  have HEND:=Lib.hid (show NxEnd S B t u TM root r σ q w (.returned (.tuple #[.agg #[.string q.1.1, .string q.1.2], .bool q.2, .int .i64 0])) W from⟨rfl,HON.out.own HM.out hf' HR2.out hsz (by omega) (by decide) (by decide) (by decide) (by decide),HF.out.go hf' (fun k hk=> .inr (by omega))⟩)
  have HBW:=Lib.hid hBW
  clear hall hf hf' hBW
  go_wp2
  try simp only[Exit.inBlock,Exit.then]
  refine bodyPost_ret (res_cell_tmp_tmp ent_struct rfl rfl HBW.out rfl) rfl ?_
  exact HEND.out
end
def Tp.none_:Tp.Pst:=⟨[],2, [],fun _=>none⟩
theorem tmf_start{B t m f n r:Nat}{w:World}(hn:n<=16384)(ht:t<B)(hm:m<B)(hB:B<=w.heap.size)(h:Txn w t m f n (Rp.meet [] [(2,pagesN 2 n-1)]) (pagesN 2 n) 0 (.map [])):TMf B t m f n r Tp.none_ w:=by
 have hp:pagesN 2 n=2:=by unfold pagesN;omega
 rw[hp]at h
 have h1:=Rp.Ap.start (p:=2) (room:=max (n:Int) 2) [] (by omega)
 have e1:Rp.meet [] [(2,(2:Int)-1)]= []:=by decide
 have e2:Rp.minus [(2,(2:Int)-1)] []= []:=by decide
 rw[e1]at h
 rw[e1,e2]at h1
 exact⟨⟨ht,hm,hB⟩,h1,fun id hi=>absurd hi (by simp[Tp.none_]), .map [],h,KeysAre.nil_,fun id hi=>absurd hi (by simp[Tp.none_])⟩
def NewEnd(n r:Nat)(w:World)(e:Ending)(w':World):Prop:=∃B t m f u,e= .returned (.pointer (some ⟨u,0,none⟩))/\t<B/\m<B/\w.heap.size<=t/\w.heap.size<=m/\w.heap.size<=B/\On (fun k=>k=t\/k=m) B t u (TMf B t m f n) 0 0 r Tp.none_ w'/\Below w.heap.size w w'
theorem tree_any(k:Int)(r:Nat)(w:World):Calls Tryz.prog 65 #[.int .i64 k] w (NewEnd (diskN k) r w):=by
 have hD:=hid_calls (dnew_of k w)
 have hn:diskN k<=16384:=by unfold diskN;omega
 generalize diskN k=n at*
 have HN:=Lib.hid hn
 clear hn
 go_enter Tryz.func65,Tryz.ntmps65
 go_wp2_with fail
 refine hD.out.mono ?_
 rintro e w1 ⟨d,rfl,hd,hb1⟩
 have HF:=Lib.hid (fnew_any d n w1 hd)
 have HB1:=Lib.hid hb1
 clear hd hb1
 go_wp2_with fail
 refine HF.out.mono ?_
 rintro e w2 ⟨f,rfl,hf,hb2⟩
 have HA:=Lib.hid (tnew_any f n none 0 [] 2 HN.out w2 hf RS.nil_ (Nat.zero_le _))
 have HB2:=Lib.hid (HB1.out.trans (hb2.mono HB1.out.size))
 clear hf hb2
 go_wp2_with fail
 refine Calls.mono HA.out ?_
 rintro e w3 ⟨t,m,rfl,htm,hT,hb3⟩
 have hB3:=HB2.out.trans (hb3.mono HB2.out.size)
 have htl:t<w3.heap.size:=by obtain⟨_,⟨v,h2,_⟩,_⟩:=hT;exact h2.lt
 have hml:m<w3.heap.size:=by obtain⟨_,_,es,c,h2,_⟩:=hT;exact(Array.getElem?_eq_some_iff.1 h2).1
 have HC:=Lib.hid (ctnew_any (mach_fresh htl hml f n) 0 r Tp.none_ w3 (tmf_start HN.out htl hml (Nat.le_refl _) hT))
 have HEND:=Lib.hid (show ∀u w4,On (fun k=>k=t\/k=m) w3.heap.size t u (TMf w3.heap.size t m f n) 0 0 r Tp.none_ w4->Below w3.heap.size w3 w4->NewEnd n r w (.returned (.pointer (some ⟨u,0,none⟩))) w4 from fun u w4 ho hb=>⟨_,t,m,f,u,rfl,htl,hml,Nat.le_trans HB2.out.size htm.1,Nat.le_trans HB2.out.size htm.2,hB3.size,ho,hB3.trans (hb.mono hB3.size)⟩)
 clear hT hb3 hB3 htm htl hml
 go_wp2_with fail
 refine HC.out.mono ?_
 rintro e w4 ⟨u,rfl,ho,_,hb⟩
 have HE:=Lib.hid (HEND.out u w4 ho hb)
 clear ho hb
 go_wp2
 go_ret
 exact HE.out
structure RawPg where
 id:Int
 depth:Nat
 leaf:Bool
 ae:Option Addr
 ne:Nat
 ce:Nat
 ai:Option Addr
 ni:Nat
 ci:Nat
 ay:Option Addr
 ny:Nat
 cy:Nat
def RawPg.cells(x:RawPg):List Value:= [.int .i64 x.id, .int .i64 (x.depth:Nat), .bool x.leaf, .slice x.ae x.ne x.ce, .slice x.ai x.ni x.ci, .slice x.ay x.ny x.cy]
def pgE:Enc RawPg:=⟨RawPg.cells,6,fun _=>rfl,by decide,fun x u hu=>by simp[RawPg.cells]at hu;rcases hu with rfl | rfl | rfl | rfl | rfl | rfl<;>rfl⟩
theorem eiPg:EI Tryz.prog 60 (.agg #[.int .i64 0, .int .i64 0, .bool false, .slice none 0 0, .slice none 0 0, .slice none 0 0]) 6 96:=EI.mk (by kernel_rfl)
def PgAt(lo:Nat)(w:World)(x:RawPg)(p:Int × Nat × Nd.Node):Prop:=x.id=p.1/\x.depth=p.2.1/\NF lo w (nodeV x.leaf x.ae x.ne x.ce x.ai x.ni x.ci x.ay x.ny x.cy) p.2.2
def PgsAt(lo:Nat)(w:World)(xs:List RawPg)(l:List (Int × Nat × Nd.Node)):Prop:=xs.length=l.length/\∀ (j:Nat) (h1:j<xs.length) (h2:j<l.length),PgAt lo w xs[j] l[j]
section
variable {S:Nat->Prop}{lo lo':Nat}{w w':World}{xs:List RawPg}{l:List (Int × Nat × Nd.Node)}
theorem PgsAt.nil_(lo:Nat)(w:World):PgsAt lo w [] []:=⟨rfl,fun j h=>absurd h (by simp)⟩
theorem PgsAt.fr(h:PgsAt lo w xs l)(hf:Fr S w w')(hS:∀k,S k->k<lo):PgsAt lo w' xs l:=⟨h.1,fun j h1 h2=>⟨(h.2 j h1 h2).1,(h.2 j h1 h2).2.1,(h.2 j h1 h2).2.2.fr hf hS⟩⟩
theorem PgsAt.snoc(h:PgsAt lo w xs l){x:RawPg}{p:Int × Nat × Nd.Node}(hp:PgAt lo w x p):PgsAt lo w (xs++ [x]) (l++ [p]):=by
 refine⟨by simp[h.1],fun j h1 h2=> ?_⟩
 have he:=h.1
 by_cases hj:j<xs.length
 ·rw[List.getElem_append_left hj,List.getElem_append_left (by omega)]
  exact h.2 j hj (by omega)
 ·rw[List.length_append,List.length_singleton]at h1
  obtain rfl:j=xs.length:=by omega
  rw[List.getElem_append_right (Nat.le_refl _),List.getElem_append_right (by omega)]
  simpa[he]using hp
end
theorem NF.row2{lo b s n0:Nat}{w w':World}{v v2:Value}{n:Nd.Node}{xs:List Value}(h:NF lo w v n)(ho:w.ownsRow b 60 s v2 n0 xs)(hg:w.grownBy w' v2.ownBlock):NF lo w' v n:=by
 obtain⟨Ae,ce,Ai,ci,Ay,cy,e,h1,h2,h3⟩:=h
 exact⟨Ae,ce,Ai,ci,Ay,cy,e,h1.row2 ho (by decide) hg,h2.row2 ho (by decide) hg,h3.row2 ho (by decide) hg⟩
theorem PgsAt.row2{lo b s n0:Nat}{w w':World}{v2:Value}{ys:List RawPg}{l:List (Int × Nat × Nd.Node)}{xs:List Value}(h:PgsAt lo w ys l)(ho:w.ownsRow b 60 s v2 n0 xs)(hg:w.grownBy w' v2.ownBlock):PgsAt lo w' ys l:=⟨h.1,fun j h1 h2=>⟨(h.2 j h1 h2).1,(h.2 j h1 h2).2.1,(h.2 j h1 h2).2.2.row2 ho hg⟩⟩
theorem walk_view{disk:Tp.Disk}{σ:Tp.Pst}{f:Nat}{l l':List (Int × Nat × Nd.Node)}{id:Int}(h:Tp.pWalk disk σ f l id=(l',0)):∃f' n,f=f'+1/\σ.view disk id=some n/\Tp.pWalkKids (Tp.pWalk disk σ f') n.kids (l++ [(id,24-(f'+1),n)])=(l',0):=by
 cases f with
 |zero=>rw[Tp.pWalk]at h;simp at h
 |succ f=>
  rw[Tp.pWalk]at h
  cases hv:σ.view disk id with
  |none=>rw[hv]at h;simp at h
  |some n=>rw[hv]at h;exact⟨f,n,rfl,rfl,h⟩
theorem walkKids_at{wk:List (Int × Nat × Nd.Node)->Int->List (Int × Nat × Nd.Node) × Int}{ks:List Int}{j:Nat}(hj:j<ks.length){l l':List (Int × Nat × Nd.Node)}(h:Tp.pWalkKids wk (ks.drop j) l=(l',0)):∃l1,wk l ks[j]=(l1,0)/\Tp.pWalkKids wk (ks.drop (j+1)) l1=(l',0):=by
 rw[List.drop_eq_getElem_cons hj,Tp.pWalkKids]at h
 generalize hx:wk l ks[j]=x at h
 obtain⟨l1,e⟩:=x
 by_cases he:e=0
 ·subst he;exact⟨l1,rfl,h⟩
 ·exfalso
  split at h
  ·rename_i heq;exact he (by injection heq)
  ·injection h with _ h;exact he (by simp_all)
theorem walkKids_len{wk:List (Int × Nat × Nd.Node)->Int->List (Int × Nat × Nd.Node) × Int}(hw:∀l id,l.length<=(wk l id).1.length):∀ (ks:List Int) (l:List (Int × Nat × Nd.Node)),l.length<=(Tp.pWalkKids wk ks l).1.length
 | [],l=>Nat.le_refl _
 |k::ks,l=>by
  rw[Tp.pWalkKids]
  have h:=hw l k
  split
  ·rename_i l1 he
   rw[he]at h
   exact Nat.le_trans h (walkKids_len hw ks l1)
  ·rename_i l1 e he _
   rw[‹wk l k=_›]at h
   exact h
theorem walk_len(disk:Tp.Disk)(σ:Tp.Pst):∀ (f:Nat) (l:List (Int × Nat × Nd.Node)) (id:Int),l.length<=(Tp.pWalk disk σ f l id).1.length
 |0,l,id=>Nat.le_refl _
 |f+1,l,id=>by
  rw[Tp.pWalk]
  split
  ·exact Nat.le_refl _
  ·have:=walkKids_len (walk_len disk σ f) ‹Nd.Node›.kids (l++ [(id,24-(f+1), ‹Nd.Node›)])
   rw[List.length_append]at this
   omega
def WkEnd(S:Nat->Prop)(B t u:Nat)(TM:Nat->Tp.Pst->World->Prop)(root:Int)(r:Nat)(σ:Tp.Pst)(lo:Nat)(own:Option Nat)(l':List (Int × Nat × Nd.Node))(w:World)(e:Ending)(w':World):Prop:=
 ∃A' c' xs',e= .returned (.tuple #[.slice A' xs'.length c', .int .i64 0])/\LO pgE 60 w' lo (.slice A' xs'.length c') xs'/\PgsAt lo w' xs' l'/\On S B t u TM root 0 r σ w'/\Fr (fun k=>S k\/own=some k) w w'/\∀k,(Value.slice A' xs'.length c').ownBlock=some k->own=some k\/w.heap.size<=k
section
variable {S:Nat->Prop}{B t:Nat}{room:Int}{disk:Tp.Disk}{TM:Nat->Tp.Pst->World->Prop}
theorem walk_any(M:Mach S B t room disk TM)(u:Nat)(root:Int)(σ:Tp.Pst)(lo:Nat)(hlo:B<=lo):∀ (f d:Nat) (id:Int) (l l':List (Int × Nat × Nd.Node)) (xs:List RawPg) (A:Option Addr) (c r:Nat) (w:World),d+f=24->Tp.pWalk disk σ f l id=(l',0)->l'.length<=100000->LO pgE 60 w lo (.slice A xs.length c) xs->PgsAt lo w xs l->lo<=w.heap.size->On S B t u TM root 0 (r+Tp.cost Tp.rd disk σ f id) σ w->
  Calls Tryz.prog 90 #[.pointer (some ⟨u,0,none⟩), .slice A xs.length c, .int .i64 id, .int .i64 (d:Nat)] w (WkEnd S B t u TM root r σ lo (Value.slice A xs.length c).ownBlock l' w):=by
 intro f
 induction f with
 |zero=>intro d id l l' xs A c r w hd h;rw[Tp.pWalk]at h;simp at h
 |succ f ih=>
  intro d id l l' xs A c r w hd hwk hl' hrow hpg hlw h
  obtain⟨f',n,e,hv,hgo⟩:=walk_view hwk
  obtain rfl:f'=f:=by omega
  have hdd:24-(f'+1)=d:=by omega
  rw[hdd]at hgo
  have hll:l.length+1<=100000:=by
   have h1:=walkKids_len (walk_len disk σ f') n.kids (l++ [(id,d,n)])
   rw[hgo,List.length_append]at h1
   simp only[List.length_singleton]at h1
   omega
  have hxl:xs.length+1<=100000:=by have:=hpg.1;omega
  clear hwk
  rw[Tp.cost_eq hv,show Tp.rd n=2 from rfl]at h
  obtain⟨cst,hcst⟩:∃c,c=Tp.costs Tp.rd disk σ f' n.kids:=⟨_,rfl⟩
  rw[<-hcst]at h
  have hfit:=(M.ht h.tm hv).1
  have hkl:n.kids.length<=100000:=(fits_nb hfit).i
  have HLD:=Lib.hid (load_any M u root 0 (r+cst) σ id d n hv (by omega) w (h.less M (by omega)))
  have hsz:=M.size h.tm
  have hun:u<w.heap.size:=h.self.lt
  have hSlo:∀k,S k->k<lo:=fun k a=>Nat.lt_of_lt_of_le (M.low k a) hlo
  have HIH:=Lib.hid ih
  have HM:=Lib.hid M
  have HGO:=Lib.hid hgo
  have HC:=Lib.hid hcst
  have HROW:=Lib.hid hrow
  have HPG:=Lib.hid hpg
  have HSL:=Lib.hid hSlo
  clear h hv hfit hgo ih M hcst e hrow hpg hSlo
  go_enter Tryz.func90,Tryz.ntmps90
  go_wp2_with fail
  refine Calls.mono HLD.out ?_
  rintro e w1 ⟨v,rfl,hnf,hon1,hf1⟩
  obtain⟨N1,c1,N2,c2,N3,c3,rfl,rn⟩:=hnf
  have hz1:=hf1.size
  have hb2:=(Below.refl w1.heap.size w1).alloc (Nat.le_refl _) (.cells #[.bool n.leaf, .slice N1 n.ents.length c1, .slice N2 n.kids.length c2, .slice N3 n.keys.length c3] 32)
  have hF2:Fr S w _:=hf1.trans (.of_below hb2)
  have hon2:=hon1.below HM.out hb2
  have hBn:=Blk.new w1 32 #[.bool n.leaf, .slice N1 n.ents.length c1, .slice N2 n.kids.length c2, .slice N3 n.keys.length c3]
  have hNF:=NF.below (lo:=w.heap.size) (v:= .agg #[.bool n.leaf, .slice N1 n.ents.length c1, .slice N2 n.kids.length c2, .slice N3 n.keys.length c3]) ⟨N1,c1,N2,c2,N3,c3,rfl,rn⟩ hb2
  have hR2:LO pgE 60 _ lo _ xs:=HROW.out.fr hF2 HSL.out
  have hP2:=HPG.out.fr hF2 HSL.out
  unfold nodeV
  have g0:=hBn.cell 0
  have g1:=hBn.cell 1
  have g2:=hBn.cell 2
  have g3:=hBn.cell 3
  have ln:=hBn.lt
  have row:World.ownsRow _ lo 60 6 (.slice A xs.length c) xs.length (pgE.cells xs):=hR2
  have hbase:=Nat.le_trans hlw hF2.size
  have HBn:=Lib.hid hBn
  have HF2:=Lib.hid hF2
  have HON2:=Lib.hid hon2
  have HNF:=Lib.hid hNF
  have HR2:=Lib.hid hR2
  have HP2:=Lib.hid hP2
  have HRN:=Lib.hid rn
  have HBB:=Lib.hid hb2
  clear hb2 hon1 hon2 hf1 rn hBn hNF hF2 hR2 hP2
  go_wp2_with (at_builtin;refine wpList_app1 rfl _ _ 56 rfl eiPg Tryz.underlying56 rfl (by decide) rfl row rfl (by simp) rfl (by simp[Value.oneCell']) (by unfold maxLen;omega) (by omega) hbase ?_;intro v' w3 hown' hgrow hbel hob _;obtain⟨A1,k1,rfl⟩:=own_form hown';have hB3:=HBn.out.grown hgrow (fun e=>own_blk_ne row HBn.out (by decide) e.symm);have b2:w3.cell? ⟨w1.heap.size,2,none⟩=some (.slice N2 n.kids.length c2):=hB3.cell 2;have b3:=hB3.lt;have HT:=Lib.hid (And.intro hown' (And.intro hgrow hob));clear hB3 hown' hgrow hob hbel)
  obtain⟨hown',hgrow,hob⟩:=HT.out
  have hr3:LO pgE 60 w3 lo (.slice A1 (xs.length+1) k1) (xs++ [⟨id,d,n.leaf,N1,n.ents.length,c1,N2,n.kids.length,c2,N3,n.keys.length,c3⟩]):=LO.snoc rfl rfl rfl hown'
  have hp3:PgsAt lo w3 (xs++ [⟨id,d,n.leaf,N1,n.ents.length,c1,N2,n.kids.length,c2,N3,n.keys.length,c3⟩]) (l++ [(id,d,n)]):=(HP2.out.row2 row hgrow).snoc ⟨rfl,rfl,(HNF.out.row2 row hgrow).lower hlw⟩
  have hon3:=HON2.out.row HM.out row hlo (by decide) (by decide) (by decide) (by decide) (by decide) hgrow
  have hk3:=((LO.below HRN.out.2.1 HBB.out).row2 row (by decide) hgrow).sv
  have hxl1:(xs++ [(⟨id,d,n.leaf,N1,n.ents.length,c1,N2,n.kids.length,c2,N3,n.keys.length,c3⟩:RawPg)]).length=xs.length+1:=by simp
  rw[<-hxl1]at hr3 hob ⊢
  have hkl3:=(LO.below HRN.out.2.1 HBB.out).row2 row (by decide) hgrow
  have hne:∀b,(Value.slice N2 n.kids.length c2).ownBlock=some b->(Value.slice A1 (xs++ [(⟨id,d,n.leaf,N1,n.ents.length,c1,N2,n.kids.length,c2,N3,n.keys.length,c3⟩:RawPg)]).length k1).ownBlock≠some b:=fun b hb=>own_neq hkl3 hr3 (by decide) hb
  have hfar:∀b off,N2=some ⟨b,off,none⟩->(Value.slice N2 n.kids.length c2).ownBlock=some b/\w.heap.size<=b/\b<w3.heap.size:=fun b off e=>by
   rcases hkl3.2 with⟨e1,_⟩ | ⟨g,cap,cur,e1,e2,e3,_⟩
   ·injection e1 with e1;rw[e1]at e;cases e
   ·injection e1 with e1;rw[e1]at e;injection e with e;injection e with e;subst e;subst e1;exact⟨rfl,e2,(Array.getElem?_eq_some_iff.1 e3).1⟩
  have hF3:Fr (fun k=>S k\/(Value.slice A xs.length c).ownBlock=some k) w w3:=(HF2.out.more fun _=> .inl).trans ((Fr.of_grown hgrow).more fun _=> .inr)
  have hob3:∀k,(Value.slice A1 (xs++ [(⟨id,d,n.leaf,N1,n.ents.length,c1,N2,n.kids.length,c2,N3,n.keys.length,c3⟩:RawPg)]).length k1).ownBlock=some k->(Value.slice A xs.length c).ownBlock=some k\/w.heap.size<=k:=fun k hk=>by
   rcases hob with e | ⟨g,e,hg⟩
   ·exact .inl (e ▸ hk)
   ·rw[e]at hk;injection hk with hk;subst hk;exact .inr (Nat.le_trans HF2.out.size hg)
  have HK3:=Lib.hid hk3
  have HNE:=Lib.hid hne
  have HFAR:=Lib.hid hfar
  have HF3:=Lib.hid hF3
  have HOB3:=Lib.hid hob3
  have HR3:=Lib.hid hr3
  have HP3:=Lib.hid hp3
  have HON3:=Lib.hid (hon3.less HM.out (show r+Tp.costs Tp.rd disk σ f' (n.kids.drop 0)<=r+cst by rw[HC.out];exact Nat.le_refl _))
  generalize (xs++ [(⟨id,d,n.leaf,N1,n.ents.length,c1,N2,n.kids.length,c2,N3,n.keys.length,c3⟩:RawPg)])=xs1 at*
  clear hown' hgrow hob hr3 hp3 hon3 hk3 hxl1 hkl3 hne hfar hF3 hob3 HT row g0 g1 g2 g3 ln hbase b2 b3
  go_loopg [1,35] n.kids.length (fun g s1 s35 wr=>∃ (j:Nat) (xj:List RawPg) (Aj:Option Addr) (cj:Nat) (lj:List (Int × Nat × Nd.Node)),s1= .slice Aj xj.length cj/\s35= .int .i64 (j:Nat)/\j<=n.kids.length/\n.kids.length-j<=g/\Hid (Tp.pWalkKids (Tp.pWalk disk σ f') (n.kids.drop j) lj=(l',0))/\Hid (LO pgE 60 wr lo (.slice Aj xj.length cj) xj)/\Hid (PgsAt lo wr xj lj)/\Hid (On S B t u TM root 0 (r+Tp.costs Tp.rd disk σ f' (n.kids.drop j)) σ wr)/\Hid (Fr (fun k=>S k\/(Value.slice A xs.length c).ownBlock=some k) w wr)/\Hid (∀k,(Value.slice Aj xj.length cj).ownBlock=some k->(Value.slice A1 xs1.length k1).ownBlock=some k\/w3.heap.size<=k)/\Hid (w3.heap.size<=wr.heap.size/\∀b off,N2=some ⟨b,off,none⟩->wr.heap[b]? =w3.heap[b]?))
  case atStart=>exact⟨0,xs1,A1,k1,l++ [(id,d,n)],rfl,rfl,Nat.zero_le _,by omega,HGO,HR3,HP3,HON3,HF3,Lib.hid (fun k a=> .inl a),Lib.hid ⟨Nat.le_refl _,fun _ _ _=>rfl⟩⟩
  case round=>
   obtain⟨j,xj,Aj,cj,lj,rfl,rfl,hjk,hjg,HGJ,HRJ,HPJ,HONJ,HFJ,HOJ,HBJ⟩:=hrel
   by_cases hj:j<n.kids.length
   ·obtain⟨bb,oo,rfl,hbb,kc⟩:=HK3.out.ls.int hj
    have hcell:wr.cell? ⟨bb,oo+j,none⟩=some (.int .i64 (n.kids[j]'hj)):=by
     rw[<-kc]
     unfold World.cell?
     rw[HBJ.out.2 bb oo rfl]
    have hbl:bb<wr.heap.size:=Nat.lt_of_lt_of_le hbb HBJ.out.1
    obtain⟨l1,hwj,hgj⟩:=walkKids_at hj HGJ.out
    have hon:=HONJ.out
    rw[Tp.costs_drop n.kids j hj,show r+(Tp.cost Tp.rd disk σ f' n.kids[j]+Tp.costs Tp.rd disk σ f' (n.kids.drop (j+1)))=r+Tp.costs Tp.rd disk σ f' (n.kids.drop (j+1))+Tp.cost Tp.rd disk σ f' n.kids[j]by omega]at hon
    have hl1:l1.length<=100000:=by
     have h1:=walkKids_len (walk_len disk σ f') (n.kids.drop (j+1)) l1
     rw[hgj]at h1
     exact Nat.le_trans h1 hl'
    have hcall:=HIH.out (d+1) (n.kids[j]'hj) lj l1 xj Aj cj (r+Tp.costs Tp.rd disk σ f' (n.kids.drop (j+1))) wr (by omega) hwj hl1 HRJ.out HPJ.out (Nat.le_trans hlw HFJ.out.size) hon
    rw[show((d+1:Nat):Int)=(d:Int)+1 by omega]at hcall
    have HCALL:=Lib.hid hcall
    have hwd:IntKind.i64.wrap ((d:Int)+1)=(d:Int)+1:=IntWalk.i64_in _ (by omega)
    have hwj1:IntKind.i64.wrap ((j:Int)+1)=(j:Int)+1:=IntWalk.i64_in _ (by omega)
    have hji:(j:Int)<(n.kids.length:Nat):=by omega
    have HGJ1:=Lib.hid hgj
    generalize n.kids[j]'hj=kid at*
    clear hcall hon hwj hgj hl1 kc
    go_wp2_with fail
    refine Calls.mono HCALL.out ?_
    rintro e w4 ⟨A4,c4,x4,rfl,hr4,hp4,hon4,hf4,ho4⟩
    have hF4:=HFJ.out.go hf4 (fun k a=>by
     rcases a with a | a
     ·exact .inl (.inl a)
     ·rcases HOJ.out k a with a | a
      ·rcases HOB3.out k a with a | a
       ·exact .inl (.inr a)
       ·exact .inr a
      ·exact .inr (Nat.le_trans HF3.out.size a))
    have HR4:=Lib.hid hr4
    have HP4:=Lib.hid hp4
    have HON4:=Lib.hid hon4
    have HF4:=Lib.hid hF4
    have HO4:Hid (∀k,(Value.slice A4 x4.length c4).ownBlock=some k->(Value.slice A1 xs1.length k1).ownBlock=some k\/w3.heap.size<=k):=Lib.hid (fun k hk=>by
     rcases ho4 k hk with a | a
     ·exact HOJ.out k a
     ·exact .inr (Nat.le_trans HBJ.out.1 a))
    have HB4:Hid (w3.heap.size<=w4.heap.size/\∀b off,(some ⟨bb,oo,none⟩:Option Addr)=some ⟨b,off,none⟩->w4.heap[b]? =w3.heap[b]?):=Lib.hid ⟨Nat.le_trans HBJ.out.1 hf4.size,fun b off e=>by
     obtain⟨q1,q2,q3⟩:=HFAR.out b off e
     refine(hf4.block b (Nat.lt_of_lt_of_le q3 HBJ.out.1) (fun a=> ?_)).trans (HBJ.out.2 b off e)
     rcases a with a | a
     ·exact HM.out.far (Nat.le_trans hsz q2) a
     ·rcases HOJ.out b a with a | a
      ·exact HNE.out b q1 a
      ·omega⟩
    clear hr4 hp4 hon4 hf4 ho4 hF4
    go_wp2
    go_roundg (n.kids.length-(j+1))
    case measure=>omega
    case rel=>exact⟨j+1,x4,A4,c4,l1,rfl,by go_num,by omega,Nat.le_refl _,HGJ1,HR4,HP4,HON4,HF4,HO4,HB4⟩
   ·have hji:¬ (j:Int)<(n.kids.length:Nat):=by omega
    obtain rfl:j=n.kids.length:=by omega
    have hend:=HGJ.out
    rw[List.drop_eq_nil_of_le (Nat.le_refl _),Tp.pWalkKids]at hend
    obtain rfl:lj=l':=by injection hend
    have HEND:=Lib.hid (show WkEnd S B t u TM root r σ lo (Value.slice A xs.length c).ownBlock lj w (.returned (.tuple #[.slice Aj xj.length cj, .int .i64 0])) wr from⟨Aj,cj,xj,rfl,HRJ.out,HPJ.out,HONJ.out.less HM.out (by omega),HFJ.out,fun k hk=>by
     rcases HOJ.out k hk with a | a
     ·exact HOB3.out k a
     ·exact .inr (Nat.le_trans HF3.out.size a)⟩)
    clear hend
    go_wp2
    go_ret2
    exact HEND.out
end
def WlEnd(S:Nat->Prop)(B t u:Nat)(TM:Nat->Tp.Pst->World->Prop)(root:Int)(r:Nat)(σ:Tp.Pst)(l:List (Int × Nat × Nd.Node))(w:World)(e:Ending)(w':World):Prop:=
 ∃A c xs,e= .returned (.tuple #[.slice A xs.length c, .int .i64 0])/\LO pgE 60 w' w.heap.size (.slice A xs.length c) xs/\PgsAt w.heap.size w' xs l/\On S B t u TM root 0 r σ w'/\Fr S w w'
section
variable {S:Nat->Prop}{B t:Nat}{room:Int}{disk:Tp.Disk}{TM:Nat->Tp.Pst->World->Prop}
theorem wal_any(M:Mach S B t room disk TM)(u:Nat)(root:Int)(h0:root≠0)(σ:Tp.Pst)(l:List (Int × Nat × Nd.Node))(r:Nat)(w:World)(hwk:Tp.pWalk disk σ 24 [] root=(l,0))(hl:l.length<=100000)(h:On S B t u TM root 0 (r+Tp.cost Tp.rd disk σ 24 root) σ w):
  Calls Tryz.prog 31 #[.pointer (some ⟨u,0,none⟩)] w (WlEnd S B t u TM root r σ l w):=by
 have t1:w.cell? ⟨u,1,none⟩=some (.int .i64 root):=h.self.cell 1
 have t2:w.cell? ⟨u,2,none⟩=some (.int .i64 0):=h.self.cell 2
 have lu:=h.self.lt
 have hrn:(root==0)=false:=by simpa using h0
 have HC:=Lib.hid (walk_any M u root σ w.heap.size (M.size h.tm) 24 0 root [] l [] none 0 r w (by omega) hwk hl (LO.nil_ _ _) (PgsAt.nil_ _ _) (Nat.le_refl _) h)
 clear h M hwk
 go_enter Tryz.func31,Tryz.ntmps31
 go_wp2_with fail
 refine Calls.mono HC.out ?_
 rintro e w2 ⟨A,c,xs,rfl,hr,hp,hon,hf,_⟩
 have HEND:=Lib.hid (show WlEnd S B t u TM root r σ l w (.returned (.tuple #[.slice A xs.length c, .int .i64 0])) w2 from⟨A,c,xs,rfl,hr,hp,hon,hf.more (fun k a=>by
  rcases a with a | a
  ·exact a
  ·simp[Value.ownBlock]at a)⟩)
 clear hr hp hon hf
 go_wp2
 go_ret2
 exact HEND.out
end
structure TAd where
 B:Nat
 t:Nat
 m:Nat
 f:Nat
 u:Nat
def TAd.S(a:TAd)(k:Nat):Prop:=k=a.t\/k=a.m
def TAd.F(a:TAd)(k:Nat):Prop:=a.S k\/k=a.u
abbrev noDisk:Tp.Disk:=fun _=>none
structure TSt(n:Nat)(a:TAd)(root:Int)(σ:Tp.Pst)(ids:List Int)(es:List Ent)(tok:Nat)(w:World):Prop where
 on:On a.S a.B a.t a.u (TMf a.B a.t a.m a.f n) root 0 0 σ w
 rt:Tp.RootAt noDisk [] σ root es tok ids
 mine:∀x,x∈σ.mine ↔ x∈ids
 tl:tok<=200000
def TOne(n:Nat)(a:TAd)(es:List Ent)(tok:Nat)(w:World):Prop:=∃root σ ids,TSt n a root σ ids es tok w/\ids.length<=1
theorem On.any{S:Nat->Prop}{B t m f n u r r':Nat}{root e:Int}{σ:Tp.Pst}{w:World}(h:On S B t u (TMf B t m f n) root e r σ w):On S B t u (TMf B t m f n) root e r' σ w:=⟨h.tm.less,h.self,h.hu⟩
section
variable {n:Nat}{a:TAd}{root:Int}{σ:Tp.Pst}{ids:List Int}{es:List Ent}{tok:Nat}{w w':World}
theorem TSt.mach(h:TSt n a root σ ids es tok w):Mach a.S a.B a.t (max (n:Int) 2) noDisk (TMf a.B a.t a.m a.f n):=mach_fresh h.on.tm.low.1 h.on.tm.low.2.1 a.f n
theorem TSt.low(h:TSt n a root σ ids es tok w):∀k,a.F k->k<w.heap.size:=fun k hk=>by
 have h1:=h.on.tm.low
 rcases hk with hk | rfl
 ·have:=h.mach.low k hk;omega
 ·exact h.on.self.lt
theorem TSt.nodup(h:TSt n a root σ ids es tok w):ids.Nodup:=by
 rcases h.rt with⟨_,_,rfl⟩ | ⟨_,s,_,_,_,_,_,q,_⟩
 ·exact List.nodup_nil
 ·exact q
theorem TSt.mineLen(h:TSt n a root σ ids es tok w):σ.mine.length=ids.length:=by
 have h1:=List.Nodup.length_le_of_subset h.on.tm.ap.nd (fun x hx=>(h.mine x).1 hx)
 have h2:=List.Nodup.length_le_of_subset h.nodup (fun x hx=>(h.mine x).2 hx)
 omega
theorem TSt.below(h:TSt n a root σ ids es tok w)(hb:Below w.heap.size w w'):TSt n a root σ ids es tok w':=⟨h.on.below h.mach hb,h.rt,h.mine,h.tl⟩
theorem TSt.with_(h:TSt n a root σ ids es tok w){r:Nat}(ho:On a.S a.B a.t a.u (TMf a.B a.t a.m a.f n) root 0 r σ w'):TSt n a root σ ids es tok w':=⟨ho.any,h.rt,h.mine,h.tl⟩
theorem TSt.up(h:TSt n a root σ ids es tok w){g:List Ent->List Ent}{key:ByteArray}{N tok':Nat}{X:List Int->Prop}(hU:Tp.Res (max (n:Int) 2) noDisk [] σ (fun x=>x∈ids) N (Tp.pUpdate (max (n:Int) 2) noDisk g key σ root) (fun root' σ' ids'=>Tp.RootAt noDisk [] σ' root' (g es) tok' ids'/\X ids'))(hs:(ids.length:Int)+N<max (n:Int) 2-2)(ht:tok'<=200000):
  ∃root' σ' ids',Tp.pUpdate (max (n:Int) 2) noDisk g key σ root=(.ok root',σ')/\X ids'/\∀w' r,On a.S a.B a.t a.u (TMf a.B a.t a.m a.f n) root' 0 r σ' w'->TSt n a root' σ' ids' (g es) tok' w':=by
 have hl:=h.mineLen
 generalize Tp.pUpdate (max (n:Int) 2) noDisk g key σ root=o at*
 obtain⟨o,σ'⟩:=o
 rcases hU with⟨root',ids',e1,s1,n1,l1,q1,q2⟩ | ⟨e1,s1,l1⟩
 ·simp only at e1 s1 q1
  subst e1
  refine⟨root',σ',ids',rfl,q2,fun w' r ho=>⟨ho.any,q1,fun x=> ?_,ht⟩⟩
  rw[s1.mem x,h.mine x]
  constructor
  ·rintro(⟨a1,a2⟩ | ⟨a1,_⟩)
   ·exact absurd a1 a2
   ·exact a1
  ·intro a1
   exact .inr ⟨a1,Rp.mem_nil _⟩
 ·exfalso
  have:Tp.spare (max (n:Int) 2) []=max (n:Int) 2-2:=by unfold Tp.spare;simp[Rp.nums]
  omega
theorem gPut_eq{k v:ByteArray}(hr:En.right es=true)(hm:En.may k v=true):Tp.gPut k v es=En.put es k v:=by unfold Tp.gPut;rw[hr,hm];rfl
theorem gDel_eq{k:ByteArray}(hr:En.right es=true):Tp.gDel k es=En.del es k:=by unfold Tp.gDel;rw[hr];rfl
theorem ins_len(x:Ent):∀l:List Ent,(En.ins x l).length=l.length+1
 | []=>rfl
 |y::l=>by
  unfold En.ins
  split
  ·rfl
  ·rw[List.length_cons,ins_len x l];rfl
theorem del_len(l:List Ent)(k:ByteArray):(En.del l k).length<=l.length:=by unfold En.del;exact List.length_filter_le _ _
theorem get_some{l:List Ent}{k v:ByteArray}(h:En.get l k=some v):(k,v)∈l:=by
 unfold En.get at h
 rw[Option.map_eq_some_iff]at h
 obtain⟨x,hx,rfl⟩:=h
 have h1:=List.mem_of_find?_eq_some hx
 have h2:=List.find?_some hx
 rw[En.eqs_iff]at h2
 rw[<-h2];exact h1
theorem del_len_some{l:List Ent}{k v:ByteArray}(h:En.get l k=some v):(En.del l k).length+1<=l.length:=by
 have hm:=get_some h
 unfold En.del
 have:(l.filter fun x=> !En.eqs x.1 k).length<l.length:=by
  refine Nat.lt_of_le_of_ne (List.length_filter_le _ _) fun e=> ?_
  have:=List.length_filter_eq_length_iff.1 e _ hm
  simp[En.eqs_self]at this
 exact this
def dput(es:List Ent)(k:ByteArray):Nat:=if(En.get es k).isSome then 0 else 1
theorem dput_le(es:List Ent)(k:ByteArray):dput es k<=1:=by unfold dput;split<;>omega
theorem eput_len{k v:ByteArray}(es:List Ent):(En.put es k v).length<=es.length+dput es k:=by
 unfold En.put dput
 rw[ins_len]
 cases h:En.get es k with
 |none=>have:=del_len es k;simp;omega
 |some v=>have:=del_len_some h;simp;omega
theorem tst_put1(h:TOne n a es tok w){k v:ByteArray}(hm:En.may k v=true)(hf:Nd.esize (En.put es k v)<=240)(hr:4<n)(ht:tok<=1000):
  Calls Tryz.prog 27 #[.pointer (some ⟨a.u,0,none⟩), .string k, .string v] w fun e w'=>e= .returned (.int .i64 0)/\TOne n a (En.put es k v) (tok+dput es k) w'/\Fr a.F w w':=by
 obtain⟨root,σ,ids,h,hi⟩:=h
 have hg:=gPut_eq h.rt.right hm
 have hU:=Tp.update_small (g:=Tp.gPut k v) (key:=k) h.on.tm.ap h.rt hi (by
  rw[hg];unfold En.put;intro e
  have:=congrArg List.length e
  rw[ins_len]at this;simp at this) (by rw[hg];exact Tp.mkLeaf_fits (En.right_put h.rt.right hm) hf) (dput es k) (by rw[hg];exact eput_len es)
 obtain⟨root',σ',ids',e1,hi2,h2⟩:=h.up (X:=fun i=>i.length<=1) hU (by omega) (by have:=dput_le es k;omega)
 refine(ctput_may h.mach a.u root k v hm 0 σ (by rw[e1];simp) w h.on.any).mono ?_
 rintro e w' ⟨hres,hf⟩
 rw[e1]at hres
 rcases hres with⟨p,hp,rfl,ho⟩ | ⟨hp,_⟩
 ·injection hp with hp
  subst hp
  refine⟨rfl,⟨root',σ',ids', ?_,hi2⟩,hf⟩
  rw[<-hg]
  exact h2 w' 0 ho
 ·cases hp
theorem TSt.find(h:TSt n a root σ ids es tok w)(k:ByteArray):Tp.pFind noDisk σ k 24 root= .ok (En.get es k):=by
 rcases h.rt with⟨rfl,rfl,rfl⟩ | ⟨hh,s,rfl,rfl,rfl,q4,q5,q6,q7,q8⟩
 ·rfl
 ·have hz:s.id≠0:=fun e=>by
   have:=Tp.use_range (room:=max (n:Int) 2) h.on.tm.ap (q7 s.id (Tp.tr_id q5))
   omega
  have h8:=Tp.low_of q8 (by have:=h.tl;omega)
  exact Tp.find_tr hh 24 none none s (by omega) q5 hz (fun a h=>by cases h) (fun a h=>by cases h)
theorem tst_get(h:TSt n a root σ ids es tok w)(k:ByteArray):
  Calls Tryz.prog 21 #[.pointer (some ⟨a.u,0,none⟩), .string k] w fun e w'=>e= .returned (getV (En.get es k))/\TSt n a root σ ids es tok w'/\Fr a.S w w':=by
 refine(tget_any h.mach a.u root k 0 σ (En.get es k) (h.find k) w h.on.any).mono ?_
 rintro e w' ⟨rfl,ho,hf⟩
 exact⟨rfl,h.with_ ho,hf⟩
theorem tst_del1(h:TOne n a es tok w)(k:ByteArray){v:ByteArray}(hgk:En.get es k=some v)(hne:En.del es k≠ [])(hf:Nd.esize (En.del es k)<=240)(hr:4<n):
  Calls Tryz.prog 67 #[.pointer (some ⟨a.u,0,none⟩), .string k] w fun e w'=>e= .returned (.tuple #[.bool true, .int .i64 0])/\TOne n a (En.del es k) tok w'/\Fr a.F w w':=by
 obtain⟨root,σ,ids,h,hi⟩:=h
 have hfd:=h.find k
 rw[hgk]at hfd
 have hg:=gDel_eq (k:=k) h.rt.right
 have hU:=Tp.update_small (g:=Tp.gDel k) (key:=k) h.on.tm.ap h.rt hi (by rw[hg];exact hne) (by rw[hg];exact Tp.mkLeaf_fits (En.right_del h.rt.right) hf) 0 (by rw[hg];exact del_len es k)
 obtain⟨root',σ',ids',e1,hi2,h2⟩:=h.up (X:=fun i=>i.length<=1) hU (by omega) (by have:=h.tl;omega)
 refine(tdel_some h.mach a.u root k v 0 σ hfd (by rw[e1];simp) w h.on.any).mono ?_
 rintro e w' ⟨hres,hf⟩
 rw[e1]at hres
 rcases hres with⟨p,hp,rfl,ho⟩ | ⟨hp,_⟩
 ·injection hp with hp
  subst hp
  refine⟨rfl,⟨root',σ',ids', ?_,hi2⟩,hf⟩
  rw[<-hg]
  exact h2 w' 0 ho
 ·cases hp
theorem tst_new(k:Int)(w:World):Calls Tryz.prog 65 #[.int .i64 k] w fun e w'=>∃a:TAd,e= .returned (.pointer (some ⟨a.u,0,none⟩))/\TOne (diskN k) a [] 0 w'/\Below w.heap.size w w'/\∀x,a.F x->w.heap.size<=x:=by
 refine(tree_any k 0 w).mono ?_
 rintro e w' ⟨B,t,m,f,u,rfl,ht,hm,h1,h2,h3,ho,hb⟩
 refine⟨⟨B,t,m,f,u⟩,rfl,⟨0,Tp.none_, [],⟨ho, .inl ⟨rfl,rfl,rfl⟩,fun x=>by simp[Tp.none_],by omega⟩,by simp⟩,hb,fun x hx=> ?_⟩
 have:=ho.hu
 rcases hx with(rfl | rfl) | rfl
 ·exact h1
 ·exact h2
 ·exact Nat.le_trans h3 this
end
end Go.Proofs.YtjoiajmbfbjnnaaGreatDoor
namespace Tp
open En
def inB(hi:Str)(x:Ent):Bool:=hi.toList.isEmpty||lt x.1 hi
def ge_(frm:Str)(x:Ent):Bool:= !lt x.1 frm
def scanF(es:List Ent)(frm hi:Str):List Ent:=es.filter fun x=>inB hi x&&ge_ frm x
theorem from_filter{frm:Str} :∀ {es:List Ent},Srt es->from_ es frm=es.filter (ge_ frm)
 | [],_=>rfl
 |x::l,h=>by
  obtain⟨h1,h2⟩:=srt_cons.1 h
  rw[from_cons]
  cases hx:lt x.1 frm with
  |true=>
   rw[if_pos rfl,from_filter h2,List.filter_cons_of_neg (by simp[ge_,hx])]
  |false=>
   rw[if_neg (by simp),List.filter_cons_of_pos (by simp[ge_,hx])]
   congr 1
   refine(List.filter_eq_self.2 fun y hy=> ?_).symm
   unfold ge_
   cases hy2:lt y.1 frm with
   |false=>rfl
   |true=>rw[lt_trans (h1 y hy) hy2]at hx;cases hx
theorem take_filter{hi:Str} :∀ {es:List Ent},Srt es->es.takeWhile (inB hi)=es.filter (inB hi)
 | [],_=>rfl
 |x::l,h=>by
  obtain⟨h1,h2⟩:=srt_cons.1 h
  cases hx:inB hi x with
  |true=>rw[List.takeWhile_cons_of_pos hx,List.filter_cons_of_pos hx,take_filter h2]
  |false=>
   rw[List.takeWhile_cons_of_neg (by rw[hx];simp),List.filter_cons_of_neg (by rw[hx];simp)]
   refine(List.filter_eq_nil_iff.2 fun y hy=> ?_).symm
   unfold inB at hx ⊢
   rw[Bool.or_eq_false_iff]at hx
   rw[hx.1,Bool.false_or]
   intro hy2
   rw[lt_trans (h1 y hy) hy2]at hx
   cases hx.2
theorem srt_filter{es:List Ent}(h:Srt es)(p:Ent->Bool):Srt (es.filter p):=List.Pairwise.sublist List.filter_sublist h
theorem srt_right{es:List Ent}(h:En.right es=true):Srt es:=((right_iff es).1 h).2
theorem inB_nil(x:Ent):inB ⟨#[]⟩ x=true:=by
 unfold inB
 rw[Go.Lib.toList_data];rfl
theorem scan_all{es:List Ent}{frm:Str}(h:Srt es):scanF es frm ⟨#[]⟩=from_ es frm:=by
 rw[from_filter h]
 unfold scanF
 congr 1
 funext x
 rw[inB_nil,Bool.true_and]
theorem scan_whole{es:List Ent} :scanF es ⟨#[]⟩ ⟨#[]⟩=es:=by
 unfold scanF
 refine List.filter_eq_self.2 fun x _=> ?_
 rw[inB_nil,Bool.true_and]
 unfold ge_ lt
 rw[Go.Lib.toList_data (⟨#[]⟩:ByteArray)]
 cases x.1.toList<;>rfl
end Tp
namespace Go.Proofs.YtjoiajmbfbjnnaaGreatDoor
open Go.RowKit Go.Shelf
theorem ystep_scan(hi:ByteArray):∀ (l acc:List Ent),(Tp.ystep (scanS hi) acc l).1=acc++l.takeWhile (Tp.inB hi)
 | [],acc=>by simp[Tp.ystep]
 |x::l,acc=>by
  have hiff:(hi.toList= []\/En.lt x.1 hi=true) ↔ Tp.inB hi x=true:=by unfold Tp.inB;simp
  rw[Tp.ystep]
  by_cases hx:Tp.inB hi x=true
  ·have e:scanS hi acc x=(acc++ [x],true):=by unfold scanS;rw[if_pos (hiff.2 hx)]
   rw[e,if_pos rfl,ystep_scan hi l,List.takeWhile_cons_of_pos hx,List.append_assoc]
   rfl
  ·have e:scanS hi acc x=(acc,false):=by unfold scanS;rw[if_neg (fun h=>hx (hiff.1 h))]
   rw[e,if_neg (by simp),List.takeWhile_cons_of_neg hx,List.append_nil]
theorem scan_y{es:List Ent}(h:En.Srt es)(frm hi:ByteArray):(Tp.ystep (scanS hi) [] (Tp.from_ es frm)).1=Tp.scanF es frm hi:=by
 rw[ystep_scan,List.nil_append,Tp.from_filter h,Tp.take_filter (Tp.srt_filter h _),List.filter_filter]
 rfl
def nextV(l:List Ent):Ent × Bool:=match l with
 | []=>((⟨#[]⟩,⟨#[]⟩),false)
 |x::_=>(x,true)
theorem next_y(l:List Ent):(Tp.ystep nextS ((⟨#[]⟩,⟨#[]⟩),false) l).1=nextV l:=by
 cases l with
 |nil=>rfl
 |cons x l=>rfl
theorem cost_tr{σ:Tp.Pst}{disk:Tp.Disk} :∀ (h f:Nat) (lo hi:Option En.Str) (s:Tp.Sub),Tp.Tr (σ.view disk) h lo hi s->Tp.cost Tp.en disk σ f s.id<=s.es.length
 |_,0,_,_,_,_=>Nat.zero_le _
 |0,f+1,lo,hi,s,hs=>by
  rw[Tp.cost_eq hs.1]
  exact Nat.le_of_eq (by simp[Tp.en,Tp.costs,Nd.mkLeaf])
 |h+1,f+1,lo,hi,s,hs=>by
  obtain⟨subs,keys,a1,a2,a3,a4,a5,a6,a7⟩:=hs
  rw[Tp.cost_eq a1,a4,Tp.es_len]
  show 0+Tp.costs Tp.en disk σ f (subs.map (·.id))<=_
  rw[Nat.zero_add]
  unfold Tp.costs
  rw[List.map_map]
  have key:∀l:List Tp.Sub,(∀t∈l,t∈subs)->(l.map (Tp.cost Tp.en disk σ f ∘ (·.id))).sum<=(l.map fun t=>t.es.length).sum:=fun l=>by
   induction l with
   |nil=>intro _;exact Nat.le_refl _
   |cons t l ih=>
    intro hl
    obtain⟨l',h',hp⟩:=Tp.chain_all a7 t (hl t List.mem_cons_self)
    have h1:=cost_tr h f l' h' t hp
    have h2:=ih fun u hu=>hl u (List.mem_cons_of_mem _ hu)
    rw[List.map_cons,List.sum_cons,List.map_cons,List.sum_cons]
    show Tp.cost Tp.en disk σ f t.id+_<=_
    omega
  exact key subs fun _ h=>h
section
variable {n:Nat}{a:TAd}{root:Int}{σ:Tp.Pst}{ids:List Int}{es:List Ent}{tok:Nat}{w w':World}
theorem TSt.cost(h:TSt n a root σ ids es tok w)(h0:root≠0):Tp.cost Tp.en noDisk σ 24 root<=1000000:=by
 have hl:=h.rt.len
 have ht:=h.tl
 rcases h.rt with⟨rfl,_,_⟩ | ⟨hh,s,rfl,rfl,rfl,q4,q5,q6,q7,q8⟩
 ·exact absurd rfl h0
 ·have:=cost_tr (σ:=σ) (disk:=noDisk) hh 24 none none s q5;omega
theorem TSt.visit{Q:Type}(h:TSt n a root σ ids es tok w)(h0:root≠0)(y:Q->Ent->Q × Bool)(frm:ByteArray)(q:Q):Tp.pVisit noDisk σ frm (Tp.ystep y) 24 root q=((Tp.ystep y q (Tp.from_ es frm)).1, .ok (Tp.ystep y q (Tp.from_ es frm)).2):=by
 have ht:=h.tl
 rcases h.rt with⟨rfl,_,_⟩ | ⟨hh,s,rfl,rfl,rfl,q4,q5,q6,q7,q8⟩
 ·exact absurd rfl h0
 ·have h8:=Tp.low_of q8 (by omega)
  exact Tp.visit_tr y hh 24 none none s q (by omega) q5
def TScEnd(n:Nat)(a:TAd)(root:Int)(σ:Tp.Pst)(ids:List Int)(es:List Ent)(tok:Nat)(l:List Ent)(w:World)(e:Ending)(w':World):Prop:=
 ∃A c,e= .returned (.tuple #[.slice A l.length c, .int .i64 0])/\LO entE 34 w' w.heap.size (.slice A l.length c) l/\TSt n a root σ ids es tok w'/\Fr a.S w w'
theorem tst_scan(h:TSt n a root σ ids es tok w)(frm hi:ByteArray):
  Calls Tryz.prog 66 #[.pointer (some ⟨a.u,0,none⟩), .string frm, .string hi] w (TScEnd n a root σ ids es tok (Tp.scanF es frm hi) w):=by
 have hs:=Tp.srt_right h.rt.right
 have hN:Tp.cost Tp.en noDisk σ 24 root<=1000000:=by
  by_cases h0:root=0
  ·subst h0
   rcases h.rt with⟨_,_,_⟩ | ⟨hh,s,e,rfl,rfl,q4,q5,q6,q7,q8⟩
   ·have:σ.view noDisk 0=none:=by
     unfold Tp.Pst.view
     rw[if_neg (fun hm=>by have:=h.on.tm.ap.hm 0 hm;omega)]
     split<;>rfl
    rw[Tp.cost,this];exact Nat.zero_le _
   ·exfalso
    have:=Tp.use_range (room:=max (n:Int) 2) h.on.tm.ap (q7 s.id (Tp.tr_id q5))
    omega
  ·exact h.cost h0
 refine(scan_any h.mach a.u root frm hi σ (Tp.scanF es frm hi) (Tp.ystep (scanS hi) [] (Tp.from_ es frm)).2 0 w hN (fun h0=> ?_) (fun h0=> ?_) h.on.any).mono ?_
 ·subst h0
  rcases h.rt with⟨_,rfl,_⟩ | ⟨hh,s,e,rfl,rfl,q4,q5,q6,q7,q8⟩
  ·rfl
  ·exfalso
   have:=Tp.use_range (room:=max (n:Int) 2) h.on.tm.ap (q7 s.id (Tp.tr_id q5))
   omega
 ·rw[h.visit h0,scan_y hs]
 ·rintro e w' ⟨A,c,rfl,hr,ho,hf⟩
  exact⟨A,c,rfl,hr,h.with_ ho,hf⟩
def TNxEnd(n:Nat)(a:TAd)(root:Int)(σ:Tp.Pst)(ids:List Int)(es:List Ent)(tok:Nat)(q:Ent × Bool)(w:World)(e:Ending)(w':World):Prop:=
 e= .returned (.tuple #[.agg #[.string q.1.1, .string q.1.2], .bool q.2, .int .i64 0])/\TSt n a root σ ids es tok w'/\Fr a.S w w'
theorem tst_next(h:TSt n a root σ ids es tok w)(frm:ByteArray):
  Calls Tryz.prog 22 #[.pointer (some ⟨a.u,0,none⟩), .string frm] w (TNxEnd n a root σ ids es tok (nextV (Tp.scanF es frm ⟨#[]⟩)) w):=by
 have hs:=Tp.srt_right h.rt.right
 refine(next_any h.mach a.u root frm σ (nextV (Tp.scanF es frm ⟨#[]⟩)) (Tp.ystep nextS ((⟨#[]⟩,⟨#[]⟩),false) (Tp.from_ es frm)).2 0 w (fun h0=> ?_) (fun h0=> ?_) h.on.any).mono ?_
 ·subst h0
  rcases h.rt with⟨_,rfl,_⟩ | ⟨hh,s,e,rfl,rfl,q4,q5,q6,q7,q8⟩
  ·rfl
  ·exfalso
   have:=Tp.use_range (room:=max (n:Int) 2) h.on.tm.ap (q7 s.id (Tp.tr_id q5))
   omega
 ·rw[h.visit h0,next_y,Tp.scan_all hs]
 ·rintro e w' ⟨rfl,ho,hf⟩
  exact⟨rfl,h.with_ ho,hf⟩
end
section
variable {S:Nat->Prop}{B t:Nat}{room:Int}{disk:Tp.Disk}{TM:Nat->Tp.Pst->World->Prop}
theorem wal_zero(u r:Nat)(σ:Tp.Pst)(w:World)(h:On S B t u TM 0 0 r σ w):
  Calls Tryz.prog 31 #[.pointer (some ⟨u,0,none⟩)] w fun e w'=>e= .returned (.tuple #[.slice none 0 0, .int .i64 0])/\Below w.heap.size w w':=by
 have t1:w.cell? ⟨u,1,none⟩=some (.int .i64 0):=h.self.cell 1
 have t2:w.cell? ⟨u,2,none⟩=some (.int .i64 0):=h.self.cell 2
 have lu:=h.self.lt
 clear h
 go_enter Tryz.func31,Tryz.ntmps31
 go_wp2
 go_quiet (fail)
 go_wp2
 go_ret2
 exact⟨rfl,below_drewN (Below.refl _ _) _⟩
end
section
variable {n:Nat}{a:TAd}{root:Int}{σ:Tp.Pst}{ids:List Int}{es:List Ent}{tok:Nat}{w w':World}
def WalkP(σ:Tp.Pst)(root:Int)(ids:List Int)(es:List Ent)(tok:Nat)(P:List (Int × Nat × Nd.Node)):Prop:=
 (root=0/\es= []/\P= []/\ids= [])\/∃h s,s.id=root/\s.ids=ids/\s.es=es/\s.tok<=tok/\Tp.Tr (σ.view noDisk) h none none s/\(h=0\/2*6 ^ (h-1)<=s.tok)/\P=Tp.pgL (σ.view noDisk) h 0 root
theorem WalkP.ids_{P:List (Int × Nat × Nd.Node)}(h:WalkP σ root ids es tok P):P.map (·.1)=ids:=by
 rcases h with⟨_,_,rfl,rfl⟩ | ⟨h,s,rfl,rfl,rfl,_,ht,_,rfl⟩
 ·rfl
 ·exact Tp.pgL_ids h 0 none none s ht
theorem WalkP.len{P:List (Int × Nat × Nd.Node)}(h:WalkP σ root ids es tok P):P.length=ids.length:=by rw[<-h.ids_,List.length_map]
def TWkEnd(n:Nat)(a:TAd)(root:Int)(σ:Tp.Pst)(ids:List Int)(es:List Ent)(tok:Nat)(w:World)(e:Ending)(w':World):Prop:=
 ∃A c xs P,e= .returned (.tuple #[.slice A xs.length c, .int .i64 0])/\LO pgE 60 w' w.heap.size (.slice A xs.length c) xs/\PgsAt w.heap.size w' xs P/\WalkP σ root ids es tok P/\TSt n a root σ ids es tok w'/\Fr a.S w w'
theorem tst_walk(h:TSt n a root σ ids es tok w):
  Calls Tryz.prog 31 #[.pointer (some ⟨a.u,0,none⟩)] w (TWkEnd n a root σ ids es tok w):=by
 have ht:=h.tl
 rcases h.rt with⟨rfl,rfl,rfl⟩ | ⟨hh,s,rfl,rfl,rfl,q4,q5,q6,q7,q8⟩
 ·refine(wal_zero a.u 0 σ w h.on).mono ?_
  rintro e w' ⟨rfl,hb⟩
  exact⟨none,0, [], [],rfl,LO.nil_ _ _,PgsAt.nil_ _ _, .inl ⟨rfl,rfl,rfl,rfl⟩,h.below hb, .of_below hb⟩
 ·have h8:=Tp.low_of q8 (by omega)
  have hz:s.id≠0:=fun e=>by
   have:=Tp.use_range (room:=max (n:Int) 2) h.on.tm.ap (q7 s.id (Tp.tr_id q5))
   omega
  have hw:=Tp.walk_tr (disk:=noDisk) (σ:=σ) hh 24 none none s [] (by omega) (Nat.le_refl _) q5
  rw[List.nil_append,Nat.sub_self]at hw
  have hfew:=h.rt.few
  have hl:(Tp.pgL (σ.view noDisk) hh 0 s.id).length<=100000:=by
   rw[Tp.pgL_len q5]
   have h1:=h.mineLen
   have h2:=(ap_small h.on.tm.ap).2
   omega
  refine(wal_any h.mach a.u s.id hz σ _ 0 w hw hl h.on.any).mono ?_
  rintro e w' ⟨A,c,xs,rfl,hr,hp,ho,hf⟩
  exact⟨A,c,xs,_,rfl,hr,hp, .inr ⟨hh,s,rfl,rfl,rfl,q4,q5,q8,rfl⟩,h.with_ ho,hf⟩
end
theorem tmd_start{F:FFile}{n N:Nat}{disk:Tp.Disk}{w:World}{R:Int}(hF:F.At w R)(hR:0<=R)(r:Nat)(hRr:R+(r:Nat)<=900000000000)(ho:FOn F n disk N)(hN:N<1000000)(hT:HT w)(hB0:0<F.B)(hBw:F.B<=w.heap.size)
  (A:Option Addr) (c:Nat) (l:List Run) (pages:Int) (hr:RS w w.heap.size A l) (hl:l.length<=50000) (hfd:∀id x,disk id=some x->id<pagesN pages n/\¬Rp.Mem l id):
  Calls Tryz.prog 20 #[.pointer (some ⟨F.f,0,none⟩), .slice A l.length c, .int .i64 pages] w fun e w'=>∃t m,e= .returned (.pointer (some ⟨t,0,none⟩))/\TMd F w'.heap.size t m n (Rp.minus [(2,pagesN pages n-1)] l) disk r ⟨Rp.meet l [(2,pagesN pages n-1)],pagesN pages n, [],fun _=>none⟩ w'/\(w.heap.size<=t/\w.heap.size<=m/\F.d<w'.heap.size)/\Below w.heap.size w w':=by
 obtain⟨cc,c1,c2⟩:=ho.c
 have hsz:=c1.ok.size
 have hfo:=hF.fileOf
 rw[hsz]at hfo
 refine(tnew_any F.f n A c l pages ho.hn w hfo hr hl).mono ?_
 rintro e w' ⟨t,m,rfl,⟨ht,hm⟩,hT',hb⟩
 have hp:2<=pagesN pages n/\pagesN pages n<=max (n:Int) 2/\max (n:Int) 2<=100000:=by have:=ho.hn;unfold pagesN;omega
 have htl:t<w'.heap.size:=by obtain⟨_,⟨v,h2,_⟩,_⟩:=hT';exact h2.lt
 have hml:m<w'.heap.size:=by obtain⟨_,_,es,c,h2,_⟩:=hT';exact(Array.getElem?_eq_some_iff.1 h2).1
 have hlow:=hF.low
 refine⟨t,m,rfl,⟨⟨htl,hml,Nat.le_refl _⟩,fun g hg=> ?_,⟨hB0,by omega,by omega⟩,hT.below hb (by have:=hT.1;omega),⟨Rp.Ap.start l hp,fun id hi=>absurd hi List.not_mem_nil, .map [],hT',KeysAre.nil_,fun id hi=>absurd hi List.not_mem_nil⟩,ho.on hN (fun id x hx=> ?_),R,hR,hRr,hF.fr (S:=fun _=>False) (.of_below hb) (fun _ _ a=>a)⟩,⟨ht,hm, ?_⟩,hb⟩
 ·have:=hlow g hg
  omega
 ·obtain⟨g1,g2⟩:=hfd id x hx
  obtain⟨g3,g4,g5⟩:=c2 id x hx
  have hno:¬id<2/\¬ (n:Int)<=id:=by simpa[noPage]using g4
  exact((Rp.minus_ok [(2,pagesN pages n-1)] l).2 id).2 ⟨by omega,by unfold Rp.Most;omega,Rp.mem_two.2 ⟨by omega,g1⟩,g2⟩
 ·have:=hlow F.d (.inr (.inl rfl));have:=hb.size;omega
end Go.Proofs.YtjoiajmbfbjnnaaGreatDoor
namespace Go.Proofs.YtjoiajmbfbjnnaaGreatDoor
open Go.RowKit Go.Shelf Go.Maps
section
variable {F F':FFile}{n N:Nat}{a:TAd}{used:List Run}{disk:Tp.Disk}{root root':Int}{σ:Tp.Pst}{ids ids':List Int}{es es':List Ent}{tok tok' r:Nat}{w w':World}
def LowD(disk:Tp.Disk)(free:List Run)(p:Int):Prop:=∀id x,disk id=some x->id<p/\¬Rp.Mem free id
end
section
variable {F F':FFile}{n:Nat}{a:TAd}{used:List Run}{disk:Tp.Disk}{root:Int}{es:List Ent}{tok r r' T:Nat}{w0 w w':World}{z:Int}
structure FReady(F:FFile)(n:Nat)(disk:Tp.Disk)(N r:Nat)(w:World):Prop where
 on:FOn F n disk N
 file:∃R:Int,0<=R/\R+(r:Nat)<=900000000000/\F.At w R
 ht:HT w
 b0:0<F.B
 bw:F.B<=w.heap.size
theorem FReady.below{N:Nat}(h:FReady F n disk N r w)(hb:Below w.heap.size w w'):FReady F n disk N r w':=by
 obtain⟨h1,⟨R,r1,r2,r3⟩,h3,h4,h5⟩:=h
 exact⟨h1,⟨R,r1,r2,r3.fr (S:=fun _=>False) (.of_below hb) (fun _ _ a=>a)⟩,h3.below hb (by have:=h3.1;omega),h4,Nat.le_trans h5 hb.size⟩
theorem FReady.dlt{N:Nat}(h:FReady F n disk N r w):F.B<=F.d/\F.d<w.heap.size:=by
 obtain⟨R,r1,r2,r3⟩:=h.file
 exact⟨r3.disk.le.1,r3.disk.self.lt⟩
theorem fr_begin{N:Nat}(h:FReady F n disk N r w)(hN:N<1000000)(A:Option Addr)(c:Nat)(l:List Run)(p P:Int)(hP:pagesN p n=P)(hr:RS w w.heap.size A l)(hl:l.length<=50000)(hlow:LowD disk l P):
  Calls Tryz.prog 20 #[.pointer (some ⟨F.f,0,none⟩), .slice A l.length c, .int .i64 p] w fun e w'=>∃t m,e= .returned (.pointer (some ⟨t,0,none⟩))/\TMd F w'.heap.size t m n (Rp.minus [(2,P-1)] l) disk r (Tp.start l P) w'/\(w.heap.size<=t/\w.heap.size<=m/\F.d<w'.heap.size)/\Below w.heap.size w w':=by
 obtain⟨h1,⟨R,r1,r2,r3⟩,h3,h4,h5⟩:=h
 subst hP
 exact tmd_start r3 r1 r r2 h1 hN h3 h4 h5 A c l p hr hl hlow
end
theorem ht_low{w w':World}{B:Nat}(hT:HT w)(hB:0<B)(h:Below B w w'):HT w':=by
 have hb:=h.mono (show 1<=B from hB)
 refine⟨Nat.lt_of_lt_of_le hT.1 hb.size,fun i hi=> ?_⟩
 rw[<-hT.2 i hi]
 exact hb.cell (p:=⟨0,i,none⟩) (Nat.zero_lt_one)
end Go.Proofs.YtjoiajmbfbjnnaaGreatDoor
namespace Go.Proofs.YtjoiajmbfbjnnaaGreatDoor
open Go.RowKit Go.Shelf
end Go.Proofs.YtjoiajmbfbjnnaaGreatDoor
namespace Tp
open Nd En
end Tp
namespace Go.Proofs.YtjoiajmbfbjnnaaGreatDoor
open Go.RowKit Go.Shelf Go.Maps
end Go.Proofs.YtjoiajmbfbjnnaaGreatDoor
namespace Go.Proofs.YtjoiajmbfbjnnaaGreatDoor
open Go.RowKit
end Go.Proofs.YtjoiajmbfbjnnaaGreatDoor
namespace Go.Proofs.YtjoiajmbfbjnnaaGreatDoor
open Go.RowKit Go.Shelf Go.Maps
end Go.Proofs.YtjoiajmbfbjnnaaGreatDoor
namespace Go.Proofs.YtjoiajmbfbjnnaaGreatDoor
open Go.RowKit Go.Shelf
def off(s:Bool):Nat:=if s then 2 else 0
end Go.Proofs.YtjoiajmbfbjnnaaGreatDoor
namespace Go.Proofs.YtjoiajmbfbjnnaaGreatDoor
open Go.RowKit Go.Shelf Go.Maps
structure TMo(F:FFile)(B t m n K:Nat)(fl:List Run)(P:Int)(disk:Tp.Disk)(r:Nat)(σ:Tp.Pst)(w:World):Prop where
 eq:σ=Tp.start fl P
 pg:2<=P/\P<=max (n:Int) 2
 few:(Tp.start fl P).free.length<=80000
 low:t<B/\m<B/\B<=w.heap.size
 sep:∀g,F.Blks g->g<B/\g≠t/\g≠m
 base:0<F.B/\F.B<=B
 ht:HT w
 txn:∃k D,Txn w t m F.f n (Tp.start fl P).free P k D/\∀id,Maps.has D (.int .i64 id)=false
 on:OnDisk F n (Rp.minus [(2,P-1)] fl) disk
 file:∃R:Int,0<=R/\R+(r:Nat)<=900000000000/\F.At w R
 free:∃v,w.cell? ⟨t,1,none⟩=some v/\∀g,v.ownBlock=some g->g<K
section
variable {F:FFile}{B t m n K r r':Nat}{fl:List Run}{P:Int}{disk:Tp.Disk}{σ:Tp.Pst}{w w':World}{S':Nat->Prop}
theorem TMd.tmo(h:TMd F B t m n (Rp.minus [(2,P-1)] fl) disk r (Tp.start fl P) w):TMo F B t m n w.heap.size fl P disk r (Tp.start fl P) w:=by
 obtain⟨v,hv⟩:=h.tmr.free
 obtain⟨D,h4,h5,_⟩:=h.mem.txn
 have hp:=h.mem.ap.pg
 have hs:=ap_small h.mem.ap
 exact⟨rfl,⟨hp.1,hp.2.1⟩,hs.1,h.low,fun g hg=>by have:=h.sep g hg;have:=h.low;omega,⟨h.base.1,by have:=h.base;have:=h.low;omega⟩,h.ht,⟨_,D,h4,fun id=>by rw[h5.has];exact decide_eq_false List.not_mem_nil⟩,h.on,h.file,v,hv⟩
theorem TMo.up(h:TMo F B t m n K fl P disk r σ w)(hf:Fr S' w w')(hS:FarS B w S'):TMo F B t m n K fl P disk r σ w':=by
 obtain⟨e1,p1,p2,h1,h2,h3,h4,⟨k,D,g3,g4⟩,h6,⟨R,r1,r2,r3⟩,v,v1,v2⟩:=h
 have hnb:∀g,F.Blks g->¬S' g:=fun g hg a=>by have:=(h2 g hg).1;have:=(hS g a).1;omega
 exact⟨e1,p1,p2,⟨h1.1,h1.2.1,Nat.le_trans h1.2.2 hf.size⟩,h2,h3,h4.fr hf (fun a=>by have:=(hS 0 a).1;omega),⟨k,D,g3.fr hf (fun b a=>(hS b a).2),g4⟩,h6,⟨R,r1,r2,r3.fr hf hnb⟩,v,(hf.cell (p:=⟨t,1,none⟩) (Nat.lt_of_lt_of_le h1.1 h1.2.2) (fun a=>by have:=(hS t a).1;omega)).trans v1,v2⟩
theorem TMo.less(h:TMo F B t m n K fl P disk r σ w)(hr:r'<=r):TMo F B t m n K fl P disk r' σ w:=by
 obtain⟨e1,p1,p2,h1,h2,h3,h4,h5,h6,⟨R,r1,r2,r3⟩,h7⟩:=h
 exact⟨e1,p1,p2,h1,h2,h3,h4,h5,h6,⟨R,r1,by omega,r3⟩,h7⟩
theorem TMo.below(h:TMo F B t m n K fl P disk r σ w)(hb:Below w.heap.size w w'):TMo F B t m n K fl P disk r σ w':=h.up (S':=fun _=>False) (.of_below hb) (fun _ a=>a.elim)
theorem TMo.turn(h:TMo F B t m n K fl P disk r σ w){g:Nat}(hf:Fr (fun k=>k=g) w w')(hg:B<=g)(hfr:∀b,(∃v,w.cell? ⟨t,1,none⟩=some v/\v.ownBlock=some b)->(∃cs,w.heap[b]? =some (.cells cs 106 (0,0)))->b≠g):TMo F B t m n K fl P disk r σ w':=by
 obtain⟨e1,p1,p2,h1,h2,h3,h4,⟨k,D,g3,g4⟩,h6,⟨R,r1,r2,r3⟩,v,v1,v2⟩:=h
 have hnb:∀b,F.Blks b->¬b=g:=fun b hb a=>by have:=(h2 b hb).1;omega
 have key:∀ {b:Nat} {o:Obj},w.heap[b]? =some o->b≠g->w'.heap[b]? =some o:=fun {b o} ho hn=>(hf.block b (Array.getElem?_eq_some_iff.1 ho).1 hn).trans ho
 have hR:=r3.fr hf hnb
 refine⟨e1,p1,p2,⟨h1.1,h1.2.1,Nat.le_trans h1.2.2 hf.size⟩,h2,h3,h4.fr hf (fun a=>by omega),⟨k,D, ?_,g4⟩,h6,⟨R,r1,r2,hR⟩,v,(hf.cell (p:=⟨t,1,none⟩) (Nat.lt_of_lt_of_le h1.1 h1.2.2) (fun(a:t=g)=>by have:=h1.1;omega)).trans v1,v2⟩
 obtain⟨_,⟨v',q4,q5⟩,es',ck,q6,q7⟩:=g3
 refine⟨h6.size ▸ hR.fileOf,⟨v',key q4 (by omega), ?_⟩,es',ck,key q6 (by omega),q7⟩
 rcases q5 with⟨e1,e2 | ⟨b,cap,cur,hv,hb,hh,hr⟩⟩
 ·exact⟨e1, .inl e2⟩
 ·exact⟨e1, .inr ⟨b,cap,cur,hv,hb,key hh (hfr b ⟨v',(Blk.cell q4 1),by rw[hv];rfl⟩ ⟨cur,hh⟩),hr⟩⟩
def getO(o:Option (Nat × Bs))(k:Nat):Value:=match o with
 |none=> .tuple #[.string ⟨#[]⟩, .int .i64 3]
 |some (k',b)=>if k'=k then .tuple #[.string (Nd.str b), .int .i64 0]else .tuple #[.string ⟨#[]⟩, .int .i64 3]
theorem TMo.read(h:TMo F B t m n K fl P disk (r+1) σ w){id:Int}{o:Option (Nat × Bs)}(hi:2<=id/\id<P)(hfr:Rp.has (Tp.start fl P).free id=false)(ho:PageIs F.D id o)(k:Nat):
  Calls Tryz.prog 146 #[.pointer (some ⟨t,0,none⟩), .int .i64 id, .int .u8 k] w fun e w'=>e= .returned (getO o k)/\TMo F B t m n K fl P disk r σ w'/\Fr (fun g=>g=F.d) w w':=by
 obtain⟨e1,p1,p2,h1,h2,h3,h4,⟨kk,D,g3,g4⟩,h6,⟨R,r1,r2,r3⟩,v,v1,v2⟩:=h
 have hn:=h6.n
 have hnn:id<(n:Int):=by omega
 have hno:noPage F.D.sure.length id=false:=by unfold noPage;rw[h6.size];simp;omega
 have hdt:F.d≠t:=(h2 F.d (.inr (.inl rfl))).2.1
 refine(tget_D t m n _ _ _ D id k (by exact(show IdOk id by unfold IdOk;omega).wf) (g4 id) hi.1 hi.2 hfr p2 w g3 r3 (h6.fine ⟨r1,by omega⟩) h4 h3.1 (by omega) o (fun _ _=>at_reads ho)).mono ?_
 rintro e w' ⟨rfl,q1,q2⟩
 have hrd:Dk.readD { F.D with reads:=R } id= { F.D with reads:=R+1 } :=by
  unfold Dk.readD
  rw[if_neg (by show ¬noPage F.D.sure.length id=true;rw[hno];decide),if_neg (by show ¬F.D.down=true;rw[h6.down];decide)]
 rw[hrd]at q1
 have hR:F.At w' (R+1):=q1
 refine⟨?_,⟨e1,p1,p2,⟨h1.1,h1.2.1,Nat.le_trans h1.2.2 q2.size⟩,h2,h3,h4.fr q2 (fun a=>by have:=r3.disk.le.1;omega),⟨kk,D,g3.read q2 r3 hR h6.size,g4⟩,h6,⟨R+1,by omega,by omega,hR⟩,v,(q2.cell (p:=⟨t,1,none⟩) (Nat.lt_of_lt_of_le h1.1 h1.2.2) (fun a=>hdt a.symm)).trans v1,v2⟩,q2⟩
 show Ending.returned (.tuple #[str (frB F.D.sure.length F.D.down id k o).1, .int .i64 (frB F.D.sure.length F.D.down id k o).2])=_
 have e2:∀o':Option (Nat × Bs),frB F.D.sure.length F.D.down id k o'=match o' with | none=>([],3) | some (k',b)=>if k'=k then(b,0)else([],3):=fun o'=>by
  unfold frB
  rw[hno,h6.down]
  cases o'<;>rfl
 rw[e2]
 clear ho e2
 unfold getO
 cases o with
 |none=>rfl
 |some x=>obtain⟨k',b⟩:=x;simp only;split<;>rfl
theorem TMo.seen(h:TMo F B t m n K fl P disk r σ w){id:Int}{x:Nd.Node}(hv:σ.view disk id=some x):Nd.fits x=true/\PageIs F.D id (some (Nd.kind x,Nd.enc x))/\(2<=id/\id<P)/\Rp.has (Tp.start fl P).free id=false:=by
 have he:=h.eq
 subst he
 rcases view_cases hv with⟨a1,_⟩ | ⟨a1,a2,a3,a4,a5⟩
 ·exact absurd a1 List.not_mem_nil
 ·obtain⟨q1,q2,q3⟩:=h.on.page _ _ a5
  exact⟨q1,q3,⟨a2,a3⟩,a4⟩
theorem mrd_o(F:FFile){B t:Nat}(hd:F.d<B)(m n K:Nat)(hK:B<=K)(fl:List Run)(P:Int)(disk:Tp.Disk):Mrd (fun g=>g=F.d) B t K disk (TMo F B t m n K fl P disk) where
 low:=fun k a=>by subst a;exact hd
 size:=fun h=>h.low.2.2
 up:=fun h hf hS=>h.up hf hS
 less:=fun h hr=>h.less hr
 ht:=fun h hv=>by
  obtain⟨q1,_,q3,_⟩:=h.seen hv
  have:=h.pg
  have:=h.on.n
  exact⟨q1,by unfold IdOk;omega⟩
 get:=fun {r σ w id x} h hv k h1 h2=>by
  obtain⟨_,q2,q3,q4⟩:=h.seen hv
  refine(h.read q3 q4 q2 k).mono ?_
  rintro e w' ⟨rfl,hb,hf⟩
  have hk:Nd.kind x=k:=by
   unfold Nd.kind
   cases hl:x.leaf with
   |true=>rw[if_pos rfl,h1 hl]
   |false=>rw[if_neg (by decide),h2 hl]
  unfold getO
  simp only
  rw[if_pos hk]
  exact⟨rfl,hb,hf⟩
 getN:=fun {r σ w id x} h hv h2=>by
  obtain⟨_,q2,q3,q4⟩:=h.seen hv
  refine(h.read q3 q4 q2 1).mono ?_
  rintro e w' ⟨rfl,hb,hf⟩
  have hk:Nd.kind x≠1:=by
   unfold Nd.kind
   rw[h2]
   decide
  unfold getO
  simp only
  rw[if_neg hk]
  exact⟨rfl,hb,hf⟩
 map:=fun {r σ w w' g es c} h hg hm hf=>h.turn hf hg (fun b _ ⟨cs,hc⟩ e=>by subst e;rw[hm]at hc;cases hc)
 run:=fun {r σ w w' g cs} h hg hm hf=>h.turn hf (Nat.le_trans hK hg) (fun b ⟨v,q1,q2⟩ _ e=>by
  obtain⟨v',p1,p2⟩:=h.free
  rw[q1]at p1
  cases p1
  have:=p2 b q2
  omega)
def BadO(F:FFile)(fl:List Run)(P x:Int):Prop:=PageIs F.D x none/\(2<=x/\x<P)/\Rp.has (Tp.start fl P).free x=false
theorem bad_o:BadGet (fun g=>g=F.d) t (TMo F B t m n K fl P disk) (BadO F fl P):=fun {r σ w id} h hb k _=>by
 refine(h.read hb.2.1 hb.2.2 hb.1 k).mono ?_
 rintro e w' ⟨rfl,q1,q2⟩
 exact⟨rfl,q1,q2⟩
end
def dput_(disk:Tp.Disk)(i:Int)(x:Nd.Node):Tp.Disk:=fun j=>if j=i then some x else disk j
def ZeroD(F:FFile)(n:Nat)(disk:Tp.Disk):Prop:=∀id,noPage n id=false->disk id=none->PageIs F.D id none
section
variable {F:FFile}{n N r:Nat}{disk:Tp.Disk}{w w':World}{i:Int}{x:Nd.Node}
structure FwE(F:FFile)(n:Nat)(disk:Tp.Disk)(i:Int)(x:Nd.Node)(N r:Nat)(w:World)(F':FFile)(w':World):Prop where
 same:F'.B=F.B/\F'.f=F.f/\F'.d=F.d/\F'.k=F.k+1
 ready:FReady F' n (dput_ disk i x) (N+1) r w'
 zero:ZeroD F' n (dput_ disk i x)
 below:Below F.B w w'
theorem fr_write(h:FReady F n disk N r w)(hz:ZeroD F n disk)(hk:F.k<1000)(hN:N<1000000)(hi:2<=i/\i<n)(hx:Nd.fits x=true):
  Calls Tryz.prog 18 #[.pointer (some ⟨F.f,0,none⟩), .int .i64 i, .int .u8 (Nd.kind x),str (Nd.enc x)] w fun e w'=>e= .returned (.int .i64 0)/\∃F',FwE F n disk i x N r w F' w':=by
 obtain⟨⟨hn,⟨c,c1,c2⟩,hw,hp⟩,⟨R,r1,r2,hA⟩,hT,b0,bw⟩:=h
 have hno:noPage n i=false:=by unfold noPage;simp;omega
 have hkd:Nd.kind x<256:=by unfold Nd.kind;split<;>decide
 have hbl:(Nd.enc x).length<=240:=by
  have hr:=Tp.fits_iff.1 hx
  have:=Nd.enc_length hr.1
  have:=hr.2
  omega
 obtain⟨e1,e2,e3⟩:=(c1.rd R).fput hno hkd hbl
 have e4:=((c1.rd R).ok.fput hno hkd hbl).2.2.2
 have e5:=fput_eq (c1.rd R).ok hno (kind:=Nd.kind x) hbl
 have hFi:Fine { F.D with reads:=R } :=⟨by show F.D.sure.length<=_;rw[c1.ok.size];exact hn,⟨hw.1,by show F.D.writes<_;omega⟩,⟨r1,by show R<_;omega⟩,by show -1<=F.D.left/\F.D.left<=_;rw[c1.ok.left];decide,by show F.D.pend.length<=_;omega⟩
 refine(fwrite_any2 hA.fat hFi (by unfold maxLen;omega) hT bw i (Nd.kind x) hkd (Nd.enc x)).mono ?_
 rintro e w' ⟨rfl,h1,h2,h3,h4⟩
 obtain⟨s,m,pv,Dm,h5⟩:=h1.open_
 obtain⟨D',hD'⟩:∃D',D'=({ F.D with reads:=R } :Dk).fput i (Nd.kind x) (Nd.enc x):=⟨_,rfl⟩
 rw[<-hD']at h5 e2 e3 e4 e5
 have h6:({ D' with reads:=R } :Dk)=D':=by
  have:D'.reads=R:=e4
  rw[<-this]
 refine⟨by rw[e1],⟨F.B,F.f,F.d,F.k+1,s,m,pv,Dm,D'⟩,⟨rfl,rfl,rfl,rfl⟩,⟨⟨hn,⟨_,e2,fun id y hy=> ?_⟩, ?_, ?_⟩,⟨R,r1,r2, ?_⟩,ht_low hT b0 h2,b0,Nat.le_trans bw h2.size⟩,fun id hid hd=> ?_,h2⟩
 ·unfold dput_ at hy
  unfold updP
  split at hy
  ·rename_i e
   injection hy with hy
   subst hy e
   rw[if_pos rfl]
   exact⟨hx,hno,rfl⟩
  ·rename_i e
   rw[if_neg e]
   exact c2 id y hy
 ·have h7:D'.writes=F.D.writes+1:=e3
  show 0<=D'.writes/\D'.writes<=((N+1:Nat):Int)
  omega
 ·rw[e5]
  show(F.D.pend++ [(i,_)]).length<=N+1
  rw[List.length_append]
  simp only[List.length_cons,List.length_nil]
  omega
 ·show FDt w' F.B F.f F.d (F.k+1) { D' with reads:=R } s m pv Dm
  rw[h6]
  exact h5
 ·unfold dput_ at hd
  split at hd
  ·cases hd
  ·rename_i e
   have hq:=hz id hid hd
   unfold PageIs at hq ⊢
   have hg:D'.get id=F.D.get id:=by rw[e5];unfold Dk.get Dk.put;simp[e]
   show(BadPg id (D'.get id)/\_)\/_
   rw[hg]
   exact hq
end
theorem tget_out(t m f n k:Nat)(free:List Run)(pages:Int)(D:DataW Value)(id:Int)(kind:Nat)(hid:(Lit.int .i64 id).wf=true)(hh:Maps.has D (.int .i64 id)=false)(ho:id<2\/pages<=id)(w:World)(h:Txn w t m f n free pages k D):
  Calls Tryz.prog 146 #[.pointer (some ⟨t,0,none⟩), .int .i64 id, .int .u8 kind] w fun e w'=>e= .returned (.tuple #[.string ⟨#[]⟩, .int .i64 3])/\Below w.heap.size w w':=by
 obtain⟨_,⟨v,h2,h3⟩,h4⟩:=h
 obtain⟨A,c,rfl⟩:=h3.form
 have hlt:=h2.lt
 have hc:=h2.cell 3
 obtain⟨u,ps,hrun,hu⟩:=h4.look_ok keyedI Tryz.underlying141 (Tryz.zeroValue156 w) (heldR_mk _ _ _) (keyI hid)
 rw[hh]at hrun
 obtain⟨b,q',s',rfl,hz⟩:=heldR_inv hu
 unfold content at hrun
 have hb0:Below w.heap.size w (w.alloc (.cells #[.bool b, .int .u8 q', .string s'] 156)):=(Below.refl _ w).alloc (Nat.le_refl _) _
 have hc0:=h2.cell 0
 have hc1:=h2.cell 1
 have hc2:=h2.cell 2
 clear hu hz h3 h4 h2 hh
 go_enter Tryz.func146,Tryz.ntmps146
 by_cases h2i:id<2
 ·have hq1:decide (id<2)=true:=decide_eq_true h2i
  clear ho
  go_wp2
  go_ret2
  exact⟨rfl,hb0⟩
 ·have hq1:decide (id<2)=false:=decide_eq_false h2i
  have hq2:decide (pages<=id)=true:=decide_eq_true (by omega)
  clear ho h2i
  go_wp2
  go_ret2
  exact⟨rfl,hb0⟩
section
variable {F:FFile}{B t m n K:Nat}{P:Int}{disk:Tp.Disk}
def BadT(F:FFile)(P x:Int):Prop:=(Lit.int .i64 x).wf=true/\((x<2\/P<=x)\/BadO F [] P x)
theorem bad_t:BadGet (fun g=>g=F.d) t (TMo F B t m n K [] P disk) (BadT F P):=fun {r σ w id} h hb k hk=>by
 obtain⟨hwf,ho | hb⟩:=hb
 ·obtain⟨kk,D,h1,h2⟩:=h.txn
  refine(tget_out t m F.f n kk _ P D id k hwf (h2 id) ho w h1).mono ?_
  rintro e w' ⟨rfl,b⟩
  exact⟨rfl,(h.below b).less (Nat.le_succ _), .of_below b⟩
 ·exact bad_o h hb k hk
theorem ok_t(hz:ZeroD F n disk)(hP:P<=n)(id:Int)(hwf:(Lit.int .i64 id).wf=true):(∃x,(Tp.start [] P).view disk id=some x)\/((Tp.start [] P).view disk id=none/\BadT F P id):=by
 have hfr:Rp.has (Tp.start [] P).free id=false:=Rp.has_used fun hm=>by
  obtain⟨a,ha,_⟩:=(((Rp.meet_ok [] [(2,P-1)]).2 id).1 hm).2.2.1
  cases ha
 cases hv:(Tp.start [] P).view disk id with
 |some x=>exact .inl ⟨x,rfl⟩
 |none=>
  refine .inr ⟨rfl,hwf, ?_⟩
  by_cases ho:id<2\/P<=id
  ·exact .inl ho
  ·have h2:2<=id/\id<P:=by omega
   refine .inr ⟨hz id (by unfold noPage;simp;omega) ?_,h2,hfr⟩
   unfold Tp.Pst.view at hv
   rw[if_neg (show id ∉ (Tp.start [] P).mine from List.not_mem_nil),if_pos ⟨h2.1,h2.2,hfr⟩]at hv
   exact hv
end
end Go.Proofs.YtjoiajmbfbjnnaaGreatDoor
