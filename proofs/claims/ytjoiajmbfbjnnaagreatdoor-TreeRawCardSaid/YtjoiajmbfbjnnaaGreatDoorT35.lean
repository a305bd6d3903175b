/- Part of this proof. -/
import Derived.Deep.Slices
import Derived.Deep.Fields
import Derived.ChangeSame
import Derived.ProofKit
import Derived.SliceStrings
import Derived.Deep.Grids
import Derived.ChangeSlices
import Derived.Test.YtjoiajmbfbjnnaaGreatDoorT34
set_option maxRecDepth 100000
set_option maxHeartbeats 8000000
namespace Go.Proofs.YtjoiajmbfbjnnaaGreatDoor
open Go.RowKit Go.Shelf
section
variable {S:Nat->Prop}{B t K u:Nat}{disk:Tp.Disk}{TM:Nat->Tp.Pst->World->Prop}{root e:Int}{r r':Nat}{σ σ':Tp.Pst}{w w':World}{bad:Int->Prop}
theorem Mrd.far(M:Mrd S B t K disk TM){g:Nat}(hg:B<=g):¬S g:=fun a=>by have:=M.low g a;omega
theorem On.belowR(M:Mrd S B t K disk TM)(h:On S B t u TM root e r σ w)(hb:Below w.heap.size w w'):On S B t u TM root e r σ w':=⟨M.below h.tm hb,h.self.below hb h.self.lt,h.hu⟩
theorem On.stepR(M:Mrd S B t K disk TM)(h:On S B t u TM root e r σ w)(ht:TM r' σ' w')(hf:Fr S w w'):On S B t u TM root e r' σ' w':=⟨ht,hf.blk h.self (fun a=>by have:=M.low u a;have:=h.hu;omega),h.hu⟩
theorem On.ownR(M:Mrd S B t K disk TM)(h:On S B t u TM root e r σ w){g:Nat}{ty:TypeId}{cs:Array Value}(hf:Fr (fun k=>k=g) w w')(hB:Blk w g ty cs)(hg:B<=g)(h0:g≠u)(h1:ty≠106)(h2:ty≠143)(h3:ty≠121)(h4:ty≠132):On S B t u TM root e r σ w':=
 ⟨M.own h.tm hf hB hg h1 h2 h3 h4,hf.blk h.self (fun a=>h0 a.symm),h.hu⟩
theorem On.lessR(M:Mrd S B t K disk TM)(h:On S B t u TM root e r σ w)(hr:r'<=r):On S B t u TM root e r' σ w:=⟨M.less h.tm hr,h.self,h.hu⟩
def LrEnd(S:Nat->Prop)(B t u:Nat)(TM:Nat->Tp.Pst->World->Prop)(root:Int)(r:Nat)(σ:Tp.Pst)(d:Nat)(vw:Option Nd.Node)(w:World)(e:Ending)(w':World):Prop:=
 (d<24/\∃n,vw=some n/\∃v,e= .returned (.tuple #[v, .int .i64 0])/\NF w.heap.size w' v n/\On S B t u TM root 0 r σ w'/\Fr S w w')\/
 (e= .returned (.tuple #[.agg #[.bool false, .slice none 0 0, .slice none 0 0, .slice none 0 0], .int .i64 3])/\On S B t u TM root 0 r σ w'/\Fr S w w')
theorem load_raw(M:Mrd S B t K disk TM)(hbad:BadGet S t TM bad)(u:Nat)(root:Int)(r:Nat)(σ:Tp.Pst)(id:Int)(d:Nat)(hok:(∃n,σ.view disk id=some n)\/(σ.view disk id=none/\bad id))(w:World)(h:On S B t u TM root 0 (r+2) σ w):
  Calls Tryz.prog 80 #[.pointer (some ⟨u,0,none⟩), .int .i64 id, .int .i64 (d:Nat)] w (LrEnd S B t u TM root r σ d (σ.view disk id) w):=by
 have hget:=mget_two M hbad r σ id hok
 have hfit:Hid (∀n,σ.view disk id=some n->Nd.fits n=true):=Lib.hid fun n hv=>(M.ht h.tm hv).1
 have hb1:=(Below.refl w.heap.size w).alloc (Nat.le_refl _) (.cells #[.bool false, .slice none 0 0, .slice none 0 0, .slice none 0 0] 32)
 have h1:=h.belowR M hb1
 have hBg:=Blk.new w 32 #[.bool false, .slice none 0 0, .slice none 0 0, .slice none 0 0]
 have hsz:=M.size h.tm
 have c0:(w.alloc (.cells #[.bool false, .slice none 0 0, .slice none 0 0, .slice none 0 0] 32)).cell? ⟨u,0,none⟩=some (.pointer (some ⟨t,0,none⟩)):=h1.self.cell 0
 have lu:=h1.self.lt
 have hun:u<w.heap.size:=h.self.lt
 have HM:=Lib.hid M
 by_cases hd:d<24
 case neg=>
  have hd1:24<=(d:Int):=by omega
  have H1:=Lib.hid h1
  have HBG:=Lib.hid hBg
  have HB1:=Lib.hid hb1
  have f0:=hBg.frozen 0
  have f1:=hBg.frozen 1
  have f2:=hBg.frozen 2
  have f3:=hBg.frozen 3
  have k0:=hBg.cell 0
  have k1:=hBg.cell 1
  have k2:=hBg.cell 2
  have k3:=hBg.cell 3
  have lg:=hBg.lt
  clear h1 hBg hb1 hfit h M hget
  go_enter Tryz.func80,Tryz.ntmps80
  go_wp2
  try simp only[Exit.inBlock,Exit.then]
  refine bodyPost_ret (res_cell_tmp node_struct rfl rfl HBG.out rfl) rfl ?_
  exact .inr ⟨rfl,H1.out.lessR HM.out (by omega), .of_below HB1.out⟩
 have hd1:¬24<=(d:Int):=by omega
 rcases hget with⟨n,hv,hlf,hG0⟩ | ⟨hN0,⟨n,hv,hlf,hG0⟩ | ⟨hv,hG0⟩⟩
 ·unfold GetS at hG0
  have hG:=Lib.hid hG0
  have hk:Nd.kind n=1:=by unfold Nd.kind;rw[if_pos hlf]
  have hD:=Lib.hid (fun W=>ndecode_any n (hfit.out n hv) W)
  rw[hk]at hD
  generalize Nd.str (Nd.enc n)=s at*
  have H1:=Lib.hid h1
  have HBG:=Lib.hid hBg
  have HB1:=Lib.hid hb1
  clear hlf hk h1 hBg hb1 hfit h M hG0
  go_enter Tryz.func80,Tryz.ntmps80
  go_wp2_with fail
  refine(hG.out _ H1.out.tm).mono ?_
  rintro e w1 ⟨rfl,ht1,hf1⟩
  have h1:=H1.out.stepR HM.out ht1 hf1
  have hBg:=hf1.blk HBG.out (HM.out.far hsz)
  have hfw:Fr S w w1:=(Fr.of_below HB1.out).trans hf1
  have hz1:=hf1.size
  have H2:=Lib.hid h1
  have HBG:=Lib.hid hBg
  have HFW:=Lib.hid hfw
  clear ht1 hf1 h1 hBg hfw
  simp only[World.size_alloc]at hz1
  go_wp2_with fail
  refine(hD.out _).mono ?_
  rintro e w2 ⟨v,rfl,hnf,hb2⟩
  have hz2:=hb2.size
  have h2:=H2.out.belowR HM.out hb2
  have hBg:=HBG.out.below hb2 HBG.out.lt
  have hfw:=HFW.out.trans (.of_below hb2)
  obtain⟨A1,k1,A2,k2,A3,k3,rfl,rr⟩:=hnf
  have f0:=hBg.frozen 0
  have f1:=hBg.frozen 1
  have f2:=hBg.frozen 2
  have f3:=hBg.frozen 3
  have c0:=hBg.cell 0
  have c1:=hBg.cell 1
  have c2:=hBg.cell 2
  have c3:=hBg.cell 3
  have lg:=hBg.lt
  have H3:=Lib.hid h2
  have HBG:=Lib.hid hBg
  have HFW:=Lib.hid hfw
  have HRR:=Lib.hid rr
  clear h2 hBg hfw rr hb2
  unfold nodeV
  go_wp2
  try simp only[Exit.inBlock,Exit.then]
  refine bodyPost_ret (res_cell_tmp node_struct rfl rfl (HBG.out.put4 _ _ _ _) rfl) rfl ?_
  have hfr:∀a b c d,Fr (fun k=>k=w.heap.size) w2 _:=fun a b c d=>Fr.put4 (w:=w2) (g:=w.heap.size) (S:=fun k=>k=w.heap.size) rfl a b c d
  exact .inl ⟨hd,n,hv,_,rfl,NF.lower (NF.fr ⟨A1,k1,A2,k2,A3,k3,rfl,HRR.out⟩ (hfr _ _ _ _) (fun k hk=>by omega)) (by omega),(H3.out.lessR HM.out (Nat.le_succ _)).ownR HM.out (hfr _ _ _ _) HBG.out hsz (by omega) (by decide) (by decide) (by decide) (by decide),Fr.old (S':=fun k=>S k\/k=w.heap.size) ((HFW.out.more fun _=> .inl).trans ((hfr _ _ _ _).more fun _=> .inr)) (fun k hk=>hk.imp_right fun e=>by omega)⟩
 ·unfold GetS at hG0 hN0
  have hN:=Lib.hid hN0
  have hG:=Lib.hid hG0
  have hk:Nd.kind n=2:=by unfold Nd.kind;rw[if_neg (by rw[hlf];simp)]
  have hD:=Lib.hid (fun W=>ndecode_any n (hfit.out n hv) W)
  rw[hk]at hD
  generalize Nd.str (Nd.enc n)=s at*
  have H1:=Lib.hid h1
  have HBG:=Lib.hid hBg
  have HB1:=Lib.hid hb1
  clear hlf hk h1 hBg hb1 hfit h M hG0 hN0
  go_enter Tryz.func80,Tryz.ntmps80
  go_wp2_with fail
  refine(hN.out _ H1.out.tm).mono ?_
  rintro e w0 ⟨rfl,ht0,hf0⟩
  have h0:=H1.out.stepR HM.out ht0 hf0
  have c00:w0.cell? ⟨u,0,none⟩=some (.pointer (some ⟨t,0,none⟩)):=h0.self.cell 0
  have lu0:=h0.self.lt
  have H0:=Lib.hid h0
  have HF0:=Lib.hid hf0
  have hz0:=hf0.size
  simp only[World.size_alloc]at hz0
  clear ht0 hf0 h0
  go_wp2_with fail
  refine(hG.out _ H0.out.tm).mono ?_
  rintro e w1 ⟨rfl,ht1,hf1⟩
  have h1:=H0.out.stepR HM.out ht1 hf1
  have hBg:=(HF0.out.trans hf1).blk HBG.out (HM.out.far hsz)
  have hfw:Fr S w w1:=((Fr.of_below HB1.out).trans HF0.out).trans hf1
  have hz1:=hf1.size
  have H2:=Lib.hid h1
  have HBG:=Lib.hid hBg
  have HFW:=Lib.hid hfw
  clear ht1 hf1 h1 hBg hfw
  go_wp2_with fail
  refine(hD.out _).mono ?_
  rintro e w2 ⟨v,rfl,hnf,hb2⟩
  have hz2:=hb2.size
  have h2:=H2.out.belowR HM.out hb2
  have hBg:=HBG.out.below hb2 HBG.out.lt
  have hfw:=HFW.out.trans (.of_below hb2)
  obtain⟨A1,k1,A2,k2,A3,k3,rfl,rr⟩:=hnf
  have f0:=hBg.frozen 0
  have f1:=hBg.frozen 1
  have f2:=hBg.frozen 2
  have f3:=hBg.frozen 3
  have c0:=hBg.cell 0
  have c1:=hBg.cell 1
  have c2:=hBg.cell 2
  have c3:=hBg.cell 3
  have lg:=hBg.lt
  have H3:=Lib.hid h2
  have HBG:=Lib.hid hBg
  have HFW:=Lib.hid hfw
  have HRR:=Lib.hid rr
  clear h2 hBg hfw rr hb2
  unfold nodeV
  go_wp2
  try simp only[Exit.inBlock,Exit.then]
  refine bodyPost_ret (res_cell_tmp node_struct rfl rfl (HBG.out.put4 _ _ _ _) rfl) rfl ?_
  have hfr:∀a b c d,Fr (fun k=>k=w.heap.size) w2 _:=fun a b c d=>Fr.put4 (w:=w2) (g:=w.heap.size) (S:=fun k=>k=w.heap.size) rfl a b c d
  exact .inl ⟨hd,n,hv,_,rfl,NF.lower (NF.fr ⟨A1,k1,A2,k2,A3,k3,rfl,HRR.out⟩ (hfr _ _ _ _) (fun k hk=>by omega)) (by omega),H3.out.ownR HM.out (hfr _ _ _ _) HBG.out hsz (by omega) (by decide) (by decide) (by decide) (by decide),Fr.old (S':=fun k=>S k\/k=w.heap.size) ((HFW.out.more fun _=> .inl).trans ((hfr _ _ _ _).more fun _=> .inr)) (fun k hk=>hk.imp_right fun e=>by omega)⟩
 ·unfold GetS at hG0 hN0
  have hN:=Lib.hid hN0
  have hG:=Lib.hid hG0
  have H1:=Lib.hid h1
  have HBG:=Lib.hid hBg
  have HB1:=Lib.hid hb1
  clear h1 hBg hb1 hfit h M hG0 hN0
  go_enter Tryz.func80,Tryz.ntmps80
  go_wp2_with fail
  refine(hN.out _ H1.out.tm).mono ?_
  rintro e w0 ⟨rfl,ht0,hf0⟩
  have h0:=H1.out.stepR HM.out ht0 hf0
  have c00:w0.cell? ⟨u,0,none⟩=some (.pointer (some ⟨t,0,none⟩)):=h0.self.cell 0
  have lu0:=h0.self.lt
  have H0:=Lib.hid h0
  have HF0:=Lib.hid hf0
  have hz0:=hf0.size
  simp only[World.size_alloc]at hz0
  clear ht0 hf0 h0
  go_wp2_with fail
  refine(hG.out _ H0.out.tm).mono ?_
  rintro e w1 ⟨rfl,ht1,hf1⟩
  have h1:=H0.out.stepR HM.out ht1 hf1
  have hBg:=(HF0.out.trans hf1).blk HBG.out (HM.out.far hsz)
  have hfw:Fr S w w1:=((Fr.of_below HB1.out).trans HF0.out).trans hf1
  have hz1:=hf1.size
  have f0:=hBg.frozen 0
  have f1:=hBg.frozen 1
  have f2:=hBg.frozen 2
  have f3:=hBg.frozen 3
  have c0:=hBg.cell 0
  have c1:=hBg.cell 1
  have c2:=hBg.cell 2
  have c3:=hBg.cell 3
  have lg:=hBg.lt
  have H2:=Lib.hid h1
  have HBG:=Lib.hid hBg
  have HFW:=Lib.hid hfw
  clear ht1 hf1 h1 hBg hfw
  go_wp2
  try simp only[Exit.inBlock,Exit.then]
  refine bodyPost_ret (res_cell_tmp node_struct rfl rfl (HBG.out.put4 _ _ _ _) rfl) rfl ?_
  have hfr:∀a b c d,Fr (fun k=>k=w.heap.size) w1 _:=fun a b c d=>Fr.put4 (w:=w1) (g:=w.heap.size) (S:=fun k=>k=w.heap.size) rfl a b c d
  exact .inr ⟨rfl,H2.out.ownR HM.out (hfr _ _ _ _) HBG.out hsz (by omega) (by decide) (by decide) (by decide) (by decide),Fr.old (S':=fun k=>S k\/k=w.heap.size) ((HFW.out.more fun _=> .inl).trans ((hfr _ _ _ _).more fun _=> .inr)) (fun k hk=>hk.imp_right fun e=>by omega)⟩
end
section
variable {S:Nat->Prop}{B t K:Nat}{disk:Tp.Disk}{TM:Nat->Tp.Pst->World->Prop}{bad:Int->Prop}
def GrEndR(S:Nat->Prop)(B t u:Nat)(TM:Nat->Tp.Pst->World->Prop)(root:Int)(r:Nat)(σ:Tp.Pst)(w:World)(e:Ending)(w':World):Prop:=
 (∃ (v:ByteArray) (b:Bool) (z:Int),e= .returned (.tuple #[.string v, .bool b, .int .i64 z])/\(z=0\/z=3))/\On S B t u TM root 0 r σ w'/\Fr S w w'
theorem tget_raw(M:Mrd S B t K disk TM)(hbad:BadGet S t TM bad)(u:Nat)(root:Int)(hwf:(Lit.int .i64 root).wf=true)(key:ByteArray)(r:Nat)(σ:Tp.Pst)(hok:∀id:Int,(Lit.int .i64 id).wf=true->(∃n,σ.view disk id=some n)\/(σ.view disk id=none/\bad id))(w:World)(h:On S B t u TM root 0 (r+50) σ w):
  Calls Tryz.prog 21 #[.pointer (some ⟨u,0,none⟩), .string key] w (GrEndR S B t u TM root r σ w):=by
 have t1:w.cell? ⟨u,1,none⟩=some (.int .i64 root):=h.self.cell 1
 have t2:w.cell? ⟨u,2,none⟩=some (.int .i64 0):=h.self.cell 2
 have HM:=Lib.hid M
 have HON:=Lib.hid h
 have hsz:=M.size h.tm
 have hun:u<w.heap.size:=h.self.lt
 have HOK:=Lib.hid hok
 have HWF:=Lib.hid hwf
 have HBAD:Hid (BadGet S t TM bad):=Lib.hid hbad
 clear h M hok hwf
 clear hbad
 go_enter Tryz.func21,Tryz.ntmps21
 go_wp2
 go_loopg [7,8] 25 (fun g s7 s8 wr=>∃ (d f:Nat) (idi:Int),s7= .int .i64 idi/\s8= .int .i64 (d:Nat)/\d+f=24/\f+1<=g/\Hid ((Lit.int .i64 idi).wf=true)/\Hid (On S B t u TM root 0 (r+2*(f+1)) σ wr)/\Hid (Fr S w wr))
 case atStart=>exact⟨0,24,root,rfl,rfl,rfl,Nat.le_refl _,HWF,HON,Lib.hid (Fr.refl _)⟩
 case round=>
  obtain⟨d,f,idi,rfl,rfl,hdf,hfg,HWI,HONI,HFR⟩:=hrel
  have hwz:=HFR.out.size
  by_cases h0:idi=0
  ·subst h0
   have HON2:=Lib.hid (HONI.out.lessR HM.out (show r<=r+2*(f+1)by omega))
   go_wp2
   go_ret3
   exact⟨⟨_,_,_,rfl, .inl rfl⟩,HON2.out,HFR.out⟩
  ·have h0n:(idi != 0)=true:=by simpa using h0
   have HLD:=Lib.hid (load_raw HM.out HBAD.out u root (r+2*f) σ idi d (HOK.out idi HWI.out) wr (HONI.out.lessR HM.out (by omega)))
   go_wp2_with fail
   refine Calls.mono HLD.out ?_
   rintro e w1 (⟨hd24,n,hv,v,rfl,hnf,hon1,hf1⟩ | ⟨rfl,hon1,hf1⟩)
   case inr=>
    have hb2:=(Below.refl w1.heap.size w1).alloc (Nat.le_refl _) (.cells #[.bool false, .slice none 0 0, .slice none 0 0, .slice none 0 0] 32)
    have HEND:=Lib.hid (show On S B t u TM root 0 r σ _/\Fr S w _ from⟨(hon1.belowR HM.out hb2).lessR HM.out (by omega),(HFR.out.trans hf1).trans (.of_below hb2)⟩)
    clear hb2 hon1 hf1
    go_wp2
    go_ret3
    exact⟨⟨_,_,_,rfl, .inr rfl⟩,HEND.out.1,HEND.out.2⟩
   have HFIT:=Lib.hid (HM.out.ht HONI.out.tm hv).1
   obtain⟨N1,c1,N2,c2,N3,c3,rfl,rn⟩:=hnf
   have hz1:=hf1.size
   have hb2:=(Below.refl w1.heap.size w1).alloc (Nat.le_refl _) (.cells #[.bool n.leaf, .slice N1 n.ents.length c1, .slice N2 n.kids.length c2, .slice N3 n.keys.length c3] 32)
   have hF2:=(HFR.out.trans hf1).trans (.of_below hb2)
   have hon2:=hon1.belowR HM.out hb2
   have hBn:=Blk.new w1 32 #[.bool n.leaf, .slice N1 n.ents.length c1, .slice N2 n.kids.length c2, .slice N3 n.keys.length c3]
   have hNF:=NF.below (lo:=wr.heap.size) (v:= .agg #[.bool n.leaf, .slice N1 n.ents.length c1, .slice N2 n.kids.length c2, .slice N3 n.keys.length c3]) ⟨N1,c1,N2,c2,N3,c3,rfl,rn⟩ hb2
   have HRN:=Lib.hid rn
   have HB2:=Lib.hid hb2
   have hzz:(w1.alloc (.cells #[.bool n.leaf, .slice N1 n.ents.length c1, .slice N2 n.kids.length c2, .slice N3 n.keys.length c3] 32)).heap.size=w1.heap.size+1:=by simp
   unfold nodeV
   cases hlf:n.leaf with
   |true=>
    rw[hlf]at hF2 hon2 hBn hNF hzz
    have hrt:En.right n.ents=true:=by
     obtain⟨hr,_⟩:=Tp.fits_iff.1 HFIT.out
     obtain⟨leaf,ents,kids,keys⟩:=n
     obtain rfl:leaf=true:=hlf
     exact(Nd.right_leaf.1 hr).1
    have hle:=(fits_small HFIT.out).1
    have HEG:=Lib.hid (eget_any N1 c1 n.ents key _ (LO.below HRN.out.1 (by rw[hlf]at hb2;exact hb2)).ls (by omega) hrt)
    obtain⟨ov,hov⟩:∃o,o=En.get n.ents key:=⟨_,rfl⟩
    rw[<-hov]at HEG
    clear hov
    have g0:=hBn.cell 0
    have g1:=hBn.cell 1
    have ln:=hBn.lt
    have HF2:=Lib.hid hF2
    have HON2:=Lib.hid hon2
    clear hb2 hon1 hon2 hf1 rn hBn hNF hF2 hrt hlf
    cases ov with
    |none=>
     go_wp2_with fail
     refine HEG.out.mono ?_
     rintro e w3 ⟨rfl,hb3⟩
     have HEND:=Lib.hid (show On S B t u TM root 0 r σ w3/\Fr S w w3 from⟨(HON2.out.belowR HM.out hb3).lessR HM.out (by omega),HF2.out.trans (.of_below hb3)⟩)
     clear hb3
     go_wp2
     go_ret3
     exact⟨⟨_,_,_,rfl, .inl rfl⟩,HEND.out.1,HEND.out.2⟩
    |some val=>
     go_wp2_with fail
     refine HEG.out.mono ?_
     rintro e w3 ⟨rfl,hb3⟩
     have HEND:=Lib.hid (show On S B t u TM root 0 r σ w3/\Fr S w w3 from⟨(HON2.out.belowR HM.out hb3).lessR HM.out (by omega),HF2.out.trans (.of_below hb3)⟩)
     clear hb3
     go_wp2
     go_ret3
     exact⟨⟨_,_,_,rfl, .inl rfl⟩,HEND.out.1,HEND.out.2⟩
   |false=>
    rw[hlf]at hF2 hon2 hBn hNF hzz hb2
    have hks:Nd.KSrt n.keys/\n.keys.length+1=n.kids.length:=by
     obtain⟨hr,_⟩:=Tp.fits_iff.1 HFIT.out
     obtain⟨leaf,ents,kids,keys⟩:=n
     obtain rfl:leaf=false:=hlf
     exact⟨((Nd.keys_iff keys).1 (Nd.right_inner.1 hr).2.2.2).2,(Nd.right_inner.1 hr).2.1⟩
    have hkw:∀x∈n.kids,(Lit.int .i64 x).wf=true:=by
     obtain⟨hr,_⟩:=Tp.fits_iff.1 HFIT.out
     obtain⟨leaf,ents,kids,keys⟩:=n
     obtain rfl:leaf=false:=hlf
     exact fun x hx=>by have:=(Nd.right_inner.1 hr).2.2.1 x hx;exact(show IdOk x by unfold IdOk;omega).wf
    have hci:=Nd.child_le n.keys key
    have hkl:n.kids.length<=100000:=(fits_nb HFIT.out).i
    obtain⟨i,hi⟩:∃i,i=Nd.child n.keys key:=⟨_,rfl⟩
    have HCH:=Lib.hid (fun W hbW=>nchild_any (.agg #[.bool false, .slice N1 n.ents.length c1, .slice N2 n.kids.length c2, .slice N3 n.keys.length c3]) n key W (NF.below hNF hbW).ns (fits_nb HFIT.out) hks.1)
    rw[<-hi]at HCH hci
    have hik:i<n.kids.length:=by have:=hks.2;omega
    have HKW:=Lib.hid (hkw _ (List.getElem_mem hik))
    clear hkw
    obtain⟨bb,oo,rfl,hbb,gk⟩:=HRN.out.2.1.ls.int hik
    have gk2:=(hb2.cell (p:=⟨bb,oo+i,none⟩) hbb).trans gk
    have hidx:(i:Int)<n.kids.length:=by omega
    have g0:=hBn.cell 0
    have ln:=hBn.lt
    have HBn:=Lib.hid hBn
    have HF2:=Lib.hid hF2
    have HON2:=Lib.hid hon2
    clear hb2 hon1 hon2 hf1 rn hBn hNF hF2 hks hlf hci hi gk
    go_wp2_with fail
    generalize (w1.alloc (.cells #[.bool false, .slice N1 n.ents.length c1, .slice (some ⟨bb,oo,none⟩) n.kids.length c2, .slice N3 n.keys.length c3] 32))=w2 at*
    refine wp_region_flow (base:=w2.heap.size) (fun uu=>⟨#[_,_,_,_,_,_,_,uu 7,_,_,_,_,_,_,_,_,_,_,_,_,_,_,_,_,_,_,_,_,_,_,_,_,_,_,_,_,_,_,_,_,_,_,_,_,_,_,_,_,_,_,_,uu 0,uu 1,uu 2,uu 3,uu 4,uu 5,uu 6],_⟩)
     [Is.eq _ (.pointer (some ⟨w1.heap.size,2,none⟩)),Is.eq _ (.slice (some ⟨bb,oo,none⟩) n.kids.length c2),Is.eq _ (.agg #[.bool false, .slice N1 n.ents.length c1, .slice (some ⟨bb,oo,none⟩) n.kids.length c2, .slice N3 n.keys.length c3]),Is.eq _ (.string key),Is.eq _ (.int .i64 (i:Nat)),Is.eq _ (.pointer (some ⟨bb,oo+i,none⟩)),Is.eq _ (.int .i64 (n.kids[i]'hik)),Is.eq _ (.int .i64 (n.kids[i]'hik))]
     (by kernel_rfl) (by kernel_rfl) (by kernel_rfl) [] rfl (Nat.le_refl _) (by simp) (by simp) ⟨fun k=>if k=7 then .int .i64 idi else(#[u51,u52,u53,u54,u55,u56,u57]:Array Value).getD k undef,rfl⟩ ?_ ?_
    ·intro k o ho uu W hf hold hdep
     have hfb:Below w2.heap.size w2 W:=hf.low (Nat.le_refl _) (fun k a=>by simp at a)
     have hBW:=HBn.out.below hfb ln
     have cW:=hBW.cell 2
     match k,ho with
     |0,ho=>obtain rfl:=Option.some.inj ho;exact Does.val (op_fan2 rfl rfl) ⟨rfl,rfl,Fr.refl _⟩
     |1,ho=>obtain rfl:=Option.some.inj ho;exact Does.val (op_ld_ints rfl (hdep 0 rfl) cW) ⟨rfl,rfl,Fr.refl _⟩
     |2,ho=>obtain rfl:=Option.some.inj ho;exact Does.val (op_ld_row node_struct rfl rfl hBW rfl) ⟨rfl,rfl,Fr.refl _⟩
     |3,ho=>obtain rfl:=Option.some.inj ho;exact Does.val (op_mv rfl rfl) ⟨rfl,rfl,Fr.refl _⟩
     |4,ho=>
      obtain rfl:=Option.some.inj ho
      refine Does.call (op_call2 ent_child rfl (hdep 2 rfl) (hdep 3 rfl)) (Calls.mono (HCH.out W hfb) ?_)
      rintro e w' ⟨rfl,hb'⟩
      exact⟨_,rfl,rfl,rfl, .of_below hb'⟩
     |5,ho=>obtain rfl:=Option.some.inj ho;exact Does.val (op_ia_ints rfl (hdep 1 rfl) (hdep 4 rfl) hik) ⟨rfl,rfl,Fr.refl _⟩
     |6,ho=>obtain rfl:=Option.some.inj ho;exact Does.val (op_ldint rfl (hdep 5 rfl) ((hfb.cell (p:=⟨bb,oo+i,none⟩) (show bb<w2.heap.size by omega)).trans gk2)) ⟨rfl,rfl,Fr.refl _⟩
     |7,ho=>obtain rfl:=Option.some.inj ho;exact Does.val (op_as rfl (hdep 6 rfl)) ⟨rfl,rfl,Fr.refl _⟩
     |n+8,ho=>exact absurd ho (by simp)
    ·intro uu W hf hall
     have e7:uu 7= .int .i64 (n.kids[i]'hik):=hall 7 (by decide)
     simp only[e7]
     have hfb:Below w2.heap.size w2 W:=hf.low (Nat.le_refl _) (fun k a=>by simp at a)
     have HON3:=Lib.hid (HON2.out.belowR HM.out hfb)
     have HF3:=Lib.hid (HF2.out.trans (.of_below hfb))
     clear hall hf hfb e7
     go_wp2
     go_roundg (f-1+1)
     case measure=>omega
     case rel=>exact⟨d+1,f-1,_,rfl,by go_num,by omega,Nat.le_refl _,HKW,Lib.hid (HON3.out.lessR HM.out (by omega)),HF3⟩
end
def bud:Nat->Nat
 |0=>2
 |f+1=>3*bud f+2
section
variable {S:Nat->Prop}{B t K:Nat}{disk:Tp.Disk}{TM:Nat->Tp.Pst->World->Prop}{bad:Int->Prop}
def VrEnd(S:Nat->Prop)(B t u:Nat)(TM:Nat->Tp.Pst->World->Prop)(root:Int)(r:Nat)(σ:Tp.Pst){Q:Type}(P:Nat->Q->(Nat->Prop)->World->Prop)(m:Nat)(Y:Nat->Prop)(w:World)(e:Ending)(w':World):Prop:=
 (∃ (b:Bool) (z:Int),e= .returned (.tuple #[.bool b, .int .i64 z])/\(z=0\/z=3))/\On S B t u TM root 0 r σ w'/\Fr (fun k=>S k\/Y k) w w'/\∃q' Y',P m q' Y' w'/\∀k,Y' k->Y k\/w.heap.size<=k
theorem visit_raw(M:Mrd S B t K disk TM)(hbad:BadGet S t TM bad)(u:Nat)(root:Int){yf:FuncId}{caps:Array Value}{Q:Type}{step:Q->List Ent->Q × Bool}{P:Nat->Q->(Nat->Prop)->World->Prop}(V:VisFn S B t u TM root yf caps step P)(hPm:∀m m' q Y w,P m q Y w->P m' q Y w)(frm:ByteArray)(σ:Tp.Pst)(hok:∀id:Int,(Lit.int .i64 id).wf=true->(∃n,σ.view disk id=some n)\/(σ.view disk id=none/\bad id))(h3:∀id n,σ.view disk id=some n->n.kids.length<=3):∀ (f d:Nat) (id:Int),(Lit.int .i64 id).wf=true->∀ (m:Nat) (q:Q) (Y:Nat->Prop) (r:Nat) (w:World),d+f=24->P m q Y w->On S B t u TM root 0 (r+bud f) σ w->
  Calls Tryz.prog 151 #[.pointer (some ⟨u,0,none⟩), .int .i64 id, .int .i64 (d:Nat), .string frm, .func (.func yf) #[] caps] w (VrEnd S B t u TM root r σ P m Y w):=by
 intro f
 induction f with
 |zero=>
  intro d id hwf m q Y r w hd hP h
  have HLD:=Lib.hid (load_raw M hbad u root r σ id d (hok id hwf) w h)
  have hun:u<w.heap.size:=h.self.lt
  have HM:=Lib.hid M
  have HV:=Lib.hid V
  have HP:=Lib.hid hP
  clear h hP V M hwf hok h3
  clear hbad
  go_enter Tryz.func151,Tryz.ntmps151
  go_wp2_with fail
  refine Calls.mono HLD.out ?_
  rintro e w1 (⟨hd24,_⟩ | ⟨rfl,hon1,hf1⟩)
  case inl=>omega
  case inr=>
   have hb2:=(Below.refl w1.heap.size w1).alloc (Nat.le_refl _) (.cells #[.bool false, .slice none 0 0, .slice none 0 0, .slice none 0 0] 32)
   have HEND:=Lib.hid (show VrEnd S B t u TM root r σ P m Y w (.returned (.tuple #[.bool false, .int .i64 3])) _ from⟨⟨_,_,rfl, .inr rfl⟩,(hon1.belowR HM.out hb2).lessR HM.out (by omega),(hf1.trans (.of_below hb2)).more (fun _=> .inl),q,Y,HV.out.keep HP.out (hf1.trans (.of_below hb2)),fun k a=> .inl a⟩)
   clear hb2 hon1 hf1
   go_wp2
   go_ret2
   exact HEND.out
 |succ f ih=>
  intro d id hwf m q Y r w hd hP h
  obtain⟨cst,hcst⟩:∃c,c=3*bud f:=⟨_,rfl⟩
  rw[show bud (f+1)=3*bud f+2 from rfl, <-hcst, <-Nat.add_assoc]at h
  have HLD:=Lib.hid (load_raw M hbad u root (r+cst) σ id d (hok id hwf) w h)
  have hsz:=M.size h.tm
  have hun:u<w.heap.size:=h.self.lt
  have HIH:=Lib.hid ih
  have HM:=Lib.hid M
  have HV:=Lib.hid V
  have HP:=Lib.hid hP
  have HPM:=Lib.hid hPm
  have HH:=Lib.hid h.tm
  have H3:=Lib.hid h3
  clear h hP ih M V hwf hok hPm h3
  clear hbad
  go_enter Tryz.func151,Tryz.ntmps151
  go_wp2_with fail
  refine Calls.mono HLD.out ?_
  rintro e w1 (⟨hd24,n,hv,v,rfl,hnf,hon1,hf1⟩ | ⟨rfl,hon1,hf1⟩)
  case inr=>
   have hb2:=(Below.refl w1.heap.size w1).alloc (Nat.le_refl _) (.cells #[.bool false, .slice none 0 0, .slice none 0 0, .slice none 0 0] 32)
   have HEND:=Lib.hid (show VrEnd S B t u TM root r σ P m Y w (.returned (.tuple #[.bool false, .int .i64 3])) _ from⟨⟨_,_,rfl, .inr rfl⟩,(hon1.belowR HM.out hb2).lessR HM.out (by omega),(hf1.trans (.of_below hb2)).more (fun _=> .inl),q,Y,HV.out.keep HP.out (hf1.trans (.of_below hb2)),fun k a=> .inl a⟩)
   clear hb2 hon1 hf1
   go_wp2
   go_ret2
   exact HEND.out
  have HFIT:=Lib.hid (HM.out.ht HH.out hv).1
  have hk3:=H3.out id n hv
  obtain⟨N1,c1,N2,c2,N3,c3,rfl,rn⟩:=hnf
  have hz1:=hf1.size
  have hb2:=(Below.refl w1.heap.size w1).alloc (Nat.le_refl _) (.cells #[.bool n.leaf, .slice N1 n.ents.length c1, .slice N2 n.kids.length c2, .slice N3 n.keys.length c3] 32)
  have hF2:Fr S w _:=hf1.trans (.of_below hb2)
  have hon2:=hon1.belowR HM.out hb2
  have hBn:=Blk.new w1 32 #[.bool n.leaf, .slice N1 n.ents.length c1, .slice N2 n.kids.length c2, .slice N3 n.keys.length c3]
  have hNF:=NF.below (lo:=w.heap.size) (v:= .agg #[.bool n.leaf, .slice N1 n.ents.length c1, .slice N2 n.kids.length c2, .slice N3 n.keys.length c3]) ⟨N1,c1,N2,c2,N3,c3,rfl,rn⟩ hb2
  have HRN:=Lib.hid rn
  have HB2:=Lib.hid hb2
  have hP2:=HV.out.keep HP.out hF2
  unfold nodeV
  cases hlf:n.leaf with
  |true=>
   rw[hlf]at hF2 hon2 hBn hNF hb2 hP2
   have hrt:En.right n.ents=true:=by
    obtain⟨hr,_⟩:=Tp.fits_iff.1 HFIT.out
    obtain⟨leaf,ents,kids,keys⟩:=n
    obtain rfl:leaf=true:=hlf
    exact(Nd.right_leaf.1 hr).1
   have hsrt:=((En.right_iff n.ents).1 hrt).2
   have hle:=(fits_small HFIT.out).1
   have hls:LS entE (w1.alloc (.cells #[.bool true, .slice N1 n.ents.length c1, .slice N2 n.kids.length c2, .slice N3 n.keys.length c3] 32)) _ N1 n.ents:=(LO.below HRN.out.1 hb2).ls
   have hsv:=LO.sv (LO.below HRN.out.1 hb2)
   have HFI:=Lib.hid (find_any N1 c1 n.ents frm _ hls (by omega))
   have g0:=hBn.cell 0
   have g1:=hBn.cell 1
   have ln:=hBn.lt
   have HSV:=Lib.hid hsv
   have HF2:=Lib.hid hF2
   have HON2:=Lib.hid hon2
   have HP2:=Lib.hid hP2
   have HSR:=Lib.hid hsrt
   have HLE:=Lib.hid hle
   clear hb2 hon1 hon2 hf1 rn hBn hNF hF2 hrt hlf hsrt hle hls hsv hP2
   go_wp2_with fail
   refine HFI.out.mono ?_
   rintro e w3 ⟨i,fd,rfl,hi,_,_,hlow,hb3⟩
   have hls3:=(HSV.out.up hb3).cut hi
   have hcut:=cut_from N1 n.ents.length c1 i (i:Int) rfl hi w3
   have hAY:∀a,(if c1=i then N1 else N1.map (·.add (i*2)))=some a->¬Y a.block:=by
    intro a ha hy
    have hlt:=HV.out.lt HP.out hy
    rcases HRN.out.1.2 with⟨e,_⟩ | ⟨g,cap,cur,e,h2,_⟩
    ·injection e with e;subst e;simp at ha
    ·injection e with e;subst e
     split at ha
     ·injection ha with ha;subst ha;simp only at hlt;omega
     ·simp only[Option.map_some,Addr.add_lit]at ha;injection ha with ha;subst ha;simp only at hlt;omega
   generalize (if c1=i then N1 else N1.map (·.add (i*2)))=A2 at hcut hls3 hAY
   generalize c1-i=cc at hcut
   have hF3:Fr S w w3:=HF2.out.trans (.of_below hb3)
   have hon3:=HON2.out.belowR HM.out hb3
   have g1':=(hb3.cell (p:=⟨w1.heap.size,1,none⟩) ln).trans g1
   have hP3:=HPM.out _ (m+(n.ents.drop i).length) _ _ _ (HV.out.keep HP.out hF3)
   have HCL:=Lib.hid (HV.out.call w3 A2 cc (n.ents.drop i) (n.ents.length-i) m q Y (r+cst) σ hP3 hon3 hls3 hAY (by rw[List.length_drop]) (by rw[List.length_drop];have:=HLE.out;omega))
   obtain⟨qb,hqb⟩:∃z,z=step q (n.ents.drop i):=⟨_,rfl⟩
   rw[<-hqb]at HCL
   clear hqb
   obtain⟨q',b⟩:=qb
   simp only at HCL
   have HF3:=Lib.hid hF3
   clear hlow hls3 hb3 hF3 hon3 hP3 hAY
   go_wp2_with fail
   rw[HV.out.enters,Oper.upon_enter]
   refine Calls.mono HCL.out ?_
   rintro e w4 ⟨rfl,hon4,hf4,Y',hP4,hY⟩
   have HEND:=Lib.hid (show VrEnd S B t u TM root r σ P m Y w (.returned (.tuple #[.bool b, .int .i64 0])) w4 from⟨⟨_,_,rfl, .inl rfl⟩,hon4.lessR HM.out (by omega),HF3.out.more (fun _=>Or.inl) |>.trans (hf4.more (fun _=>Or.inr)),_,Y',hP4,fun k hk=>(hY k hk).imp_right (fun a=>Nat.le_trans HF3.out.size a)⟩)
   clear hon4 hf4 hP4 hY
   go_wp2
   go_ret2
   exact HEND.out
  |false=>
   rw[hlf]at hF2 hon2 hBn hNF hb2 hP2
   have hks:Nd.KSrt n.keys/\n.keys.length+1=n.kids.length:=by
    obtain⟨hr,_⟩:=Tp.fits_iff.1 HFIT.out
    obtain⟨leaf,ents,kids,keys⟩:=n
    obtain rfl:leaf=false:=hlf
    exact⟨((Nd.keys_iff keys).1 (Nd.right_inner.1 hr).2.2.2).2,(Nd.right_inner.1 hr).2.1⟩
   have hkw:Hid (∀x∈n.kids,(Lit.int .i64 x).wf=true):=Lib.hid (by
    obtain⟨hr,_⟩:=Tp.fits_iff.1 HFIT.out
    obtain⟨leaf,ents,kids,keys⟩:=n
    obtain rfl:leaf=false:=hlf
    exact fun x hx=>by have:=(Nd.right_inner.1 hr).2.2.1 x hx;exact(show IdOk x by unfold IdOk;omega).wf)
   have hci:=Nd.child_le n.keys frm
   have hkl:n.kids.length<=100000:=(fits_nb HFIT.out).i
   obtain⟨i,hi⟩:∃i,i=Nd.child n.keys frm:=⟨_,rfl⟩
   have HCH:=Lib.hid (fun W hbW=>nchild_any (.agg #[.bool false, .slice N1 n.ents.length c1, .slice N2 n.kids.length c2, .slice N3 n.keys.length c3]) n frm W (NF.below hNF hbW).ns (fits_nb HFIT.out) hks.1)
   rw[<-hi]at HCH hci
   have hik:i<n.kids.length:=by have:=hks.2;omega
   have hsvk:=(LO.below HRN.out.2.1 hb2).sv
   have hc2:=hsvk.le
   obtain⟨bb,oo,rfl,hbb, -⟩:=hsvk.ls.int hik
   have hrow:∀j (hj:j<n.kids.length),(w1.alloc (.cells #[.bool false, .slice N1 n.ents.length c1, .slice (some ⟨bb,oo,none⟩) n.kids.length c2, .slice N3 n.keys.length c3] 32)).cell? ⟨bb,oo+j,none⟩=some (.int .i64 n.kids[j]):=fun j hj=>LS.int' hsvk.ls hj
   have hbw:w.heap.size<=bb:=by
    rcases HRN.out.2.1.2 with⟨e,_⟩ | ⟨g,cap,cur,e,h2,_⟩
    ·injection e with e;cases e
    ·injection e with e;injection e with e;injection e with e;subst e;exact h2
   have hcut:(if c2=i then(some ⟨bb,oo,none⟩:Option Addr)else(some ⟨bb,oo,none⟩:Option Addr).map (·.add (i*1)))=some ⟨bb,oo+i,none⟩:=by
    rw[if_neg (by omega)];simp[Addr.add_lit]
   have hiL:i<=n.kids.length:=by omega
   have g0:=hBn.cell 0
   have ln:=hBn.lt
   have HBn:=Lib.hid hBn
   have HF2:=Lib.hid hF2
   have HON2:=Lib.hid hon2
   have HP2:=Lib.hid hP2
   have HROW:=Lib.hid hrow
   have HCUT:=Lib.hid hcut
   have HIL:=Lib.hid hiL
   have HBW:=Lib.hid hbw
   have HBB:=Lib.hid hbb
   clear hb2 hon1 hon2 hf1 rn hBn hNF hF2 hks hlf hci hi hrow hcut hiL hbw hsvk hP2 hbb
   go_wp2_with fail
   generalize (w1.alloc (.cells #[.bool false, .slice N1 n.ents.length c1, .slice (some ⟨bb,oo,none⟩) n.kids.length c2, .slice N3 n.keys.length c3] 32))=w2 at*
   refine wp_region_flow (base:=w2.heap.size) (fun uu=>⟨#[_,_,_,_,_,_,_,_,_,_,_,_,_,_,_,_,_,_,_,_,_,_,_,_,_,_,_,_,_,_,_,_,_,_,_,_,_,_,_,_,_,_,_,_,_,uu 0,uu 1,uu 2,uu 3,uu 4,uu 5,uu 6,uu 7,_,_,_,_,_,_,_,_,_,_,_,_,_,_,_,_,_,_,_,_,_],_⟩)
    [Is.eq _ (.pointer (some ⟨w1.heap.size,2,none⟩)),Is.eq _ (.slice (some ⟨bb,oo,none⟩) n.kids.length c2),Is.eq _ (.agg #[.bool false, .slice N1 n.ents.length c1, .slice (some ⟨bb,oo,none⟩) n.kids.length c2, .slice N3 n.keys.length c3]),Is.eq _ (.string frm),Is.eq _ (.int .i64 (i:Nat)),Is.eq _ (.slice (some ⟨bb,oo+i,none⟩) (n.kids.length-i) (c2-i)),Is.eq _ (.int .i64 ((n.kids.length-i:Nat):Int)),Is.eq _ (.int .i64 0)]
    (by kernel_rfl) (by kernel_rfl) (by kernel_rfl) [] rfl (Nat.le_refl _) (by simp) (by simp) ⟨fun _=>undef,rfl⟩ ?_ ?_
   ·intro k o ho uu W hf hold hdep
    have hfb:Below w2.heap.size w2 W:=hf.low (Nat.le_refl _) (fun k a=>by simp at a)
    have hBW:=HBn.out.below hfb ln
    have cW:=hBW.cell 2
    match k,ho with
    |0,ho=>obtain rfl:=Option.some.inj ho;exact Does.val (op_fan2 rfl rfl) ⟨rfl,rfl,Fr.refl _⟩
    |1,ho=>obtain rfl:=Option.some.inj ho;exact Does.val (op_ld_ints rfl (hdep 0 rfl) cW) ⟨rfl,rfl,Fr.refl _⟩
    |2,ho=>obtain rfl:=Option.some.inj ho;exact Does.val (op_ld_row node_struct rfl rfl hBW rfl) ⟨rfl,rfl,Fr.refl _⟩
    |3,ho=>obtain rfl:=Option.some.inj ho;exact Does.val (op_mv rfl rfl) ⟨rfl,rfl,Fr.refl _⟩
    |4,ho=>
     obtain rfl:=Option.some.inj ho
     refine Does.call (op_call2 ent_child rfl (hdep 2 rfl) (hdep 3 rfl)) (Calls.mono (HCH.out W hfb) ?_)
     rintro e w' ⟨rfl,hb'⟩
     exact⟨_,rfl,rfl,rfl, .of_below hb'⟩
    |5,ho=>obtain rfl:=Option.some.inj ho;exact Does.val (op_sl_ints_from rfl (hdep 1 rfl) (hdep 4 rfl) HIL.out) ⟨rfl,by show _=_;rw[HCUT.out],Fr.refl _⟩
    |6,ho=>obtain rfl:=Option.some.inj ho;exact Does.val (op_len_ints rfl (hdep 5 rfl)) ⟨rfl,rfl,Fr.refl _⟩
    |7,ho=>obtain rfl:=Option.some.inj ho;exact Does.val (op_mv rfl rfl) ⟨rfl,rfl,Fr.refl _⟩
    |n+8,ho=>exact absurd ho (by simp)
   ·intro uu W hf hall
    have e5:uu 5= .slice (some ⟨bb,oo+i,none⟩) (n.kids.length-i) (c2-i):=hall 5 (by decide)
    have e6:uu 6= .int .i64 ((n.kids.length-i:Nat):Int):=hall 6 (by decide)
    have e7:uu 7= .int .i64 0:=hall 7 (by decide)
    simp only[e5,e6,e7]
    have hfb:Below w2.heap.size w2 W:=hf.low (Nat.le_refl _) (fun k a=>by simp at a)
    have HON3:=Lib.hid (HON2.out.belowR HM.out hfb)
    have HF3:=Lib.hid ((HF2.out.trans (.of_below hfb)).more (fun k a=>(.inl a:S k\/Y k)))
    have HP3:=Lib.hid (HV.out.keep HP2.out (Fr.of_below hfb))
    have HB3:=Lib.hid (hfb.block bb HBB.out)
    have HBW3:=Lib.hid (show bb<W.heap.size from Nat.lt_of_lt_of_le HBB.out hfb.size)
    have HW3:=Lib.hid (show w.heap.size<=W.heap.size from HF3.out.size)
    obtain⟨L,hL⟩:∃L,L=n.kids.length-i:=⟨_,rfl⟩
    have hiL:i+L=n.kids.length:=by omega
    have HIL:=Lib.hid hiL
    rw[<-hL]
    have hL5:L<=3:=by omega
    have HBU:Hid ((L-0)*bud f<=cst):=Lib.hid (by rw[hcst];exact Nat.mul_le_mul_right _ hL5)
    generalize c2-i=cc at*
    clear hall hf hfb e5 e6 e7 hL hiL hc2 hik ln g0
    go_wp2
    go_loopg [52] L (fun g s52 wr=>∃ (j:Nat) (qj:Q) (Yj:Nat->Prop),s52= .int .i64 (j:Nat)/\j<=L/\L-j<=g/\Hid (P m qj Yj wr)/\Hid (∀k,Yj k->Y k\/W.heap.size<=k)/\Hid (On S B t u TM root 0 (r+(L-j)*bud f) σ wr)/\Hid (Fr (fun k=>S k\/Y k) w wr)/\Hid (W.heap.size<=wr.heap.size/\wr.heap[bb]? =w2.heap[bb]?))
    case atStart=>exact⟨0,q,Y,rfl,Nat.zero_le _,by omega,HP3,Lib.hid (fun k a=> .inl a),Lib.hid (HON3.out.lessR HM.out (Nat.add_le_add_left HBU.out r)),HF3,Lib.hid ⟨Nat.le_refl _,HB3.out⟩⟩
    case round=>
     obtain⟨j,qj,Yj,rfl,hjL,hjg,HPJ,HYJ,HONJ,HFJ,HBJ⟩:=hrel
     have hwz:=HBJ.out.1
     by_cases hj:j<L
     ·have hij:i+j<n.kids.length:=by have:=HIL.out;omega
      have hcell:wr.cell? ⟨bb,oo+i+j,none⟩=some (.int .i64 (n.kids[i+j]'hij)):=by
       have e:=HROW.out (i+j) hij
       rw[show oo+(i+j)=oo+i+j by omega]at e
       rw[<-e]
       unfold World.cell?
       rw[HBJ.out.2]
      have hbl:bb<wr.heap.size:=by have:=HBW3.out;omega
      have hon:=HONJ.out
      rw[show(L-j)*bud f=(L-(j+1))*bud f+bud f by rw[show L-j=L-(j+1)+1 by omega,Nat.succ_mul], <-Nat.add_assoc]at hon
      have hcall:=HIH.out (d+1) (n.kids[i+j]'hij) (hkw.out _ (List.getElem_mem hij)) m qj Yj (r+(L-(j+1))*bud f) wr (by omega) HPJ.out hon
      rw[show((d+1:Nat):Int)=(d:Int)+1 by omega]at hcall
      have HCALL:=Lib.hid hcall
      have hwd:IntKind.i64.wrap ((d:Int)+1)=(d:Int)+1:=IntWalk.i64_in _ (by omega)
      have hwj:IntKind.i64.wrap ((j:Int)+1)=(j:Int)+1:=IntWalk.i64_in _ (by omega)
      have hjLi:(j:Int)<(L:Nat):=by omega
      generalize n.kids[i+j]'hij=kid at*
      clear hcall hon
      go_wp2_with fail
      refine Calls.mono HCALL.out ?_
      rintro e w4 ⟨⟨b1,z1,rfl,hz1⟩,hon4,hf4,q1,Y4,hP4,hY4⟩
      have hF4:Fr (fun k=>S k\/Y k) w w4:=HFJ.out.go hf4 (fun k a=>by
       rcases a with a | a
       ·exact .inl (.inl a)
       ·rcases HYJ.out k a with a | a
        ·exact .inl (.inr a)
        ·exact .inr (Nat.le_trans HW3.out a))
      have hz4:=hf4.size
      have hY4':∀k,Y4 k->Y k\/W.heap.size<=k:=fun k a=>by
       rcases hY4 k a with a | a
       ·exact HYJ.out k a
       ·exact .inr (Nat.le_trans HBJ.out.1 a)
      have HF4:=Lib.hid hF4
      have HON4:=Lib.hid hon4
      have HP4:=Lib.hid hP4
      have HY4:=Lib.hid hY4'
      have HB4:=Lib.hid (show W.heap.size<=w4.heap.size/\w4.heap[bb]? =w2.heap[bb]? from⟨Nat.le_trans HBJ.out.1 hz4,(hf4.block bb hbl (fun a=>by
       rcases a with a | a
       ·exact HM.out.far (Nat.le_trans hsz HBW.out) a
       ·rcases HYJ.out bb a with a | a
        ·exact absurd (HV.out.lt HP.out a) (Nat.not_lt.2 HBW.out)
        ·exact absurd HBW3.out (Nat.not_lt.2 a))).trans HBJ.out.2⟩)
      clear hon4 hf4 hP4 hY4 hF4 hY4'
      cases b1 with
      |true=>
       rcases hz1 with rfl | rfl
       ·go_wp2
        go_roundg (L-(j+1))
        case measure=>omega
        case rel=>exact⟨j+1,q1,Y4,by go_num,by omega,Nat.le_refl _,HP4,HY4,HON4,HF4,HB4⟩
       ·have HEND:=Lib.hid (show VrEnd S B t u TM root r σ P m Y w (.returned (.tuple #[.bool false, .int .i64 3])) w4 from⟨⟨_,_,rfl, .inr rfl⟩,HON4.out.lessR HM.out (by omega),HF4.out,q1,Y4,HP4.out,fun k hk=>(HY4.out k hk).imp_right (fun a=>Nat.le_trans HW3.out a)⟩)
        go_wp2
        go_ret2
        exact HEND.out
      |false=>
       have HEND:=Lib.hid (show VrEnd S B t u TM root r σ P m Y w (.returned (.tuple #[.bool false, .int .i64 z1])) w4 from⟨⟨_,_,rfl,hz1⟩,HON4.out.lessR HM.out (by omega),HF4.out,q1,Y4,HP4.out,fun k hk=>(HY4.out k hk).imp_right (fun a=>Nat.le_trans HW3.out a)⟩)
       go_wp2
       go_ret2
       exact HEND.out
     ·have hjLi:¬ (j:Int)<(L:Nat):=by omega
      obtain rfl:j=L:=by omega
      have HEND:=Lib.hid (show VrEnd S B t u TM root r σ P m Y w (.returned (.tuple #[.bool true, .int .i64 0])) wr from⟨⟨_,_,rfl, .inl rfl⟩,HONJ.out.lessR HM.out (by omega),HFJ.out,qj,Yj,HPJ.out,fun k hk=>(HYJ.out k hk).imp_right (fun a=>Nat.le_trans HW3.out a)⟩)
      go_wp2
      go_ret2
      exact HEND.out
end
section
variable {S:Nat->Prop}{B t K:Nat}{disk:Tp.Disk}{TM:Nat->Tp.Pst->World->Prop}{bad:Int->Prop}
theorem each_doR(M:Mrd S B t K disk TM)(u:Nat)(root:Int){yf:FuncId}{caps:Array Value}{Q:Type}{y:Q->Ent->Q × Bool}{P:Nat->Q->(Nat->Prop)->World->Prop}(V:EntFn S B t u TM root yf caps y P){ge:Nat}(hge:B<=ge):
  VisFn S B t u TM root 152 #[.pointer (some ⟨ge,0,none⟩)] (Tp.ystep y) (fun m q Y w=>P m q Y w/\Blk w ge 150 #[.func (.func yf) #[] caps]/\¬Y ge) where
 keep:=fun h hf=>⟨V.keep h.1 hf,hf.blk h.2.1 (M.far hge),h.2.2⟩
 less:=fun h hm=>⟨V.less h.1 hm,h.2⟩
 lt:=fun h a=>V.lt h.1 a
 enters:=fun args w=>by kernel_rfl
 call:=fun w A c l n m q Y r σ hP hon hls hAY hn hl=>by
  subst hn
  have HM:=Lib.hid M
  have HV:=Lib.hid V
  have HLS:=Lib.hid hls
  have HAY:=Lib.hid hAY
  have HP:=Lib.hid hP
  have HON:=Lib.hid hon
  have hgl:=hP.2.1.lt
  clear hP hon hls hAY M V
  show Calls Tryz.prog 152 #[.slice A l.length c, .pointer (some ⟨ge,0,none⟩)] w _
  go_enter Tryz.func152,Tryz.ntmps152
  go_wp2
  go_loopg [8] l.length (fun g s8 wr=>∃ (j:Nat) (qj:Q) (Yj:Nat->Prop),s8= .int .i64 (j:Nat)/\j<=l.length/\l.length-j<=g/\Hid (Tp.ystep y qj (l.drop j)=Tp.ystep y q l)/\Hid (P (m+(l.length-j)) qj Yj wr/\Blk wr ge 150 #[.func (.func yf) #[] caps]/\¬Yj ge)/\Hid (∀k,Yj k->Y k\/w.heap.size<=k)/\Hid (On S B t u TM root 0 r σ wr)/\Hid (Fr Y w wr)/\Hid (∀b off,A=some ⟨b,off,none⟩->b<w.heap.size->wr.heap[b]? =w.heap[b]?))
  case atStart=>exact⟨0,q,Y,rfl,Nat.zero_le _,by omega,Lib.hid rfl,Lib.hid HP.out,Lib.hid (fun k a=> .inl a),HON,Lib.hid (Fr.refl _),Lib.hid (fun _ _ _ _=>rfl)⟩
  case round=>
   obtain⟨j,qj,Yj,rfl,hjL,hjg,HGJ,HPJ,HYJ,HONJ,HFJ,HBJ⟩:=hrel
   have hwz:=HFJ.out.size
   by_cases hj:j<l.length
   ·obtain⟨bb,oo,rfl,hbb,k1,k2⟩:=HLS.out.ent hj
    have hcell:∀o,wr.cell? ⟨bb,o,none⟩=w.cell? ⟨bb,o,none⟩:=fun o=>by
     unfold World.cell?
     rw[HBJ.out bb oo rfl hbb]
    rw[<-hcell]at k1 k2
    have hbl:bb<wr.heap.size:=by omega
    have hst:=HGJ.out
    rw[ystep_at hj]at hst
    have hbx:=(Below.refl wr.heap.size wr).alloc (Nat.le_refl _) (.cells #[.string l[j].1, .string l[j].2] 34)
    have hP5:=HV.out.less (m:=m+(l.length-(j+1))+1) (HV.out.keep HPJ.out.1 (Fr.of_below hbx)) (by omega)
    have hB5:=HPJ.out.2.1.below hbx HPJ.out.2.1.lt
    have HCALL:=Lib.hid (HV.out.call _ l[j] (m+(l.length-(j+1))) qj Yj r σ hP5 (HONJ.out.belowR HM.out hbx))
    have gfn:=hB5.cell 0
    have hgl5:=hB5.lt
    have HBX:=Lib.hid hbx
    have HB5:=Lib.hid hB5
    have hwj:IntKind.i64.wrap ((j:Int)+1)=(j:Int)+1:=IntWalk.i64_in _ (by omega)
    have hjLi:(j:Int)<l.length:=by omega
    have HST:=Lib.hid hst
    clear hst hP5 hB5 hbx hcell
    generalize l[j]=x at*
    go_wp2_with fail
    rw[HV.out.enters,Oper.upon_enter]
    refine Calls.mono HCALL.out ?_
    rintro e w4 ⟨rfl,hon4,hf4,Y4,hP4,hY4⟩
    have hF4:Fr Y w w4:=(HFJ.out.trans (.of_below HBX.out)).go hf4 HYJ.out
    have hz5:=HBX.out.size
    have hY4':∀k,Y4 k->Y k\/w.heap.size<=k:=fun k a=>by
     rcases hY4 k a with a | a
     ·exact HYJ.out k a
     ·exact .inr (by omega)
    have hge4:¬Y4 ge:=fun a=>by
     rcases hY4 ge a with a | a
     ·exact HPJ.out.2.2 a
     ·have:=HPJ.out.2.1.lt;omega
    have HP4:=Lib.hid (show P (m+(l.length-(j+1))) (y qj x).1 Y4 w4/\Blk w4 ge 150 #[.func (.func yf) #[] caps]/\¬Y4 ge from⟨hP4,hf4.blk HB5.out HPJ.out.2.2,hge4⟩)
    have HY4:=Lib.hid hY4'
    have HON4:=Lib.hid hon4
    have HF4:=Lib.hid hF4
    have HB4:=Lib.hid (show ∀b off,(some ⟨bb,oo,none⟩:Option Addr)=some ⟨b,off,none⟩->b<w.heap.size->w4.heap[b]? =w.heap[b]? from fun b off e hb=>by
     have hny:¬Y b:=HAY.out ⟨b,off,none⟩ e
     exact hF4.block b hb hny)
    clear hon4 hf4 hP4 hY4 hF4 hY4' hge4
    obtain⟨qb,hqb⟩:∃z,z=y qj x:=⟨_,rfl⟩
    rw[<-hqb]at HST HP4 ⊢
    clear hqb
    obtain⟨q1,b1⟩:=qb
    simp only at HST HP4 ⊢
    cases b1 with
    |true=>
     have HST2:=Lib.hid (show Tp.ystep y q1 (l.drop (j+1))=Tp.ystep y q l by have:=HST.out;simpa using this)
     clear HST
     go_wp2
     go_roundg (l.length-(j+1))
     case measure=>omega
     case rel=>exact⟨j+1,q1,Y4,by go_num,by omega,Nat.le_refl _,HST2,HP4,HY4,HON4,HF4,HB4⟩
    |false=>
     have HE:=Lib.hid (show Tp.ystep y q l=(q1,false)by have:=HST.out;simpa using this.symm)
     clear HST
     have HEND:=Lib.hid (show On S B t u TM root 0 r σ w4/\Fr Y w w4/\∃Y',(P m q1 Y' w4/\Blk w4 ge 150 #[.func (.func yf) #[] caps]/\¬Y' ge)/\∀k,Y' k->Y k\/w.heap.size<=k from⟨HON4.out,HF4.out,Y4,⟨HV.out.less HP4.out.1 (Nat.le_add_right _ _),HP4.out.2⟩,HY4.out⟩)
     go_wp2
     go_ret
     rw[HE.out]
     exact⟨rfl,HEND.out⟩
   ·have hjLi:¬ (j:Int)<l.length:=by omega
    obtain rfl:j=l.length:=by omega
    have hend:=HGJ.out
    rw[List.drop_eq_nil_of_le (Nat.le_refl _),Tp.ystep]at hend
    have HE:=Lib.hid hend
    have HEND:=Lib.hid (show On S B t u TM root 0 r σ wr/\Fr Y w wr/\∃Y',(P m qj Y' wr/\Blk wr ge 150 #[.func (.func yf) #[] caps]/\¬Y' ge)/\∀k,Y' k->Y k\/w.heap.size<=k from⟨HONJ.out,HFJ.out,Yj,⟨HV.out.less HPJ.out.1 (Nat.le_add_right _ _),HPJ.out.2⟩,HYJ.out⟩)
    clear hend
    go_wp2
    go_ret
    rw[<-HE.out]
    exact⟨rfl,HEND.out⟩
def ErEnd(S:Nat->Prop)(B t u:Nat)(TM:Nat->Tp.Pst->World->Prop)(root:Int)(r:Nat)(σ:Tp.Pst){Q:Type}(P:Nat->Q->(Nat->Prop)->World->Prop)(m:Nat)(Y:Nat->Prop)(w:World)(e:Ending)(w':World):Prop:=
 (∃z:Int,e= .returned (.int .i64 z)/\(z=0\/z=3))/\On S B t u TM root 0 r σ w'/\Fr (fun k=>S k\/Y k) w w'/\∃q' Y',P m q' Y' w'/\∀k,Y' k->Y k\/w.heap.size<=k
theorem each_raw(M:Mrd S B t K disk TM)(hbad:BadGet S t TM bad)(u:Nat)(root:Int)(hwf:(Lit.int .i64 root).wf=true){yf:FuncId}{caps:Array Value}{Q:Type}{y:Q->Ent->Q × Bool}{P:Nat->Q->(Nat->Prop)->World->Prop}(V:EntFn S B t u TM root yf caps y P)(hPm:∀m m' q Y w,P m q Y w->P m' q Y w)(frm:ByteArray)(σ:Tp.Pst)(hok:∀id:Int,(Lit.int .i64 id).wf=true->(∃n,σ.view disk id=some n)\/(σ.view disk id=none/\bad id))(h3:∀id n,σ.view disk id=some n->n.kids.length<=3)(m:Nat)(q:Q)(Y:Nat->Prop)(r:Nat)(w:World)(hP:P m q Y w)(h:On S B t u TM root 0 (r+bud 24) σ w):
  Calls Tryz.prog 83 #[.pointer (some ⟨u,0,none⟩), .string frm, .func (.func yf) #[] caps] w (ErEnd S B t u TM root r σ P m Y w):=by
 have hsz:=M.size h.tm
 have hb1:=(Below.refl w.heap.size w).alloc (Nat.le_refl _) (.cells #[.func (.func yf) #[] caps] 150)
 have hon:=h.belowR M hb1
 have t1:(w.alloc (.cells #[.func (.func yf) #[] caps] 150)).cell? ⟨u,1,none⟩=some (.int .i64 root):=hon.self.cell 1
 have t2:(w.alloc (.cells #[.func (.func yf) #[] caps] 150)).cell? ⟨u,2,none⟩=some (.int .i64 0):=hon.self.cell 2
 have lt2:=hon.self.lt
 have hun:u<w.heap.size:=h.self.lt
 have hP1:=V.keep hP (Fr.of_below hb1)
 have hBg:=Blk.new w 150 #[.func (.func yf) #[] caps]
 by_cases hr:root=0
 ·subst hr
  have HEND:=Lib.hid (show ErEnd S B t u TM 0 r σ P m Y w (.returned (.int .i64 0)) (w.alloc (.cells #[.func (.func yf) #[] caps] 150))from⟨⟨_,rfl, .inl rfl⟩,hon.lessR M (by omega), .of_below hb1,q,Y,hP1,fun k a=> .inl a⟩)
  clear hP1 hon hb1 h hP M V hBg hok h3 hPm
  clear hbad
  go_enter Tryz.func83,Tryz.ntmps83
  go_wp2
  go_ret
  exact HEND.out
 ·have hny:¬Y w.heap.size:=fun a=>by have:=V.lt hP a;omega
  have HCALL:=Lib.hid (visit_raw M hbad u root (each_doR M u root V (show B<=w.heap.size from hsz)) (fun m m' q Y w h=>⟨hPm m m' q Y w h.1,h.2⟩) frm σ hok h3 24 0 root hwf m q Y r _ (by omega) ⟨hP1,hBg,hny⟩ hon)
  have hrn:(root==0)=false:=by simpa using hr
  have HF:=Lib.hid hb1
  clear hP1 hon hb1 h hP M V hBg hny hok h3 hPm
  clear hbad
  go_enter Tryz.func83,Tryz.ntmps83
  go_wp2_with fail
  refine Calls.mono HCALL.out ?_
  rintro e w2 ⟨⟨b1,z1,rfl,hz1⟩,hon2,hf2,q2,Y2,⟨hP2,hB2,hn2⟩,hY2⟩
  have HEND:=Lib.hid (show ErEnd S B t u TM root r σ P m Y w (.returned (.int .i64 z1)) w2 from⟨⟨_,rfl,hz1⟩,hon2,(Fr.of_below HF.out).trans hf2,q2,Y2,hP2,fun k a=>(hY2 k a).imp_right (fun c=>Nat.le_trans HF.out.size c)⟩)
  clear hon2 hf2 hP2 hB2 hn2 hY2
  go_wp2
  go_ret
  exact HEND.out
theorem next_doR(M:Mrd S B t K disk TM)(u:Nat)(root:Int){gf gk:Nat}(hgf:B<=gf)(hne:gf<gk)(hul:u<gf):
  EntFn S B t u TM root 84 #[.pointer (some ⟨gf,0,none⟩), .pointer (some ⟨gk,0,none⟩)] nextS (NextP gf gk) where
 keep:=fun⟨h1,h2,h3⟩ hf=>⟨hf.blk h1 (M.far hgf),hf.blk h2 (M.far (by omega)),h3⟩
 less:=fun h _=>h
 lt:=fun⟨h1,h2,h3⟩ hy=>by
  subst h3
  rcases hy with rfl | rfl
  ·exact h1.lt
  ·exact h2.lt
 enters:=fun args w=>by kernel_rfl
 call:=fun w x m q Y r σ hP hon=>by
  obtain⟨h1,h2,rfl⟩:=hP
  have k1:w.cell? ⟨gf,0,none⟩=some (.string q.1.1):=h1.cell 0
  have k1':w.cell? ⟨gf,1,none⟩=some (.string q.1.2):=h1.cell 1
  have k2:w.cell? ⟨gk,0,none⟩=some (.bool q.2):=h2.cell 0
  have f1:=h1.frozen 0
  have f1':=h1.frozen 1
  have f2:=h2.frozen 0
  have l1:=h1.lt
  have l2:=h2.lt
  have n1:gf≠gk:=by omega
  have n2:gk≠gf:=by omega
  have HEND:Hid (On S B t u TM root 0 r σ ((((w.setCell ⟨gf,0,none⟩ (.string x.1)).setCell ⟨gf,1,none⟩ (.string x.2)).setCell ⟨gk,0,none⟩ (.bool true)).alloc (.cells #[.string x.1, .string x.2] 34))/\Fr (fun k=>k=gf\/k=gk) w ((((w.setCell ⟨gf,0,none⟩ (.string x.1)).setCell ⟨gf,1,none⟩ (.string x.2)).setCell ⟨gk,0,none⟩ (.bool true)).alloc (.cells #[.string x.1, .string x.2] 34))/\∃Y',NextP gf gk m (x,true) Y' ((((w.setCell ⟨gf,0,none⟩ (.string x.1)).setCell ⟨gf,1,none⟩ (.string x.2)).setCell ⟨gk,0,none⟩ (.bool true)).alloc (.cells #[.string x.1, .string x.2] 34))/\∀k,Y' k->(k=gf\/k=gk)\/w.heap.size<=k):=by
   refine Lib.hid ?_
   have s1:∀ (W:World) (i:Nat) (v:Value),Fr (fun k=>k=gf) W (W.setCell ⟨gf,i,none⟩ v):=fun W i v=>Fr.set_ (S:=fun k=>k=gf) rfl v
   have s2:∀ (W:World) (i:Nat) (v:Value),Fr (fun k=>k=gk) W (W.setCell ⟨gk,i,none⟩ v):=fun W i v=>Fr.set_ (S:=fun k=>k=gk) rfl v
   have o1:=hon.ownR M (s1 _ 0 (.string x.1)) h1 hgf (by omega) (by decide) (by decide) (by decide) (by decide)
   have c1:=h1.set_ 0 (.string x.1)
   have o2:=o1.ownR M (s1 _ 1 (.string x.2)) c1 hgf (by omega) (by decide) (by decide) (by decide) (by decide)
   have c2:=c1.set_ 1 (.string x.2)
   have d2:=(s1 _ 1 (.string x.2)).blk ((s1 _ 0 (.string x.1)).blk h2 (by omega)) (by omega)
   have o3:=o2.ownR M (s2 _ 0 (.bool true)) d2 (by omega) (by omega) (by decide) (by decide) (by decide) (by decide)
   have d3:=d2.set_ 0 (.bool true)
   have c3:=(s2 _ 0 (.bool true)).blk c2 (by omega)
   have hF3:Fr (fun k=>k=gf\/k=gk) w (((w.setCell ⟨gf,0,none⟩ (.string x.1)).setCell ⟨gf,1,none⟩ (.string x.2)).setCell ⟨gk,0,none⟩ (.bool true)):=(((s1 _ _ _).more fun _=> .inl).trans ((s1 _ _ _).more fun _=> .inl)).trans ((s2 _ _ _).more fun _=> .inr)
   generalize ((w.setCell ⟨gf,0,none⟩ (.string x.1)).setCell ⟨gf,1,none⟩ (.string x.2)).setCell ⟨gk,0,none⟩ (.bool true)=W3 at*
   have hbx:=(Below.refl W3.heap.size W3).alloc (Nat.le_refl _) (.cells #[.string x.1, .string x.2] 34)
   exact⟨o3.belowR M hbx,hF3.trans (.of_below hbx),_,⟨c3.below hbx c3.lt,d3.below hbx d3.lt,rfl⟩,fun k a=> .inl a⟩
  clear h1 h2 hon M
  show Calls Tryz.prog 84 #[.agg #[.string x.1, .string x.2], .pointer (some ⟨gf,0,none⟩), .pointer (some ⟨gk,0,none⟩)] w _
  go_enter Tryz.func84,Tryz.ntmps84
  go_wp2
  go_ret
  exact⟨rfl,HEND.out⟩
def NrEnd(S:Nat->Prop)(B t u:Nat)(TM:Nat->Tp.Pst->World->Prop)(root:Int)(r:Nat)(σ:Tp.Pst)(w:World)(e:Ending)(w':World):Prop:=
 (∃ (x:Ent) (b:Bool) (z:Int),e= .returned (.tuple #[.agg #[.string x.1, .string x.2], .bool b, .int .i64 z])/\(z=0\/z=3))/\On S B t u TM root 0 r σ w'/\Fr S w w'
theorem next_raw(M:Mrd S B t K disk TM)(hbad:BadGet S t TM bad)(u:Nat)(root:Int)(hwf:(Lit.int .i64 root).wf=true)(frm:ByteArray)(σ:Tp.Pst)(hok:∀id:Int,(Lit.int .i64 id).wf=true->(∃n,σ.view disk id=some n)\/(σ.view disk id=none/\bad id))(h3:∀id n,σ.view disk id=some n->n.kids.length<=3)(r:Nat)(w:World)(h:On S B t u TM root 0 (r+bud 24) σ w):
  Calls Tryz.prog 22 #[.pointer (some ⟨u,0,none⟩), .string frm] w (NrEnd S B t u TM root r σ w):=by
 have hsz:=M.size h.tm
 have hun:u<w.heap.size:=h.self.lt
 have hb1:=(Below.refl w.heap.size w).alloc (Nat.le_refl _) (.cells #[.string ⟨#[]⟩, .string ⟨#[]⟩] 34)
 have hb2:=hb1.alloc hb1.size (.cells #[.string ⟨#[]⟩, .string ⟨#[]⟩] 34)
 have hb3:=hb2.alloc hb2.size (.cells #[.bool false] 4)
 have hon:=h.belowR M hb3
 have hB0:=((Blk.new w 34 #[.string ⟨#[]⟩, .string ⟨#[]⟩]).alloc (.cells #[.string ⟨#[]⟩, .string ⟨#[]⟩] 34)).alloc (.cells #[.bool false] 4)
 have hB1:=(Blk.new (w.alloc (.cells #[.string ⟨#[]⟩, .string ⟨#[]⟩] 34)) 34 #[.string ⟨#[]⟩, .string ⟨#[]⟩]).alloc (.cells #[.bool false] 4)
 have hB2:=Blk.new ((w.alloc (.cells #[.string ⟨#[]⟩, .string ⟨#[]⟩] 34)).alloc (.cells #[.string ⟨#[]⟩, .string ⟨#[]⟩] 34)) 4 #[.bool false]
 simp only[World.size_alloc]at hB1 hB2
 have hP:NextP (w.heap.size+1) (w.heap.size+1+1) 0 ((⟨#[]⟩,⟨#[]⟩),false) (fun k=>k=w.heap.size+1\/k=w.heap.size+1+1) (((w.alloc (.cells #[.string ⟨#[]⟩, .string ⟨#[]⟩] 34)).alloc (.cells #[.string ⟨#[]⟩, .string ⟨#[]⟩] 34)).alloc (.cells #[.bool false] 4)):=⟨hB1,hB2,rfl⟩
 have HCALL:=Lib.hid (each_raw M hbad u root hwf (next_doR M u root (show B<=w.heap.size+1 by omega) (Nat.lt_succ_self _) (show u<w.heap.size+1 by omega)) (fun m m' q Y w h=>h) frm σ hok h3 0 ((⟨#[]⟩,⟨#[]⟩),false) _ r _ hP hon)
 have HB0:=Lib.hid hB0
 have HB:=Lib.hid hb3
 have HM:=Lib.hid M
 clear hb1 hb2 hb3 hon hB0 hB1 hB2 hP h M hok h3
 clear hbad
 go_enter Tryz.func22,Tryz.ntmps22
 go_wp2_with fail
 refine Calls.mono HCALL.out ?_
 rintro e w2 ⟨⟨z,rfl,hz⟩,hon2,hf2,q,Y2,⟨hF2,hK2,_⟩,_⟩
 have hF:Fr S w w2:=(Fr.of_below (S:=S) HB.out).go hf2 (fun k a=>a.imp id (fun c=>by omega))
 have hR2:=hf2.blk HB0.out (fun a=>by
  rcases a with a | a | a
  ·exact HM.out.far hsz a
  ·omega
  ·omega)
 have HF:=Lib.hid hF
 have HON:=Lib.hid hon2
 have HR2:=Lib.hid hR2
 have HF2:=Lib.hid hF2
 have HK2:=Lib.hid hK2
 clear hon2 hf2 hF hR2 hF2 hK2
 rcases hz with rfl | rfl
 case inr=>
  have k0:=HR2.out.cell 0
  have k1:=HR2.out.cell 1
  have f0:=HR2.out.frozen 0
  have f1:=HR2.out.frozen 1
  have lrr:=HR2.out.lt
  go_wp2
  try simp only[Exit.inBlock,Exit.then]
  refine bodyPost_ret (res_cell_tmp_tmp ent_struct rfl rfl (HR2.out.put2 _ _) rfl) rfl ?_
  have hfr:∀a b,Fr (fun k=>k=w.heap.size) w2 _:=fun a b=>Fr.put2 (w:=w2) (g:=w.heap.size) a b
  exact⟨⟨(⟨#[]⟩,⟨#[]⟩),false,3,rfl, .inr rfl⟩,HON.out.ownR HM.out (hfr _ _) HR2.out hsz (by omega) (by decide) (by decide) (by decide) (by decide),HF.out.go (hfr _ _) (fun k hk=> .inr (by omega))⟩
 go_wp2_with fail
 have hrl:=HR2.out.lt
 refine wp_region_flow (base:=w2.heap.size) (fun uu=>⟨#[_,_,_,_,_,uu 3,uu 4,_,_,_,_,_,_,_,_,_,_,_,uu 0,uu 1],_⟩)
  [Is.eq _ (.agg #[.string q.1.1, .string q.1.2]),Is.eq _ (.bool q.2),Is.turn _ w.heap.size 34 undef #[.string q.1.1, .string q.1.2],Is.eq _ (.bool q.2),Is.eq _ (.int .i64 0)]
  (by kernel_rfl) (by kernel_rfl) (by kernel_rfl) [w.heap.size] rfl (Nat.le_refl _) (by simpa using hrl) (by simp) ⟨fun k=>if k=3 then .bool false else if k=4 then .int .i64 0 else undef,rfl⟩ ?_ ?_
 ·intro k o ho uu W hf hold hdep
  have hS:∀k,k∈ [w.heap.size]->k=w.heap.size:=fun k hk=>by simpa using hk
  have hBF:=hf.blk HF2.out (fun a=>by have:=hS _ a;omega)
  have hBK:=hf.blk HK2.out (fun a=>by have:=hS _ a;omega)
  match k,ho with
  |0,ho=>obtain rfl:=Option.some.inj ho;exact Does.val (op_ld_row ent_struct rfl rfl hBF rfl) ⟨rfl,rfl,Fr.refl _⟩
  |1,ho=>obtain rfl:=Option.some.inj ho;exact Does.val (op_ldbool rfl rfl (hBK.cell 0)) ⟨rfl,rfl,Fr.refl _⟩
  |2,ho=>
   obtain rfl:=Option.some.inj ho
   refine does_store_ent rfl rfl (hdep 0 rfl) (Eq.trans (hold _ rfl) HR2.out) fun w' hB hfr=> ?_
   exact⟨rfl,⟨rfl,hB⟩,hfr.more (fun k hk=>by rw[hk];rfl)⟩
  |3,ho=>obtain rfl:=Option.some.inj ho;exact Does.val (op_as rfl (hdep 1 rfl)) ⟨rfl,rfl,Fr.refl _⟩
  |4,ho=>obtain rfl:=Option.some.inj ho;exact Does.val (op_as rfl rfl) ⟨rfl,rfl,Fr.refl _⟩
  |n+5,ho=>exact absurd ho (by simp)
 ·intro uu W hf hall
  obtain⟨_,hBW⟩:=hall 2 (by decide)
  have e3:uu 3= .bool q.2:=hall 3 (by decide)
  have e4:uu 4= .int .i64 0:=hall 4 (by decide)
  simp only[e3,e4]
  have hS:∀k,k∈ [w.heap.size]->k=w.heap.size:=fun k hk=>by simpa using hk
  have hf':Fr (fun k=>k=w.heap.size) w2 W:=hf.more hS
  have HEND:=Lib.hid (show NrEnd S B t u TM root r σ w (.returned (.tuple #[.agg #[.string q.1.1, .string q.1.2], .bool q.2, .int .i64 0])) W from⟨⟨q.1,q.2,0,rfl, .inl rfl⟩,HON.out.ownR HM.out hf' HR2.out hsz (by omega) (by decide) (by decide) (by decide) (by decide),HF.out.go hf' (fun k hk=> .inr (by omega))⟩)
  have HBW:=Lib.hid hBW
  clear hall hf hf' hBW
  go_wp2
  try simp only[Exit.inBlock,Exit.then]
  refine bodyPost_ret (res_cell_tmp_tmp ent_struct rfl rfl HBW.out rfl) rfl ?_
  exact HEND.out
end
structure Few(n:Nd.Node):Prop where
 e:n.ents.length<=5
 i:n.kids.length<=3
 k:n.keys.length<=3
theorem nright_few(v:Value)(n:Nd.Node)(w:World)(h:NS w v n)(hb:Few n):
  Calls Tryz.prog 71 #[v] w fun e w'=>e= .returned (.bool (Nd.right n))/\Below w.heap.size w w':=by
 have h1':=hb.e
 have h2':=hb.i
 have h3':=hb.k
 obtain⟨Ae,ce,Ai,ci,Ay,cy,rfl,h1,h2,h3⟩:=h
 cases hlf:n.leaf with
 |true=>exact nright_leaf Ae Ai Ay ce ci cy n hlf w h1 (by omega) (by omega) (by omega)
 |false=>exact nright_inner Ae Ai Ay ce ci cy n hlf w h2 h3 (by omega) (by omega) (by omega)
theorem esize_few:∀ (l:List Ent),(∀x∈l,En.may x.1 x.2=true)->Nd.esize l<=58*l.length
 | [],_=>Nat.zero_le _
 |x::l,h=>by
  have h1:=esize_few l fun y hy=>h y (List.mem_cons_of_mem _ hy)
  have h2:=Tp.esz_may (h x List.mem_cons_self)
  show Nd.esz x+Nd.esize l<=_
  rw[List.length_cons]
  omega
theorem ksize_few:∀ (l:List ByteArray),(∀x∈l,En.may x ⟨#[]⟩=true)->Nd.ksize l<=21*l.length
 | [],_=>Nat.zero_le _
 |x::l,h=>by
  have h1:=ksize_few l fun y hy=>h y (List.mem_cons_of_mem _ hy)
  have h2:=(Tp.ksz_may (h x List.mem_cons_self)).2
  show Nd.ksz x+Nd.ksize l<=_
  rw[List.length_cons]
  omega
theorem Few.nb{n:Nd.Node}(h:Few n)(hr:Nd.right n=true):NB n:=by
 obtain⟨h1,h2,h3⟩:=h
 obtain⟨leaf,ents,kids,keys⟩:=n
 simp only at h1 h2 h3
 cases leaf with
 |true=>
  obtain⟨q1,rfl,rfl⟩:=Nd.right_leaf.1 hr
  have:=esize_few ents ((En.right_iff ents).1 q1).1
  exact⟨by simp only;omega,by simp,by simp,by simp only;omega,by show(0:Nat)<=_;omega⟩
 |false=>
  obtain⟨rfl,q2,q3,q4⟩:=Nd.right_inner.1 hr
  have:=ksize_few keys ((Nd.keys_iff keys).1 q4).1
  exact⟨by simp,by simp only;omega,by simp only;omega,by show(0:Nat)<=_;omega,by simp only;omega⟩
def NnEnd(n:Nd.Node)(w:World)(e:Ending)(w':World):Prop:=
 ((Nd.fits n=true/\e= .returned (.tuple #[.int .u8 (Nd.kind n), .string (Nd.str (Nd.enc n)), .int .i64 0]))\/(Nd.fits n=false/\∃z:Int,z≠0/\e= .returned (.tuple #[.int .u8 0, .string ⟨#[]⟩, .int .i64 z])))/\Below w.heap.size w w'
theorem nencode_few(v:Value)(n:Nd.Node)(w:World)(h:NS w v n)(hb:Few n):Calls Tryz.prog 17 #[v] w (NnEnd n w):=by
 have h0:=h
 obtain⟨Ae,ce,Ai,ci,Ay,cy,rfl,h1,h2,h3⟩:=h
 cases hf:Nd.fits n with
 |true=>
  have hr:=(Tp.fits_iff.1 hf).1
  have hnb:=hb.nb hr
  cases hlf:n.leaf with
  |true=>
   rw[hlf]at h0
   refine(nencode_leaf Ae Ai Ay ce ci cy n hlf hf w h0 h1 hnb).mono ?_
   rintro e w' ⟨rfl,b⟩
   exact⟨.inl ⟨hf,by unfold Nd.kind;rw[if_pos hlf];rfl⟩,b⟩
  |false=>
   rw[hlf]at h0
   refine(nencode_inner Ae Ai Ay ce ci cy n hlf hf w h0 h2 h3 hnb).mono ?_
   rintro e w' ⟨rfl,b⟩
   exact⟨.inl ⟨hf,by unfold Nd.kind;rw[if_neg (by rw[hlf];decide)];rfl⟩,b⟩
 |false=>
  have hbe:=(Below.refl w.heap.size w).alloc (Nat.le_refl _) (.cells #[.bool n.leaf, .slice Ae n.ents.length ce, .slice Ai n.kids.length ci, .slice Ay n.keys.length cy] 32)
  have hB:=Blk.new w 32 #[.bool n.leaf, .slice Ae n.ents.length ce, .slice Ai n.kids.length ci, .slice Ay n.keys.length cy]
  have hns1:=h0.up hbe
  have hR:=hid_calls (nright_few _ n _ hns1 hb)
  cases hr:Nd.right n with
  |false=>
   rw[hr]at hR
   have HF:=Lib.hid hf
   have HB:=Lib.hid hbe
   clear hr hf hns1 h0 h1 h2 h3 hb hB hbe
   unfold nodeV at*
   go_enter Tryz.func17,Tryz.ntmps17
   go_wp2_with fail
   refine hR.out.mono ?_
   rintro e w1 ⟨rfl,hb1⟩
   have HE:=Lib.hid (HB.out.trans (hb1.mono HB.out.size))
   clear hb1
   go_wp2
   go_ret3
   exact⟨.inr ⟨HF.out,_,by decide,rfl⟩,HE.out⟩
  |true=>
   rw[hr]at hR
   have hFi:=Lib.hid (fun W (hW:NS W (nodeV n.leaf Ae n.ents.length ce Ai n.kids.length ci Ay n.keys.length cy) n)=>nfits_any _ n W hW (hb.nb hr))
   rw[hf]at hFi
   have HF:=Lib.hid hf
   have HB:=Lib.hid hbe
   have HNS:=Lib.hid hns1
   clear hr hf hns1 h0 h1 h2 h3 hb hbe
   unfold nodeV at*
   go_enter Tryz.func17,Tryz.ntmps17
   go_wp2_with fail
   refine hR.out.mono ?_
   rintro e w1 ⟨rfl,hb1⟩
   have hB1:=hB.below hb1 hB.lt
   have c0:=hB1.cell 0
   have c1:=hB1.cell 1
   have c2:=hB1.cell 2
   have c3:=hB1.cell 3
   have hl1:=hB1.lt
   have hF1:=Lib.hid (hFi.out w1 (HNS.out.up hb1))
   have HB1:=Lib.hid (HB.out.trans (hb1.mono HB.out.size))
   clear hb1 hB
   go_wp2_with fail
   refine hF1.out.mono ?_
   rintro e w2 ⟨rfl,hb2⟩
   have HE:=Lib.hid (HB1.out.trans (hb2.mono HB1.out.size))
   clear hb2
   go_wp2
   go_ret3
   exact⟨.inr ⟨HF.out,_,by decide,rfl⟩,HE.out⟩
end Go.Proofs.YtjoiajmbfbjnnaaGreatDoor
namespace Go.Proofs.YtjoiajmbfbjnnaaGreatDoor
open Go.RowKit Go.ChangeShapes Go.WideShapes Go.Deep
section
variable {H:Type}{enc:TypeId × Value->H}{P:Program}{w:World}{base:Nat}{spare:Nat->Bool}{held:Bool}
theorem open_slice_fields{t e:TypeId}{fs:Array Field}{fuel:Nat}{cs:List Value}{x:DataW H × List MemPlace}(ht:P.underlying t=some (.slice e))(he:P.underlying e=some (.struct fs))
  (hone:oneCellFields P fs=true) (hC:P.cellsOf e=fs.size) (h:DataW.trod enc P w base spare held fuel t cs=some x):
  (cs= [.slice none 0 0]/\x=(.nil, []))\/
  ∃ (a:Addr) (len cap m:Nat) (D:Nat->DataW H) (Pl:Nat->List MemPlace),cs= [.slice (some a) len cap]/\base<=a.block/\len<=cap/\cap<=maxLen/\m=(if spare a.block then cap else len)/\
   x=(.slice ((List.range len).map D) ((List.range (m-len)).map fun j=>D (len+j)),MemPlace.row a (m*fs.size)++(List.range m).flatMap Pl)/\
   ∀i,i<m->∃ (ys:List (DataW H × List MemPlace)) (n:Nat),D i= .agg (ys.map (·.1))/\Pl i=ys.flatMap (·.2)/\ys.length=fs.size/\
    ∀ (j:Nat) (f:Field),fs[j]? =some f->∃ (v:Value) (y:DataW H × List MemPlace),w.cell? (a.add (i*fs.size+j))=some v/\ys[j]? =some y/\DataW.trod enc P w base spare held n f.type [v]=some y:=by
 rcases open_slice ht h with h0 | ⟨a,len,cap,m,n,D,Pl,hcs,hb,hl,hm,hmm,hx,hi⟩
 ·exact .inl h0
 ·refine .inr ⟨a,len,cap,m,D,Pl,hcs,hb,hl,hm,hmm,by rw[hC]at hx;exact hx,fun i him=> ?_⟩
  obtain⟨cs',hc,ht'⟩:=hi i him
  rw[hC]at hc
  obtain⟨ys,n',hn',hy,hlen,hyl,hf⟩:=DataW.trod_struct he ht'
  obtain⟨_,hcl,hat⟩:=World.cells?_some hc
  simp only[Prod.mk.injEq]at hy
  refine⟨ys,n',hy.1,hy.2,hyl,fun j f hj=> ?_⟩
  obtain⟨ho,hk⟩:=hone_of hone j f hj
  have hjl:j<fs.size:=(Array.getElem?_eq_some_iff.1 hj).1
  have hcell:=hat j hjl
  have hv:cs'[j]? =some (cs'[j]'(by omega)):=List.getElem?_eq_getElem (by omega)
  have h1:=hf j f hj
  rw[ho,hk]at h1
  have hone':(cs'.drop j).take 1= [cs'[j]'(by omega)]:=by
   rw[List.drop_eq_getElem_cons (by omega)]
   rfl
  rw[hone']at h1
  have hys:ys[j]? =some (ys[j]'(by omega)):=List.getElem?_eq_getElem (by omega)
  refine⟨_,_, ?_,hys,h1.trans hys⟩
  rw[<-Go.Deep.add_add,hcell,hv]
end
section
variable {H:Type}{enc:TypeId × Value->H}
theorem open_entsE{W:World}{A:Option Addr}{len cap:Nat}{d:DataW H}{p:List MemPlace}(h:DataW.Trod enc Tryz.prog W 0 (fun _=>true) true 28 (.slice A len cap) d p):
  ∃l:List Ent,l.length=len/\LS entE W W.heap.size A l:=by
 obtain⟨fuel,hf⟩:=h
 rcases open_slice_fields Tryz.underlying28 Tryz.underlying34 (by kernel_rfl) (by kernel_rfl) hf with⟨hcs,_⟩ | ⟨a,len',cap',m,D,Pl,hcs,_,hl,hm,hmm,hx,hi⟩
 ·simp[Value.cells]at hcs
  obtain⟨rfl,rfl,rfl⟩:=hcs
  exact⟨[],rfl,LS.nil_⟩
 ·simp[Value.cells]at hcs
  obtain⟨rfl,rfl,rfl⟩:=hcs
  simp only[if_true]at hmm
  subst hmm
  have key:∀i,∃r:Ent,i<len->(W.cell? (a.add (i*2))=some (.string r.1)/\W.cell? (a.add (i*2+1))=some (.string r.2)):=by
   intro i
   by_cases hil:i<len
   ·obtain⟨ys,n,_,_,hys,hfld⟩:=hi i (by omega)
    obtain⟨v0,y0,hc0,_,t0⟩:=hfld 0 _ rfl
    obtain⟨v1,y1,hc1,_,t1⟩:=hfld 1 _ rfl
    obtain⟨x0,e0,_⟩:=DataW.trod_string Tryz.underlying9 t0
    obtain⟨x1,e1,_⟩:=DataW.trod_string Tryz.underlying9 t1
    simp at e0 e1
    subst e0 e1
    exact⟨⟨x0,x1⟩,fun _=>⟨hc0,hc1⟩⟩
   ·exact⟨⟨⟨#[]⟩,⟨#[]⟩⟩,fun h=>absurd h hil⟩
  obtain⟨f,hfs⟩:∃f:Nat->Ent,∀i,i<len->(W.cell? (a.add (i*2))=some (.string (f i).1)/\W.cell? (a.add (i*2+1))=some (.string (f i).2)):=⟨fun i=>Classical.choose (key i),fun i=>Classical.choose_spec (key i)⟩
  clear key
  refine⟨(List.range len).map f,by simp,⟨entE.cells_length _,fun hpos=>⟨a,rfl, ?_, ?_⟩⟩⟩
  ·have:=(hfs 0 (by simpa using hpos)).1
   have hb:=World.block_lt_of_cell? W _ this
   rwa [block_of_add]at hb
  ·intro j u hu
   have hjl:j<len*2:=by
    have:=(List.getElem?_eq_some_iff.1 hu).1
    rw[entE.cells_length]at this;simpa[entE]using this
   have h0:=entE.cells_at ((List.range len).map f) (j / 2) (by simp;omega) (j % 2) (by show j % 2<2;omega)
   have e:j / 2*entE.size+j % 2=j:=by show j / 2*2+j % 2=j;omega
   rw[e,hu]at h0
   simp only[List.getElem_map,List.getElem_range]at h0
   have hs:=hfs (j / 2) (by omega)
   have hm:j % 2=0\/j % 2=1:=by omega
   rcases hm with hm | hm
   ·rw[hm]at h0;injection h0 with h0;subst h0;rw[<-hs.1,show j / 2*2=j by omega]
   ·rw[hm]at h0;injection h0 with h0;subst h0;rw[<-hs.2,show j / 2*2+1=j by omega]
end
abbrev Sl:=Option Addr × Nat × Nat
theorem nints_cells(l:List Int):intE.cells l=l.map (fun x=>Value.int .i64 x):=by
 induction l with
 |nil=>rfl
 |cons a l ih=>rw[intE.cells_cons,ih];rfl
theorem nkeys_cells(l:List ByteArray):keyE.cells l=l.map (fun x=>Value.string x):=by
 induction l with
 |nil=>rfl
 |cons a l ih=>rw[keyE.cells_cons,ih];rfl
section
variable {H:Type}{enc:TypeId × Value->H}
theorem trod_cap{W:World}{A:Option Addr}{len cap:Nat}{d:DataW H}{p:List MemPlace}{t e:TypeId}(ht:Tryz.prog.underlying t=some (.slice e))(h:DataW.Trod enc Tryz.prog W 0 (fun _=>true) true t (.slice A len cap) d p):len<=cap/\(A=none->cap=0):=by
 obtain⟨fuel,hf⟩:=h
 rcases DataW.trod_slice ht hf with⟨hcs,_⟩ | ⟨a,len',cap',elems,rest,n,_,hcs,_,hb,hl,hm,hlen,hel,hsp,hns⟩
 ·simp[Value.cells]at hcs
  obtain⟨rfl,rfl,rfl⟩:=hcs
  exact⟨Nat.le_refl _,fun _=>rfl⟩
 ·simp[Value.cells]at hcs
  obtain⟨rfl,rfl,rfl⟩:=hcs
  exact⟨hl,fun h=>by cases h⟩
theorem open_intsE{W:World}{A:Option Addr}{len cap:Nat}{d:DataW H}{p:List MemPlace}(h:DataW.Trod enc Tryz.prog W 0 (fun _=>true) true 29 (.slice A len cap) d p):
  ∃l:List Int,l.length=len/\SV intE W A cap l:=by
 obtain⟨q1,q2⟩:=trod_cap Tryz.underlying29 h
 obtain⟨fuel,hf⟩:=h
 rcases open_ints Tryz.underlying29 Tryz.underlying3 (by kernel_rfl) hf with⟨hcs,_⟩ | ⟨a,len',cap',zs,hcs,_,hl,hm,hlen,hx,hi,hw⟩
 ·simp[Value.cells]at hcs
  obtain⟨rfl,rfl,rfl⟩:=hcs
  exact⟨[],rfl,LS.nil_,Nat.le_refl _,fun _=>rfl⟩
 ·simp[Value.cells]at hcs
  obtain⟨rfl,rfl,rfl⟩:=hcs
  simp only[if_true]at hlen
  refine⟨zs.take len,by simp;omega, ?_,by simp;omega,q2⟩
  unfold LS
  rw[nints_cells]
  refine⟨by simp[intE],fun hpos=>⟨a,rfl, ?_, ?_⟩⟩
  ·have hb:=World.block_lt_of_cell? W _ (hi 0 (by simp at hpos;omega))
   rwa [block_of_add]at hb
  ·intro j u hu
   have hj:j<(zs.take len).length:=by
    have:=(List.getElem?_eq_some_iff.1 hu).1
    simpa using this
   rw[List.getElem?_map,List.getElem?_eq_getElem hj]at hu
   simp only[Option.map_some,Option.some.injEq]at hu
   subst hu
   have hj2:j<zs.length:=by simp at hj;omega
   rw[hi j hj2]
   simp[List.getElem_take,List.getElem?_eq_getElem hj2]
theorem open_keysE{W:World}{A:Option Addr}{len cap:Nat}{d:DataW H}{p:List MemPlace}(h:DataW.Trod enc Tryz.prog W 0 (fun _=>true) true 30 (.slice A len cap) d p):
  ∃l:List ByteArray,l.length=len/\SV keyE W A cap l:=by
 obtain⟨q1,q2⟩:=trod_cap Tryz.underlying30 h
 obtain⟨fuel,hf⟩:=h
 rcases open_strings Tryz.underlying30 Tryz.underlying9 (by kernel_rfl) hf with⟨hcs,_⟩ | ⟨a,len',cap',ss,hcs,_,hl,hm,hlen,hx,hi,hw⟩
 ·simp[Value.cells]at hcs
  obtain⟨rfl,rfl,rfl⟩:=hcs
  exact⟨[],rfl,LS.nil_,Nat.le_refl _,fun _=>rfl⟩
 ·simp[Value.cells]at hcs
  obtain⟨rfl,rfl,rfl⟩:=hcs
  simp only[if_true]at hlen
  refine⟨ss.take len,by simp;omega, ?_,by simp;omega,q2⟩
  unfold LS
  rw[nkeys_cells]
  refine⟨by simp[keyE],fun hpos=>⟨a,rfl, ?_, ?_⟩⟩
  ·have hb:=World.block_lt_of_cell? W _ (hi 0 (by simp at hpos;omega))
   rwa [block_of_add]at hb
  ·intro j u hu
   have hj:j<(ss.take len).length:=by
    have:=(List.getElem?_eq_some_iff.1 hu).1
    simpa using this
   rw[List.getElem?_map,List.getElem?_eq_getElem hj]at hu
   simp only[Option.map_some,Option.some.injEq]at hu
   subst hu
   have hj2:j<ss.length:=by simp at hj;omega
   rw[hi j hj2]
   simp[List.getElem_take,List.getElem?_eq_getElem hj2]
abbrev NHd:=Bool × Sl × Sl × Sl
def nhE:Enc NHd:=⟨fun x=> [.bool x.1, .slice x.2.1.1 x.2.1.2.1 x.2.1.2.2, .slice x.2.2.1.1 x.2.2.1.2.1 x.2.2.1.2.2, .slice x.2.2.2.1 x.2.2.2.2.1 x.2.2.2.2.2],4,fun _=>rfl,by decide,fun x u hu=>by simp at hu;rcases hu with rfl | rfl | rfl | rfl<;>rfl⟩
structure NodeIn(W:World)(x:NHd)(n:Nd.Node):Prop where
 leaf:n.leaf=x.1
 el:n.ents.length=x.2.1.2.1
 il:n.kids.length=x.2.2.1.2.1
 kl:n.keys.length=x.2.2.2.2.1
 e:SV entE W x.2.1.1 x.2.1.2.2 n.ents
 i:SV intE W x.2.2.1.1 x.2.2.1.2.2 n.kids
 k:SV keyE W x.2.2.2.1 x.2.2.2.2.2 n.keys
theorem slice_cell{W:World}{fuel:Nat}{v:Value}{t e:TypeId}{y:DataW H × List MemPlace}(ht:Tryz.prog.underlying t=some (.slice e))(h:DataW.trod enc Tryz.prog W 0 (fun _=>true) true fuel t [v]=some y):∃A len cap,v= .slice A len cap/\DataW.Trod enc Tryz.prog W 0 (fun _=>true) true t (.slice A len cap) y.1 y.2:=by
 have h0:=h
 rcases DataW.trod_slice ht h with⟨hcs,_⟩ | ⟨a,len',cap',elems,rest,n,_,hcs,_⟩
 ·injection hcs with hcs
  subst hcs
  exact⟨none,0,0,rfl,fuel,h0⟩
 ·injection hcs with hcs
  subst hcs
  exact⟨some a,len',cap',rfl,fuel,h0⟩
theorem open_nodesE{W:World}{A:Option Addr}{len cap:Nat}{d:DataW H}{p:List MemPlace}(h:DataW.Trod enc Tryz.prog W 0 (fun _=>true) true 22 (.slice A len cap) d p):
  ∃ (l:List NHd) (f:List Nd.Node),l.length=len/\f.length=len/\LS nhE W W.heap.size A l/\∀i (h1:i<l.length) (h2:i<f.length),NodeIn W l[i] f[i]:=by
 obtain⟨fuel,hf⟩:=h
 rcases open_slice_fields Tryz.underlying22 Tryz.underlying32 (by kernel_rfl) (by kernel_rfl) hf with⟨hcs,_⟩ | ⟨a,len',cap',m,D,Pl,hcs,_,hl,hm,hmm,hx,hi⟩
 ·simp[Value.cells]at hcs
  obtain⟨rfl,rfl,rfl⟩:=hcs
  exact⟨[], [],rfl,rfl,LS.nil_,fun i h=>absurd h (by simp)⟩
 ·simp[Value.cells]at hcs
  obtain⟨rfl,rfl,rfl⟩:=hcs
  simp only[if_true]at hmm
  subst hmm
  have key:∀i,∃r:NHd × Nd.Node,i<len->(∀j,j<4->W.cell? (a.add (i*4+j))=(nhE.enc r.1)[j]?)/\NodeIn W r.1 r.2:=by
   intro i
   by_cases hil:i<len
   ·obtain⟨ys,n,_,_,hys,hfld⟩:=hi i (by omega)
    obtain⟨v0,y0,hc0,_,t0⟩:=hfld 0 _ rfl
    obtain⟨v1,y1,hc1,_,t1⟩:=hfld 1 _ rfl
    obtain⟨v2,y2,hc2,_,t2⟩:=hfld 2 _ rfl
    obtain⟨v3,y3,hc3,_,t3⟩:=hfld 3 _ rfl
    obtain⟨x0,e0,_⟩:=DataW.trod_bool Tryz.underlying4 t0
    obtain⟨A1,n1,c1,rfl,k1⟩:=slice_cell Tryz.underlying28 t1
    obtain⟨A2,n2,c2,rfl,k2⟩:=slice_cell Tryz.underlying29 t2
    obtain⟨A3,n3,c3,rfl,k3⟩:=slice_cell Tryz.underlying30 t3
    simp at e0
    subst e0
    obtain⟨q1,q2⟩:=trod_cap Tryz.underlying28 k1
    obtain⟨es,rfl,hes⟩:=open_entsE k1
    obtain⟨is,rfl,his⟩:=open_intsE k2
    obtain⟨ks,rfl,hks⟩:=open_keysE k3
    refine⟨((x0,(A1,es.length,c1),(A2,is.length,c2),(A3,ks.length,c3)),⟨x0,es,is,ks⟩),fun _=>⟨fun j hj=> ?_,⟨rfl,rfl,rfl,rfl,⟨hes,q1,q2⟩,his,hks⟩⟩⟩
    have hm:j=0\/j=1\/j=2\/j=3:=by omega
    rcases hm with rfl | rfl | rfl | rfl
    ·exact hc0
    ·exact hc1
    ·exact hc2
    ·exact hc3
   ·exact⟨((false,(none,0,0),(none,0,0),(none,0,0)),⟨false, [], [], []⟩),fun h=>absurd h hil⟩
  obtain⟨g,hg⟩:∃g:Nat->NHd × Nd.Node,∀i,i<len->(∀j,j<4->W.cell? (a.add (i*4+j))=(nhE.enc (g i).1)[j]?)/\NodeIn W (g i).1 (g i).2:=⟨fun i=>Classical.choose (key i),fun i=>Classical.choose_spec (key i)⟩
  clear key
  refine⟨(List.range len).map fun i=>(g i).1,(List.range len).map fun i=>(g i).2,by simp,by simp,⟨nhE.cells_length _,fun hpos=>⟨a,rfl, ?_, ?_⟩⟩, ?_⟩
  ·have h0:=(hg 0 (by simpa using hpos)).1 0 (by omega)
   have hb:=World.block_lt_of_cell? W _ (h0.trans rfl)
   rwa [block_of_add]at hb
  ·intro j u hu
   have hjl:j<len*4:=by
    have:=(List.getElem?_eq_some_iff.1 hu).1
    rw[nhE.cells_length]at this;simpa[nhE]using this
   have h0:=nhE.cells_at ((List.range len).map fun i=>(g i).1) (j / 4) (by simp;omega) (j % 4) (by show j % 4<4;omega)
   have e:j / 4*nhE.size+j % 4=j:=by show j / 4*4+j % 4=j;omega
   rw[e,hu]at h0
   simp only[List.getElem_map,List.getElem_range]at h0
   have hs:=(hg (j / 4) (by omega)).1 (j % 4) (by omega)
   rw[<-h0,show j / 4*4+j % 4=j by omega]at hs
   exact hs
  ·intro i h1 h2
   simp only[List.getElem_map,List.getElem_range]
   exact(hg i (by simpa using h1)).2
end
end Go.Proofs.YtjoiajmbfbjnnaaGreatDoor
