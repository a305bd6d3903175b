/- Part of this proof. -/
import Derived.Test.YteppebbmnojapaaGreatDoorL32
set_option maxRecDepth 100000
set_option maxHeartbeats 8000000
namespace Tp
def Ox(room:Int)(disk:aA)(q:Except Int Part × Pst):Except Int Int × Pst:=match q with
 |(.error e,σ1)=>(.error e,σ1)
 |(.ok p,σ1)=>fE room disk (p.1.length+1) σ1 p
theorem CX{room:Int}{disk:aA}{q:Except Int Part × Pst}{e:Int}(h:q.1= .error e):Ox room disk q=(.error e,q.2):=by
 obtain⟨x,σ⟩:=q;simp only at h;subst h;rfl
theorem TJ{room:Int}{disk:aA}{q:Except Int Part × Pst}{p:Part}(h:q.1= .ok p):Ox room disk q=fE room disk (p.1.length+1) q.2 p:=by
 obtain⟨x,σ⟩:=q;simp only at h;subst h;rfl
theorem Oy{room:Int}{disk:aA}{g:List En.Ent->List En.Ent}{key:En.Str}{σ:Pst}{root:Int} :dH room disk g key σ root=Ox room disk (jH room disk g key σ root):=by
 unfold dH
 cases jH room disk g key σ root with
 |mk q σ1=>cases q<;>rfl
end Tp
namespace Go.Proofs.YteppebbmnojapaaGreatDoor
open Go.RowKit Go.Shelf
section
variable {S:Nat->Prop}{B t:Nat}{room:Int}{disk:Tp.aA}{TM:Nat->Tp.Pst->World->Prop}
def aaN(S:Nat->Prop)(B t u:Nat)(TM:Nat->Tp.Pst->World->Prop)(root:Int)(r:Nat)(o:Except Int Int × Tp.Pst)(w:World)(e:Ending)(w':World):Prop:=
 ((∃p,o.1= .ok p/\e= .returned (.int .i64 0)/\On S B t u TM p 0 r o.2 w')\/(o.1= .error 2/\e= .returned (.int .i64 2)/\On S B t u TM root 2 r o.2 w'))/\Fr (fun k=>S k\/k=u) w w'
theorem On.write(M:fU S B t room disk TM){u r:Nat}{root er root' er':Int}{σ:Tp.Pst}{w w':World}(h:On S B t u TM root er r σ w)(hf:Fr (fun k=>k=u) w w')(hB:Blk w' u 134 (zo t root' er')):On S B t u TM root' er' r σ w':=
 ⟨M.own h.tm hf h.self h.hu (by decide) (by decide) (by decide) (by decide),hB,h.hu⟩
theorem CY(M:fU S B t room disk TM)(u:Nat)(root:Int){dof:FuncId}{caps:Array Value}{g:List Ent->List Ent}{P:World->Prop}(D:ZC S dof caps g P)(key:ByteArray)(r:Nat)(σ:Tp.Pst)(h3:(Tp.dH room disk g key σ root).1≠ .error 3)(w:World)(hP:P w)(h:On S B t u TM root 0 (r+48+192) σ w):
  Calls Tryz.prog 133 #[.pointer (some ⟨u,0,none⟩), .string key, .func (.func dof) #[] caps] w (aaN S B t u TM root r (Tp.dH room disk g key σ root) w):=by
 obtain⟨o,ho⟩:∃o,o=Tp.dH room disk g key σ root:=⟨_,rfl⟩
 rw[<-ho]at h3 ⊢
 rw[Tp.Oy]at ho
 obtain⟨of_,hof⟩:∃x,x=Tp.jH room disk g key σ root:=⟨_,rfl⟩
 rw[<-hof]at ho
 have KF:of_.1≠ .error 3:=fun hc=>h3 (by rw[ho,Tp.CX hc])
 have hsz:=M.size h.tm
 have hun:u<w.heap.size:=h.self.lt
 have hb1:=(Below.refl w.heap.size w).alloc (Nat.le_refl _) (.cells #[.slice none 0 0, .slice none 0 0] 300)
 have hBp:=Blk.new w 300 #[.slice none 0 0, .slice none 0 0]
 have pG:=h.below M hb1
 have t0:w.cell? ⟨u,0,none⟩=some (.pointer (some ⟨t,0,none⟩)):=h.self.cell 0
 have t1:w.cell? ⟨u,1,none⟩=some (.int .i64 root):=h.self.cell 1
 have t2:w.cell? ⟨u,2,none⟩=some (.int .i64 0):=h.self.cell 2
 have HO:=Lib.hid ho
 have H3:=Lib.hid h3
 have HM:=Lib.hid M
 have HD:=Lib.hid D
 have agO:=Lib.hid pG
 have HB1:=Lib.hid hb1
 have HP1:=Lib.hid (D.keep hP (.of_below hb1))
 have HBp:=Lib.hid hBp
 have hu1:u<(w.alloc (.cells #[.slice none 0 0, .slice none 0 0] 300)).heap.size:=by simp;omega
 have hz1:(w.alloc (.cells #[.slice none 0 0, .slice none 0 0] 300)).heap.size=w.heap.size+1:=by simp
 by_cases hr:root=0
 case' pos=>
  subst hr
  have TK:of_=Tp.aC room (Tp.fA (Nd.aG (g []))) σ 0 (Nd.aG (g [])):=by rw[hof];unfold Tp.jH;rw[if_pos rfl]
  have HOF:=Lib.hid TK
  have aeC:=Lib.hid KF
  have HDC:=Lib.hid (D.call _ none 0 [] HP1.out (xZ _) (by simp))
  have HGS:=Lib.hid (D.size [] (by simp[Nd.aK]))
  clear ho h3 h M D hb1 hBp hP hof TK KF pG
  go_enter Tryz.func133,Tryz.ntmps133
  go_wp2_with fail
  rw[HD.out.enters,Oper.upon_enter]
  generalize (w.alloc (.cells #[.slice none 0 0, .slice none 0 0] 300))=wa at*
  refine Calls.mono HDC.out ?_
  rintro e w3 ⟨A',c',rfl,Bo,hb3⟩
  have hgl:=Nd.iM (g [])
  have hgs:=HGS.out
  have hnb:NB (Nd.aG (g [])):=⟨by show(g []).length<=_;omega,Nat.zero_le _,Nat.zero_le _,by show Nd.aK (g [])<=_;omega,by show Nd.aF []<=_;simp[Nd.aF]⟩
  have HST:=Lib.hid (l9 HM.out u 0 0 (r+48+192) (Tp.fA (Nd.aG (g []))) σ 0 (by unfold fJ;omega) (.agg #[.bool true, .slice A' (g []).length c', .slice none 0 0, .slice none 0 0]) (Nd.aG (g [])) hnb (by rw[<-HOF.out];exact aeC.out) w3 ⟨A',c',none,0,none,0,rfl,Bo,xZ _,xZ _⟩ (agO.out.below HM.out hb3))
  rw[<-HOF.out]at HST
  have hz3:=hb3.size
  have HF3:=Lib.hid ((Fr.of_below HB1.out).trans (.of_below hb3):Fr S w w3)
  have Em:=Lib.hid (HBp.out.below hb3 (by omega))
  have HCN:=Lib.hid (show Tp.cnt (Nd.aG (g []))<=3000 by unfold Tp.cnt Nd.aG;simp only[List.length_nil];omega)
  generalize (g []).length=gl at*
  clear hb3 Bo hgl hgs hnb
  go_wp2_with fail
  refine Calls.mono HST.out ?_
  rintro e w4 ⟨v,p,x,rfl,⟨Ap,cp,Aq,cq,rfl,rp1,rp2⟩,hres,ou,hf4⟩
  have vN:=Lib.hid (ou.less HM.out (show r+48<=r+48+192 by omega))
  have agP:w.heap.size<=w3.heap.size:=by omega
 case' neg=>
  have TK:of_=Tp.bM room disk g key 24 σ root:=by rw[hof];unfold Tp.jH;rw[if_neg hr]
  have HST:=Lib.hid (CU M u root 0 D key 24 0 rfl (r+48) σ root (by rw[<-TK];exact KF) _ HP1.out pG)
  rw[<-TK]at HST
  have HF3:=Lib.hid (Fr.of_below (S:=S) hb1)
  have Em:=Lib.hid hBp
  have HCN:=Lib.hid (show 600+50*24<=3000 by omega)
  have hrn:(root==0)=false:=by rw[beq_eq_false_iff_ne];exact hr
  clear ho h3 h M D hb1 hBp hP hof TK KF pG
  go_enter Tryz.func133,Tryz.ntmps133
  go_wp2_with fail
  generalize (w.alloc (.cells #[.slice none 0 0, .slice none 0 0] 300))=w3 at*
  refine Calls.mono HST.out ?_
  rintro e w4 ⟨v,p,x,rfl,⟨Ap,cp,Aq,cq,rfl,rp1,rp2⟩,hres,ou,hf4⟩
  have vN:=Lib.hid ou
  have agP:w.heap.size<=w3.heap.size:=by omega
 all_goals
  have hz4:=hf4.size
  have kV:=hf4.blk Em.out (HM.out.far (by omega))
  have wY:=Lib.hid kV
  have HF4:=Lib.hid (HF3.out.trans hf4)
  obtain⟨w5,hw5⟩:∃W,W=(w4.setCell ⟨w.heap.size,0,none⟩ (.slice Ap p.1.length cp)).setCell ⟨w.heap.size,1,none⟩ (.slice Aq p.2.length cq):=⟨_,rfl⟩
  have TL:Fr (fun k=>k=w.heap.size) w4 w5:=by rw[hw5];exact Fr.gJ _ _
  have hB5:Blk w5 w.heap.size 300 #[.slice Ap p.1.length cp, .slice Aq p.2.length cq]:=by rw[hw5];exact wY.out.gJ _ _
  have hz5:=TL.size
  have vK:=Lib.hid (vN.out.own HM.out TL wY.out hsz (by omega) (by decide) (by decide) (by decide) (by decide))
  have HF5:=Lib.hid (Fr.old (S':=fun k=>S k\/k=w.heap.size) ((HF4.out.more fun _=> .inl).trans (TL.more fun _=> .inr)) (fun k hk=>hk.imp_right fun e=>by omega))
  have hk1:=LO.frB rp1 TL (fun g hg e=>aB rp1 kV (by decide) (e ▸ hg))
  have hk2:=LO.frB rp2 TL (fun g hg e=>aB rp2 kV (by decide) (e ▸ hg))
  have d0:=kV.cell 0
  have d1:=kV.cell 1
  have f0:=kV.frozen 0
  have f1:=kV.frozen 1
  have lp:=kV.lt
  have e0:=hB5.cell 0
  have e1:=hB5.cell 1
  have lp5:=hB5.lt
  have t0:w5.cell? ⟨u,0,none⟩=some (.pointer (some ⟨t,0,none⟩)):=vK.out.self.cell 0
  have t1:=vK.out.self.cell 1
  have t2:=vK.out.self.cell 2
  have ft1:=vK.out.self.frozen 1
  have ft2:=vK.out.self.frozen 2
  have lt5:=vK.out.self.lt
  have HW5:=Lib.hid hw5
  unfold qI
  clear hf4 ou kV TL hB5
  rcases hres with⟨hok,rfl,hpb⟩ | ⟨herr,rfl⟩
  case' inl=>
   have hoo:o=Tp.fE room disk (p.1.length+1) of_.2 p:=by rw[HO.out,Tp.TJ hok]
   have HGR:=Lib.hid (Xp HM.out u _ 0 r w3.heap.size of_.2 (qI Ap p.1.length cp Aq p.2.length cq) p (hpb.mono HCN.out) (by rw[<-hoo];exact H3.out) w5 ⟨Ap,cp,Aq,cq,rfl,hk1,hk2⟩ (by omega) vK.out)
   rw[<-hoo]at HGR
   unfold qI at HGR
   clear hoo hok hpb hk1 hk2 rp1 rp2
   go_wp2_with fail
   try simp only[<-HW5.out]
   refine Calls.mono HGR.out ?_
   rintro e w6 ⟨pp,x,rfl,hres,KI,hf6⟩
   have hz6:=hf6.size
   have TF:=Lib.hid KI
   have HF6:=Lib.hid (HF5.out.trans hf6)
   have t0:=KI.self.cell 0
   have t1:=KI.self.cell 1
   have t2:=KI.self.cell 2
   have ft1:=KI.self.frozen 1
   have ft2:=KI.self.frozen 2
   have lt6:=KI.self.lt
   clear KI hf6
   rcases hres with⟨hok,rfl⟩ | ⟨herr,rfl⟩
   case' inl=>
    have HOK:=Lib.hid hok
    clear hok
    go_wp2
    go_ret
    exact⟨.inl ⟨pp,HOK.out,rfl,TF.out.write HM.out (Fr.aW (S:=fun k=>k=u) rfl _) (TF.out.self.aW 1 (.int .i64 pp))⟩,(HF6.out.more fun _=> .inl).trans ((Fr.aW (S:=fun k=>k=u) rfl _).more fun _=> .inr)⟩
   have HER:=Lib.hid herr
   clear herr
   go_wp2
   go_ret
   exact⟨.inr ⟨HER.out,rfl,TF.out.write HM.out (Fr.aW (S:=fun k=>k=u) rfl _) (TF.out.self.aW 2 (.int .i64 2))⟩,(HF6.out.more fun _=> .inl).trans ((Fr.aW (S:=fun k=>k=u) rfl _).more fun _=> .inr)⟩
  have hend:o=(.error 2,of_.2):=by rw[HO.out,Tp.CX herr]
  have HE:=Lib.hid hend
  have aaO:=Lib.hid (vK.out.less HM.out (show r<=r+48 by omega))
  have hfin:∀W,W=w5.setCell ⟨u,2,none⟩ (.int .i64 2)->Hid (On S B t u TM _ 2 r of_.2 W/\Fr (fun k=>S k\/k=u) w W):=fun W hW=>Lib.hid ⟨by rw[hW];exact aaO.out.write HM.out (Fr.aW (S:=fun k=>k=u) rfl _) (aaO.out.self.aW 2 (.int .i64 2)),by rw[hW];exact(HF5.out.more fun _=> .inl).trans ((Fr.aW (S:=fun k=>k=u) rfl _).more fun _=> .inr)⟩
  have oh:=Lib.hid hfin
  have s2:=vN.out.self.cell 2
  have sf2:=vN.out.self.frozen 2
  have ls:=vN.out.self.lt
  clear herr hend hk1 hk2 rp1 rp2 hfin
  go_wp2
  go_ret
  try simp only[<-HW5.out]
  exact⟨.inr ⟨by rw[HE.out],rfl,by rw[HE.out];exact(oh.out _ (by rw[HW5.out])).out.1⟩,(oh.out _ (by rw[HW5.out])).out.2⟩
end
end Go.Proofs.YteppebbmnojapaaGreatDoor
