/- Part of this proof. -/
import Derived.Test.YteppebbmnojapaaGreatDoorL31
set_option maxRecDepth 100000
set_option maxHeartbeats 8000000
namespace Go.Proofs.YteppebbmnojapaaGreatDoor
open Go.RowKit Go.Shelf
theorem ZH{room:Int}{disk:Tp.aA}{f:Nat}{σ:Tp.Pst}{p:Tp.Part}(h3:(Tp.fE room disk f σ p).1≠ .error 3):∃f',f=f'+1:=by
 cases f with
 |zero=>exact absurd rfl h3
 |succ f=>exact⟨f,rfl⟩
theorem acd{room:Int}{disk:Tp.aA}{f:Nat}{σ:Tp.Pst}{p:Tp.Part}(h:p.1.length=0):Tp.fE room disk (f+1) σ p=(.ok 0,σ):=by
 have:p.1= []:=List.eq_nil_of_length_eq_zero h
 rw[Tp.fE,if_neg (by omega),this]
theorem ace{room:Int}{disk:Tp.aA}{f:Nat}{σ:Tp.Pst}{p:Tp.Part}(h:p.1.length=1):Tp.fE room disk (f+1) σ p=Tp.dG disk 24 σ (p.1[0]'(by omega)):=by
 obtain⟨i,hi⟩:=List.length_eq_one_iff.1 h
 rw[Tp.fE,if_neg (by omega)]
 simp only[hi,List.getElem_cons_zero]
theorem Xo{p:Tp.Part}{L:Nat}(hp:Tp.PB p L)(hL:L<=3000):NB (Nd.ah p.1 p.2):=by
 have h1:=hp.len
 have h2:=hp.keys
 have h3:=Tp.Ko hp.ks
 exact⟨Nat.zero_le _,by show p.1.length<=_;omega,by show p.2.length<=_;omega,by show Nd.aK []<=_;simp[Nd.aK],by show Nd.aF p.2<=_;omega⟩
section
variable {S:Nat->Prop}{B t:Nat}{room:Int}{disk:Tp.aA}{TM:Nat->Tp.Pst->World->Prop}
theorem Xp(M:fU S B t room disk TM)(u:Nat)(root er:Int)(r lo:Nat)(σ:Tp.Pst)(v:Value)(p:Tp.Part)(hpb:Tp.PB p 3000)(h3:(Tp.fE room disk (p.1.length+1) σ p).1≠ .error 3)(w:World)(hpf:PF lo w v p)(hlo2:lo<=w.heap.size)(h:On S B t u TM root er (r+48) σ w):
  Calls Tryz.prog 206 #[.pointer (some ⟨u,0,none⟩),v] w (Xn S B t u TM root er r (Tp.fE room disk (p.1.length+1) σ p) w):=by
 obtain⟨o,ho⟩:∃o,o=Tp.fE room disk (p.1.length+1) σ p:=⟨_,rfl⟩
 rw[<-ho]at h3 ⊢
 obtain⟨Ai,ci,Ay,cy,rfl,r1,r2⟩:=hpf
 have hb1:=(Below.refl w.heap.size w).alloc (Nat.le_refl _) (.cells #[.slice Ai p.1.length ci, .slice Ay p.2.length cy] 300)
 have hBp:=Lib.hid (Blk.new w 300 #[.slice Ai p.1.length ci, .slice Ay p.2.length cy])
 have HO:=Lib.hid ho
 have H3:=Lib.hid h3
 have HM:=Lib.hid M
 have hsz:=M.size h.tm
 have hun:u<w.heap.size:=h.self.lt
 have HON:=Lib.hid (h.below M hb1)
 have HR1:=Lib.hid (LO.below r1 hb1)
 have HR2:=Lib.hid (LO.below r2 hb1)
 have HPB:=Lib.hid hpb
 have HF1:=Lib.hid (Fr.of_below (S:=S) hb1)
 unfold qI
 clear ho h3 h M hb1 r1 r2 hpb
 go_enter Tryz.func206,Tryz.ntmps206
 go_wp2
 go_loopg [] (p.1.length+1) (fun g wr=>∃ (f:Nat) (σi:Tp.Pst) (q:Tp.Part) (Bi By:Option Addr) (di dy:Nat),f<=g/\Hid (o=Tp.fE room disk f σi q)/\Hid (Blk wr w.heap.size 300 #[.slice Bi q.1.length di, .slice By q.2.length dy])/\Hid (LO aV 3 wr lo (.slice Bi q.1.length di) q.1)/\Hid (LO keyE 9 wr lo (.slice By q.2.length dy) q.2)/\Hid (Tp.PB q 3000)/\Hid (On S B t u TM root er (r+48) σi wr)/\Hid (Fr S w wr))
 case atStart=>exact⟨p.1.length+1,σ,p,Ai,Ay,ci,cy,Nat.le_refl _,HO,hBp,HR1,HR2,HPB,HON,HF1⟩
 case round=>
  obtain⟨f,σi,q,Bi,By,di,dy,hfg,HOI,HBI,HI,HK,HQB,Et,HFI⟩:=hrel
  obtain⟨f,rfl⟩:=ZH (by rw[<-HOI.out];exact H3.out)
  have hwz:=HFI.out.size
  have p0:=HBI.out.cell 0
  have p1:=HBI.out.cell 1
  have lp:=HBI.out.lt
  have hql:=HQB.out.len
  by_cases h1:1<q.1.length
  ·have hoo:o=Tp.Iq room disk f (Tp.aC room (q.1.length+1) σi 0 (Nd.ah q.1 q.2)):=by rw[HOI.out,Tp.Oq h1]
   obtain⟨os,hos⟩:∃x,x=Tp.aC room (q.1.length+1) σi 0 (Nd.ah q.1 q.2):=⟨_,rfl⟩
   have aeH:os.1≠ .error 3:=fun hc=>H3.out (by rw[hoo, <-hos,Tp.CS hc])
   have HST:=Lib.hid (l9 HM.out u root er (r+48) (q.1.length+1) σi 0 (by unfold fJ;omega) (.agg #[.bool false, .slice none 0 0, .slice Bi q.1.length di, .slice By q.2.length dy]) (Nd.ah q.1 q.2) (Xo HQB.out (Nat.le_refl _)) (by rw[<-hos];exact aeH) wr ⟨none,0,Bi,di,By,dy,rfl,xZ _,LO.sv HI.out,LO.sv HK.out⟩ Et.out)
   rw[<-hos]at HST hoo
   have HOO:=Lib.hid hoo
   have h1i:1<(q.1.length:Int):=by omega
   clear hoo hos aeH
   go_wp2_with fail
   refine Calls.mono HST.out ?_
   rintro e w2 ⟨v2,q2,x,rfl,⟨Ci,ei,Cy,ey,rfl,k1,k2⟩,hres,dV,hf2⟩
   have hz2:=hf2.size
   have hb3:=(Below.refl w2.heap.size w2).alloc (Nat.le_refl _) (.cells #[.slice Ci q2.1.length ei, .slice Cy q2.2.length ey] 300)
   have acf:=hf2.blk HBI.out (HM.out.far hsz)
   unfold qI
   rcases hres with⟨hok,rfl,hqb⟩ | ⟨herr,rfl⟩
   ·have hoo:o=Tp.fE room disk f os.2 q2:=by rw[HOO.out,Tp.TA hok]
    have HO2:=Lib.hid hoo
    have HQ2:=Lib.hid (hqb.mono (show Tp.cnt (Nd.ah q.1 q.2)<=3000 by unfold Tp.cnt Nd.ah;simp only[List.length_nil];omega))
    have Eu:=acf.alloc (.cells #[.slice Ci q2.1.length ei, .slice Cy q2.2.length ey] 300)
    have ZI:=Blk.new w2 300 #[.slice Ci q2.1.length ei, .slice Cy q2.2.length ey]
    have hK1:=LO.lower (LO.below k1 hb3) (show lo<=wr.heap.size by omega)
    have hK2:=LO.lower (LO.below k2 hb3) (show lo<=wr.heap.size by omega)
    have CB:=Lib.hid (dV.below HM.out hb3)
    have HF3:=Lib.hid ((HFI.out.trans hf2).trans (.of_below hb3))
    have hz3:(w2.alloc (.cells #[.slice Ci q2.1.length ei, .slice Cy q2.2.length ey] 300)).heap.size=w2.heap.size+1:=by simp
    have p0:=Eu.cell 0
    have p1:=Eu.cell 1
    have f0:=Eu.frozen 0
    have f1:=Eu.frozen 1
    have lp:=Eu.lt
    have q0:=ZI.cell 0
    have q1:=ZI.cell 1
    have lq:=ZI.lt
    have hfin:∀W,W=((w2.alloc (.cells #[.slice Ci q2.1.length ei, .slice Cy q2.2.length ey] 300)).setCell ⟨w.heap.size,0,none⟩ (.slice Ci q2.1.length ei)).setCell ⟨w.heap.size,1,none⟩ (.slice Cy q2.2.length ey)->Hid (Blk W w.heap.size 300 #[.slice Ci q2.1.length ei, .slice Cy q2.2.length ey])/\Hid (LO aV 3 W lo (.slice Ci q2.1.length ei) q2.1)/\Hid (LO keyE 9 W lo (.slice Cy q2.2.length ey) q2.2)/\Hid (On S B t u TM root er (r+48) os.2 W)/\Hid (Fr S w W):=fun W hW=>by
     have hfr:Fr (fun k=>k=w.heap.size) (w2.alloc (.cells #[.slice Ci q2.1.length ei, .slice Cy q2.2.length ey] 300)) W:=by rw[hW];exact Fr.gJ _ _
     exact⟨Lib.hid (by rw[hW];exact Eu.gJ _ _),Lib.hid (LO.frB hK1 hfr (fun g hg e=>aB hK1 Eu (by decide) (e ▸ hg))),Lib.hid (LO.frB hK2 hfr (fun g hg e=>aB hK2 Eu (by decide) (e ▸ hg))),Lib.hid (CB.out.own HM.out hfr Eu hsz (by omega) (by decide) (by decide) (by decide) (by decide)),Lib.hid (Fr.old (S':=fun k=>S k\/k=w.heap.size) ((HF3.out.more fun _=> .inl).trans (hfr.more fun _=> .inr)) (fun k hk=>hk.imp_right fun e=>by omega))⟩
    have oh:=Lib.hid hfin
    clear hfin hok hoo hqb dV hf2 hb3 acf Eu ZI hK1 hK2 k1 k2
    go_wp2
    go_roundg f
    case measure=>omega
    case rel=>
     obtain⟨a1,a2,a3,a4,a5⟩:=oh.out _ rfl
     exact⟨f,os.2,q2,Ci,Cy,ei,ey,Nat.le_refl _,HO2,a1,a2,a3,HQ2,a4,a5⟩
   ·have hend:o=(.error 2,os.2):=by rw[HOO.out,Tp.CS herr]
    have HE:=Lib.hid hend
    have aZ:=Lib.hid (show On S B t u TM root er r os.2 (w2.alloc (.cells #[.slice Ci q2.1.length ei, .slice Cy q2.2.length ey] 300))/\Fr S w (w2.alloc (.cells #[.slice Ci q2.1.length ei, .slice Cy q2.2.length ey] 300))from⟨(dV.below HM.out hb3).less HM.out (by omega),(HFI.out.trans hf2).trans (.of_below hb3)⟩)
    clear hend herr dV hf2 hb3 acf k1 k2
    go_wp2
    go_ret2
    exact⟨0,2,rfl, .inr ⟨by rw[HE.out],rfl⟩,by rw[HE.out];exact aZ.out.1,aZ.out.2⟩
  ·have h1i:¬1<(q.1.length:Int):=by omega
   by_cases h0:q.1.length=0
   ·have hoo:o=(.ok 0,σi):=by rw[HOI.out,acd h0]
    have HOO:=Lib.hid hoo
    have h0i:((q.1.length:Int)==0)=true:=by rw[beq_iff_eq];omega
    rw[h0]at p0
    have iV:=Lib.hid (Et.out.less HM.out (show r<=r+48 by omega))
    clear hoo h0 h0i
    go_wp2
    go_ret2
    exact⟨0,0,rfl, .inl ⟨by rw[HOO.out],rfl⟩,by rw[HOO.out];exact iV.out,HFI.out⟩
   ·have hq1:q.1.length=1:=by omega
    have hq0:0<q.1.length:=by omega
    have hoo:o=Tp.dG disk 24 σi (q.1[0]'hq0):=by rw[HOI.out,ace hq1]
    have HSH:=Lib.hid (Ov HM.out u root er r σi (q.1[0]'hq0) (by rw[<-hoo];exact H3.out) wr Et.out)
    rw[<-hoo]at HSH
    obtain⟨bb,oo,rfl,hbb,gk⟩:=HI.out.ls.int hq0
    have h0i:((q.1.length:Int)==0)=false:=by rw[beq_eq_false_iff_ne];omega
    have h0j:0<(q.1.length:Int):=by omega
    have gk0:wr.cell? ⟨bb,oo,none⟩=some (.int .i64 (q.1[0]'hq0)):=gk
    clear hoo h0 hq1 gk
    go_wp2_with fail
    refine Calls.mono HSH.out ?_
    rintro e w2 ⟨pp,x,rfl,hres,dV,hf2⟩
    have aZ:=Lib.hid (show Xn S B t u TM root er r o w (.returned (.tuple #[.int .i64 pp, .int .i64 x])) w2 from⟨pp,x,rfl,hres,dV,HFI.out.trans hf2⟩)
    clear hres dV hf2
    go_wp2
    go_ret2
    exact aZ.out
end
end Go.Proofs.YteppebbmnojapaaGreatDoor
