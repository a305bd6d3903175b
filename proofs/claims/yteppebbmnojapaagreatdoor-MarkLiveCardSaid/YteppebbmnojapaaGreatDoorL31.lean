/- Part of this proof. -/
import Derived.Test.YteppebbmnojapaaGreatDoorL30
set_option maxRecDepth 100000
set_option maxHeartbeats 8000000
namespace Go.Proofs.YteppebbmnojapaaGreatDoor
open Go.RowKit Go.Shelf
theorem Ou{disk:Tp.aA}{f:Nat}{σ:Tp.Pst}{id:Int}{n:Nd.Node}(hv:σ.view disk id=some n)(hc:n.leaf=true\/1<n.kids.length):Tp.dG disk (f+1) σ id=(.ok id,σ):=by
 rw[Tp.dG,hv]
 simp only
 rw[if_pos hc]
theorem TI{disk:Tp.aA}{f:Nat}{σ:Tp.Pst}{id:Int}{n:Nd.Node}(hv:σ.view disk id=some n)(hc:¬ (n.leaf=true\/1<n.kids.length)):Tp.dG disk (f+1) σ id=Tp.dG disk f (Tp.dK σ id) (n.kids.getD 0 0):=by
 rw[Tp.dG,hv]
 simp only
 rw[if_neg hc]
theorem KH{disk:Tp.aA}{f:Nat}{σ:Tp.Pst}{id:Int}(h3:(Tp.dG disk f σ id).1≠ .error 3):∃f' n,f=f'+1/\σ.view disk id=some n:=by
 cases f with
 |zero=>exact absurd rfl h3
 |succ f=>
  cases hv:σ.view disk id with
  |some n=>exact⟨f,n,rfl,rfl⟩
  |none=>rw[Tp.dG,hv]at h3;exact absurd rfl h3
section
variable {S:Nat->Prop}{B t:Nat}{room:Int}{disk:Tp.aA}{TM:Nat->Tp.Pst->World->Prop}
def Xn(S:Nat->Prop)(B t u:Nat)(TM:Nat->Tp.Pst->World->Prop)(root er:Int)(r:Nat)(o:Except Int Int × Tp.Pst)(w:World)(e:Ending)(w':World):Prop:=
 ∃p x:Int,e= .returned (.tuple #[.int .i64 p, .int .i64 x])/\((o.1= .ok p/\x=0)\/(o.1= .error 2/\x=2))/\On S B t u TM root er r o.2 w'/\Fr S w w'
theorem Ov(M:fU S B t room disk TM)(u:Nat)(root er:Int)(r:Nat)(σ:Tp.Pst)(id:Int)(h3:(Tp.dG disk 24 σ id).1≠ .error 3)(w:World)(h:On S B t u TM root er (r+48) σ w):
  Calls Tryz.prog 270 #[.pointer (some ⟨u,0,none⟩), .int .i64 id] w (Xn S B t u TM root er r (Tp.dG disk 24 σ id) w):=by
 obtain⟨o,ho⟩:∃o,o=Tp.dG disk 24 σ id:=⟨_,rfl⟩
 rw[<-ho]at h3 ⊢
 have HO:=Lib.hid ho
 have H3:=Lib.hid h3
 have HM:=Lib.hid M
 have HON:=Lib.hid h
 have hsz:=M.size h.tm
 have hun:u<w.heap.size:=h.self.lt
 clear ho h3 h M
 go_enter Tryz.func270,Tryz.ntmps270
 go_wp2
 go_loopg [1,6] 24 (fun g s1 s6 wr=>∃ (d f:Nat) (σi:Tp.Pst) (idi:Int),s1= .int .i64 idi/\s6= .int .i64 (d:Nat)/\d+f=24/\f<=g/\Hid (o=Tp.dG disk f σi idi)/\Hid (On S B t u TM root er (r+2*f) σi wr)/\Hid (Fr S w wr))
 case atStart=>exact⟨0,24,σ,id,rfl,rfl,rfl,Nat.le_refl _,HO,HON,Lib.hid (Fr.refl _)⟩
 case round=>
  obtain⟨d,f,σi,idi,rfl,rfl,hdf,hfg,HOI,Et,HFI⟩:=hrel
  obtain⟨f,n,rfl,hv⟩:=KH (by rw[<-HOI.out];exact H3.out)
  obtain⟨hfit,hid⟩:=HM.out.ht Et.out.tm hv
  have HLD:=Lib.hid (pq HM.out u root er (r+2*f) σi idi d n hv (by omega) wr (Et.out.less HM.out (by omega)))
  have hwz:=HFI.out.size
  have jP:=Lib.hid hfit
  have HID:=Lib.hid hid
  have HV:=Lib.hid hv
  clear hv hfit hid
  go_wp2_with fail
  refine Calls.mono HLD.out ?_
  rintro e w1 ⟨v,rfl,hnf,pG,hf1⟩
  obtain⟨N1,c1,N2,c2,N3,c3,rfl,rn⟩:=hnf
  have hz1:=hf1.size
  have hb2:=(Below.refl w1.heap.size w1).alloc (Nat.le_refl _) (.cells #[.bool n.leaf, .slice N1 n.ents.length c1, .slice N2 n.kids.length c2, .slice N3 n.keys.length c3] 146)
  have HF2:=Lib.hid ((HFI.out.trans hf1).trans (.of_below hb2))
  have dV:=pG.below HM.out hb2
  have hBn:=Blk.new w1 146 #[.bool n.leaf, .slice N1 n.ents.length c1, .slice N2 n.kids.length c2, .slice N3 n.keys.length c3]
  have HRN:=Lib.hid rn.2.1
  have HB2:=Lib.hid hb2
  unfold aP
  by_cases hc:n.leaf=true\/1<n.kids.length
  ·have hoo:o=(.ok idi,σi):=by rw[HOI.out,Ou HV.out hc]
   have HOO:=Lib.hid hoo
   have iV:=Lib.hid (dV.less HM.out (show r<=r+2*f by omega))
   have g0:=hBn.cell 0
   have g2:=hBn.cell 2
   have ln:=hBn.lt
   clear hoo hb2 pG dV hf1 rn hBn
   cases hlf:n.leaf with
   |true=>
    rw[hlf]at HF2 iV g0 g2 ln
    clear hc hlf
    go_wp2
    go_ret2
    exact⟨idi,0,rfl, .inl ⟨by rw[HOO.out],rfl⟩,by rw[HOO.out];exact iV.out,HF2.out⟩
   |false=>
    have hk:1<(n.kids.length:Int):=by
     rcases hc with hc | hc
     ·rw[hlf]at hc;cases hc
     ·omega
    rw[hlf]at HF2 iV g0 g2 ln
    clear hc hlf
    go_wp2
    go_ret2
    exact⟨idi,0,rfl, .inl ⟨by rw[HOO.out],rfl⟩,by rw[HOO.out];exact iV.out,HF2.out⟩
  ·have hoo:o=Tp.dG disk f (Tp.dK σi idi) (n.kids.getD 0 0):=by rw[HOI.out,TI HV.out hc]
   have hlf:n.leaf=false:=by cases h:n.leaf with
    |false=>rfl
    |true=>exact absurd (.inl h) hc
   have hk1:¬1<n.kids.length:=fun h=>hc (.inr h)
   have hk0:0<n.kids.length:=by
    obtain⟨hr,_⟩:=Tp.bf.1 jP.out
    obtain⟨leaf,ents,kids,keys⟩:=n
    obtain rfl:leaf=false:=hlf
    have:=(Nd.aY.1 hr).2.1
    simp only;omega
   have hge:n.kids.getD 0 0=n.kids[0]'hk0:=by simp[List.getD,hk0]
   rw[hge]at hoo
   obtain⟨bb,oo,rfl,hbb,gk⟩:=HRN.out.ls.int hk0
   have HOO:=Lib.hid hoo
   have HK0:=Lib.hid hk0
   have gk2:=(hb2.cell (p:=⟨bb,oo,none⟩) hbb).trans gk
   rw[hlf]at HF2 dV hBn HB2 gk2 hb2 ⊢
   have g0:=hBn.cell 0
   have g2:=hBn.cell 2
   have ln:=hBn.lt
   have c0:(w1.alloc (.cells #[.bool false, .slice N1 n.ents.length c1, .slice (some ⟨bb,oo,none⟩) n.kids.length c2, .slice N3 n.keys.length c3] 146)).cell? ⟨u,0,none⟩=some (.pointer (some ⟨t,0,none⟩)):=dV.self.cell 0
   have lu:=dV.self.lt
   have iV:=Lib.hid dV
   have HBn:=Lib.hid hBn
   have ah0:¬1<(n.kids.length:Int):=by omega
   have ah1:0<(n.kids.length:Int):=by omega
   have HDR:=Lib.hid (HM.out.drop idi dV.tm HID.out)
   have hzz:(w1.alloc (.cells #[.bool false, .slice N1 n.ents.length c1, .slice (some ⟨bb,oo,none⟩) n.kids.length c2, .slice N3 n.keys.length c3] 146)).heap.size=w1.heap.size+1:=by simp
   clear hc hlf hoo hge hb2 pG dV hf1 rn hBn gk
   go_wp2_with fail
   generalize (w1.alloc (.cells #[.bool false, .slice N1 n.ents.length c1, .slice (some ⟨bb,oo,none⟩) n.kids.length c2, .slice N3 n.keys.length c3] 146))=w2 at*
   refine HDR.out.mono ?_
   rintro e w3 ⟨rfl,ht3,hf3⟩
   have hz3:=hf3.size
   have yx:=iV.out.step HM.out ht3 hf3
   have KE:=hf3.blk HBn.out (HM.out.far (by omega))
   have gk3:w3.cell? ⟨bb,oo,none⟩=some (.int .i64 (n.kids[0]'HK0.out)):=by
    have hLO:=LO.fr (LO.below HRN.out HB2.out) hf3 (fun k hk=>by have:=HM.out.low k hk;omega)
    exact hLO.ls.int' HK0.out
   have Y6:bb<w3.heap.size:=by omega
   have g2:=KE.cell 2
   have ln:=KE.lt
   have CB:=Lib.hid (yx.less HM.out (show r+2*f<=r+2*f by omega))
   have HF3:=Lib.hid (HF2.out.trans hf3)
   clear ht3 hf3 yx KE gk2 c0 lu g0
   go_wp2
   go_roundg f
   case measure=>omega
   case rel=>exact⟨d+1,f,_,_,rfl,by go_num,by omega,Nat.le_refl _,HOO,CB,HF3⟩
end
end Go.Proofs.YteppebbmnojapaaGreatDoor
