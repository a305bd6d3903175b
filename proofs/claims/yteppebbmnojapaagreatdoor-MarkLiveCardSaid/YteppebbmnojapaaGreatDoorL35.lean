/- Part of this proof. -/
import Derived.Test.YteppebbmnojapaaGreatDoorL34
set_option maxRecDepth 100000
set_option maxHeartbeats 8000000
namespace Go.Proofs.YteppebbmnojapaaGreatDoor
open Go.RowKit Go.Shelf
theorem Fr.go{S S':Nat->Prop}{w w1 w2:World}(h:Fr S w w1)(h':Fr S' w1 w2)(hS:∀k,S' k->S k\/w.heap.size<=k):Fr S w w2:=
 ⟨h'.os.trans h.os,h'.tape.trans h.tape,h'.output.trans h.output,Nat.le_trans h.size h'.size,fun k hk a=>(h'.block k (Nat.lt_of_lt_of_le hk h.size) (fun b=>by rcases hS k b with c | c;exact a c;omega)).trans (h.block k hk a)⟩
theorem Xv{l:List Ent}{k:ByteArray}{i:Nat}(h:Lower l k i)(hi:i<=l.length):i=Tp.place l k:=by
 unfold Tp.place
 induction l generalizing i with
 |nil=>simpa using hi
 |cons x l ih=>
  rw[List.takeWhile_cons]
  cases i with
  |zero=>
   have:=h.2 0 (by simp) (Nat.le_refl _)
   simp only[List.getElem_cons_zero]at this
   rw[if_neg (by rw[this];simp)];rfl
  |succ i=>
   have:=h.1 0 (by simp) (by omega)
   simp only[List.getElem_cons_zero]at this
   rw[if_pos this,List.length_cons, <-ih (i:=i) ⟨fun j hj hji=>h.1 (j+1) (by simp;omega) (by omega),fun j hj hji=>h.2 (j+1) (by simp;omega) (by omega)⟩ (by simpa using hi)]
def Tp.cost(c:Nd.Node->Nat)(disk:Tp.aA)(σ:Tp.Pst):Nat->Int->Nat
 |0,_=>0
 |f+1,id=>match σ.view disk id with
  |none=>0
  |some n=>c n+(n.kids.map (Tp.cost c disk σ f)).sum
def Tp.rd(_:Nd.Node):Nat:=2
def Tp.en(n:Nd.Node):Nat:=n.ents.length
def Tp.costs(c:Nd.Node->Nat)(disk:Tp.aA)(σ:Tp.Pst)(f:Nat)(l:List Int):Nat:=(l.map (Tp.cost c disk σ f)).sum
theorem Tp.Dh{c:Nd.Node->Nat}{disk:Tp.aA}{σ:Tp.Pst}{f:Nat}(l:List Int)(j:Nat)(hj:j<l.length):Tp.costs c disk σ f (l.drop j)=Tp.cost c disk σ f l[j]+Tp.costs c disk σ f (l.drop (j+1)):=by
 unfold Tp.costs
 rw[List.drop_eq_getElem_cons hj,List.map_cons,List.sum_cons]
theorem Tp.KT{c:Nd.Node->Nat}{disk:Tp.aA}{σ:Tp.Pst}{f:Nat}(l:List Int)(j:Nat):Tp.costs c disk σ f (l.drop j)<=Tp.costs c disk σ f l:=by
 unfold Tp.costs
 induction j generalizing l with
 |zero=>exact Nat.le_refl _
 |succ j ih=>
  cases l with
  |nil=>exact Nat.le_refl _
  |cons x l=>rw[List.drop_succ_cons,List.map_cons,List.sum_cons];have:=ih l;omega
theorem Tp.xu{c:Nd.Node->Nat}{disk:Tp.aA}{σ:Tp.Pst}{f:Nat}{id:Int}{n:Nd.Node}(hv:σ.view disk id=some n):Tp.cost c disk σ (f+1) id=c n+Tp.costs c disk σ f n.kids:=by unfold Tp.costs;rw[Tp.cost,hv]
structure aaR(S:Nat->Prop)(B t u:Nat)(TM:Nat->Tp.Pst->World->Prop)(root:Int)(yf:FuncId)(caps:Array Value){Q:Type}(step:Q->List Ent->Q × Bool)(P:Nat->Q->(Nat->Prop)->World->Prop):Prop where
 keep:∀ {m q Y w w'},P m q Y w->Fr S w w'->P m q Y w'
 less:∀ {m m' q Y w},P m' q Y w->m<=m'->P m q Y w
 lt:∀ {m q Y w k},P m q Y w->Y k->k<w.heap.size
 call:∀w A c l n m q Y r σ,P (m+l.length) q Y w->On S B t u TM root 0 r σ w->LS bD w w.heap.size A l->(∀a,A=some a->¬Y a.block)->n=l.length->l.length<=1000->Calls Tryz.prog yf (#[.slice A n c]++caps) w fun e w'=>e= .returned (.bool (step q l).2)/\On S B t u TM root 0 r σ w'/\Fr Y w w'/\∃Y',P m (step q l).1 Y' w'/\∀k,Y' k->Y k\/w.heap.size<=k
 enters:∀ (args:Array Value) (w:World),(callFunc yf args).run Tryz.prog w= .ok (.enter yf args) w
def Qd(S:Nat->Prop)(B t u:Nat)(TM:Nat->Tp.Pst->World->Prop)(root:Int)(r:Nat)(σ:Tp.Pst){Q:Type}(P:Nat->Q->(Nat->Prop)->World->Prop)(m:Nat)(q:Q)(b:Bool)(Y:Nat->Prop)(w:World)(e:Ending)(w':World):Prop:=
 e= .returned (.tuple #[.bool b, .int .i64 0])/\On S B t u TM root 0 r σ w'/\Fr (fun k=>S k\/Y k) w w'/\∃Y',P m q Y' w'/\∀k,Y' k->Y k\/w.heap.size<=k
theorem OB{Q:Type}{disk:Tp.aA}{σ:Tp.Pst}{frm:En.Str}{step:Q->List En.Ent->Q × Bool}{f:Nat}{id:Int}{q q':Q}{b:Bool}(h:Tp.jI disk σ frm step f id q=(q', .ok b)):∃f' n,f=f'+1/\σ.view disk id=some n/\(if n.leaf then((step q (n.ents.drop (Tp.place n.ents frm))).1, .ok (step q (n.ents.drop (Tp.place n.ents frm))).2)else Tp.lM (Tp.jI disk σ frm step f') (n.kids.drop (Nd.child n.keys frm)) q)=((q',Except.ok b):Q × Except Int Bool):=by
 cases f with
 |zero=>rw[Tp.jI]at h;cases h
 |succ f=>
  rw[Tp.jI]at h
  cases hv:σ.view disk id with
  |none=>rw[hv]at h;cases h
  |some n=>rw[hv]at h;exact⟨f,n,rfl,rfl,h⟩
theorem TV{Q:Type}{vis:Int->Q->Q × Except Int Bool}{l:List Int}{j:Nat}(hj:j<l.length){q q':Q}{b:Bool}(h:Tp.lM vis (l.drop j) q=(q', .ok b)):∃q1 b1,vis l[j] q=(q1, .ok b1)/\(b1=true->Tp.lM vis (l.drop (j+1)) q1=(q', .ok b))/\(b1=false->q1=q'/\b=false):=by
 rw[List.drop_eq_getElem_cons hj,Tp.lM]at h
 generalize hx:vis l[j] q=x at h
 obtain⟨q1,e⟩:=x
 cases e with
 |error e=>simp at h
 |ok b1=>
  cases b1 with
  |true=>exact⟨q1,true,rfl,(fun _=>h),(fun a=>by cases a)⟩
  |false=>simp at h;exact⟨q1,false,rfl,(fun a=>by cases a),(fun _=>⟨h.1,by simpa using h.2.symm⟩)⟩
section
variable {a:Act}{o:Oper}{x y z:Operand}{w:World}{ad:Addr}{v:Value}
theorem KU{A:Option Addr}{n c:Nat}(ho:o.op= .call { callee:= .builtin .len,args:= #[x],argTypes:= #[49] })(hx:a.eval x= .slice A n c):(execOp a.eval o).run Tryz.prog w= .ok (.value (.int .i64 (n:Nat))) w:=by
 unfold execOp
 simp only[ho,resolve,invoke,builtin,Sem.run_bind,Sem.run_pure,Result.andThen_ok,List.map_toArray,List.map_cons,List.map_nil,hx]
 simp[go_sem]
end
section
variable {S:Nat->Prop}{B t:Nat}{room:Int}{disk:Tp.aA}{TM:Nat->Tp.Pst->World->Prop}
theorem visit_any(M:fU S B t room disk TM)(u:Nat)(root:Int){yf:FuncId}{caps:Array Value}{Q:Type}{step:Q->List Ent->Q × Bool}{P:Nat->Q->(Nat->Prop)->World->Prop}(V:aaR S B t u TM root yf caps step P)(frm:ByteArray)(σ:Tp.Pst):∀ (f d:Nat) (id:Int) (m:Nat) (q q':Q) (b:Bool) (Y:Nat->Prop) (r:Nat) (w:World),d+f=24->Tp.jI disk σ frm step f id q=(q', .ok b)->P (m+Tp.cost Tp.en disk σ f id) q Y w->On S B t u TM root 0 (r+Tp.cost Tp.rd disk σ f id) σ w->
  Calls Tryz.prog 189 #[.pointer (some ⟨u,0,none⟩), .int .i64 id, .int .i64 (d:Nat), .string frm, .func (.func yf) #[] caps] w (Qd S B t u TM root r σ P m q' b Y w):=by
 intro f
 induction f with
 |zero=>intro d id m q q' b Y r w hd h;rw[Tp.jI]at h;cases h
 |succ f ih=>
  intro d id m q q' b Y r w hd aeO hP h
  obtain⟨f',n,e,hv,hgo⟩:=OB aeO
  obtain rfl:f'=f:=by omega
  clear aeO
  rw[Tp.xu hv]at h hP
  have hP':=V.less (m:=m+Tp.costs Tp.en disk σ f' n.kids) hP (by omega)
  have hPe:=V.less (m:=m+n.ents.length) hP (by unfold Tp.en;omega)
  rw[show Tp.rd n=2 from rfl]at h
  obtain⟨cst,acp⟩:∃c,c=Tp.costs Tp.rd disk σ f' n.kids:=⟨_,rfl⟩
  rw[<-acp]at h
  have hfit:=(M.ht h.tm hv).1
  have HLD:=Lib.hid (pq M u root 0 (r+cst) σ id d n hv (by omega) w (h.less M (by omega)))
  have hsz:=M.size h.tm
  have hun:u<w.heap.size:=h.self.lt
  have HIH:=Lib.hid ih
  have HM:=Lib.hid M
  have HV:=Lib.hid V
  have jP:=Lib.hid hfit
  have HGO:=Lib.hid hgo
  have HP:=Lib.hid hP'
  have HPE:=Lib.hid hPe
  have HC:=Lib.hid acp
  clear h hv hfit hgo hP hP' hPe ih M V acp e
  go_enter Tryz.func189,Tryz.ntmps189
  go_wp2_with fail
  refine Calls.mono HLD.out ?_
  rintro e w1 ⟨v,rfl,hnf,pG,hf1⟩
  obtain⟨N1,c1,N2,c2,N3,c3,rfl,rn⟩:=hnf
  have hz1:=hf1.size
  have hb2:=(Below.refl w1.heap.size w1).alloc (Nat.le_refl _) (.cells #[.bool n.leaf, .slice N1 n.ents.length c1, .slice N2 n.kids.length c2, .slice N3 n.keys.length c3] 146)
  have hF2:Fr S w _:=hf1.trans (.of_below hb2)
  have dV:=pG.below HM.out hb2
  have hBn:=Blk.new w1 146 #[.bool n.leaf, .slice N1 n.ents.length c1, .slice N2 n.kids.length c2, .slice N3 n.keys.length c3]
  have hNF:=NF.below (lo:=w.heap.size) (v:= .agg #[.bool n.leaf, .slice N1 n.ents.length c1, .slice N2 n.kids.length c2, .slice N3 n.keys.length c3]) ⟨N1,c1,N2,c2,N3,c3,rfl,rn⟩ hb2
  have HRN:=Lib.hid rn
  have HB2:=Lib.hid hb2
  have hP2:=HV.out.keep HP.out hF2
  unfold aP
  cases hlf:n.leaf with
  |true=>
   rw[hlf]at hF2 dV hBn hNF hb2 hP2
   have hres:step q (n.ents.drop (Tp.place n.ents frm))=(q',b):=by
    have:=HGO.out;rw[hlf]at this;simp only[if_true,Prod.mk.injEq,Except.ok.injEq]at this;exact Prod.ext this.1 this.2
   have hrt:En.right n.ents=true:=by
    obtain⟨hr,_⟩:=Tp.bf.1 jP.out
    obtain⟨leaf,ents,kids,keys⟩:=n
    obtain rfl:leaf=true:=hlf
    exact(Nd.eP.1 hr).1
   have hsrt:=((En.bF n.ents).1 hrt).2
   have hle:=(vM jP.out).1
   have hls:LS bD (w1.alloc (.cells #[.bool true, .slice N1 n.ents.length c1, .slice N2 n.kids.length c2, .slice N3 n.keys.length c3] 146)) _ N1 n.ents:=(LO.below HRN.out.1 hb2).ls
   have hsv:=LO.sv (LO.below HRN.out.1 hb2)
   have HFI:=Lib.hid (wH N1 c1 n.ents frm _ hls (by omega))
   have g0:=hBn.cell 0
   have g1:=hBn.cell 1
   have ln:=hBn.lt
   have HSV:=Lib.hid hsv
   have HF2:=Lib.hid hF2
   have iV:=Lib.hid dV
   have HP2:=Lib.hid hP2
   have HSR:=Lib.hid hsrt
   have wZ:=Lib.hid hres
   have HLE:=Lib.hid hle
   clear hb2 pG dV hf1 rn hBn hNF hF2 hres hrt hlf hsrt hle hls hsv hP2
   go_wp2_with fail
   refine HFI.out.mono ?_
   rintro e w3 ⟨i,fd,rfl,hi,_,_,hlow,hb3⟩
   have hpl:=Xv (hlow HSR.out) hi
   have acr:=(HSV.out.up hb3).cut hi
   have hcut:=Bh N1 n.ents.length c1 i (i:Int) rfl hi w3
   have hAY:∀a,(if c1=i then N1 else N1.map (·.add (i*2)))=some a->¬Y a.block:=by
    intro a ha hy
    have hlt:=HV.out.lt HP.out hy
    rcases HRN.out.1.2 with⟨e,_⟩ | ⟨g,cap,cur,e,h2,_⟩
    ·injection e with e;subst e;simp at ha
    ·injection e with e;subst e
     split at ha
     ·injection ha with ha;subst ha;simp only at hlt;omega
     ·simp only[Option.map_some,Addr.add_lit]at ha;injection ha with ha;subst ha;simp only at hlt;omega
   generalize (if c1=i then N1 else N1.map (·.add (i*2)))=A2 at hcut acr hAY
   generalize c1-i=cc at hcut
   have hF3:Fr S w w3:=HF2.out.trans (.of_below hb3)
   have yx:=iV.out.below HM.out hb3
   have g1':=(hb3.cell (p:=⟨w1.heap.size,1,none⟩) ln).trans g1
   have hP3:=HV.out.less (m:=m+(n.ents.drop i).length) (HV.out.keep HPE.out hF3) (by rw[List.length_drop];omega)
   rw[<-hpl]at wZ
   have HCL:=Lib.hid (HV.out.call w3 A2 cc (n.ents.drop i) (n.ents.length-i) m q Y (r+cst) σ hP3 yx acr hAY (by rw[List.length_drop]) (by rw[List.length_drop];have:=HLE.out;omega))
   rw[wZ.out]at HCL
   have HF3:=Lib.hid hF3
   clear hlow hpl acr hb3 hF3 yx hP3 hAY
   go_wp2_with fail
   rw[HV.out.enters,Oper.upon_enter]
   refine Calls.mono HCL.out ?_
   rintro e w4 ⟨rfl,ou,hf4,Y',hP4,hY⟩
   have aZ:=Lib.hid (show Qd S B t u TM root r σ P m q' b Y w (.returned (.tuple #[.bool b, .int .i64 0])) w4 from⟨rfl,ou.less HM.out (by omega),HF3.out.more (fun _=>Or.inl) |>.trans (hf4.more (fun _=>Or.inr)),Y',hP4,fun k hk=>(hY k hk).imp_right (fun a=>Nat.le_trans HF3.out.size a)⟩)
   clear ou hf4 hP4 hY
   go_wp2
   go_ret2
   exact aZ.out
  |false=>
   rw[hlf]at hF2 dV hBn hNF hb2 hP2
   have Ew:Tp.lM (Tp.jI disk σ frm step f') (n.kids.drop (Nd.child n.keys frm)) q=(q', .ok b):=by have:=HGO.out;rw[hlf]at this;simpa using this
   have hks:Nd.tY n.keys/\n.keys.length+1=n.kids.length:=by
    obtain⟨hr,_⟩:=Tp.bf.1 jP.out
    obtain⟨leaf,ents,kids,keys⟩:=n
    obtain rfl:leaf=false:=hlf
    exact⟨((Nd.jd keys).1 (Nd.aY.1 hr).2.2.2).2,(Nd.aY.1 hr).2.1⟩
   have hci:=Nd.oN n.keys frm
   have hkl:n.kids.length<=100000:=(iT jP.out).i
   obtain⟨i,hi⟩:∃i,i=Nd.child n.keys frm:=⟨_,rfl⟩
   have HCH:=Lib.hid (fun W hbW=>vg (.agg #[.bool false, .slice N1 n.ents.length c1, .slice N2 n.kids.length c2, .slice N3 n.keys.length c3]) n frm W (NF.below hNF hbW).ns (iT jP.out) hks.1)
   rw[<-hi]at HCH hci Ew
   have hik:i<n.kids.length:=by have:=hks.2;omega
   have ZQ:=(LO.below HRN.out.2.1 hb2).sv
   have hc2:=ZQ.le
   obtain⟨bb,oo,rfl,hbb, -⟩:=ZQ.ls.int hik
   have hrow:∀j (hj:j<n.kids.length),(w1.alloc (.cells #[.bool false, .slice N1 n.ents.length c1, .slice (some ⟨bb,oo,none⟩) n.kids.length c2, .slice N3 n.keys.length c3] 146)).cell? ⟨bb,oo+j,none⟩=some (.int .i64 n.kids[j]):=fun j hj=>LS.int' ZQ.ls hj
   have hbw:w.heap.size<=bb:=by
    rcases HRN.out.2.1.2 with⟨e,_⟩ | ⟨g,cap,cur,e,h2,_⟩
    ·injection e with e;cases e
    ·injection e with e;injection e with e;injection e with e;subst e;exact h2
   have hcut:(if c2=i then(some ⟨bb,oo,none⟩:Option Addr)else(some ⟨bb,oo,none⟩:Option Addr).map (·.add (i*1)))=some ⟨bb,oo+i,none⟩:=by
    rw[if_neg (by omega)];simp[Addr.add_lit]
   have hiL:i<=n.kids.length:=by omega
   have g0:=hBn.cell 0
   have ln:=hBn.lt
   have HBn:=Lib.hid hBn
   have HF2:=Lib.hid hF2
   have iV:=Lib.hid dV
   have HP2:=Lib.hid hP2
   have acj:=Lib.hid Ew
   have xw:=Lib.hid hrow
   have agY:=Lib.hid hcut
   have HIL:=Lib.hid hiL
   have HBW:=Lib.hid hbw
   have HBB:=Lib.hid hbb
   clear hb2 pG dV hf1 rn hBn hNF hF2 Ew hks hlf hci hi hrow hcut hiL hbw ZQ hP2 hbb
   go_wp2_with fail
   generalize (w1.alloc (.cells #[.bool false, .slice N1 n.ents.length c1, .slice (some ⟨bb,oo,none⟩) n.kids.length c2, .slice N3 n.keys.length c3] 146))=w2 at*
   refine bY (base:=w2.heap.size) (fun uu=>⟨#[_,_,_,_,_,_,_,_,_,_,_,_,_,_,_,_,_,_,_,_,_,_,_,_,_,_,_,_,_,_,_,_,_,_,_,_,_,_,_,_,_,_,_,_,_,uu 0,uu 1,uu 2,uu 3,uu 4,uu 5,uu 6,uu 7,_,_,_,_,_,_,_,_,_,_,_,_,_,_,_,_,_,_,_,_,_],_⟩)
    [Is.eq _ (.pointer (some ⟨w1.heap.size,2,none⟩)),Is.eq _ (.slice (some ⟨bb,oo,none⟩) n.kids.length c2),Is.eq _ (.agg #[.bool false, .slice N1 n.ents.length c1, .slice (some ⟨bb,oo,none⟩) n.kids.length c2, .slice N3 n.keys.length c3]),Is.eq _ (.string frm),Is.eq _ (.int .i64 (i:Nat)),Is.eq _ (.slice (some ⟨bb,oo+i,none⟩) (n.kids.length-i) (c2-i)),Is.eq _ (.int .i64 ((n.kids.length-i:Nat):Int)),Is.eq _ (.int .i64 0)]
    (by kernel_rfl) (by kernel_rfl) (by kernel_rfl) [] rfl (Nat.le_refl _) (by simp) (by simp) ⟨fun _=>undef,rfl⟩ ?_ ?_
   ·intro k o ho uu W hf hold aj
    have hfb:Below w2.heap.size w2 W:=hf.low (Nat.le_refl _) (fun k a=>by simp at a)
    have hBW:=HBn.out.below hfb ln
    have cW:=hBW.cell 2
    match k,ho with
    |0,ho=>obtain rfl:=Option.some.inj ho;exact Does.val (fB rfl rfl) ⟨rfl,rfl,Fr.refl _⟩
    |1,ho=>obtain rfl:=Option.some.inj ho;exact Does.val (bI rfl (aj 0 rfl) cW) ⟨rfl,rfl,Fr.refl _⟩
    |2,ho=>obtain rfl:=Option.some.inj ho;exact Does.val (pz aN rfl rfl hBW rfl) ⟨rfl,rfl,Fr.refl _⟩
    |3,ho=>obtain rfl:=Option.some.inj ho;exact Does.val (dL rfl rfl) ⟨rfl,rfl,Fr.refl _⟩
    |4,ho=>
     obtain rfl:=Option.some.inj ho
     refine Does.call (wW FW rfl (aj 2 rfl) (aj 3 rfl)) (Calls.mono (HCH.out W hfb) ?_)
     rintro e w' ⟨rfl,hb'⟩
     exact⟨_,rfl,rfl,rfl, .of_below hb'⟩
    |5,ho=>obtain rfl:=Option.some.inj ho;exact Does.val (iq rfl (aj 1 rfl) (aj 4 rfl) HIL.out) ⟨rfl,by show _=_;rw[agY.out],Fr.refl _⟩
    |6,ho=>obtain rfl:=Option.some.inj ho;exact Does.val (KU rfl (aj 5 rfl)) ⟨rfl,rfl,Fr.refl _⟩
    |7,ho=>obtain rfl:=Option.some.inj ho;exact Does.val (dL rfl rfl) ⟨rfl,rfl,Fr.refl _⟩
    |n+8,ho=>exact absurd ho (by simp)
   ·intro uu W hf hall
    have e5:uu 5= .slice (some ⟨bb,oo+i,none⟩) (n.kids.length-i) (c2-i):=hall 5 (by decide)
    have e6:uu 6= .int .i64 ((n.kids.length-i:Nat):Int):=hall 6 (by decide)
    have e7:uu 7= .int .i64 0:=hall 7 (by decide)
    simp only[e5,e6,e7]
    have hfb:Below w2.heap.size w2 W:=hf.low (Nat.le_refl _) (fun k a=>by simp at a)
    have CB:=Lib.hid (iV.out.below HM.out hfb)
    have HF3:=Lib.hid ((HF2.out.trans (.of_below hfb)).more (fun k a=>(.inl a:S k\/Y k)))
    have HP3:=Lib.hid (HV.out.keep HP2.out (Fr.of_below hfb))
    have HB3:=Lib.hid (hfb.block bb HBB.out)
    have Zh:=Lib.hid (show bb<W.heap.size from Nat.lt_of_lt_of_le HBB.out hfb.size)
    have HW3:=Lib.hid (show w.heap.size<=W.heap.size from HF3.out.size)
    have HCD:=Lib.hid (show r+Tp.costs Tp.rd disk σ f' (n.kids.drop (i+0))<=r+cst by have:=Tp.KT (c:=Tp.rd) (disk:=disk) (σ:=σ) (f:=f') n.kids (i+0);have:=HC.out;omega)
    obtain⟨L,hL⟩:∃L,L=n.kids.length-i:=⟨_,rfl⟩
    have hiL:i+L=n.kids.length:=by omega
    have HIL:=Lib.hid hiL
    rw[<-hL]
    have hL5:L<=100000:=by omega
    generalize c2-i=cc at*
    clear hall hf hfb e5 e6 e7 hL hiL hc2 hik ln g0
    go_wp2
    go_loopg [52] L (fun g s52 wr=>∃ (j:Nat) (qj:Q) (Yj:Nat->Prop),s52= .int .i64 (j:Nat)/\j<=L/\L-j<=g/\Hid (Tp.lM (Tp.jI disk σ frm step f') (n.kids.drop (i+j)) qj=(q', .ok b))/\Hid (P (m+Tp.costs Tp.en disk σ f' (n.kids.drop (i+j))) qj Yj wr)/\Hid (∀k,Yj k->Y k\/W.heap.size<=k)/\Hid (On S B t u TM root 0 (r+Tp.costs Tp.rd disk σ f' (n.kids.drop (i+j))) σ wr)/\Hid (Fr (fun k=>S k\/Y k) w wr)/\Hid (W.heap.size<=wr.heap.size/\wr.heap[bb]? =w2.heap[bb]?))
    case atStart=>exact⟨0,q,Y,rfl,Nat.zero_le _,by omega,acj,Lib.hid (HV.out.less HP3.out (Nat.add_le_add_left (Tp.KT n.kids (i+0)) m)),Lib.hid (fun k a=> .inl a),Lib.hid (CB.out.less HM.out HCD.out),HF3,Lib.hid ⟨Nat.le_refl _,HB3.out⟩⟩
    case round=>
     obtain⟨j,qj,Yj,rfl,hjL,hjg,HGJ,HPJ,HYJ,Xw,HFJ,HBJ⟩:=hrel
     have hwz:=HBJ.out.1
     by_cases hj:j<L
     ·have hij:i+j<n.kids.length:=by have:=HIL.out;omega
      obtain⟨q1,b1,hvj,hgt,hgf⟩:=TV hij HGJ.out
      have hcell:wr.cell? ⟨bb,oo+i+j,none⟩=some (.int .i64 (n.kids[i+j]'hij)):=by
       have e:=xw.out (i+j) hij
       rw[show oo+(i+j)=oo+i+j by omega]at e
       rw[<-e]
       unfold World.cell?
       rw[HBJ.out.2]
      have hbl:bb<wr.heap.size:=by have:=Zh.out;omega
      have hpj:=HPJ.out
      rw[Tp.Dh n.kids (i+j) hij,show m+(Tp.cost Tp.en disk σ f' n.kids[i+j]+Tp.costs Tp.en disk σ f' (n.kids.drop (i+j+1)))=m+Tp.costs Tp.en disk σ f' (n.kids.drop (i+j+1))+Tp.cost Tp.en disk σ f' n.kids[i+j]by omega]at hpj
      have hon:=Xw.out
      rw[Tp.Dh n.kids (i+j) hij,show r+(Tp.cost Tp.rd disk σ f' n.kids[i+j]+Tp.costs Tp.rd disk σ f' (n.kids.drop (i+j+1)))=r+Tp.costs Tp.rd disk σ f' (n.kids.drop (i+j+1))+Tp.cost Tp.rd disk σ f' n.kids[i+j]by omega]at hon
      have hcall:=HIH.out (d+1) (n.kids[i+j]'hij) (m+Tp.costs Tp.en disk σ f' (n.kids.drop (i+j+1))) qj q1 b1 Yj (r+Tp.costs Tp.rd disk σ f' (n.kids.drop (i+j+1))) wr (by omega) hvj hpj hon
      rw[show((d+1:Nat):Int)=(d:Int)+1 by omega]at hcall
      have uy:=Lib.hid hcall
      have hwd:IntKind.i64.wrap ((d:Int)+1)=(d:Int)+1:=IntWalk.i64_in _ (by omega)
      have hwj:IntKind.i64.wrap ((j:Int)+1)=(j:Int)+1:=IntWalk.i64_in _ (by omega)
      have acs:(j:Int)<(L:Nat):=by omega
      generalize n.kids[i+j]'hij=kid at*
      have HGT:=Lib.hid hgt
      have HGF:=Lib.hid hgf
      clear hcall hon hpj hvj hgt hgf
      go_wp2_with fail
      refine Calls.mono uy.out ?_
      rintro e w4 ⟨rfl,ou,hf4,Y4,hP4,hY4⟩
      have hF4:Fr (fun k=>S k\/Y k) w w4:=HFJ.out.go hf4 (fun k a=>by
       rcases a with a | a
       ·exact .inl (.inl a)
       ·rcases HYJ.out k a with a | a
        ·exact .inl (.inr a)
        ·exact .inr (Nat.le_trans HW3.out a))
      have hz4:=hf4.size
      have Xx:∀k,Y4 k->Y k\/W.heap.size<=k:=fun k a=>by
       rcases hY4 k a with a | a
       ·exact HYJ.out k a
       ·exact .inr (Nat.le_trans HBJ.out.1 a)
      have HF4:=Lib.hid hF4
      have vN:=Lib.hid ou
      have HP4:=Lib.hid hP4
      have HY4:=Lib.hid Xx
      have HB4:=Lib.hid (show W.heap.size<=w4.heap.size/\w4.heap[bb]? =w2.heap[bb]? from⟨Nat.le_trans HBJ.out.1 hz4,(hf4.block bb hbl (fun a=>by
       rcases a with a | a
       ·exact HM.out.far (Nat.le_trans hsz HBW.out) a
       ·rcases HYJ.out bb a with a | a
        ·exact absurd (HV.out.lt HP.out a) (Nat.not_lt.2 HBW.out)
        ·exact absurd Zh.out (Nat.not_lt.2 a))).trans HBJ.out.2⟩)
      clear ou hf4 hP4 hY4 hF4 Xx
      cases b1 with
      |true=>
       go_wp2
       go_roundg (L-(j+1))
       case measure=>omega
       case rel=>exact⟨j+1,q1,Y4,by go_num,by omega,Nat.le_refl _,Lib.hid (HGT.out (by simp)),HP4,HY4,vN,HF4,HB4⟩
      |false=>
       obtain⟨rfl,rfl⟩:=HGF.out rfl
       have aZ:=Lib.hid (show Qd S B t u TM root r σ P m q1 false Y w (.returned (.tuple #[.bool false, .int .i64 0])) w4 from⟨rfl,vN.out.less HM.out (by omega),HF4.out,Y4,HV.out.less HP4.out (Nat.le_add_right _ _),fun k hk=>(HY4.out k hk).imp_right (fun a=>Nat.le_trans HW3.out a)⟩)
       go_wp2
       go_ret2
       exact aZ.out
     ·have acs:¬ (j:Int)<(L:Nat):=by omega
      obtain rfl:j=L:=by omega
      have hend:=HGJ.out
      rw[List.drop_eq_nil_of_le (by have:=HIL.out;omega),Tp.lM]at hend
      simp only[Prod.mk.injEq,Except.ok.injEq]at hend
      obtain⟨rfl,rfl⟩:=hend
      have aZ:=Lib.hid (show Qd S B t u TM root r σ P m qj true Y w (.returned (.tuple #[.bool true, .int .i64 0])) wr from⟨rfl,Xw.out.less HM.out (by omega),HFJ.out,Yj,HV.out.less HPJ.out (Nat.le_add_right _ _),fun k hk=>(HYJ.out k hk).imp_right (fun a=>Nat.le_trans HW3.out a)⟩)
      go_wp2
      go_ret2
      exact aZ.out
end
end Go.Proofs.YteppebbmnojapaaGreatDoor
