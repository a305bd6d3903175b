/- Part of this proof. -/
import Derived.StillTailTactics
import Derived.Test.YteppebbmnojapaaGreatDoorL25
set_option maxRecDepth 100000
set_option maxHeartbeats 8000000
namespace Tp
open Nd En
def kU(n:Node)(j:Nat)(q:Except Int Int × Pst):Except Int Node × Pst:=match q with
 |(.error e,σ1)=>(.error e,σ1)
 |(.ok page,σ1)=>(.ok (swap n j (j+2) [page] []),dK σ1 (n.kids.getD (j+1) 0))
theorem Ii{n:Node}{j:Nat}{q:Except Int Int × Pst}{e:Int}(h:q.1= .error e):kU n j q=(.error e,q.2):=by
 obtain⟨x,σ⟩:=q;simp only at h;subst h;rfl
theorem Kv{n:Node}{j:Nat}{q:Except Int Int × Pst}{i:Int}(h:q.1= .ok i):kU n j q=(.ok (swap n j (j+2) [i] []),dK q.2 (n.kids.getD (j+1) 0)):=by
 obtain⟨x,σ⟩:=q;simp only at h;subst h;rfl
def zq(room:Int)(σ:Pst)(n:Node)(j:Nat)(a b:Node):Except Int Node × Pst:=
 if(a.leaf != b.leaf)=true\/fits (join a (n.keys.getD j ⟨#[]⟩) b)=false then(.ok n,σ)else kU n j (dY room σ (n.kids.getD j 0) (join a (n.keys.getD j ⟨#[]⟩) b))
theorem Tj{room:Int}{disk:aA}{σ:Pst}{n kid:Node}{i d:Nat}(hd:¬24<=d)(hk:σ.view disk (n.kids.getD i 0)=some kid)(h80:80<=size kid):iE room disk σ n i d=(.ok n,σ):=by
 unfold iE
 rw[if_neg hd,hk]
 simp only
 rw[if_pos h80]
theorem Kw{room:Int}{disk:aA}{σ:Pst}{n kid:Node}{i d:Nat}(hd:¬24<=d)(hk:σ.view disk (n.kids.getD i 0)=some kid)(h80:¬80<=size kid)(h3:(iE room disk σ n i d).1≠ .error 3):
  ∃a b,σ.view disk (n.kids.getD (sib n i) 0)=some a/\σ.view disk (n.kids.getD (sib n i+1) 0)=some b/\iE room disk σ n i d=zq room σ n (sib n i) a b:=by
 unfold iE at h3 ⊢
 rw[if_neg hd,hk]at h3 ⊢
 simp only at h3 ⊢
 rw[if_neg h80]at h3 ⊢
 cases ha:σ.view disk (n.kids.getD (sib n i) 0)with
 |none=>rw[ha]at h3;exact absurd rfl h3
 |some a=>
  rw[ha]at h3
  simp only at h3 ⊢
  cases hb:σ.view disk (n.kids.getD (sib n i+1) 0)with
  |none=>rw[hb]at h3;exact absurd rfl h3
  |some b=>
   refine⟨a,b,rfl,rfl, ?_⟩
   simp only
   unfold zq
   split
   ·rfl
   ·cases dY room σ (n.kids.getD (sib n i) 0) (join a (n.keys.getD (sib n i) ⟨#[]⟩) b)with
    |mk q σ1=>cases q<;>rfl
theorem WW{n:Node}{i:Nat}(hi:i<n.kids.length)(h2:1<n.kids.length):sib n i+1<n.kids.length/\((i+1=n.kids.length/\sib n i+1=i)\/(i+1≠n.kids.length/\sib n i=i)):=by
 unfold sib
 split<;>omega
end Tp
namespace Go.Proofs.YteppebbmnojapaaGreatDoor
open Go.RowKit Go.Shelf
def Is.box(base:Nat):Is base:=⟨none,fun v W=>∃g,base<=g/\v= .pointer (some ⟨g,0,none⟩)/\Blk W g 146 #[.bool false, .slice none 0 0, .slice none 0 0, .slice none 0 0],fun _ _ _ _ ⟨g,h0,h1,h2⟩ hf hS=>⟨g,h0,h1,hf.blk h2 (fun a=>by have:=hS g a;omega)⟩⟩
def Is.node2(base lo:Nat)(hlo:base<=lo)(n:Nd.Node):Is base:=⟨none,fun v W=>NF lo W v n,fun _ _ _ _ h hf hS=>h.fr hf (fun k a=>by have:=(hS k a).1;omega)⟩
section
variable {a:Act}{o:Oper}{x y z:Operand}{w:World}{ad:Addr}{v:Value}{R:Value->World->Prop}
theorem pz{ty:TypeId}{n g:Nat}{cs:Array Value}(hT:lW ty n)(ho:o.op= .load ty x)(hx:a.eval x= .pointer (some ⟨g,0,none⟩))(hB:Blk w g ty cs)(hn:cs.size=n):(execOp a.eval o).run Tryz.prog w= .ok (.value (.agg cs)) w:=by
 unfold execOp
 simp only[ho,hx,Instr.loadAt,Instr.sureAddr,Sem.run_bind,Sem.run_pure,Result.andThen_ok,kP hT hB hn]
theorem Og(ho:o.op= .alloc 146):(execOp a.eval o).run Tryz.prog w= .ok (.value (.pointer (some ⟨w.heap.size,0,none⟩))) (w.alloc (.cells #[.bool false, .slice none 0 0, .slice none 0 0, .slice none 0 0] 146)):=by
 unfold execOp
 simp only[ho]
 simp[go_sem]
theorem Ky{f:FuncId}{t t' t'':TypeId}{v' v'':Value}(hE:∀args w,(callFunc f args).run Tryz.prog w= .ok (.enter f args) w)(ho:o.op= .call { callee:= .value (.func f),args:= #[x,y,z],argTypes:= #[t,t',t''] })(hx:a.eval x=v)(hy:a.eval y=v')(hz:a.eval z=v''):(execOp a.eval o).run Tryz.prog w= .ok (.enter f #[v,v',v'']) w:=by
 obtain⟨dst,op,type,pos,after,guard⟩:=o
 simp only at ho
 subst ho
 rw[execOp_call_go]
 have e:(#[]++Array.map a.eval #[x,y,z]++ #[]:Array Value)= #[v,v',v'']:=by simp[hx,hy,hz]
 rw[e]
 exact hE _ _
end
def oq(ops:Array Oper):Nat->Nat->Nat->Bool
 |0,_,_=>false
 |f+1,j,i=>depOn ops j i||(List.range ops.size).any fun k=>depOn ops j k&&oq ops f k i
theorem qw{ops:Array Oper}{L:Array Bool}(hcl:∀j i,L.getD j false=true->depOn ops j i=true->L.getD i false=true):∀f j i,L.getD j false=true->oq ops f j i=true->L.getD i false=true
 |0,_,_,_,h=>by simp[oq]at h
 |f+1,j,i,hj,h=>by
  rw[oq,Bool.or_eq_true]at h
  rcases h with h | h
  ·exact hcl j i hj h
  ·rw[List.any_eq_true]at h
   obtain⟨k,_,h⟩:=h
   rw[Bool.and_eq_true]at h
   exact qw hcl f k i (hcl j k hj h.1) h.2
structure WX(mk:(Nat->Value)->Act)(val:Value->Nat->Value)(ops:Array Oper)(c:Nat)(w:World)(R:Value->World->Prop)(L:Array Bool)(a:Act)(W:World):Prop where
 sz:L.size=ops.size
 closed:∀j i,L.getD j false=true->depOn ops j i=true->L.getD i false=true
 act:∃u v,a=mk u/\(∀i,i<ops.size->L.getD i false=true->u i=val v i)/\(L.getD c false=false->W=w)/\(L.getD c false=true->R v W)
section
variable {Q:Exit->Act->World->Prop}{ops:Array Oper}{w:World}
theorem Tm{md:Region.Mode}(mk:(Nat->Value)->Act)(val:Value->Nat->Value)(c:Nat)(R:Value->World->Prop)(hmd:md= .any)(hc:c<ops.size)
  (hlow:((List.range ops.size).all fun i=>((ops[i]?).map fun o=>o.after.toList.all fun e=> !Region.binds .any e||decide (e.on<i)).getD true)=true)
  (hgd:ops.toList.all (fun o=>o.guard.isNone)=true)
  (hpre:((List.range c).all fun i=>oq ops ops.size c i)=true) (hpost:((List.range ops.size).all fun i=>decide (i<=c)||oq ops ops.size i c)=true)
  (hval:∀v v' i,i<c->val v i=val v' i) (hvc:∀v,val v c=v)
  (hstep:∀i o,i≠c->ops[i]? =some o->∀u v W,(i<c->W=w)->(c<i->R v W)->(∀j,depOn ops i j=true->u j=val v j)->((execOp (mk u).eval o).run Tryz.prog W= .ok (.value (val v i)) W\/((execOp (mk u).eval o).run Tryz.prog W= .ok .skip W/\val v i=undef))/\(mk u).put o.dst (val v i)=mk (fun j=>if j=i then val v i else u j))
  (hcall:∀o,ops[c]? =some o->∀u v,(∀j,j<c->u j=val v j)->∃f args,(execOp (mk u).eval o).run Tryz.prog w= .ok (.enter f args) w/\Calls Tryz.prog f args w fun e w'=>∃x,e= .returned x/\R x w'/\(mk u).put o.dst x=mk (fun j=>if j=c then x else u j))
  (hend:∀u v W,R v W->(∀i,i<ops.size->u i=val v i)->Q .normal (mk u) W):
  ∀fuel L a W,WX mk val ops c w R L a W->L.toList.count false<=fuel->wpAny Tryz.prog md ops Q fuel L a W:=by
 subst hmd
 have hdone:∀L a W,WX mk val ops c w R L a W->Region.ready .any ops L= []->Q .normal a W:=by
  rintro L a W ⟨hs,hcl,u,v,rfl,hu,h0,h1⟩ hr
  have hall:=sV hr hs hlow
  exact hend u v W (h1 (hall c hc)) (fun i hi=>hu i hi (hall i hi))
 intro fuel
 induction fuel with
 |zero=>
  intro L a W hI hcn
  have hr:Region.ready .any ops L= []:=by
   cases hr:Region.ready .any ops L with
   |nil=>rfl
   |cons i r=>
    have hm:=iO (md:= .any) (ops:=ops) (L:=L) (i:=i) (by rw[hr];exact List.mem_cons_self ..)
    have hL:i<L.size:=by have:=hI.sz;omega
    have h2:=hm.2.1
    have h3:L[i]=false:=by simpa[Array.getD,hL]using h2
    have h4:L.toList.count false=0:=by omega
    rw[List.count_eq_zero]at h4
    exact absurd (by rw[<-h3];exact Array.mem_toList_iff.2 (Array.getElem_mem hL)) h4
  exact⟨hr,hdone L a W hI hr⟩
 |succ fuel ih=>
  intro L a W hI hcn
  refine⟨hdone L a W hI,fun i hi=> ?_⟩
  have hm:=iO hi
  have hL:i<L.size:=by have:=hI.sz;omega
  have h3:L[i]=false:=by simpa[Array.getD,hL]using hm.2.1
  have h3':L.getD i false=false:=by simpa[Array.getD,hL]using h3
  have hcnt:(L.setIfInBounds i true).toList.count false<=fuel:=by
   have h5:(L.setIfInBounds i true).toList=L.toList.set i true:=by simp
   rw[h5,List.count_set (by simpa using hL)]
   have h6:L.toList[i]'(by simpa using hL)=false:=by simpa using h3
   rw[h6]
   have h7:0<L.toList.count false:=List.count_pos_iff.2 (by rw[<-h3];exact Array.mem_toList_iff.2 (Array.getElem_mem hL))
   simp
   simp at hcn h7
   omega
  obtain⟨hs,hcl,u,v,rfl,hu,h0,h1⟩:=hI
  obtain⟨o,ho⟩:∃o,ops[i]? =some o:=⟨_,Array.getElem?_eq_getElem hm.1⟩
  have hg:o.guard=none:=by
   have:=List.all_eq_true.1 hgd o (Array.mem_toList_iff.2 (Array.mem_of_getElem? ho))
   simpa using this
  have aj:∀j,depOn ops i j=true->L.getD j false=true/\j<ops.size:=by
   intro j hj
   unfold depOn at hj
   rw[ho]at hj
   simp only[Option.map_some,Option.getD_some,List.any_eq_true,Bool.and_eq_true,beq_iff_eq]at hj
   obtain⟨e,he,hbd,rfl⟩:=hj
   have h1:=hm.2.2 o ho e he hbd
   refine⟨h1, ?_⟩
   have h2:e.on<L.size:=by
    by_cases h:e.on<L.size
    ·exact h
    ·simp[Array.getD,h]at h1
   omega
  have hcl':∀j i',(L.setIfInBounds i true).getD j false=true->depOn ops j i'=true->(L.setIfInBounds i true).getD i' false=true:=by
   intro j i' hj hd2
   by_cases h2:i=i'
   ·rw[<-h2];exact qX hL
   ·rw[iU h2]
    by_cases hji:i=j
    ·subst hji;exact(aj i' hd2).1
    ·rw[iU hji]at hj;exact hcl j i' hj hd2
  have hreach:∀k,oq ops ops.size i k=true->L.getD k false=true:=by
   intro k hk
   cases hn:ops.size with
   |zero=>omega
   |succ f=>
    rw[hn,oq,Bool.or_eq_true]at hk
    rcases hk with hk | hk
    ·exact(aj k hk).1
    ·rw[List.any_eq_true]at hk
     obtain⟨j,_,hk⟩:=hk
     rw[Bool.and_eq_true]at hk
     exact qw hcl f j k (aj j hk.1).1 hk.2
  unfold wpOp
  rw[ho]
  simp only
  rw[if_pos (by simp[Region.wanted,hg])]
  by_cases hic:i=c
  ·subst hic
   have hW:W=w:=h0 h3'
   subst hW
   have hall:∀j,j<i->u j=val v j:=fun j hj=>hu j (by omega) (hreach j (List.all_eq_true.1 hpre j (List.mem_range.2 hj)))
   obtain⟨f,args,hr,hC⟩:=hcall o ho u v hall
   refine .inl ?_
   unfold Oper.wp
   rw[hr,Oper.upon_enter]
   refine Calls.mono hC ?_
   rintro e w' ⟨x,rfl,hx,hp⟩
   simp only
   rw[hp]
   refine ih _ _ _ ⟨by simp[hs],hcl',_,x,rfl,fun j hj hlj=> ?_,fun hcf=>(by rw[qX hL]at hcf;cases hcf),fun _=>hx⟩ hcnt
   by_cases hji:j=i
   ·subst hji;rw[if_pos rfl,hvc]
   ·rw[if_neg hji]
    rw[iU (Ne.symm hji)]at hlj
    by_cases hlt:j<i
    ·rw[hu j hj hlj];exact hval v x j hlt
    ·have h4:=List.all_eq_true.1 hpost j (List.mem_range.2 hj)
     rw[Bool.or_eq_true]at h4
     rcases h4 with h4 | h4
     ·have:=of_decide_eq_true h4;omega
     ·have:=qw hcl _ _ _ hlj h4
      rw[h3']at this;cases this
  ·have hpr:i<c->W=w:=fun hlt=>h0 (by
    cases hcd:L.getD c false with
    |false=>rfl
    |true=>
     have:=qw hcl _ _ _ hcd (List.all_eq_true.1 hpre i (List.mem_range.2 hlt))
     rw[h3']at this;cases this)
   have hpo:c<i->R v W:=fun hlt=>h1 (by
    have h4:=List.all_eq_true.1 hpost i (List.mem_range.2 hm.1)
    rw[Bool.or_eq_true]at h4
    rcases h4 with h4 | h4
    ·have:=of_decide_eq_true h4;omega
    ·exact hreach c h4)
   obtain⟨hr,hp⟩:=hstep i o hic ho u v W hpr hpo (fun j hj=>hu j (aj j hj).2 (aj j hj).1)
   have hnext:∀a',a'=(mk u).put o.dst (val v i)->wpAny Tryz.prog .any ops Q fuel (L.setIfInBounds i true) a' W:=by
    rintro a' rfl
    rw[hp]
    refine ih _ _ _ ⟨by simp[hs],hcl',_,v,rfl,fun j hj hlj=> ?_,fun hcf=> ?_,fun hcf=> ?_⟩ hcnt
    ·by_cases hji:j=i
     ·subst hji;rw[if_pos rfl]
     ·rw[if_neg hji]
      rw[iU (Ne.symm hji)]at hlj
      exact hu j hj hlj
    ·rw[iU hic]at hcf;exact h0 hcf
    ·rw[iU hic]at hcf;exact h1 hcf
   refine .inl ?_
   unfold Oper.wp
   rcases hr with hr | ⟨hr,he⟩
   ·rw[hr,Oper.upon_value];exact hnext _ rfl
   ·rw[hr,Oper.upon_skip];exact hnext _ (by rw[he])
theorem uD{id:Nat}{a:Act}(c:Nat)(mk:(Nat->Value)->Act)(val:Value->Nat->Value)(R:Value->World->Prop)
  (hm:Tryz.prog.follows .mixedOrders=true) (hc:c<ops.size)
  (hlow:((List.range ops.size).all fun i=>((ops[i]?).map fun o=>o.after.toList.all fun e=> !Region.binds .any e||decide (e.on<i)).getD true)=true)
  (hgd:ops.toList.all (fun o=>o.guard.isNone)=true)
  (hpre:((List.range c).all fun i=>oq ops ops.size c i)=true) (hpost:((List.range ops.size).all fun i=>decide (i<=c)||oq ops ops.size i c)=true)
  (hval:∀v v' i,i<c->val v i=val v' i) (hvc:∀v,val v c=v)
  (ha:∃u,a=mk u)
  (hstep:∀i o,i≠c->ops[i]? =some o->∀u v W,(i<c->W=w.drew)->(c<i->R v W)->(∀j,depOn ops i j=true->u j=val v j)->((execOp (mk u).eval o).run Tryz.prog W= .ok (.value (val v i)) W\/((execOp (mk u).eval o).run Tryz.prog W= .ok .skip W/\val v i=undef))/\(mk u).put o.dst (val v i)=mk (fun j=>if j=i then val v i else u j))
  (hcall:∀o,ops[c]? =some o->∀u v,(∀j,j<c->u j=val v j)->∃f args,(execOp (mk u).eval o).run Tryz.prog w.drew= .ok (.enter f args) w.drew/\Calls Tryz.prog f args w.drew fun e w'=>∃x,e= .returned x/\R x w'/\(mk u).put o.dst x=mk (fun j=>if j=c then x else u j))
  (hend:∀u v W,R v W->(∀i,i<ops.size->u i=val v i)->Q .normal (mk u) W):(Code.region id ops true).wp Tryz.prog Q a w:=by
 refine wp_region_any hm (Tm (w:=w.drew) mk val c R rfl hc hlow hgd hpre hpost hval hvc hstep hcall hend _ _ _ _ ⟨by simp, ?_, ?_⟩ ?_)
 ·intro j i hj
  by_cases h:j<ops.size<;>simp[Array.getD,h]at hj
 ·obtain⟨u,rfl⟩:=ha
  refine⟨u,undef,rfl,fun i hi h=>by simp[Array.getD,hi]at h,fun _=>rfl,fun h=>by simp[Array.getD,hc]at h⟩
 ·simp
end
def PZ(v:Value)(i:Nat):Value:=match v with
 | .tuple vs=>vs.getD i undef
 |_=>undef
section
variable {a:Act}{o:Oper}{x y z:Operand}{w:World}{ad:Addr}{v:Value}
theorem Zt{v0 v1:Value}(ho:o.op= .extract x 0)(hx:a.eval x= .tuple #[v0,v1]):(execOp a.eval o).run Tryz.prog w= .ok (.value v0) w:=by
 unfold execOp
 simp only[ho,hx]
 simp[go_sem]
theorem Zu{v0 v1:Value}(ho:o.op= .extract x 1)(hx:a.eval x= .tuple #[v0,v1]):(execOp a.eval o).run Tryz.prog w= .ok (.value v1) w:=by
 unfold execOp
 simp only[ho,hx]
 simp[go_sem]
theorem vJ{b off n c i:Nat}(ho:o.op= .indexAddr 49 x y)(hx:a.eval x= .slice (some ⟨b,off,none⟩) n c)(hy:a.eval y= .int .i64 i)(hi:i<n):(execOp a.eval o).run Tryz.prog w= .ok (.value (.pointer (some ⟨b,off+i,none⟩))) w:=by
 unfold execOp
 simp only[ho,hx,hy]
 have h1:(i:Int)<n:=by omega
 simp[go_sem,h1]
theorem Cm(ho:o.op= .load 3 x)(hx:a.eval x= .pointer (some ad))(hc:w.cell? ad=some v):(execOp a.eval o).run Tryz.prog w= .ok (.value v) w:=by
 unfold execOp
 simp only[ho,hx]
 simp[go_sem,hc]
theorem WY(ho:o.op= .load 29 x)(hx:a.eval x= .pointer (some ad))(hc:w.cell? ad=some v):(execOp a.eval o).run Tryz.prog w= .ok (.value v) w:=by
 unfold execOp
 simp only[ho,hx]
 simp[go_sem,hc]
theorem Zv(ho:o.op= .nilCheck x)(hx:a.eval x= .pointer (some ad)):(execOp a.eval o).run Tryz.prog w= .ok (.value (.pointer (some ad))) w:=by
 unfold execOp
 simp only[ho,hx]
 simp[go_sem]
theorem Zw{b:Nat}(ho:o.op= .fieldAddr 134 x 0)(hx:a.eval x= .pointer (some ⟨b,0,none⟩)):(execOp a.eval o).run Tryz.prog w= .ok (.value (.pointer (some ⟨b,0,none⟩))) w:=by
 unfold execOp
 simp only[ho,hx]
 simp[go_sem]
theorem abN{i j:Int}(ho:o.op= .binOp .add 3 x y 3)(hx:a.eval x= .int .i64 i)(hy:a.eval y= .int .i64 j):(execOp a.eval o).run Tryz.prog w= .ok (.value (.int .i64 (IntKind.i64.wrap (i+j)))) w:=by
 unfold execOp
 simp only[ho,hx,hy]
 simp[go_sem]
end
end Go.Proofs.YteppebbmnojapaaGreatDoor
