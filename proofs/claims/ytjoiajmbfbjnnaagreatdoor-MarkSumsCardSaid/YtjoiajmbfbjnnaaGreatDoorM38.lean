/- Part of this proof. -/
import Derived.Test.YtjoiajmbfbjnnaaGreatDoorM35
set_option maxRecDepth 100000
set_option maxHeartbeats 8000000
namespace Go.Proofs.YtjoiajmbfbjnnaaGreatDoor
open Go.RowKit Go.Shelf Go.Maps
theorem DkC.raw{D:Dk}{n:Nat}{c:Int->Option (Nat × Bs)}(h:DkC D n c){id:Int}(hid:noPage n id=false){t:Bs}(hb:BadPg id t):
  D.wroteE=0/\D.wrote id t=D.put id t/\DkC (D.put id t) n (fun j=>if j=id then none else c j):=by
 have hl:=h.ok.left
 have hb2:¬id<2/\¬ (n:Int)<=id:=by simpa[noPage]using hid
 have hsz:=h.ok.size
 have hself:(D.put id t).get id=t:=by unfold Dk.get Dk.put;simp
 have hoth:∀ {i:Int},i≠id->(D.put id t).get i=D.get i:=fun {i} e=>by unfold Dk.get Dk.put;simp[e]
 refine⟨by unfold Dk.wroteE;rw[hl,if_neg (by decide)],by unfold Dk.wrote;rw[hl,if_neg (by decide),if_neg (by decide)],⟨hsz,hl,h.ok.down,fun j hj=> ?_⟩,⟨h.well.sure,fun x hx=> ?_⟩,fun i hi hn=> ?_⟩
 ·by_cases e:j=id
  ·subst e
   exact .inl ⟨by rw[hself];exact hb,by rw[if_pos rfl]⟩
  ·have hq:=h.ok.page j hj
   unfold PageIs at hq ⊢
   rw[hoth e,if_neg e]
   exact hq
 ·rcases List.mem_append.1 (show x∈D.pend++ [(id,t)]from hx)with hx | hx
  ·exact h.well.pend x hx
  ·obtain rfl:=List.mem_singleton.1 hx
   exact⟨hb.1,by show 0<=id;omega,by show id<(D.sure.length:Int);omega⟩
 ·show(D.put id t).get i=(doneL D.sure (D.pend++ [(id,t)])).getD i.toNat []
  rw[doneL_snoc]
  have hs:=h.sees i hi hn
  by_cases e:i=id
  ·subst e
   rw[hself,List.getD_eq_getElem?_getD,List.getElem?_set_self (by rw[doneL_len];omega)]
   rfl
  ·rw[hoth e,hs,List.getD_eq_getElem?_getD,List.getD_eq_getElem?_getD,List.getElem?_set_ne (by show id.toNat≠i.toNat;omega)]
theorem ht_low{w w':World}{B:Nat}(hT:HT w)(hB:0<B)(h:Below B w w'):HT w':=by
 have hb:=h.mono (show 1<=B from hB)
 refine⟨Nat.lt_of_lt_of_le hT.1 hb.size,fun i hi=> ?_⟩
 rw[<-hT.2 i hi]
 exact hb.cell (p:=⟨0,i,none⟩) (Nat.zero_lt_one)
def hole(disk:Tp.Disk)(i:Int):Tp.Disk:=fun j=>if j=i then none else disk j
section
variable {F F':FFile}{n N r:Nat}{disk:Tp.Disk}{w w':World}{i:Int}
structure RawE(F:FFile)(n:Nat)(disk:Tp.Disk)(i:Int)(N r:Nat)(w:World)(F':FFile)(w':World):Prop where
 same:F'.B=F.B/\F'.f=F.f/\F'.d=F.d/\F'.s=F.s/\F'.m=F.m/\F'.k=F.k+1
 ready:FReady F' n (hole disk i) (N+1) r w'
 bad:PageIs F'.D i none
 below:Below F.B w w'
 kept:Kept w w'
 oth:OthM F.m w w'
theorem fr_raw(h:FReady F n disk N r w)(hk:F.k+1000<maxLen)(hN:N<1000000)(hi:2<=i/\i<n)(t:Bs)(hb:BadPg i t):
  Calls Tryz.prog 39 #[.pointer (some ⟨F.d,0,none⟩), .int .i64 i,str t] w fun e w'=>e= .returned (.int .i64 0)/\∃F',RawE F n disk i N r w F' w':=by
 obtain⟨⟨hn,⟨c,c1,c2⟩,hw,hp⟩,⟨R,r1,r2,hA⟩,hT,b0,bw⟩:=h
 have hno:noPage n i=false:=by unfold noPage;simp;omega
 obtain⟨e1,e2,e3⟩:=(c1.rd R).raw hno hb
 have hat:({ F.D with reads:=R } :Dk).at_ i=0:=by rw[at_eq (by rw[(c1.rd R).ok.size];exact hno),(c1.rd R).ok.down];rfl
 refine(write_ok2 hA.dkat i t hat hb.1 (by omega) (by exact(show IdOk i by unfold IdOk;omega).wf) (by show 0<=F.D.writes/\F.D.writes<_;omega) (by show F.D.left<=_;rw[c1.ok.left];decide) (by show F.D.pend.length<=_;omega) bw).mono ?_
 rintro e w' ⟨rfl,⟨s,m,pv,Dm,pv',Dm',h1,h2,h3⟩,h4,h5⟩
 rw[e2]at h2
 have hcs:dkCells s m pv { F.D with reads:=R } =dkCells F.s F.m F.pv { F.D with reads:=R } :=by
  have:=h1.self.symm.trans hA.disk.self
  injection this with this
  injection this
 unfold dkCells at hcs
 simp only[Array.mk.injEq,List.cons.injEq,Value.slice.injEq,Value.map.injEq,Option.some.injEq,Addr.mk.injEq,and_true]at hcs
 obtain⟨rfl,rfl,rfl⟩:=hcs
 refine⟨by rw[e1], { F with k:=F.k+1,pv:=pv',Dm:=Dm',D:=({ F.D with reads:=R } :Dk).put i t },⟨rfl,rfl,rfl,rfl,rfl,rfl⟩,⟨⟨hn,⟨_,e3,fun id x hx=> ?_⟩, ?_, ?_⟩,⟨R,r1,r2, ?_⟩,ht_low hT b0 h4,b0,Nat.le_trans bw h4.size⟩, ?_,h4,h5,h3⟩
 ·unfold hole at hx
  split at hx
  ·cases hx
  ·rename_i hne
   rw[if_neg hne]
   exact c2 id x hx
 ·show 0<=F.D.writes+1/\F.D.writes+1<=((N+1:Nat):Int)
  omega
 ·show(F.D.pend++ [(i,t)]).length<=N+1
  rw[List.length_append]
  simp only[List.length_cons,List.length_nil]
  omega
 ·exact⟨hA.le,h5 _ _ _ hA.self (by decide) (by decide),h2⟩
 ·have:=e3.ok.page i hno
  rwa [if_pos rfl]at this
theorem RawE.own{base:Nat}{v:Value}{l:List Run}(h:RawE F n disk i N r w F' w')(hl:Own w base v l):Own w' base v l:=by
 rcases hl with⟨h4,h5 | ⟨g,cap,cur,hv,hb,hh,q⟩⟩
 ·exact⟨h4, .inl h5⟩
 ·exact⟨h4, .inr ⟨g,cap,cur,hv,hb,h.kept g 106 _ hh (by decide) (by decide),q⟩⟩
theorem RawE.txn{t m k:Nat}{free:List Run}{pages:Int}{D:DataW Value}(h:RawE F n disk i N r w F' w')(ht:Txn w t m F.f n free pages k D)(hm:m≠F.m):Txn w' t m F.f n free pages k D:=by
 obtain⟨h1,⟨v,h2,h3⟩,es,c,h4,h5⟩:=ht
 obtain⟨R',r1,r2,r3⟩:=h.ready.file
 have hs:=r3.fileOf
 obtain⟨cc,c1,c2⟩:=h.ready.on.c
 rw[c1.ok.size,h.same.2.1]at hs
 exact⟨hs,⟨v,h.kept t _ _ h2 (by decide) (by decide),h.own h3⟩,es,c,h.oth m _ h4 rfl hm,h5⟩
end
structure TMo(F:FFile)(B t m n K:Nat)(fl:List Run)(P:Int)(disk:Tp.Disk)(r:Nat)(σ:Tp.Pst)(w:World):Prop where
 eq:σ=Tp.start fl P
 pg:2<=P/\P<=max (n:Int) 2
 few:(Tp.start fl P).free.length<=80000
 low:t<B/\m<B/\B<=w.heap.size
 sep:∀g,F.Blks g->g<B/\g≠t/\g≠m
 base:0<F.B/\F.B<=B
 ht:HT w
 txn:∃k D,Txn w t m F.f n (Tp.start fl P).free P k D/\∀id,Maps.has D (.int .i64 id)=false
 on:OnDisk F n (Rp.minus [(2,P-1)] fl) disk
 file:∃R:Int,0<=R/\R+(r:Nat)<=900000000000/\F.At w R
 free:∃v,w.cell? ⟨t,1,none⟩=some v/\∀g,v.ownBlock=some g->g<K
section
variable {F:FFile}{B t m n K r r':Nat}{fl:List Run}{P:Int}{disk:Tp.Disk}{σ:Tp.Pst}{w w':World}{S':Nat->Prop}
theorem TMd.tmo(h:TMd F B t m n (Rp.minus [(2,P-1)] fl) disk r (Tp.start fl P) w):TMo F B t m n w.heap.size fl P disk r (Tp.start fl P) w:=by
 obtain⟨v,hv⟩:=h.tmr.free
 obtain⟨D,h4,h5,_⟩:=h.mem.txn
 have hp:=h.mem.ap.pg
 have hs:=ap_small h.mem.ap
 exact⟨rfl,⟨hp.1,hp.2.1⟩,hs.1,h.low,fun g hg=>by have:=h.sep g hg;have:=h.low;omega,⟨h.base.1,by have:=h.base;have:=h.low;omega⟩,h.ht,⟨_,D,h4,fun id=>by rw[h5.has];exact decide_eq_false List.not_mem_nil⟩,h.on,h.file,v,hv⟩
theorem TMo.up(h:TMo F B t m n K fl P disk r σ w)(hf:Fr S' w w')(hS:FarS B w S'):TMo F B t m n K fl P disk r σ w':=by
 obtain⟨e1,p1,p2,h1,h2,h3,h4,⟨k,D,g3,g4⟩,h6,⟨R,r1,r2,r3⟩,v,v1,v2⟩:=h
 have hnb:∀g,F.Blks g->¬S' g:=fun g hg a=>by have:=(h2 g hg).1;have:=(hS g a).1;omega
 exact⟨e1,p1,p2,⟨h1.1,h1.2.1,Nat.le_trans h1.2.2 hf.size⟩,h2,h3,h4.fr hf (fun a=>by have:=(hS 0 a).1;omega),⟨k,D,g3.fr hf (fun b a=>(hS b a).2),g4⟩,h6,⟨R,r1,r2,r3.fr hf hnb⟩,v,(hf.cell (p:=⟨t,1,none⟩) (Nat.lt_of_lt_of_le h1.1 h1.2.2) (fun a=>by have:=(hS t a).1;omega)).trans v1,v2⟩
theorem TMo.less(h:TMo F B t m n K fl P disk r σ w)(hr:r'<=r):TMo F B t m n K fl P disk r' σ w:=by
 obtain⟨e1,p1,p2,h1,h2,h3,h4,h5,h6,⟨R,r1,r2,r3⟩,h7⟩:=h
 exact⟨e1,p1,p2,h1,h2,h3,h4,h5,h6,⟨R,r1,by omega,r3⟩,h7⟩
theorem TMo.below(h:TMo F B t m n K fl P disk r σ w)(hb:Below w.heap.size w w'):TMo F B t m n K fl P disk r σ w':=h.up (S':=fun _=>False) (.of_below hb) (fun _ a=>a.elim)
theorem TMo.turn(h:TMo F B t m n K fl P disk r σ w){g:Nat}(hf:Fr (fun k=>k=g) w w')(hg:B<=g)(hfr:∀b,(∃v,w.cell? ⟨t,1,none⟩=some v/\v.ownBlock=some b)->(∃cs,w.heap[b]? =some (.cells cs 106 (0,0)))->b≠g):TMo F B t m n K fl P disk r σ w':=by
 obtain⟨e1,p1,p2,h1,h2,h3,h4,⟨k,D,g3,g4⟩,h6,⟨R,r1,r2,r3⟩,v,v1,v2⟩:=h
 have hnb:∀b,F.Blks b->¬b=g:=fun b hb a=>by have:=(h2 b hb).1;omega
 have key:∀ {b:Nat} {o:Obj},w.heap[b]? =some o->b≠g->w'.heap[b]? =some o:=fun {b o} ho hn=>(hf.block b (Array.getElem?_eq_some_iff.1 ho).1 hn).trans ho
 have hR:=r3.fr hf hnb
 refine⟨e1,p1,p2,⟨h1.1,h1.2.1,Nat.le_trans h1.2.2 hf.size⟩,h2,h3,h4.fr hf (fun a=>by omega),⟨k,D, ?_,g4⟩,h6,⟨R,r1,r2,hR⟩,v,(hf.cell (p:=⟨t,1,none⟩) (Nat.lt_of_lt_of_le h1.1 h1.2.2) (fun(a:t=g)=>by have:=h1.1;omega)).trans v1,v2⟩
 obtain⟨_,⟨v',q4,q5⟩,es',ck,q6,q7⟩:=g3
 refine⟨h6.size ▸ hR.fileOf,⟨v',key q4 (by omega), ?_⟩,es',ck,key q6 (by omega),q7⟩
 rcases q5 with⟨e1,e2 | ⟨b,cap,cur,hv,hb,hh,hr⟩⟩
 ·exact⟨e1, .inl e2⟩
 ·exact⟨e1, .inr ⟨b,cap,cur,hv,hb,key hh (hfr b ⟨v',(Blk.cell q4 1),by rw[hv];rfl⟩ ⟨cur,hh⟩),hr⟩⟩
def getO(o:Option (Nat × Bs))(k:Nat):Value:=match o with
 |none=> .tuple #[.string ⟨#[]⟩, .int .i64 3]
 |some (k',b)=>if k'=k then .tuple #[.string (Nd.str b), .int .i64 0]else .tuple #[.string ⟨#[]⟩, .int .i64 3]
theorem TMo.read(h:TMo F B t m n K fl P disk (r+1) σ w){id:Int}{o:Option (Nat × Bs)}(hi:2<=id/\id<P)(hfr:Rp.has (Tp.start fl P).free id=false)(ho:PageIs F.D id o)(k:Nat):
  Calls Tryz.prog 146 #[.pointer (some ⟨t,0,none⟩), .int .i64 id, .int .u8 k] w fun e w'=>e= .returned (getO o k)/\TMo F B t m n K fl P disk r σ w'/\Fr (fun g=>g=F.d) w w':=by
 obtain⟨e1,p1,p2,h1,h2,h3,h4,⟨kk,D,g3,g4⟩,h6,⟨R,r1,r2,r3⟩,v,v1,v2⟩:=h
 have hn:=h6.n
 have hnn:id<(n:Int):=by omega
 have hno:noPage F.D.sure.length id=false:=by unfold noPage;rw[h6.size];simp;omega
 have hdt:F.d≠t:=(h2 F.d (.inr (.inl rfl))).2.1
 refine(tget_D t m n _ _ _ D id k (by exact(show IdOk id by unfold IdOk;omega).wf) (g4 id) hi.1 hi.2 hfr p2 w g3 r3 (h6.fine ⟨r1,by omega⟩) h4 h3.1 (by omega) o (fun _ _=>at_reads ho)).mono ?_
 rintro e w' ⟨rfl,q1,q2⟩
 have hrd:Dk.readD { F.D with reads:=R } id= { F.D with reads:=R+1 } :=by
  unfold Dk.readD
  rw[if_neg (by show ¬noPage F.D.sure.length id=true;rw[hno];decide),if_neg (by show ¬F.D.down=true;rw[h6.down];decide)]
 rw[hrd]at q1
 have hR:F.At w' (R+1):=q1
 refine⟨?_,⟨e1,p1,p2,⟨h1.1,h1.2.1,Nat.le_trans h1.2.2 q2.size⟩,h2,h3,h4.fr q2 (fun a=>by have:=r3.disk.le.1;omega),⟨kk,D,g3.read q2 r3 hR h6.size,g4⟩,h6,⟨R+1,by omega,by omega,hR⟩,v,(q2.cell (p:=⟨t,1,none⟩) (Nat.lt_of_lt_of_le h1.1 h1.2.2) (fun a=>hdt a.symm)).trans v1,v2⟩,q2⟩
 show Ending.returned (.tuple #[str (frB F.D.sure.length F.D.down id k o).1, .int .i64 (frB F.D.sure.length F.D.down id k o).2])=_
 have e2:∀o':Option (Nat × Bs),frB F.D.sure.length F.D.down id k o'=match o' with | none=>([],3) | some (k',b)=>if k'=k then(b,0)else([],3):=fun o'=>by
  unfold frB
  rw[hno,h6.down]
  cases o'<;>rfl
 rw[e2]
 clear ho e2
 unfold getO
 cases o with
 |none=>rfl
 |some x=>obtain⟨k',b⟩:=x;simp only;split<;>rfl
theorem TMo.seen(h:TMo F B t m n K fl P disk r σ w){id:Int}{x:Nd.Node}(hv:σ.view disk id=some x):Nd.fits x=true/\PageIs F.D id (some (Nd.kind x,Nd.enc x))/\(2<=id/\id<P)/\Rp.has (Tp.start fl P).free id=false:=by
 have he:=h.eq
 subst he
 rcases view_cases hv with⟨a1,_⟩ | ⟨a1,a2,a3,a4,a5⟩
 ·exact absurd a1 List.not_mem_nil
 ·obtain⟨q1,q2,q3⟩:=h.on.page _ _ a5
  exact⟨q1,q3,⟨a2,a3⟩,a4⟩
theorem mrd_o(F:FFile){B t:Nat}(hd:F.d<B)(m n K:Nat)(hK:B<=K)(fl:List Run)(P:Int)(disk:Tp.Disk):Mrd (fun g=>g=F.d) B t K disk (TMo F B t m n K fl P disk) where
 low:=fun k a=>by subst a;exact hd
 size:=fun h=>h.low.2.2
 up:=fun h hf hS=>h.up hf hS
 less:=fun h hr=>h.less hr
 ht:=fun h hv=>by
  obtain⟨q1,_,q3,_⟩:=h.seen hv
  have:=h.pg
  have:=h.on.n
  exact⟨q1,by unfold IdOk;omega⟩
 get:=fun {r σ w id x} h hv k h1 h2=>by
  obtain⟨_,q2,q3,q4⟩:=h.seen hv
  refine(h.read q3 q4 q2 k).mono ?_
  rintro e w' ⟨rfl,hb,hf⟩
  have hk:Nd.kind x=k:=by
   unfold Nd.kind
   cases hl:x.leaf with
   |true=>rw[if_pos rfl,h1 hl]
   |false=>rw[if_neg (by decide),h2 hl]
  unfold getO
  simp only
  rw[if_pos hk]
  exact⟨rfl,hb,hf⟩
 getN:=fun {r σ w id x} h hv h2=>by
  obtain⟨_,q2,q3,q4⟩:=h.seen hv
  refine(h.read q3 q4 q2 1).mono ?_
  rintro e w' ⟨rfl,hb,hf⟩
  have hk:Nd.kind x≠1:=by
   unfold Nd.kind
   rw[h2]
   decide
  unfold getO
  simp only
  rw[if_neg hk]
  exact⟨rfl,hb,hf⟩
 map:=fun {r σ w w' g es c} h hg hm hf=>h.turn hf hg (fun b _ ⟨cs,hc⟩ e=>by subst e;rw[hm]at hc;cases hc)
 run:=fun {r σ w w' g cs} h hg hm hf=>h.turn hf (Nat.le_trans hK hg) (fun b ⟨v,q1,q2⟩ _ e=>by
  obtain⟨v',p1,p2⟩:=h.free
  rw[q1]at p1
  cases p1
  have:=p2 b q2
  omega)
def BadO(F:FFile)(fl:List Run)(P x:Int):Prop:=PageIs F.D x none/\(2<=x/\x<P)/\Rp.has (Tp.start fl P).free x=false
theorem bad_o:BadGet (fun g=>g=F.d) t (TMo F B t m n K fl P disk) (BadO F fl P):=fun {r σ w id} h hb k _=>by
 refine(h.read hb.2.1 hb.2.2 hb.1 k).mono ?_
 rintro e w' ⟨rfl,q1,q2⟩
 exact⟨rfl,q1,q2⟩
end
structure MkF(w0:World)(f0 d0 n N j r t:Nat)(disk:Tp.Disk)(fl:List Run)(P:Int)(bad:Int->Prop)(W:World):Prop where
 ex:∃ (F:FFile) (B m K:Nat),F.f=f0/\F.d=d0/\F.k+j<maxLen/\FOn F n disk N/\TMo F B t m n K fl P disk r (Tp.start fl P) W/\(B<=K/\K<=W.heap.size)/\(w0.heap.size<=F.B/\m≠F.m)/\∀x,bad x->BadO F fl P x
 below:Below w0.heap.size w0 W
section
variable {w0 W W':World}{f0 d0 n N j r r' t:Nat}{disk:Tp.Disk}{fl:List Run}{P:Int}{bad:Int->Prop}
theorem MkF.less(h:MkF w0 f0 d0 n N j r t disk fl P bad W)(hr:r'<=r):MkF w0 f0 d0 n N j r' t disk fl P bad W:=by
 obtain⟨⟨F,B,m,K,e1,e2,e3,e4,e5,e6,e7,e8⟩,h1⟩:=h
 exact⟨⟨F,B,m,K,e1,e2,e3,e4,e5.less hr,e6,e7,e8⟩,h1⟩
theorem MkF.below_(h:MkF w0 f0 d0 n N j r t disk fl P bad W)(hb:Below W.heap.size W W'):MkF w0 f0 d0 n N j r t disk fl P bad W':=by
 obtain⟨⟨F,B,m,K,e1,e2,e3,e4,e5,e6,e7,e8⟩,h1⟩:=h
 exact⟨⟨F,B,m,K,e1,e2,e3,e4,e5.below hb,⟨e6.1,Nat.le_trans e6.2 hb.size⟩,e7,e8⟩,h1.trans (hb.mono h1.size)⟩
def MfEnd(w0:World)(f0 d0 n N j r t:Nat)(disk:Tp.Disk)(fl:List Run)(P:Int)(bad:Int->Prop)(cs rs:List Int)(W:World)(e:Ending)(w':World):Prop:=
 ((∃v met out,e= .returned (.tuple #[v, .int .i64 0])/\Own w' W.heap.size v (Rp.norm (out.map runOf))/\Mk.Inv ((Tp.start fl P).view disk) (· ∈cs) rs met [] out/\∀x∈out,∃n,(Tp.start fl P).view disk x=some n)\/
  (e= .returned (.tuple #[.slice none 0 0, .int .i64 3])/\∃x∈cs,(Tp.start fl P).view disk x=none/\bad x))/\
 MkF w0 f0 d0 n N j r t disk fl P bad w'/\Fr (fun k=>k=d0) W w'
theorem mkf_mark(cs rs:List Int)(h:MkF w0 f0 d0 n N j (r+2*cs.length) t disk fl P bad W)(hC:Closed ((Tp.start fl P).view disk) bad cs)(hR:∀x∈rs,x=0\/x∈cs)(hl:cs.length<=50000/\rs.length<=50000)(A:Option Addr)(c:Nat)(hls:LS intE W W.heap.size A rs):
  Calls Tryz.prog 33 #[.pointer (some ⟨t,0,none⟩), .slice A rs.length c] W (MfEnd w0 f0 d0 n N j r t disk fl P bad cs rs W):=by
 obtain⟨⟨F,B,m,K,e1,e2,e3,e4,e5,e6,e7,e8⟩,h1⟩:=h
 have hdB:=(e5.sep F.d (.inr (.inl rfl))).1
 have M:=mrd_o F (t:=t) hdB m n K e6.1 fl P disk
 have hdw:F.B<=F.d:=by
  obtain⟨R,_,_,hA⟩:=e5.file
  exact hA.disk.le.1
 refine(mtrees_any M (bad:=bad) (fun {r σ w id} h hb k hk=>bad_o h (e8 id hb) k hk) cs rs hC hR hl.1 hl.2 A c hls e5 e6.2).mono ?_
 rintro e w' ⟨hf,⟨v,met,out,rfl,hown,hinv,hgood,htm⟩ | ⟨rfl,hx,htm⟩⟩
 ·exact⟨.inl ⟨v,met,out,rfl,hown,hinv,hgood⟩,⟨⟨F,B,m,K,e1,e2,e3,e4,htm.less (by omega),⟨e6.1,Nat.le_trans e6.2 hf.size⟩,e7,e8⟩,h1.trans (hf.low h1.size (fun k hk=>by subst hk;omega))⟩,e2 ▸ hf⟩
 ·exact⟨.inr ⟨rfl,hx⟩,⟨⟨F,B,m,K,e1,e2,e3,e4,htm.less (by omega),⟨e6.1,Nat.le_trans e6.2 hf.size⟩,e7,e8⟩,h1.trans (hf.low h1.size (fun k hk=>by subst hk;omega))⟩,e2 ▸ hf⟩
theorem MkF.keepF(h:MkF w0 f0 d0 n N j r t disk fl P bad W)(hf:Fr (fun k=>k=d0) W W'){α:Type}{E:Enc α}{ty:TypeId}{base:Nat}{v:Value}{l:List α}(hl:LO E ty W base v l)(hty:ty≠132):LO E ty W' base v l:=lo_frb hl hf fun g hg e=>by
 obtain⟨cs,hB,_⟩:=hl.blk_ hg
 obtain⟨⟨F,B,m,K,e1,e2,e3,e4,e5,e6,e7,e8⟩,h1⟩:=h
 obtain⟨R,_,_,hA⟩:=e5.file
 subst e2
 exact hB.ne_ hA.disk.self hty e
theorem MkF.ownF(h:MkF w0 f0 d0 n N j r t disk fl P bad W)(hf:Fr (fun k=>k=d0) W W'){base:Nat}{v:Value}{l:List Run}(hl:Own W base v l):Own W' base v l:=by
 obtain⟨⟨F,B,m,K,e1,e2,e3,e4,e5,e6,e7,e8⟩,h1⟩:=h
 obtain⟨R,_,_,hA⟩:=e5.file
 subst e2
 rcases hl with⟨h4,h5 | ⟨g,cap,cur,hv,hb,hh,q⟩⟩
 ·exact⟨h4, .inl h5⟩
 ·have hB:Blk W g 106 cur:=hh
  exact⟨h4, .inr ⟨g,cap,cur,hv,hb,hf.blk hB (fun e=>hB.ne_ hA.disk.self (by decide) e),q⟩⟩
end
section
variable {w0 W W':World}{f0 d0 n N r r' t u D T K k b0 R0:Nat}{disk:Tp.Disk}{fl:List Run}{P root:Int}{es:List Ent}{tok:Nat}{ids:List Int}
structure BegF(w0:World)(f0 d0 n N r t:Nat)(disk:Tp.Disk)(fl:List Run)(P:Int)(W:World):Prop where
 ex:∃ (F:FFile) (B m:Nat),F.f=f0/\F.d=d0/\F.k+1000<maxLen/\FOn F n disk N/\TMd F B t m n (Rp.minus [(2,P-1)] fl) disk r (Tp.start fl P) W/\F.d<B/\w0.heap.size<=m/\w0.heap.size<=F.B
 tl:w0.heap.size<=t
 low:LowD disk fl P
 p:2<=P/\P<=n
 below:Below w0.heap.size w0 W
theorem Beg.toF(h:Beg w0 f0 d0 n N r t disk P W):BegF w0 f0 d0 n N r t disk [] P W:=⟨h.ex,h.tl,h.low,h.p,h.below⟩
theorem BegF.less(h:BegF w0 f0 d0 n N r t disk fl P W)(hr:r'<=r):BegF w0 f0 d0 n N r' t disk fl P W:=by
 obtain⟨⟨F,B,m,e1,e2,e3,e4,e5,e6⟩,h1,h2,h3,h4⟩:=h
 exact⟨⟨F,B,m,e1,e2,e3,e4,e5.less hr,e6⟩,h1,h2,h3,h4⟩
theorem BegF.mk_(h:BegF w0 f0 d0 n N r t disk fl P W):MkF w0 f0 d0 n N 1000 r t disk fl P (fun _=>False) W:=by
 obtain⟨⟨F,B,m,e1,e2,e3,e4,e5,e6,e7,e8⟩,h1,h2,h3,h4⟩:=h
 have hm:m≠F.m:=by have:=(e5.sep F.m (.inr (.inr (.inr (.inl rfl))))).2;omega
 exact⟨⟨F,B,m,_,e1,e2,e3,e4,e5.tmo,⟨e5.low.2.2,Nat.le_refl _⟩,⟨e8,hm⟩,fun x hx=>hx.elim⟩,h4⟩
structure GngF(w0:World)(f0 d0 n N t u:Nat)(disk:Tp.Disk)(fl:List Run)(P:Int)(D T K k b0 R0:Nat)(es:List Ent)(W:World):Prop where
 ex:∃ (F:FFile) (a:TAd),F.f=f0/\F.d=d0/\F.k+1000<maxLen/\w0.heap.size<=F.B/\FOn F n disk N/\a.t=t/\a.u=u/\InG w0 F n a (Rp.minus [(2,P-1)] fl) disk P D T K k b0 R0 es W
 low:LowD disk fl P
 p:2<=P/\P+D<=n
theorem GngF.below(h:GngF w0 f0 d0 n N t u disk fl P D T K k b0 R0 es W):Below w0.heap.size w0 W:=by
 obtain⟨⟨F,a,_,_,_,_,_,_,_,h1⟩,_⟩:=h
 exact h1.below
theorem GngF.hb(h:GngF w0 f0 d0 n N t u disk fl P D T K k b0 R0 es W):b0<=W.heap.size:=by
 obtain⟨⟨F,a,_,_,_,_,_,_,_,h1⟩,_⟩:=h
 exact h1.hb
theorem GngF.up(h:GngF w0 f0 d0 n N t u disk fl P D T K k b0 R0 es W)(hb:Below W.heap.size W W'):GngF w0 f0 d0 n N t u disk fl P D T K k b0 R0 es W':=by
 obtain⟨⟨F,a,e1,e2,e3,e4,e5,e6,e7,h1⟩,h2,h3⟩:=h
 exact⟨⟨F,a,e1,e2,e3,e4,e5,e6,e7,h1.up hb⟩,h2,h3⟩
theorem GngF.skip(h:GngF w0 f0 d0 n N t u disk fl P D T K k b0 R0 es W):GngF w0 f0 d0 n N t u disk fl P D T K (k+1) b0 R0 es W:=by
 obtain⟨⟨F,a,e1,e2,e3,e4,e5,e6,e7,h1⟩,h2,h3⟩:=h
 exact⟨⟨F,a,e1,e2,e3,e4,e5,e6,e7,h1.skip⟩,h2,h3⟩
theorem begF_tree(D T K:Nat)(h:BegF w0 f0 d0 n N (288*K+R0) t disk fl P W)(hn:n<=16384)(hv:Tp.VerAt disk root es tok ids)(htl:tok<=T)(hTK:T+K<=1000)(hPD:P+D<=n):
  Calls Tryz.prog 19 #[.pointer (some ⟨t,0,none⟩), .int .i64 root] W fun e w'=>∃u,e= .returned (.pointer (some ⟨u,0,none⟩))/\GngF w0 f0 d0 n N t u disk fl P D T K 0 w'.heap.size R0 es w'/\Below W.heap.size W w'/\W.heap.size<=u:=by
 obtain⟨⟨F,B,m,e1,e2,e3,e4,e5,e6,e7,e8⟩,h1,h2,h3,h4⟩:=h
 have hdB:F.B<=F.d:=by
  obtain⟨R,_,_,hA⟩:=e5.file
  exact hA.disk.le.1
 refine(fst_new (root:=root) e5 e6 hv (by omega) (fun x y h=>by obtain⟨cc,c1,c2⟩:=e4.c;exact(c2 x y h).2.1) hn h2).mono ?_
 rintro e w5 ⟨a,rfl,q1,q2,hst5,hu5,b5⟩
 refine⟨a.u,rfl,⟨⟨F,a,e1,e2,e3,e8,e4,q1,rfl,InG.start (hst5.less (by omega)) (by omega) (Int.le_refl _) (fun x hx=> ?_) (h4.trans (b5.mono h4.size))⟩,h2,h3.1,hPD⟩,b5,hu5⟩
 rcases hx with(rfl | rfl | rfl) | rfl
 ·rw[q1];exact h1
 ·rw[q2];exact e7
 ·omega
 ·exact Nat.le_trans h4.size hu5
theorem gngF_put(h:GngF w0 f0 d0 n N t u disk fl P D T K k b0 R0 es W)(hk:k<K)(hT:T+K<=1000)(hD:6*(T+K)+90<=5*D){s v:ByteArray}(hm:En.may s v=true):
  Calls Tryz.prog 27 #[.pointer (some ⟨u,0,none⟩), .string s, .string v] W fun e W'=>e= .returned (.int .i64 0)/\GngF w0 f0 d0 n N t u disk fl P D T K (k+1) b0 R0 (En.put es s v) W'/\KeepL W W':=by
 obtain⟨⟨F,a,e1,e2,e3,e4,e5,e6,rfl,h1⟩,h2,h3⟩:=h
 refine(ing_put h1 hk hT hD (nums_minus h3.1 fl) h3.2 hm).mono ?_
 rintro e W' ⟨rfl,g1,g2,g3⟩
 exact⟨rfl,⟨⟨F,a,e1,e2,e3,e4,e5,e6,rfl,g1⟩,h2,h3⟩,g3⟩
theorem gngF_del(h:GngF w0 f0 d0 n N t u disk fl P D T K k b0 R0 es W)(hk:k<K)(hT:T+K<=1000)(hD:6*(T+K)+90<=5*D)(s:ByteArray):
  Calls Tryz.prog 67 #[.pointer (some ⟨u,0,none⟩), .string s] W fun e W'=>∃b:Bool,e= .returned (.tuple #[.bool b, .int .i64 0])/\GngF w0 f0 d0 n N t u disk fl P D T K (k+1) b0 R0 (En.del es s) W'/\KeepL W W':=by
 obtain⟨⟨F,a,e1,e2,e3,e4,e5,e6,rfl,h1⟩,h2,h3⟩:=h
 refine(ing_del h1 hk hT hD (nums_minus h3.1 fl) h3.2 s).mono ?_
 rintro e W' ⟨b,rfl,g1,g2,g3⟩
 exact⟨b,rfl,⟨⟨F,a,e1,e2,e3,e4,e5,e6,rfl,g1⟩,h2,h3⟩,g3⟩
structure DonF(w0:World)(f0 d0 n N r t:Nat)(disk:Tp.Disk)(fl:List Run)(P:Int)(W:World):Prop where
 ex:∃ (F:FFile) (m k:Nat) (D:DataW Value),F.f=f0/\F.d=d0/\F.k+1000<maxLen/\FReady F n disk N r W/\w0.heap.size<=F.B/\Txn W t m F.f n fl P k D/\m≠F.m
 low:LowD disk fl P
 p:2<=P/\P<=n
 few:fl.length<=50000
 below:Below w0.heap.size w0 W
theorem DonF.below_(h:DonF w0 f0 d0 n N r t disk fl P W)(hb:Below W.heap.size W W'):DonF w0 f0 d0 n N r t disk fl P W':=by
 obtain⟨⟨F,m,k,D,e1,e2,e3,e4,e5,e6,e7⟩,h1,h2,h3,h4⟩:=h
 exact⟨⟨F,m,k,D,e1,e2,e3,e4.below hb,e5,e6.below hb,e7⟩,h1,h2,h3,h4.trans (hb.mono h4.size)⟩
theorem DonF.row{b:Nat}{v:Value}{l:List Int}(h:DonF w0 f0 d0 n N r t disk fl P W)(ho:LO intE 3 W b v l)(hb:w0.heap.size<=b)(h0:0<w0.heap.size)(hg:W.grownBy W' v.ownBlock):DonF w0 f0 d0 n N r t disk fl P W':=by
 obtain⟨⟨F,m,k,D,e1,e2,e3,e4,e5,e6,e7⟩,h1,h2,h3,h4⟩:=h
 refine⟨⟨F,m,k,D,e1,e2,e3,e4.fr (Fr.of_grown hg) (fun g hgB hS=> ?_) (fun hS=> ?_),e5,e6.fr (Fr.of_grown hg) (fun g a o hk=> ?_),e7⟩,h1,h2,h3,h4.trans ((Below.refl _ W).grown hg h4.size (fun k e=>Nat.le_trans hb (World.ownsRow.lt ho k e).1))⟩
 ·obtain⟨cs,hB⟩:=own_obj ho hS
  exact e4.nblk hB (by decide) (by decide) (by decide) (by decide) hgB
 ·have:=(World.ownsRow.lt ho 0 hS).1
  omega
 ·obtain⟨cs,hcs⟩:=own_obj ho a
  have e:o= .cells cs 3:=by have:=hk.symm.trans hcs;injection this
  subst e
  exact⟨fun cs' e=>by injection e with _ e;revert e;decide,fun cs' e=>by injection e with _ e;revert e;decide,fun cs' e=>by injection e with _ e;revert e;decide,fun cs' e=>by injection e with _ e;revert e;decide,fun _ _ e=>by cases e⟩
theorem donF_free(h:DonF w0 f0 d0 n N r t disk fl P W):Calls Tryz.prog 38 #[.pointer (some ⟨t,0,none⟩)] W (RunsEnd fl W):=by
 obtain⟨⟨F,m,k,D,e1,e2,e3,e4,e5,e6,e7⟩,h1,h2,h3,h4⟩:=h
 exact tfree_any t m F.f n k fl P D W e6 (by omega)
theorem donF_pages(h:DonF w0 f0 d0 n N r t disk fl P W):Calls Tryz.prog 30 #[.pointer (some ⟨t,0,none⟩)] W fun e w'=>e= .returned (.int .i64 P)/\w'=W:=by
 obtain⟨⟨F,m,k,D,e1,e2,e3,e4,e5,e6,e7⟩,h1,h2,h3,h4⟩:=h
 exact tpages_any t m F.f n k fl P D W e6
theorem donF_new(h:DonF w0 f0 d0 n N r t disk fl P W)(hN:N<1000000)(A:Option Addr)(c:Nat)(hr:RS W W.heap.size A fl):
  Calls Tryz.prog 20 #[.pointer (some ⟨f0,0,none⟩), .slice A fl.length c, .int .i64 P] W fun e w'=>∃t',e= .returned (.pointer (some ⟨t',0,none⟩))/\BegF w0 f0 d0 n N r t' disk fl P w'/\Below W.heap.size W w':=by
 obtain⟨⟨F,m,k,D,rfl,rfl,e3,e4,e5,e6,_⟩,h1,h2,h3,h4⟩:=h
 refine(fr_begin e4 hN A c fl P P (by unfold pagesN;omega) hr h3 h1).mono ?_
 rintro e w' ⟨t',m',rfl,hM,⟨q1,q2,q3⟩,b⟩
 exact⟨t',rfl,⟨⟨F,_,m',rfl,rfl,e3,e4.on,hM,q3,Nat.le_trans h4.size q2,e5⟩,Nat.le_trans h4.size q1,h1,h2,h4.trans (b.mono h4.size)⟩,b⟩
def GfF(w0:World)(f0 d0 n N t u:Nat)(disk:Tp.Disk)(P:Int)(D T K R0:Nat)(es:List Ent)(W:World)(e:Ending)(w':World):Prop:=
 e= .returned (.int .i64 0)/\∃ (disk':Tp.Disk) (root P':Int) (fl':List Run) (tok:Nat) (ids:List Int),DonF w0 f0 d0 n (N+600) R0 t disk' fl' P' w'/\tok<=T+K/\P'<=P+D/\Tp.VerAt disk' root es tok ids/\
  (∀ (root':Int) (es':List Ent) (tok':Nat) (ids':List Int),Tp.VerAt disk root' es' tok' ids'->Tp.VerAt disk' root' es' tok' ids')/\KeepL W w'/\
  Calls Tryz.prog 29 #[.pointer (some ⟨u,0,none⟩)] w' fun e w''=>e= .returned (.int .i64 root)/\w''=w'
theorem gngF_flush(h:GngF w0 f0 d0 n N t u disk fl P D T K k b0 R0 es W)(hk:k<=K)(hN:N+2000<90000)(hT:T+K<=480):
  Calls Tryz.prog 28 #[.pointer (some ⟨t,0,none⟩)] W (GfF w0 f0 d0 n N t u disk P D T K R0 es W):=by
 obtain⟨⟨F,a,e1,e2,e3,e4,e5,rfl,rfl,h1⟩,hl,h3⟩:=h
 obtain⟨root,σ,ids,tok,hst,htk,hpg⟩:=h1.at_
 have hb:=h1.below
 have m2:=hst.rt.few
 have m3:=hst.mineLen
 have hpp:=hst.ap.pg
 refine(fst_flush2 (N:=N) (hst.less (r':=R0) (by omega)) e5 hN e3 (by omega)).mono ?_
 rintro e w' ⟨rfl,F',disk',hfl⟩
 obtain⟨f1,f2,f3,f4⟩:=hfl.same
 have hsz:F'.D.sure.length=n:=by obtain⟨cc,c1,c2⟩:=hfl.ready.on.c;exact c1.ok.size
 obtain⟨R,_,_,hA⟩:=hfl.ready.file
 obtain⟨m,k',D',hx,hxm⟩:=hfl.tx.txn2 hA hsz
 refine⟨rfl,disk',root,σ.pages,σ.free,tok,ids,⟨⟨F',m,k',D',by rw[f2,e1],by rw[f3,e2],by rw[f4];decide,⟨?_,hfl.ready.file,hfl.ready.ht,hfl.ready.b0,hfl.ready.bw⟩,by rw[f1];exact e4,hx,hxm⟩,hfl.low,⟨hpp.1,by omega⟩,hfl.fl,hb.trans (hfl.below.mono e4)⟩,by omega,hpg,hfl.ver,hfl.old,hfl.keepL,troot_any a.u root 0 w' hfl.self⟩
 obtain⟨q1,q2,q3,q4⟩:=hfl.ready.on
 exact⟨q1,q2,⟨q3.1,by omega⟩,by omega⟩
theorem begF_flush(h:BegF w0 f0 d0 n N r t disk fl P W)(hN:N+2000<90000):
  Calls Tryz.prog 28 #[.pointer (some ⟨t,0,none⟩)] W fun e w'=>e= .returned (.int .i64 0)/\DonF w0 f0 d0 n N r t disk (Tp.start fl P).free P w'/\KeepL W w':=by
 obtain⟨⟨F,B,m,e1,e2,e3,e4,e5,e6,e7,e8⟩,h1,h2,h3,h4⟩:=h
 have hmm:m≠F.m:=by have:=(e5.sep F.m (.inr (.inr (.inr (.inl rfl))))).2;omega
 obtain⟨R,r1,r2,r3⟩:=e5.file
 obtain⟨D,t1,t2⟩:=e5.mem.txn
 have hml:(Tp.start fl P).mine= []:=rfl
 refine(tmd_flush e5 e4 hN e3 (fun id hid=>absurd hid List.not_mem_nil) (by rw[hml];simp)).mono ?_
 rintro e w' ⟨rfl,F',hf⟩
 have hT:=hf.txn r3 t1 hmm
 have hfd:flushed disk (Tp.start fl P)=disk:=by
  funext id
  unfold flushed
  rw[if_neg (by rw[hml];exact List.not_mem_nil)]
 have hon:=hf.on
 rw[hfd,hml]at hon
 obtain⟨R',q1,q2,q3⟩:=hf.file
 obtain⟨s1,s2,s3,s4,s5,s6,s7,s8⟩:=hf.same
 have hT2:Txn w' t m F.f n (Tp.start fl P).free P _ D:=hT
 have hfew:=free_len e5.mem.ap (by have:=e4.hn;omega)
 have hlow:LowD disk (Tp.start fl P).free P:=fun id x hx=>⟨(h2 id x hx).1,fun hm=>(h2 id x hx).2 (((Rp.meet_ok fl [(2,P-1)]).2 id).1 hm).2.2.1⟩
 have hbw:=hf.below.size
 refine⟨rfl,⟨⟨F',m,_,D,by rw[s2,e1],by rw[s3,e2],by rw[s6];decide,⟨hon,⟨R',q1,q2,q3⟩,hf.ht e5.ht e5.base.1,by rw[s1];exact e5.base.1,by rw[s1];have:=e5.base.2.1;have:=e5.low;omega⟩,by rw[s1];exact e8,by rw[s2];exact hT2,by rw[s5];exact hmm⟩,hlow,h3,hfew,h4.trans (hf.below.mono e8)⟩,fun α E ty base v l hl ht=>hf.row r3 hl (by rcases ht with rfl | rfl | rfl<;>decide) (by rcases ht with rfl | rfl | rfl<;>decide) (by rcases ht with rfl | rfl | rfl<;>decide)⟩
end
section
variable {w0 W W':World}{f0 d0 n N j r r' t:Nat}{disk:Tp.Disk}{fl:List Run}{P i:Int}{bad:Int->Prop}{rs all:List Int}
def VersOf(disk:Tp.Disk)(rs:List Int):Prop:=∀x∈rs,∃es tok ids,Tp.VerAt disk x es tok ids/\tok<=480
def PgOf(disk:Tp.Disk)(rs:List Int)(g:Int->List Int):Prop:=∀x∈rs,(∃es tok,Tp.VerAt disk x es tok (g x))/\(g x).length<=600
theorem VersOf.g{disk:Tp.Disk}{rs:List Int}(h:VersOf disk rs):∃g,PgOf disk rs g:=by
 have h1:∀x,∃ids,x∈rs->(∃es tok,Tp.VerAt disk x es tok ids)/\ids.length<=600:=fun x=>by
  by_cases hx:x∈rs
  ·obtain⟨es,tok,ids,q1,q2⟩:=h x hx
   have:=(ver_few q1).1
   exact⟨ids,fun _=>⟨⟨es,tok,q1⟩,by omega⟩⟩
  ·exact⟨[],fun h=>absurd h hx⟩
 exact⟨fun x=>Classical.choose (h1 x),fun x hx=>Classical.choose_spec (h1 x) hx⟩
theorem PgOf.all_{disk:Tp.Disk}{rs l:List Int}{g:Int->List Int}(h:PgOf disk rs g)(hs:∀x∈l,x∈rs):AllOf disk l (l.flatMap g)/\(l.flatMap g).length<=600*l.length:=by
 refine⟨⟨fun x hx=> ?_,fun x hx=> ?_⟩, ?_⟩
 ·obtain⟨r,hr,hx⟩:=List.mem_flatMap.1 hx
  obtain⟨⟨es,tok,q⟩,_⟩:=h r (hs r hr)
  exact⟨r,es,tok,g r,hr,q,hx,fun y hy=>List.mem_flatMap.2 ⟨r,hr,hy⟩⟩
 ·obtain⟨⟨es,tok,q⟩,_⟩:=h x (hs x hx)
  rcases q with⟨a,_,_⟩ | ⟨hh,s,a,b,c,d,ht,f⟩
  ·exact .inl a
  ·refine .inr (List.mem_flatMap.2 ⟨x,hx, ?_⟩)
   rw[<-b, <-a]
   exact Tp.tr_id ht
 ·induction l with
  |nil=>simp
  |cons x l ih=>
   have h1:=ih fun y hy=>hs y (List.mem_cons_of_mem _ hy)
   have h2:=(h x (hs x List.mem_cons_self)).2
   rw[List.flatMap_cons,List.length_append,List.length_cons]
   omega
theorem VersOf.all_{disk:Tp.Disk}{rs:List Int}(h:VersOf disk rs):∃all,AllOf disk rs all/\all.length<=600*rs.length:=by
 obtain⟨g,hg⟩:=h.g
 exact⟨_,hg.all_ fun _ h=>h⟩
theorem MkF.view(h:MkF w0 f0 d0 n N j r t disk fl P bad W){x:Int}{y:Nd.Node}(hx:disk x=some y):(Tp.start fl P).view disk x=some y/\(2<=x/\x<P/\x<=16384)/\Rp.has (Tp.start fl P).free x=false/\Nd.fits y=true:=by
 obtain⟨⟨F,B,m,K,e1,e2,e3,e4,e5,e6,e7,e8⟩,h1⟩:=h
 obtain⟨q1,q2,q3⟩:=e5.on.page _ _ hx
 obtain⟨a1,a2,a3,a4⟩:=((Rp.minus_ok [(2,P-1)] fl).2 x).1 q2
 have h2:=Rp.mem_two.1 a3
 have hp:=e5.pg
 have hn:=e5.on.n
 have hv:=Tp.start_view (disk:=disk) (l:=fl) h2.1 h2.2 a4
 refine⟨hv.trans hx,⟨h2.1,h2.2,by omega⟩,Rp.has_used fun hm=>a4 (((Rp.meet_ok fl [(2,P-1)]).2 x).1 hm).2.2.1,q1⟩
def MaEnd(w0:World)(f0 d0 n N j r t:Nat)(disk:Tp.Disk)(fl:List Run)(P:Int)(bad:Int->Prop)(all:List Int)(W:World)(e:Ending)(w':World):Prop:=
 ∃v,e= .returned (.tuple #[v, .int .i64 0])/\Own w' W.heap.size v (Rp.norm (all.map runOf))/\MkF w0 f0 d0 n N j r t disk fl P bad w'/\Fr (fun k=>k=d0) W w'
theorem mkf_all(h:MkF w0 f0 d0 n N j (r+2*all.length) t disk fl P bad W)(hall:AllOf disk rs all)(hl:all.length<=50000/\rs.length<=50000)(A:Option Addr)(c:Nat)(hls:LS intE W W.heap.size A rs):
  Calls Tryz.prog 33 #[.pointer (some ⟨t,0,none⟩), .slice A rs.length c] W (MaEnd w0 f0 d0 n N j r t disk fl P bad all W):=by
 have hx:∀x∈all,∃root es tok ids,root∈rs/\Tp.VerAt disk root es tok ids/\x∈ids/\(∀y∈ids,y∈all)/\Tp.VerAt ((Tp.start fl P).view disk) root es tok ids/\∀y∈ids,0<y:=fun x hx=>by
  obtain⟨root,es,tok,ids,q1,q2,q3,q4⟩:=hall.inn x hx
  refine⟨root,es,tok,ids,q1,q2,q3,q4,q2.congr fun y hy=> ?_,fun y hy=> ?_⟩<;>obtain⟨z,hz⟩:=q2.some_ y hy
  ·rw[(h.view hz).1,hz]
  ·have:=(h.view hz).2.1;omega
 have hC:Closed ((Tp.start fl P).view disk) bad all:=by
  refine⟨fun x hxa=> ?_,fun x hxa=> .inl ?_⟩<;>obtain⟨root,es,tok,ids,q1,q2,q3,q4,q5,q6⟩:=hx x hxa
  ·obtain⟨z,hz⟩:=q2.some_ x q3
   have:=(h.view hz).2.1
   unfold IdOk
   omega
  ·rcases q5 with⟨_,_,rfl⟩ | ⟨hh,s,a,rfl,b,d,ht,_⟩
   ·exact absurd q3 List.not_mem_nil
   ·obtain⟨y,y1,y2⟩:=Mk.tr_kids ht x q3
    obtain⟨z,hz⟩:=q2.some_ x q3
    have hzy:z=y:=by
     have:=(h.view hz).1.symm.trans y1
     injection this
    subst hzy
    exact⟨z,y1,fun k hk=> .inr (q4 k (y2 k hk)),(fits_nb (h.view hz).2.2.2).i⟩
 refine(mkf_mark all rs h hC hall.root hl A c hls).mono ?_
 rintro e w' ⟨⟨v,met,out,rfl,hown,hinv,hgood⟩ | ⟨_,x,hxa,hv,_⟩,hM,hf⟩
 ·have hmo:∀x,x∈met ↔ x∈out:=fun x=>by rw[hinv.mem];simp
  have hoa:∀x,x∈out ↔ x∈all:=fun x=>⟨fun ho=>hinv.inn x ((hmo x).2 ho),fun ha=>by
   obtain⟨root,es,tok,ids,q1,q2,q3,q4,q5,q6⟩:=hx x ha
   exact hinv.done q1 q5 q6 x q3⟩
  rw[norm_runs hoa]at hown
  exact⟨v,rfl,hown,hM,hf⟩
 ·obtain⟨root,es,tok,ids,q1,q2,q3,q4,q5,q6⟩:=hx x hxa
  obtain⟨y,hy⟩:=q5.some_ x q3
  rw[hv]at hy
  cases hy
theorem AllOf.hole(h:AllOf disk rs all)(hi:i ∉ all):AllOf (hole disk i) rs all:=by
 refine⟨fun x hx=> ?_,h.root⟩
 obtain⟨root,es,tok,ids,q1,q2,q3,q4⟩:=h.inn x hx
 refine⟨root,es,tok,ids,q1,q2.congr fun y hy=> ?_,q3,q4⟩
 show(if y=i then none else disk y)=disk y
 rw[if_neg (fun(e:y=i)=>hi (e ▸ q4 y hy))]
def MbEnd(w0:World)(f0 d0 n N j r t:Nat)(disk:Tp.Disk)(fl:List Run)(P:Int)(bad:Int->Prop)(W:World)(e:Ending)(w':World):Prop:=
 e= .returned (.tuple #[.slice none 0 0, .int .i64 3])/\MkF w0 f0 d0 n N j r t disk fl P bad w'/\Fr (fun k=>k=d0) W w'
theorem mkf_gone(h:MkF w0 f0 d0 n N j (r+2*all.length) t (hole disk i) fl P bad W)(hall:AllOf disk rs all)(hsee:∀x y,disk x=some y->(2<=x/\x<P/\x<=16384)/\Rp.has (Tp.start fl P).free x=false/\Nd.fits y=true)(hi:i∈all)(hbad:bad i)(hl:all.length<=50000/\rs.length<=50000)(A:Option Addr)(c:Nat)(hls:LS intE W W.heap.size A rs):
  Calls Tryz.prog 33 #[.pointer (some ⟨t,0,none⟩), .slice A rs.length c] W (MbEnd w0 f0 d0 n N j r t (hole disk i) fl P bad W):=by
 have hvo:∀ {x:Int} {y:Nd.Node},x≠i->disk x=some y->(Tp.start fl P).view (hole disk i) x=some y:=fun {x y} hne hx=>by
  obtain⟨q1,q2,q3⟩:=hsee x y hx
  unfold Tp.Pst.view
  rw[if_neg (show x ∉ (Tp.start fl P).mine from List.not_mem_nil),if_pos ⟨q1.1,q1.2.1,q2⟩]
  show(if x=i then none else disk x)=_
  rw[if_neg hne]
  exact hx
 have hvi:(Tp.start fl P).view (hole disk i) i=none:=by
  cases hv:(Tp.start fl P).view (hole disk i) i with
  |none=>rfl
  |some y=>
   rcases view_cases hv with⟨a,_⟩ | ⟨_,_,_,_,a⟩
   ·exact absurd a List.not_mem_nil
   ·unfold hole at a
    rw[if_pos rfl]at a
    cases a
 have hC:Closed ((Tp.start fl P).view (hole disk i)) bad all:=by
  refine⟨fun x hxa=> ?_,fun x hxa=> ?_⟩<;>obtain⟨root,es,tok,ids,q1,q2,q3,q4⟩:=hall.inn x hxa
  ·obtain⟨z,hz⟩:=q2.some_ x q3
   have:=(hsee x z hz).1
   unfold IdOk
   omega
  ·by_cases hx:x=i
   ·subst hx
    exact .inr ⟨hvi,hbad⟩
   ·rcases q2 with⟨_,_,rfl⟩ | ⟨hh,s,a,rfl,b,d,ht,_⟩
    ·exact absurd q3 List.not_mem_nil
    ·obtain⟨y,y1,y2⟩:=Mk.tr_kids ht x q3
     exact .inl ⟨y,hvo hx y1,fun k hk=> .inr (q4 k (y2 k hk)),(fits_nb (hsee x y y1).2.2).i⟩
 refine(mkf_mark all rs h hC hall.root hl A c hls).mono ?_
 rintro e w' ⟨⟨v,met,out,rfl,hown,hinv,hgood⟩ | ⟨rfl,_⟩,hM,hf⟩
 ·exfalso
  have hmo:∀x,x∈met ↔ x∈out:=fun x=>by rw[hinv.mem];simp
  obtain⟨root,es,tok,ids,q1,q2,q3,q4⟩:=hall.inn i hi
  have hio:i∈out:=by
   rcases q2 with⟨_,_,rfl⟩ | ⟨hh,s,rfl,rfl,b,d,ht,_⟩
   ·exact absurd q3 List.not_mem_nil
   ·have hpos:∀y∈s.ids,0<y:=fun y hy=>by
     obtain⟨z,hz,_⟩:=Mk.tr_kids ht y hy
     have:=(hsee y z hz).1
     omega
    have hroot:s.id∈out:=by
     rcases hinv.root _ q1 with a | a
     ·have:=hpos _ (Tp.tr_id ht);omega
     ·exact(hmo _).1 a
    have key:∀x∈s.ids,x∈out/\x∈s.ids:=Mk.tr_all (X:=fun x=>x∈out/\x∈s.ids) (fun x hx z hz k hk=>by
     obtain⟨y,y1,y2⟩:=Mk.tr_kids ht x hx.2
     rw[hz]at y1
     cases y1
     have hks:=y2 k hk
     have hne:x≠i:=fun e=>by
      subst e
      obtain⟨y,hy⟩:=hgood x hx.1
      rw[hvi]at hy
      cases hy
     rcases hinv.kid x hx.1 z (hvo hne hz) k hk with a | a
     ·have:=hpos k hks;omega
     ·exact⟨(hmo _).1 a,hks⟩) ht ⟨hroot,Tp.tr_id ht⟩
    exact(key i q3).1
  obtain⟨y,hy⟩:=hgood i hio
  rw[hvi]at hy
  cases hy
 ·exact⟨rfl,hM,hf⟩
theorem own_kept{w w':World}{base:Nat}{v:Value}{l:List Run}(hl:Own w base v l)(hk:Kept w w'):Own w' base v l:=by
 rcases hl with⟨h4,h5 | ⟨g,cap,cur,hv,hb,hh,q⟩⟩
 ·exact⟨h4, .inl h5⟩
 ·exact⟨h4, .inr ⟨g,cap,cur,hv,hb,hk g 106 _ hh (by decide) (by decide),q⟩⟩
theorem all_has{all:List Int}(hr:∀x∈all,2<=x/\x<=16384)(i:Int):Rp.has (Rp.norm (all.map runOf)) i=decide (i∈all):=by
 have hm:=mem_norm_runs (a:=all) (fun x hx=>by have:=hr x hx;unfold IdOk;omega) i
 by_cases hi:i∈all
 ·rw[decide_eq_true hi]
  have:=hr i hi
  exact(Rp.has_iff _ _).2 ⟨by omega,by unfold Rp.Most;omega,hm.2 hi⟩
 ·rw[decide_eq_false hi]
  exact Rp.has_used fun h=>hi (hm.1 h)
theorem mkf_raw(h:MkF w0 f0 d0 n N (j+1) r t disk fl P (fun _=>False) W)(hj:1000<=j+1)(hN:N<900000)(hi:2<=i/\i<n)(s:Bs)(hb:BadPg i s):
  Calls Tryz.prog 39 #[.pointer (some ⟨d0,0,none⟩), .int .i64 i,str s] W fun e w'=>e= .returned (.int .i64 0)/\MkF w0 f0 d0 n (N+1) j r t (hole disk i) fl P (fun x=>x=i/\i<P/\Rp.has (Tp.start fl P).free i=false) w'/\Kept W w'/\W.heap.size<=w'.heap.size:=by
 obtain⟨⟨F,B,m,K,rfl,rfl,e3,e4,e5,e6,e7,e8⟩,h1⟩:=h
 have hr:FReady F n disk N r W:=⟨e4,e5.file,e5.ht,e5.base.1,by have:=e5.base.2;have:=e5.low.2.2;omega⟩
 refine(fr_raw hr (by omega) (by omega) hi s hb).mono ?_
 rintro e w' ⟨rfl,F',hf⟩
 obtain⟨s1,s2,s3,s4,s5,s6⟩:=hf.same
 obtain⟨k,D,t1,t2⟩:=e5.txn
 have hT:=hf.txn t1 e7.2
 obtain⟨R,r1,r2,hA⟩:=hf.ready.file
 have hz:W.heap.size<=w'.heap.size:=hf.below.size
 have hlow:=hA.low
 obtain⟨v,v1,v2⟩:=e5.free
 have hTt:=hT
 obtain⟨_,⟨v',u1,u2⟩,es,c,u3,u4⟩:=hTt
 have hsep:∀g,F'.Blks g->g<w'.heap.size/\g≠t/\g≠m:=fun g hg=>by
  have hl:=hlow g hg
  rcases hg with e | e | e | e | e
  ·have:=e5.sep F.f (.inl rfl);rw[s2]at e;subst e;exact⟨hl,this.2⟩
  ·have:=e5.sep F.d (.inr (.inl rfl));rw[s3]at e;subst e;exact⟨hl,this.2⟩
  ·have:=e5.sep F.s (.inr (.inr (.inl rfl)));rw[s4]at e;subst e;exact⟨hl,this.2⟩
  ·have:=e5.sep F.m (.inr (.inr (.inr (.inl rfl))));rw[s5]at e;subst e;exact⟨hl,this.2⟩
  ·obtain⟨cs,hB,_⟩:=hA.disk.pend.blk_ e
   refine⟨hl,hB.ne_ u1 (by decide),fun a=> ?_⟩
   subst a
   unfold Blk at hB
   rw[u3]at hB
   cases hB
 have hw2:∀x y,hole disk i x=some y->Rp.Mem (Rp.minus [(2,P-1)] fl) x:=fun x y hx=>by
  unfold hole at hx
  split at hx
  ·cases hx
  ·exact(e5.on.page x y hx).2.1
 refine⟨rfl,⟨⟨F',w'.heap.size,m,w'.heap.size,s2,s3,by omega,hf.ready.on,⟨rfl,e5.pg,e5.few,⟨by have:=e5.low;omega,by have:=e5.low;omega,Nat.le_refl _⟩,hsep,⟨by rw[s1];exact e5.base.1,by rw[s1];have:=e5.base.2;have:=e5.low.2.2;omega⟩,hf.ready.ht,⟨k,D,by rw[s2];exact hT,t2⟩,hf.ready.on.on (by omega) hw2,⟨R,r1,r2,hA⟩,v',u1.cell 1,fun g hg=>(World.ownsRow.lt u2 g hg).2⟩,⟨Nat.le_refl _,Nat.le_refl _⟩,⟨by rw[s1];exact e7.1,by rw[s5];exact e7.2⟩,fun x hx=> ?_⟩,h1.trans (hf.below.mono e7.1)⟩,hf.kept,hz⟩
 obtain⟨rfl,hx2,hx3⟩:=hx
 exact⟨hf.bad,⟨hi.1,hx2⟩,hx3⟩
end
def pr(i:Nat):Int:=2+36*(i:Int)*((i:Int)+1)+18*(i:Int)
theorem pr_step{i:Nat}(h:i<8):pr i+(72*i+90:Nat)=pr (i+1)/\pr (i+1)<=2738:=by
 have:i=0\/i=1\/i=2\/i=3\/i=4\/i=5\/i=6\/i=7:=by omega
 rcases this with rfl | rfl | rfl | rfl | rfl | rfl | rfl | rfl<;>decide
theorem VersOf.snoc{disk disk':Tp.Disk}{rs:List Int}{root:Int}{es:List Ent}{tok:Nat}{ids:List Int}(h:VersOf disk rs)(ho:∀ (root':Int) (es':List Ent) (tok':Nat) (ids':List Int),Tp.VerAt disk root' es' tok' ids'->Tp.VerAt disk' root' es' tok' ids')(hv:Tp.VerAt disk' root es tok ids)(ht:tok<=480):VersOf disk' (rs++ [root]):=fun x hx=>by
 rcases List.mem_append.1 hx with hx | hx
 ·obtain⟨a,b,c,q1,q2⟩:=h x hx
  exact⟨a,b,c,ho _ _ _ _ q1,q2⟩
 ·rw[List.mem_singleton.1 hx]
  exact⟨es,tok,ids,hv,ht⟩
structure OutF(w0:World)(f0 d0 i t:Nat)(root:Int)(rs:List Int)(Ar:Option Addr)(cr:Nat)(W:World):Prop where
 ex:∃disk fl P N es tok ids,BegF w0 f0 d0 3000 N (300000+(8-i)*20000) t disk fl P W/\N<=600*i/\Tp.VerAt disk root es tok ids/\tok<=60*i/\VersOf disk rs/\P<=pr i
 len:rs.length=i
 row:LO intE 3 W w0.heap.size (.slice Ar rs.length cr) rs
def GeEnd(w0:World)(f0 d0 n:Nat)(e:Ending)(w':World):Prop:=
 ∃ (Ar:Option Addr) (cr:Nat) (rs:List Int) (t:Nat) (disk:Tp.Disk) (fl:List Run) (P:Int) (N:Nat),e= .returned (.tuple #[.slice Ar rs.length cr, .pointer (some ⟨t,0,none⟩), .bool true])/\BegF w0 f0 d0 3000 N 300000 t disk fl P w'/\N<=4800/\VersOf disk rs/\rs.length=n/\P<=2738/\LO intE 3 w' w0.heap.size (.slice Ar rs.length cr) rs
theorem grown21_any(A:Option Addr)(c:Nat)(rl:List Sl)(fl:List (List Ent))(w0 w:World)(f d:Nat)(hst:Stg w0 f d 3000 0 500000 noDisk 2 w)(hr:LS slE w0 w0.heap.size A rl)(hlen:fl.length=rl.length)(hx:∀i (h1:i<rl.length) (h2:i<fl.length),fl[i].length=rl[i].2.1/\LS entE w0 w0.heap.size rl[i].1 fl[i])(h8:rl.length<=8)(h60:∀i (h:i<rl.length),rl[i].2.1<=60)(h00:0<w0.heap.size):
  Calls Tryz.prog 37 #[.pointer (some ⟨f,0,none⟩), .slice A rl.length c] w (GeEnd w0 f d rl.length):=by
 have HNW:=Lib.hid (stg_new hst (by decide))
 have HRS:=Lib.hid hr
 have HRL:=Lib.hid hx
 have H60:=Lib.hid h60
 clear hst hr hx h60
 go_enter Tryz.func37,Tryz.ntmps37
 go_wp2_with fail
 refine Calls.mono HNW.out ?_
 rintro e w3 ⟨t,rfl,hbg,b3⟩
 have HS0:Hid (OutF w0 f d 0 t 0 [] none 0 w3):=Lib.hid ⟨⟨noDisk, [],2,0, [],0, [],hbg.toF.less (by omega),Nat.le_refl _,Tp.VerAt.none_ _ _,Nat.le_refl _,fun x hx=>absurd hx List.not_mem_nil,by decide⟩,rfl,LO.nil_ _ _⟩
 clear hbg b3 HNW
 go_wp2
 go_loopg [7,8,9,10] rl.length (fun gg s7 s8 s9 s10 wr=>∃ (i t:Nat) (root:Int) (rs:List Int) (Ar:Option Addr) (cr:Nat),s7= .slice Ar rs.length cr/\s8= .int .i64 root/\s9= .pointer (some ⟨t,0,none⟩)/\s10= .int .i64 (i:Nat)/\i<=rl.length/\rl.length-i<=gg/\Hid (OutF w0 f d i t root rs Ar cr wr))
 case atStart=>exact⟨0,t,0, [],none,0,rfl,rfl,rfl,rfl,Nat.zero_le _,by omega,HS0⟩
 case round=>
  clear HS0
  obtain⟨i,t,root,rs,Ar,cr,rfl,rfl,rfl,rfl,hil,hig,HS⟩:=hrel
  have hwi:IntKind.i64.wrap ((i:Int)+1)=(i:Int)+1:=IntWalk.i64_in _ (by omega)
  by_cases hi:i<rl.length
  ·have hii:(i:Int)<(rl.length:Nat):=by omega
   have hif:i<fl.length:=by omega
   obtain⟨e1,e2⟩:=HRL.out i hi hif
   have hl60:=H60.out i hi
   obtain⟨bb,oo,rfl,hbb,g00⟩:=HRS.out.sl hi
   obtain⟨⟨disk,frl,P,N,es,tok,ids,hst,hN,hver,htok,hrs,hpp⟩,hlr,hrow⟩:=HS.out
   generalize fl[i]=li at*
   generalize rl[i]=sl at*
   obtain⟨Ai,ni,ci⟩:=sl
   simp only at e1 e2 g00 hl60
   subst e1
   have hi8:i<8:=by omega
   have hps:=pr_step hi8
   have HLI:=Lib.hid e2
   have HG0:=Lib.hid g00
   have HTR:=Lib.hid (begF_tree (root:=root) (K:=60) (R0:=300000+(7-i)*20000+2720) (D:=72*i+90) (T:=60*i) (hst.less (by omega)) (by decide) hver htok (by omega) (by omega))
   have HRST:=Lib.hid hrs
   have HROW:=Lib.hid hrow
   have HLR:=Lib.hid hlr
   clear hst hver hrs hrow HS e2 g00 hlr
   go_wp2_with fail
   refine Calls.mono HTR.out ?_
   rintro e w5 ⟨u,rfl,hg5,b5,hu5⟩
   have HROW5:=Lib.hid (HROW.out.below b5)
   obtain⟨b0,hb0⟩:∃b,b=w5.heap.size:=⟨_,rfl⟩
   rw[<-hb0]at hg5
   have HI0:=Lib.hid hg5
   clear hg5 b5 hu5 HTR HROW hb0
   go_wp2
   go_loopg [12] li.length (fun ga s12 wr=>∃ (k:Nat) (es:List Ent),s12= .int .i64 (k:Nat)/\k<=li.length/\li.length-k<=ga/\Hid (GngF w0 f d 3000 N t u disk frl P (72*i+90) (60*i) 60 k b0 (300000+(7-i)*20000+2720) es wr)/\Hid (LO intE 3 wr w0.heap.size (.slice Ar rs.length cr) rs))
   case atStart=>exact⟨0,es,rfl,Nat.zero_le _,by omega,HI0,HROW5⟩
   case round=>
    clear HI0 HROW5
    obtain⟨k,es,rfl,hkl,hkg,HI,HROW⟩:=hrel
    have hwk:IntKind.i64.wrap ((k:Int)+1)=(k:Int)+1:=IntWalk.i64_in _ (by omega)
    have hbl:=HI.out.below
    have g0:=(hbl.cell (p:=⟨bb,oo+i,none⟩) hbb).trans HG0.out
    have hbz:bb<wr.heap.size:=Nat.lt_of_lt_of_le hbb hbl.size
    by_cases hk:k<li.length
    ·have hki:(k:Int)<(li.length:Nat):=by omega
     obtain⟨ba,oa,rfl,hba,k1,k2⟩:=(HLI.out.below hbl).ent hk
     have hbaz:ba<wr.heap.size:=Nat.lt_of_lt_of_le hba hbl.size
     generalize li[k]=x at*
     obtain⟨s,v⟩:=x
     simp only at k1 k2
     have hbA:Below wr.heap.size wr (wr.alloc (.cells #[.string s, .string v] 34)):=(Below.refl _ wr).alloc (Nat.le_refl _) _
     have hXA:=Blk.new wr 34 #[.string s, .string v]
     have HIA:=Lib.hid (HI.out.up hbA)
     have HROWA:=Lib.hid (HROW.out.below hbA)
     have hgb:b0<=wr.heap.size:=HI.out.hb
     have y0:(wr.alloc (.cells #[.string s, .string v] 34)).cell? ⟨wr.heap.size,0,none⟩=some (.string s):=hXA.cell 0
     have y1:(wr.alloc (.cells #[.string s, .string v] 34)).cell? ⟨wr.heap.size,1,none⟩=some (.string v):=hXA.cell 1
     have yl:=hXA.lt
     clear hXA hbA HI HROW hba hbl
     have hk60:k<60:=by omega
     have hma:=fun W=>may_any s v W
     cases hgo:(v.toList== [103,111,110,101])with
     |true=>
      as_aux_lemma=>
      have hgo2:=hgo
      obtain⟨m,hm⟩:∃m,m=En.may s v:=⟨_,rfl⟩
      rw[<-hm]at hma
      have HMAY:=Lib.hid hma
      have HD:=Lib.hid (gngF_del HIA.out hk60 (by omega) (by omega) s)
      clear hma hm
      go_wp2_with fail
      refine(HMAY.out _).mono ?_
      rintro e wA ⟨rfl,hwA⟩
      subst hwA
      go_wp2_with fail
      refine HD.out.mono ?_
      rintro e w6 ⟨b,rfl,h6,kp6⟩
      have HI6:=Lib.hid h6
      have HROW6:=Lib.hid (kp6 _ _ _ _ _ _ HROWA.out (.inr (.inl rfl)))
      clear h6 kp6 HD
      go_wp2
      go_roundg (li.length-(k+1))
      case measure=>omega
      case rel=>exact⟨k+1,_,by go_num,by omega,Nat.le_refl _,HI6,HROW6⟩
     |false=>
      have hgo2:=hgo
      cases hm:En.may s v with
      |false=>
       as_aux_lemma=>
       rw[hm]at hma
       have HMAY:=Lib.hid hma
       have HE:=Lib.hid HIA.out.skip
       clear hma hm HIA
       go_wp2_with fail
       refine(HMAY.out _).mono ?_
       rintro e wA ⟨rfl,hwA⟩
       subst hwA
       go_wp2
       go_roundg (li.length-(k+1))
       case measure=>omega
       case rel=>exact⟨k+1,es,by go_num,by omega,Nat.le_refl _,HE,HROWA⟩
      |true=>
       as_aux_lemma=>
       rw[hm]at hma
       have HMAY:=Lib.hid hma
       have HP:=Lib.hid (gngF_put HIA.out hk60 (by omega) (by omega) hm)
       clear hma hm
       go_wp2_with fail
       refine(HMAY.out _).mono ?_
       rintro e wA ⟨rfl,hwA⟩
       subst hwA
       clear HMAY
       go_wp2_with fail
       refine HP.out.mono ?_
       rintro e w6 ⟨rfl,h6,kp6⟩
       have HI6:=Lib.hid h6
       have HROW6:=Lib.hid (kp6 _ _ _ _ _ _ HROWA.out (.inr (.inl rfl)))
       clear h6 kp6 HP
       go_wp2
       go_roundg (li.length-(k+1))
       case measure=>omega
       case rel=>exact⟨k+1,_,by go_num,by omega,Nat.le_refl _,HI6,HROW6⟩
    ·obtain rfl:k=li.length:=by omega
     have hki:¬ (li.length:Int)<(li.length:Nat):=by omega
     have HFL:=Lib.hid (gngF_flush HI.out (by omega) (by omega) (by omega))
     clear hbl HI
     go_wp2_with fail
     refine HFL.out.mono ?_
     rintro e w6 ⟨rfl,disk',root',P',fl',tok',ids',hdon,htk,hpp',hver',hold,hkeep,hrt⟩
     have HRT:=Lib.hid hrt
     have HDON:=Lib.hid hdon
     have HROW6:=Lib.hid (hkeep _ _ _ _ _ _ HROW.out (.inr (.inl rfl)))
     have HVS:Hid (VersOf disk' (rs++ [root'])):=Lib.hid (HRST.out.snoc hold hver' (by omega))
     have HVER:=Lib.hid hver'
     clear hdon hrt hver' hold hkeep HFL HRST HROW
     go_wp2_with fail
     refine HRT.out.mono ?_
     rintro e w7 ⟨rfl,hw7⟩
     obtain rfl:=hw7
     clear HRT
     have hP2:P'<=pr (i+1):=by have:=hps.1;omega
     have hbw:w0.heap.size<=w7.heap.size:=HDON.out.below.size
     have hraw:w7.ownsRow w0.heap.size 3 1 (.slice Ar rs.length cr) rs.length (intE.cells rs):=HROW6.out
     have hrl8:rs.length<=8:=by have:=HLR.out;omega
     go_wp2_with (at_builtin;refine wpList_app1 rfl _ _ 29 rfl eiInt Tryz.underlying29 rfl (by decide) rfl hraw rfl (by simp) rfl (by simp[Value.oneCell']) (by unfold maxLen;omega) (by omega) hbw ?_;intro v' w9 hown' hgrow hbel hob9 _)
     obtain⟨A9,c9,rfl⟩:=own_form hown'
     have HD9:=Lib.hid (HDON.out.row HROW6.out (Nat.le_refl _) h00 hgrow)
     have HROW9:Hid (LO intE 3 w9 w0.heap.size (.slice A9 (rs.length+1) c9) (rs++ [root'])):=Lib.hid (LO.snoc rfl rfl rfl hown')
     clear hown' hgrow hbel hob9 HDON HROW6 hraw
     have HKF:=Lib.hid (donF_free HD9.out)
     go_wp2_with fail
     refine Calls.mono HKF.out ?_
     intro e w10 he
     obtain⟨A7,c7,rfl,_,rs7,b7⟩:=he.open_
     have HD10:=Lib.hid (HD9.out.below_ b7)
     have HROW10:=Lib.hid (HROW9.out.below b7)
     have HR7:=Lib.hid rs7
     have HKP:=Lib.hid (donF_pages HD10.out)
     clear he rs7 b7 HKF HD9 HROW9
     go_wp2_with fail
     refine Calls.mono HKP.out ?_
     rintro e w11 ⟨rfl,hw11⟩
     obtain rfl:=hw11
     have HKN:=Lib.hid (donF_new HD10.out (by omega) A7 c7 HR7.out)
     clear HKP HD10 HR7
     go_wp2_with fail
     refine Calls.mono HKN.out ?_
     rintro e w12 ⟨t3,rfl,hb,b8⟩
     have hrl9:(rs++ [root']).length=rs.length+1:=by simp
     have HS9:Hid (OutF w0 f d (i+1) t3 root' (rs++ [root']) A9 c9 w12):=Lib.hid ⟨⟨disk',fl',P',N+600,_,tok',ids',hb.less (by omega),by omega,HVER.out,by omega,HVS.out,hP2⟩,by rw[List.length_append,HLR.out];rfl,by rw[hrl9];exact HROW10.out.below b8⟩
     clear hb b8 HKN HROW10 HVER HVS HLR
     go_wp2
     go_roundg (rl.length-(i+1))
     case measure=>omega
     case rel=>exact⟨i+1,t3,root',rs++ [root'],A9,c9,by rw[hrl9],rfl,rfl,by go_num,by omega,Nat.le_refl _,HS9⟩
  ·obtain rfl:i=rl.length:=by omega
   have hii:¬ (rl.length:Int)<(rl.length:Nat):=by omega
   obtain⟨⟨disk,frl,P,N,es0,tok0,ids0,hst,hN,_,_,hrs,hpp⟩,hlr,hrow⟩:=HS.out
   have hpq:P<=2738:=by
    have:rl.length=0\/rl.length=1\/rl.length=2\/rl.length=3\/rl.length=4\/rl.length=5\/rl.length=6\/rl.length=7\/rl.length=8:=by omega
    rcases this with e | e | e | e | e | e | e | e | e<;>rw[e]at hpp<;>exact Int.le_trans hpp (by decide)
   have HE:Hid (GeEnd w0 f d rl.length (.returned (.tuple #[.slice Ar rs.length cr, .pointer (some ⟨t,0,none⟩), .bool true])) wr):=Lib.hid ⟨Ar,cr,rs,t,disk,frl,P,N,rfl,hst.less (by omega),by omega,hrs,hlr,hpq,hrow⟩
   clear hst hrs hrow HS hlr hpp hpq
   go_wp2
   go_ret3
   exact HE.out
theorem union_norm(a b:List Int):Rp.union (Rp.norm (a.map runOf)) (Rp.norm (b.map runOf))=Rp.norm ((a++b).map runOf):=
 Rp.canon_unique _ _ _ _ (Rp.union_ok _ _).1 (Rp.norm_ok _).1 (fun n=>by
  rw[(Rp.union_ok _ _).2,(Rp.norm_ok _).2,(Rp.norm_ok _).2,(Rp.norm_ok _).2,mem_runs,mem_runs,mem_runs,List.mem_append]
  constructor
  ·rintro⟨h | h,h2⟩
   ·exact⟨.inl h.1,h2⟩
   ·exact⟨.inr h.1,h2⟩
  ·rintro⟨h | h,h2⟩
   ·exact⟨.inl ⟨h,h2⟩,h2⟩
   ·exact⟨.inr ⟨h,h2⟩,h2⟩)
theorem size_intS(W:World):(sizeOf (Tryz.prog.elem 29)).run Tryz.prog W= .ok 1 W:=by kernel_rfl
theorem und_intS:Tryz.prog.underlying 29=some (.slice (Tryz.prog.elem 29)):=by kernel_rfl
theorem icut_from(A:Option Addr)(n c i:Nat)(hi:i<=n)(W:World):(Instr.slice 29 (.slice A n c) (some (.int .i64 (i:Int))) none none).run Tryz.prog W= .ok (.slice (if c=i then A else A.map (·.add (i*1))) (n-i) (c-i)) W:=by
 rw[run_slice_l W 29 A n c und_intS .i64 (i:Int) (by omega) (by omega),size_intS]
 simp only[Result.andThen_ok,sliced,Int.toNat_natCast]
theorem msums_main(A:Option Addr)(c:Nat)(rl:List Sl)(fl:List (List Ent))(at_:Int)(w:World)(hr:LS slE w w.heap.size A rl)(hlen:fl.length=rl.length)(hx:∀i (h1:i<rl.length) (h2:i<fl.length),fl[i].length=rl[i].2.1/\LS entE w w.heap.size rl[i].1 fl[i])(hT:HT w):
  Calls Tryz.prog 6 #[.slice A rl.length c, .int .i64 at_] w (TrueEnd21 w):=by
 have HW:=Lib.hid (works21_any w hT)
 have HOV:=Lib.hid (fun W (hb:Below w.heap.size w W)=>over21_any A c rl fl W ((hr.below hb).more hb.size) hlen (fun i h1 h2=>⟨(hx i h1 h2).1,((hx i h1 h2).2.below hb).more hb.size⟩))
 have HRS:=Lib.hid hr
 have HRL:=Lib.hid hx
 have HHT:=Lib.hid hT
 have HD:=Lib.hid (fun W=>dfresh_any 3000 W)
 rw[show diskN 3000=3000 by decide]at HD
 clear hr hx hT
 go_enter Tryz.func6,Tryz.ntmps6
 go_wp2_with fail
 refine Calls.mono HW.out ?_
 rintro e w1 ⟨rfl,b1⟩
 have HB:=Lib.hid b1
 clear b1 HW
 go_wp2_with fail
 refine(HOV.out _ HB.out).mono ?_
 rintro e w1' ⟨b,rfl,hw1,hbf⟩
 subst hw1
 cases b with
 |true=>
  go_wp2
  go_ret
  exact⟨rfl,HB.out⟩
 |false=>
  obtain⟨h8,h60⟩:=hbf rfl
  have H60:=Lib.hid h60
  clear hbf h60 HOV
  by_cases h0:rl.length=0
  ·have h0i:((rl.length:Nat):Int)=0:=by omega
   go_wp2
   go_ret
   exact⟨rfl,HB.out⟩
  have h0n:¬ ((rl.length:Nat):Int)=0:=by omega
  go_wp2_with fail
  refine(HD.out _).mono ?_
  rintro e w2 ⟨d,rfl,hd,b2⟩
  have HFF:=Lib.hid (ffresh_any hd b2.size)
  have HB2:=Lib.hid (HB.out.trans (b2.mono HB.out.size))
  have HZ2:=Lib.hid b2.size
  clear hd b2 HD
  go_wp2_with fail
  refine HFF.out.mono ?_
  rintro e w3 ⟨f,rfl,hf,b3⟩
  have hB3:=HB2.out.trans (b3.mono HB2.out.size)
  have HG:=Lib.hid (grown21_any A c rl fl w w3 f d (stg_start (by decide) (by decide) hf (HHT.out.below hB3 HHT.out.1) HB.out.size HHT.out.1 (Nat.le_trans HZ2.out b3.size) hB3 (by decide)) HRS.out hlen HRL.out h8 H60.out HHT.out.1)
  clear hf b3 hB3 HFF HZ2 HB2 HB HRS HRL H60 HHT h0 h0n
  go_wp2_with fail
  refine Calls.mono HG.out ?_
  rintro e w4 ⟨Ar,cr,rs,t,disk,frl,P,N,rfl,hbg,hN,hvs,hlr,hP,hrow⟩
  have hrl8:rs.length<=8:=by omega
  obtain⟨g,hg⟩:=hvs.g
  have HPG:=Lib.hid hg
  have HMK:=Lib.hid hbg.mk_
  have HROW:=Lib.hid hrow
  have hrc:rs.length<=cr:=hrow.sv.le
  clear hbg hvs hrow HG hlr hg
  obtain⟨k,hk,hkl⟩:∃k:Nat,min (max at_ 0) ((rs.length:Nat):Int)=(k:Nat)/\k<=rs.length:=⟨(min (max at_ 0) ((rs.length:Nat):Int)).toNat,by omega,by omega⟩
  have hk0:(0:Int)<=(k:Int):=by omega
  have hk1:(k:Int)<=(rs.length:Nat):=by omega
  have hk2:(k:Int)<=(cr:Nat):=by omega
  have HK:=Lib.hid hk
  have ht1:(rs.take k).length=k:=by simp;omega
  have ht2:(rs.drop k).length=rs.length-k:=by simp
  have h1:=HPG.out.all_ (l:=rs.take k) (fun x hx=>List.mem_of_mem_take hx)
  have h2:=HPG.out.all_ (l:=rs.drop k) (fun x hx=>List.mem_of_mem_drop hx)
  have h3:=HPG.out.all_ (l:=rs) (fun x hx=>hx)
  have hsum:rs.flatMap g=(rs.take k).flatMap g++(rs.drop k).flatMap g:=by rw[<-List.flatMap_append,List.take_append_drop]
  have HM1:=Lib.hid (mkf_all (r:=280000) (HMK.out.less (by have:=h1.2;omega)) h1.1 ⟨by have:=h1.2;omega,by omega⟩ Ar cr (HROW.out.ls.take_ k))
  have hl1:=h1.2
  have hl2:=h2.2
  have hl3:=h3.2
  have HA2:=Lib.hid h2.1
  have HA3:=Lib.hid h3.1
  rw[ht1]at HM1
  rw[hsum]at hl3 HA3
  generalize (rs.take k).flatMap g=a1 at*
  generalize (rs.drop k).flatMap g=a2 at*
  have HSUM:=Lib.hid hsum
  have HT2:=Lib.hid ht2
  rw[ht1]at hl1
  rw[ht2]at hl2
  clear h1 h2 h3 hsum ht1 ht2
  go_wp2_with fail
  refine Calls.mono HM1.out ?_
  rintro e w5 ⟨v1,rfl,hown1,hmk1,hfr1⟩
  obtain⟨A1,c1,rfl⟩:=hown1.form
  have HROW1:=Lib.hid (HMK.out.keepF hfr1 HROW.out (by decide))
  have HO1:=Lib.hid hown1
  have HMK1:=Lib.hid hmk1
  have hn1:=norm_len (a1.map runOf)
  rw[List.length_map]at hn1
  obtain⟨L1,hL1⟩:∃x,x=Rp.norm (a1.map runOf):=⟨_,rfl⟩
  rw[<-hL1]at HO1 hn1 ⊢
  have HL1:=Lib.hid hL1
  have hcut:=icut_from Ar rs.length cr k hkl w5
  have hls2:=HROW1.out.ls.cut hkl hrc
  rw[show k*intE.size=k*1 from rfl]at hls2
  generalize (if cr=k then Ar else Ar.map (·.add (k*1)))=Ak at hcut hls2
  generalize cr-k=ck at hcut
  have HM2:=Lib.hid (mkf_all (r:=260000) (HMK1.out.less (by omega)) HA2.out ⟨by omega,by rw[HT2.out];omega⟩ Ak ck hls2)
  rw[HT2.out]at HM2
  clear hown1 hmk1 hfr1 hL1 HM1 HMK HROW hls2
  go_wp2_with fail
  refine Calls.mono HM2.out ?_
  rintro e w6 ⟨v2,rfl,hown2,hmk2,hfr2⟩
  obtain⟨A2,c2,rfl⟩:=hown2.form
  have HROW2:=Lib.hid (HMK1.out.keepF hfr2 HROW1.out (by decide))
  have HO1:=Lib.hid (HMK1.out.ownF hfr2 HO1.out)
  have HO2:=Lib.hid hown2
  have HMK2:=Lib.hid hmk2
  have hn2:=norm_len (a2.map runOf)
  rw[List.length_map]at hn2
  obtain⟨L2,hL2⟩:∃x,x=Rp.norm (a2.map runOf):=⟨_,rfl⟩
  rw[<-hL2]at HO2 hn2 ⊢
  have HL2:=Lib.hid hL2
  have HM3:=Lib.hid (mkf_all (r:=240000) (HMK2.out.less (by omega)) HA3.out ⟨by omega,by omega⟩ Ar cr HROW2.out.ls)
  clear hown2 hmk2 hfr2 hL2 HM2 HMK1 HROW1 hcut
  go_wp2_with fail
  refine Calls.mono HM3.out ?_
  rintro e w7 ⟨v3,rfl,hown3,hmk3,hfr3⟩
  obtain⟨A3,c3,rfl⟩:=hown3.form
  have HROW3:=Lib.hid (HMK2.out.keepF hfr3 HROW2.out (by decide))
  have HO1:=Lib.hid (HMK2.out.ownF hfr3 HO1.out)
  have HO2:=Lib.hid (HMK2.out.ownF hfr3 HO2.out)
  have HO3:=Lib.hid hown3
  have HMK3:=Lib.hid hmk3
  have hn3:=norm_len ((a1++a2).map runOf)
  rw[List.length_map]at hn3
  obtain⟨L3,hL3⟩:∃x,x=Rp.norm ((a1++a2).map runOf):=⟨_,rfl⟩
  rw[<-hL3]at HO3 hn3 ⊢
  have HL3:=Lib.hid hL3
  clear hown3 hmk3 hfr3 hL3 HM3 HMK2 HROW2
  go_wp2
  go_loopg [18,19] rs.length (fun gg s18 s19 wr=>∃ (i:Nat) (A:Option Addr) (c:Nat) (L:List Run),s18= .slice A L.length c/\s19= .int .i64 (i:Nat)/\i<=rs.length/\rs.length-i<=gg/\L.length<=4800/\Hid (L=Rp.norm (((rs.take i).flatMap g).map runOf))/\Hid (Own wr w.heap.size (.slice A L.length c) L)/\Hid (MkF w f d 3000 N 1000 (100000+(8-i)*10000) t disk frl P (fun _=>False) wr)/\Hid (LO intE 3 wr w.heap.size (.slice Ar rs.length cr) rs)/\Hid (Own wr w4.heap.size (.slice A1 L1.length c1) L1)/\Hid (Own wr w5.heap.size (.slice A2 L2.length c2) L2)/\Hid (Own wr w6.heap.size (.slice A3 L3.length c3) L3))
  case atStart=>exact⟨0,none,0, [],rfl,rfl,Nat.zero_le _,by omega,by decide,Lib.hid (by rw[List.take_zero];rfl),Lib.hid (Own.nil_ _ _),Lib.hid (HMK3.out.less (by omega)),HROW3,HO1,HO2,HO3⟩
  case round=>
   clear HMK3 HROW3 HO1 HO2 HO3
   obtain⟨i,A,c,L,rfl,rfl,hil,hig,hLl,HLL,HLR,HMK,HROW,HO1,HO2,HO3⟩:=hrel
   have hwi:IntKind.i64.wrap ((i:Int)+1)=(i:Int)+1:=IntWalk.i64_in _ (by omega)
   by_cases hi:i<rs.length
   ·have hii:(i:Int)<(rs.length:Nat):=by omega
    obtain⟨bb,oo,rfl,hbb,g0⟩:=HROW.out.ls.int hi
    have hmem:=List.getElem_mem hi
    have h1:=HPG.out.all_ (l:= [rs[i]]) (fun x hx=>by rw[List.mem_singleton.1 hx];exact hmem)
    have hfm:(rs.take (i+1)).flatMap g=(rs.take i).flatMap g++ [rs[i]].flatMap g:=by rw[List.take_succ_eq_append_getElem hi,List.flatMap_append]
    generalize rs[i]=root at*
    generalize [root].flatMap g=a4 at*
    have hl4:=h1.2
    simp only[List.length_cons,List.length_nil]at hl4
    have HFM:=Lib.hid hfm
    have hbA:Below wr.heap.size wr (wr.alloc (.cells #[.int .i64 root] 3)):=(Below.refl _ wr).alloc (Nat.le_refl _) _
    have hls:LS intE (wr.alloc (.cells #[.int .i64 root] 3)) (wr.alloc (.cells #[.int .i64 root] 3)).heap.size (some ⟨wr.heap.size,0,none⟩) [root]:=(LO.one (E:=intE) (base:=0) rfl rfl (Blk.new wr 3 #[.int .i64 root]) (Nat.zero_le _)).ls
    have HMA:=Lib.hid (HMK.out.below_ hbA)
    have HM4:=Lib.hid (mkf_all (r:=100000+(8-(i+1))*10000) (HMA.out.less (by omega)) h1.1 ⟨by omega,by simp⟩ _ 1 hls)
    have HROWA:=Lib.hid (HROW.out.below hbA)
    have HLA:=Lib.hid (Own.below HLR.out hbA)
    have HOA1:=Lib.hid (Own.below HO1.out hbA)
    have HOA2:=Lib.hid (Own.below HO2.out hbA)
    have HOA3:=Lib.hid (Own.below HO3.out hbA)
    clear h1 hfm hls hbA HROW HLR HO1 HO2 HO3 HMK hmem
    go_wp2_with fail
    refine Calls.mono HM4.out ?_
    rintro e w8 ⟨v4,rfl,hown4,hmk4,hfr4⟩
    obtain⟨A4,c4,rfl⟩:=hown4.form
    have HROW4:=Lib.hid (HMA.out.keepF hfr4 HROWA.out (by decide))
    have hL:=HMA.out.ownF hfr4 HLA.out
    have HO1:=Lib.hid (HMA.out.ownF hfr4 HOA1.out)
    have HO2:=Lib.hid (HMA.out.ownF hfr4 HOA2.out)
    have HO3:=Lib.hid (HMA.out.ownF hfr4 HOA3.out)
    have hn4:=norm_len (a4.map runOf)
    rw[List.length_map]at hn4
    obtain⟨L4,hL4⟩:∃x,x=Rp.norm (a4.map runOf):=⟨_,rfl⟩
    rw[<-hL4]at hown4 hn4 ⊢
    have hun:Rp.union L L4=Rp.norm (((rs.take (i+1)).flatMap g).map runOf):=by rw[HLL.out,hL4,union_norm,HFM.out]
    have hlu:(Rp.union L L4).length<=4800:=by
     rw[hun]
     have h1:=norm_len (((rs.take (i+1)).flatMap g).map runOf)
     have h2:=(HPG.out.all_ (l:=rs.take (i+1)) (fun x hx=>List.mem_of_mem_take hx)).2
     rw[List.length_map]at h1
     have h3:(rs.take (i+1)).length<=8:=by simp;omega
     omega
    have HUN:=Lib.hid hun
    have HU:=Lib.hid (union_any A A4 c c4 L L4 w8 hL.rs hown4.rs (by omega) (by omega))
    have HMK4:=Lib.hid hmk4
    obtain⟨LU,hLU⟩:∃x,x=Rp.union L L4:=⟨_,rfl⟩
    rw[<-hLU]at HU HUN hlu
    clear hown4 hL hfr4 hL4 hun hLU hmk4 HM4 HMA HROWA HLA HOA1 HOA2 HOA3 HLL HFM
    go_wp2_with fail
    refine Calls.mono HU.out ?_
    intro e w9 he
    obtain⟨A9,c9,rfl,ho9,_,b9⟩:=he.open_
    have HMK9:=Lib.hid (HMK4.out.below_ b9)
    have HRW9:=Lib.hid (HROW4.out.below b9)
    have HO19:=Lib.hid (Own.below HO1.out b9)
    have HO29:=Lib.hid (Own.below HO2.out b9)
    have HO39:=Lib.hid (Own.below HO3.out b9)
    have HL9:=Lib.hid (ho9.lower HMK4.out.below.size)
    clear he ho9 b9 HU HMK4 HROW4 HO1 HO2 HO3
    go_wp2
    go_roundg (rs.length-(i+1))
    case measure=>omega
    case rel=>exact⟨i+1,A9,c9,LU,rfl,by go_num,by omega,Nat.le_refl _,hlu,HUN,HL9,HMK9,HRW9,HO19,HO29,HO39⟩
   ·obtain rfl:i=rs.length:=by omega
    have hii:¬ (rs.length:Int)<(rs.length:Nat):=by omega
    have hLE:L=L3:=by rw[HLL.out,HL3.out,List.take_of_length_le (Nat.le_refl _),HSUM.out]
    subst hLE
    have hun:Rp.union L1 L2=L:=by rw[HL1.out,HL2.out,union_norm,HL3.out]
    have HU:=Lib.hid (union_any A1 A2 c1 c2 L1 L2 wr HO1.out.rs HO2.out.rs (by omega) (by omega))
    rw[hun]at HU
    have HB:=Lib.hid HMK.out.below
    clear hun HLL HL1 HL2 HL3 HSUM HPG HMK HROW HO1 HO2
    go_wp2_with fail
    refine Calls.mono HU.out ?_
    intro e w9 he
    obtain⟨A9,c9,rfl,ho9,_,b9⟩:=he.open_
    have HO39:=Lib.hid (Own.below HO3.out b9)
    have HL9:=Lib.hid (Own.below HLR.out b9)
    have HB9:=Lib.hid (HB.out.trans (b9.mono HB.out.size))
    have HSM:=Lib.hid (same_yes A3 A9 L c3 c9 w9 HO39.out.rs ho9.rs (by omega))
    clear he ho9 b9 HU HB HO3 HLR
    go_wp2_with fail
    refine Calls.mono HSM.out ?_
    rintro e w10 ⟨rfl,b10⟩
    have HB10:=Lib.hid (HB9.out.trans (b10.mono HB9.out.size))
    have HSM2:=Lib.hid (same_yes A3 A L c3 c w10 (Own.below HO39.out b10).rs (Own.below HL9.out b10).rs (by omega))
    clear b10 HSM HB9 HO39 HL9
    go_wp2_with fail
    refine Calls.mono HSM2.out ?_
    rintro e w11 ⟨rfl,b11⟩
    have HB11:=Lib.hid (HB10.out.trans (b11.mono HB10.out.size))
    clear b11
    go_wp2
    go_ret
    exact⟨rfl,HB11.out⟩
end Go.Proofs.YtjoiajmbfbjnnaaGreatDoor
